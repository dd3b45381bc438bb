import Derived.Test.YtfefcopajgdjiaaK20
import Derived.Lib.ConvBytes
namespace Go.Abs
open Go
set_option linter.unusedVariables false
set_option linter.unusedSimpArgs false

/-! ## More operations -/

section
variable {P : Program}

theorem bytes_still (w : World) (e : TypeId) (s : ByteArray) : Still w (Go.Lib.bytesWorld w e s) := by
 have hos : (Go.Lib.bytesWorld w e s).os = w.os ∧ (Go.Lib.bytesWorld w e s).tape = w.tape ∧ (Go.Lib.bytesWorld w e s).output = w.output := by
  unfold Go.Lib.bytesWorld World.freeze
  simp only [Nat.one_ne_zero, if_false]
  exact ⟨rfl, rfl, rfl⟩
 exact ⟨hos.1, hos.2.1, hos.2.2, fun b c e' fr hb => ⟨c, by
  have hlt : b < w.heap.size := (Array.getElem?_eq_some_iff.1 hb).1
  rw [Go.Lib.bytesWorld_at_old w e s b hlt]; exact hb, rfl⟩⟩

theorem toBytes_ok {E G env tm fly H w} {src dst e : TypeId} {s : List UInt8} (hs : (P.underlying src).isSome = true) (hd : P.underlying dst = some (.slice e)) (he : P.underlying e = some (.int .u8))
  (hl : s.length ≤ maxBytes) (h : St E G ⟨env, tm, fly, H⟩ w) : Does P E env tm (convert src dst (.string ⟨⟨s⟩⟩)) w (.list 1 (encBytes s) .own) H := by
 obtain ⟨u, hs⟩ := Option.isSome_iff_exists.1 hs
 have hrun := Go.Lib.run_convert_string_bytes (P := P) w src dst e ⟨⟨s⟩⟩ hs hd he
 have hge : s.length ≤ grownCap w s.length 0 e := grownCap_ge w _ _ e
 have hhw : (Go.Lib.bytesWorld w e ⟨⟨s⟩⟩).heap = w.heap.push (.cells (Go.Lib.bytesCells w e ⟨⟨s⟩⟩) e ((Go.Lib.bytesCells w e ⟨⟨s⟩⟩).size, (Go.Lib.bytesCells w e ⟨⟨s⟩⟩).size + 1)) := by
  apply Array.ext_getElem?
  intro i
  rcases Nat.lt_trichotomy i w.heap.size with hi | hi | hi
  ·rw [Go.Lib.bytesWorld_at_old w e _ i hi, Array.getElem?_push, if_neg (Nat.ne_of_lt hi)]
  ·subst hi; rw [Go.Lib.bytesWorld_at_new, Array.getElem?_push, if_pos rfl]
  ·rw [Array.getElem?_eq_none (by rw [Go.Lib.bytesWorld_size]; omega), Array.getElem?_eq_none (by rw [Array.size_push]; omega)]
 have hsz : (Go.Lib.bytesCells w e ⟨⟨s⟩⟩).size = grownCap w s.length 0 e := by
  simp only [Go.Lib.bytesCells, size_mk, Array.size_append, Array.size_map, Array.size_replicate]
  show s.length + _ = _
  omega
 have hget : ∀ k, k < s.length → (Go.Lib.bytesCells w e ⟨⟨s⟩⟩)[k]? = some (Value.int .u8 ((s.getD k 0).toNat : Int)) := by
  intro k hk
  simp only [Go.Lib.bytesCells]
  rw [Array.getElem?_append_left (by simpa using hk)]
  simp [hk, List.getD]
 obtain ⟨G', hG⟩ := h.newData _ e _ hhw (bytes_still w e _) 1 (encBytes s) .own s.length (grownCap w s.length 0 e) (fun k => Value.int .u8 ((s.getD k 0).toNat : Int)) (by simp [encBytes]) hge (by simp)
  (fun X hX => by simp only [encBytes, List.mem_map] at hX; obtain ⟨b, _, rfl⟩ := hX; rfl)
  (fun i X j Y hX hY => by
   simp only [encBytes, List.getElem?_map, Option.map_eq_some_iff] at hX
   obtain ⟨b, hb, rfl⟩ := hX
   cases j with
   | zero =>
    simp [AVal.cells] at hY; subst hY
    have : s.getD (i * 1 + 0) 0 = b := by simp [List.getD, hb]
    simp only [this]; exact .int _ _
   | succ j => simp [AVal.cells] at hY)
  (fun k hk => hget k (by omega)) (fun k hk => rfl) (by rw [hsz]; omega) (fun x hx => by
   have : ¬ (Go.Lib.bytesCells w e ⟨⟨s⟩⟩).size ≤ x := by rw [hsz]; omega
   simp [this])
 exact ⟨_, _, G', hrun, hG⟩

theorem mkiface_ok {E G env tm H w} {t : TypeId} {d : TypeDesc} (hd : P.underlying t = some d) (hn : ∀ ms, d ≠ .interface ms) {x : AVal} {xv : Value} (ha : x.argOK = true) (h : St E G ⟨env, tm, [(x, xv)], H⟩ w) :
  Does P E env tm (Instr.makeInterface t xv) w (.iface t x.strip) H := by
 refine Does.pure h (v := .iface t xv) ?_ (.iface t _ _ ((h.fly 0 x xv rfl).arg ha).strip) rfl
 cases d <;> first | exact absurd rfl (hn _) | simp [Instr.makeInterface, run_underlying hd]

theorem run_callFunc {f : FuncId} (h : Enterable P f) (args : Array Value) (w : World) : (callFunc f args).run P w = .ok (.enter f args) w := by
 obtain ⟨fn, hf, hn, hb⟩ := h
 have hn' : ¬ fn.name = "runtime.NumGoroutine" := by intro e; simp [e] at hn
 have hb' : ¬ fn.body = none := by intro e; simp [e] at hb
 simp [callFunc, hf]
 rw [if_neg hn', if_neg hb']

/-! ### Calls -/

theorem AVal.strip1_strip1 (x : AVal) : x.strip1.strip1 = x.strip1 := by cases x <;> rfl
theorem AVal.strip_strip (x : AVal) : x.strip.strip = x.strip := by
 cases x <;> first | rfl | skip
 simp only [AVal.strip, List.map_map, AVal.agg.injEq]
 exact List.map_congr_left fun a _ => AVal.strip1_strip1 a
theorem map_strip_strip (xs : List AVal) : (xs.map AVal.strip).map AVal.strip = xs.map AVal.strip := by
 simp [AVal.strip_strip]

theorem St.drop {E G env tm fly H w} (h : St E G ⟨env, tm, fly, H⟩ w) : St E G ⟨env, tm, [], H⟩ w := by
 refine h.shuffle rfl h.slot (fun k V v hk => by simp at hk) id (fun p a ha => ?_) (fun _ _ _ _ _ _ e => e)
 cases p with
 | fly k i => simp [ownP] at ha
 | _ => exact ha

theorem St.adds {E G env tm H w} : ∀ (Vs : List AVal) (vs : List Value) (fly : List (AVal × Value)), St E G ⟨env, tm, fly, H⟩ w →
  Vs.length = vs.length → (∀ (i : Nat) V v, Vs[i]? = some V → vs[i]? = some v → Rv G w V v ∧ V.plain = true) → St E G ⟨env, tm, fly ++ Vs.zip vs, H⟩ w
 | [], [], fly, h, _, _ => by simpa using h
 | V :: Vs, v :: vs, fly, h, hl, hv => by
  obtain ⟨h1, h2⟩ := hv 0 V v rfl rfl
  have := St.adds Vs vs _ (h.add h1 h2) (by simpa using hl) (fun i V v hV hv' => hv (i + 1) V v (by simpa using hV) (by simpa using hv'))
  simpa using this
 | [], _ :: _, _, _, hl, _ => by simp at hl
 | _ :: _, [], _, _, hl, _ => by simp at hl

theorem Vals.strips {G w} : ∀ {Vs : List AVal} {vs : List Value}, Vals G w Vs vs → Vs.all AVal.argOK = true → ∀ (i : Nat) V v, (Vs.map AVal.strip)[i]? = some V → vs[i]? = some v → Rv G w V v ∧ V.plain = true
 | [], [], .nil, _, i, V, v, hV, _ => by simp at hV
 | _ :: _, _ :: _, .cons hx ht, ha, i, V, v, hV, hv => by
  simp only [List.all_cons, Bool.and_eq_true] at ha
  cases i with
  | zero => simp at hV hv; subst hV; subst hv; exact ⟨(hx.arg ha.1).strip, (hx.arg ha.1).plain_strip⟩
  | succ i => exact Vals.strips ht ha.2 i V v (by simpa using hV) (by simpa using hv)

theorem Vals.length {G w} : ∀ {Vs : List AVal} {vs : List Value}, Vals G w Vs vs → Vs.length = vs.length
 | _, _, .nil => rfl
 | _, _, .cons _ t => by simp [t.length]

/-- What comes of one operation. -/
def Yield (P : Program) (E : Ent) (env : Nat → AVal) (tm : Nat → Value) (s : Sem Next) (w : World) (V : AVal) (H' : Heap) : Prop :=
 (∃ v w' G', s.run P w = .ok (.value v) w' ∧ St E G' ⟨env, tm, [(V, v)], H'⟩ w') ∨
 (∃ w' G', s.run P w = .ok .skip w' ∧ St E G' ⟨env, tm, [(V, undef)], H'⟩ w') ∨
 (∃ f args, s.run P w = .ok (.enter f args) w ∧ Calls P f args w fun e w' => ∃ v G', e = .returned v ∧ St E G' ⟨env, tm, [(V, v)], H'⟩ w')

theorem Does.yield {E env tm w V H'} {s : Sem Value} {t : Sem Next} (h : Does P E env tm s w V H') (ht : t = (do Pure.pure (Next.value (← s)))) : Yield P E env tm t w V H' := by
 obtain ⟨v, w', G', hr, hs⟩ := h
 subst ht
 exact .inl ⟨v, w', G', by simp [hr], hs⟩

/-- A call. -/
theorem call_own {E G env tm H w} {f : FuncId} {sem : List AVal → Heap → Option (AVal × Heap)} (hf : FnOK P f sem) {args : List AVal} {argv : List Value} (hl : args.length = argv.length)
  (h : St E G ⟨env, tm, args.zip argv, H⟩ w) {V H'} (hs : sem args H = some (V, H')) :
  (callFunc f argv.toArray).run P w = .ok (.enter f argv.toArray) w ∧ Calls P f argv.toArray w fun e w' => ∃ v G', e = .returned v ∧ St E G' ⟨env, tm, [(V, v)], H'⟩ w' := by
 obtain ⟨hent, hc⟩ := hf G H args argv w V H' hl h.enter hs
 refine ⟨run_callFunc hent _ _, hc.mono fun e w' he => ?_⟩
 obtain ⟨v, G', rfl, hst⟩ := he
 exact ⟨v, G', rfl, h.leave hst⟩

/-- A call, of arguments that are plain. -/
theorem call_ok {E G env tm H w} {f : FuncId} {sem : List AVal → Heap → Option (AVal × Heap)} (hf : FnOK P f sem) {args : List AVal} {argv : List Value} (hl : args.length = argv.length)
  (hv : ∀ (i : Nat) V v, (args.map AVal.strip)[i]? = some V → argv[i]? = some v → Rv G w V v ∧ V.plain = true) {fly} (h : St E G ⟨env, tm, fly, H⟩ w) {V H'} (hs : sem (args.map AVal.strip) H = some (V, H')) :
  (callFunc f argv.toArray).run P w = .ok (.enter f argv.toArray) w ∧ Calls P f argv.toArray w fun e w' => ∃ v G', e = .returned v ∧ St E G' ⟨env, tm, [(V, v)], H'⟩ w' := by
 have h1 := St.adds (args.map AVal.strip) argv [] h.drop (by simpa using hl) hv
 rw [List.nil_append] at h1
 exact call_own hf (by simpa using hl) h1 hs

end

end Go.Abs
