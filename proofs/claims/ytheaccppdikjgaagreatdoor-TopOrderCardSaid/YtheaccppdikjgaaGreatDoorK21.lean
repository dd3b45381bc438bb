import Derived.Test.YtheaccppdikjgaaGreatDoorK20
import Derived.Lib.ConvBytes
namespace Go.Abs
open Go
set_option linter.unusedVariables false
set_option linter.unusedSimpArgs false
section
variable {P : Program}
theorem bytes_still (w : World) (e : TypeId) (s : ByteArray) : Still w (Go.Lib.bytesWorld w e s) := by
 have hos : (Go.Lib.bytesWorld w e s).os = w.os ∧ (Go.Lib.bytesWorld w e s).tape = w.tape ∧ (Go.Lib.bytesWorld w e s).output = w.output := by
  unfold Go.Lib.bytesWorld World.freeze
  simp only [Nat.one_ne_zero, if_false]
  exact ⟨rfl, rfl, rfl⟩
 exact ⟨hos.1, hos.2.1, hos.2.2, fun b c e' fr hb => ⟨c, fr, by
  have hlt : b < w.heap.size := (Array.getElem?_eq_some_iff.1 hb).1
  rw [Go.Lib.bytesWorld_at_old w e s b hlt]; exact hb, rfl, id⟩⟩
theorem toBytes_ok {E G env tm fly H w} {src dst e : TypeId} {s : List UInt8} (hs : (P.underlying src).isSome = true) (hd : P.underlying dst = some (.slice e)) (he : P.underlying e = some (.int .u8))
  (hl : s.length ≤ maxBytes) (h : St E G ⟨env, tm, fly, H⟩ w) : Does P E env tm (convert src dst (.string ⟨⟨s⟩⟩)) w (.list 1 (encBytes s) .own) H := by
 obtain ⟨u, hs⟩ := Option.isSome_iff_exists.1 hs
 have hrun := Go.Lib.run_convert_string_bytes (P := P) w src dst e ⟨⟨s⟩⟩ hs hd he
 have hge : s.length ≤ grownCap w s.length 0 e := grownCap_ge w _ _ e
 have hhw : (Go.Lib.bytesWorld w e ⟨⟨s⟩⟩).heap = w.heap.push (.cells (Go.Lib.bytesCells w e ⟨⟨s⟩⟩) e ((Go.Lib.bytesCells w e ⟨⟨s⟩⟩).size, (Go.Lib.bytesCells w e ⟨⟨s⟩⟩).size + 1)) := by
  apply Array.ext_getElem?
  intro i
  rcases Nat.lt_trichotomy i w.heap.size with hi | hi | hi
  ·rw [Go.Lib.bytesWorld_at_old w e _ i hi, Array.getElem?_push, if_neg (Nat.ne_of_lt hi)]
  ·subst hi; rw [Go.Lib.bytesWorld_at_new, Array.getElem?_push, if_pos rfl]
  ·rw [Array.getElem?_eq_none (by rw [Go.Lib.bytesWorld_size]; omega), Array.getElem?_eq_none (by rw [Array.size_push]; omega)]
 have hsz : (Go.Lib.bytesCells w e ⟨⟨s⟩⟩).size = grownCap w s.length 0 e := by
  simp only [Go.Lib.bytesCells, size_mk, Array.size_append, Array.size_map, Array.size_replicate]
  show s.length + _ = _
  omega
 have hget : ∀ k, k < s.length → (Go.Lib.bytesCells w e ⟨⟨s⟩⟩)[k]? = some (Value.int .u8 ((s.getD k 0).toNat : Int)) := by
  intro k hk
  simp only [Go.Lib.bytesCells]
  rw [Array.getElem?_append_left (by simpa using hk)]
  simp [hk, List.getD]
 obtain ⟨G', hG⟩ := h.newData _ e _ hhw (bytes_still w e _) 1 (encBytes s) .own s.length (grownCap w s.length 0 e) (fun k => Value.int .u8 ((s.getD k 0).toNat : Int)) (by simp [encBytes]) hge (by simp)
  (fun X hX => by simp only [encBytes, List.mem_map] at hX; obtain ⟨b, _, rfl⟩ := hX; rfl)
  (fun i X j Y hX hY => by
   simp only [encBytes, List.getElem?_map, Option.map_eq_some_iff] at hX
   obtain ⟨b, hb, rfl⟩ := hX
   cases j with
   | zero =>
    simp [AVal.cells] at hY; subst hY
    have : s.getD (i * 1 + 0) 0 = b := by simp [List.getD, hb]
    simp only [this]; exact .int _ _
   | succ j => simp [AVal.cells] at hY)
  (fun k hk => hget k (by omega)) (fun k hk => rfl) (by rw [hsz]; omega) (.inr (Nat.le_refl _))
 exact ⟨_, _, G', hrun, hG⟩
theorem mark_ok {E G env tm H w} {t e : TypeId} (ht : P.underlying t = some (.slice e)) (he : P.underlying e = some (.int .u8)) {xs : List AVal} (hne : xs ≠ []) {xv : Value}
  (h : St E G ⟨env, tm, [(.list 1 xs .uniq, xv)], H⟩ w) : Does P E env tm (convert t t xv) w (.list 1 xs .ro) H := by
 have hx : RU G w 1 xs xv := h.fly 0 _ _ rfl
 rcases hx with ⟨hn, _⟩ | ⟨b, o, len, cap, f, rfl, g1, g2, g3, g4, g5, g6⟩
 ·exact absurd hn hne
 have hpos : 0 < len := by rw [← g1]; exact List.length_pos_iff.2 hne
 have hown : ownP G ⟨env, tm, [(.list 1 xs .uniq, .slice (some (at_ b o)) len cap)], H⟩ w (.fly 0 0) = some (b, o, o + cap * 1) := by
  simp [ownP, ownC, own0, show 0 < cap by omega]
 have hok := h.ok _ _ hown
 obtain ⟨c, te, fr, hbc, hcs⟩ : ∃ c te fr, w.heap[b]? = some (.cells c te fr) ∧ o + cap * 1 ≤ c.size := by
  rcases hok.cells with h0 | h0
  ·simp only at h0; omega
  ·exact h0
 have hfok : FrOK fr c.size := hok.frozen (by show o + cap * 1 ≠ 0; omega) c te fr hbc
 have hsh : w.shape? b = some (te, c.size) := by
  unfold World.shape?; rw [hbc]
 obtain ⟨lo, hi⟩ := fr
 have hrun : (convert t t (.slice (some (at_ b o)) len cap)).run P w = .ok (.slice (some (at_ b o)) len cap) (w.freeze ⟨b, c.size, none⟩ 1) := by
  simp [convert, run_underlying ht, run_underlying he, markStringish, hsh]
 have hblt : b < w.heap.size := hok.lt
 have hw : (w.freeze ⟨b, c.size, none⟩ 1).heap = w.heap.modify b fun
   | .cells c1 elem (lo, hi) => .cells c1 elem (if lo == hi then (c.size, c.size + 1) else (min lo c.size, max hi (c.size + 1)))
   | o => o := by
  unfold World.freeze; rw [if_neg (by decide)]; rfl
 let fr' : Nat × Nat := if lo == hi then (c.size, c.size + 1) else (min lo c.size, max hi (c.size + 1))
 have hb1 : (w.freeze ⟨b, c.size, none⟩ 1).heap[b]? = some (.cells c te fr') := by
  rw [hw, Array.getElem?_modify, if_pos rfl, hbc]; rfl
 have hb2 : ∀ x, x ≠ b → (w.freeze ⟨b, c.size, none⟩ 1).heap[x]? = w.heap[x]? := fun x hx => by
  rw [hw, Array.getElem?_modify, if_neg (fun e => hx e.symm)]
 have hsize : (w.freeze ⟨b, c.size, none⟩ 1).heap.size = w.heap.size := by rw [hw, Array.size_modify]
 have hst : Still w (w.freeze ⟨b, c.size, none⟩ 1) := by
  refine ⟨by simp [World.freeze], by simp [World.freeze], by simp [World.freeze], fun i c1 e1 f1 h1 => ?_⟩
  by_cases hi : i = b
  ·subst hi
   rw [hbc] at h1
   simp only [Option.some.injEq, Obj.cells.injEq] at h1
   obtain ⟨rfl, rfl, rfl⟩ := h1
   refine ⟨c, fr', hb1, rfl, fun hf => ?_⟩
   rcases hf with hf | hf
   ·have hf' : lo = hi := hf
    subst hf'
    simp only [fr', beq_self_eq_true, if_true]
    exact .inr (Nat.le_refl _)
   ·have hf' : c.size ≤ lo := hf
    simp only [fr']
    split
    ·exact .inr (Nat.le_refl _)
    ·exact .inr (by show c.size ≤ min lo c.size; omega)
  ·exact ⟨c1, f1, by rw [hb2 i hi]; exact h1, rfl, id⟩
 let G' : Gh := { G with D := fun b' k => G.D b' k ∨ (b' = b ∧ o ≤ k ∧ k < o + len) }
 have hcell : ∀ b' k, (w.freeze ⟨b, c.size, none⟩ 1).cell? (at_ b' k) = w.cell? (at_ b' k) := fun b' k => by
  by_cases hb' : b' = b
  ·subst hb'; rw [cell_cells hb1, cell_cells hbc]
  ·exact cell_of_heap (hb2 _ hb')
 have ge : GE G w G' (w.freeze ⟨b, c.size, none⟩ 1) := ⟨Nat.le_refl _, fun _ _ h => .inl h, fun _ _ => rfl, fun _ _ => rfl, fun _ _ => rfl, fun b' k _ => hcell b' k, hst⟩
 refine ⟨_, _, G', hrun, ?_⟩
 have hg := h.grow (w' := w.freeze ⟨b, c.size, none⟩ 1) ge [] (by simpa [G'] using h.n) ?_ (by rw [hsize]; exact Nat.le_refl _) 0
  (fun b' hb' => by
   by_cases hbb : b' = b
   ·exact .inr ⟨_, hown, hbb.symm⟩
   ·exact .inl (hb2 _ hbb)) ?_ (.list 1 xs .ro) (.slice (some (at_ b o)) len cap)
  ?_ (by intro k B hB; simp at hB) (.slot 0 0) (fun _ => .fly 0 0) (fun _ => ⟨0, 0, rfl⟩) ?_ ?_ ?_
 ·simpa using hg
 ·rintro b' k (hd | ⟨rfl, _, _⟩)
  ·rw [hsize]; exact h.Db _ _ hd
  ·rw [hsize]; exact hblt
 ·rintro b' k (hd | ⟨rfl, _, _⟩)
  ·exact .inl hd
  ·exact .inr (.inr ⟨_, hown, rfl⟩)
 ·exact Rt.of (.list 1 xs .ro b o len cap f g1 g2 (by simp) g3 (fun i X j Y hX hY => (g4 i X j Y hX hY).stay ge) (fun k hk => by rw [hcell]; exact g5 k hk)
   (fun k hk => .inr ⟨rfl, by omega, by omega⟩) g6) rfl
 ·intro k a ha
  simp only [ownC] at ha
  split at ha <;> simp [own0] at ha
 ·rintro p a (⟨id, off, rfl, hid⟩ | ⟨id, rfl, hid⟩) hp
  ·simp only [ownP, List.append_nil] at hp; rw [List.getElem?_eq_none hid] at hp; cases hp
  ·simp only [ownP, List.append_nil] at hp; rw [List.getElem?_eq_none hid] at hp; cases hp
 ·rintro p q a' b' hp (⟨i, rfl⟩ | ⟨id, off, rfl, hid⟩ | ⟨id, rfl, hid⟩) hpa hqa _
  ·simp only [ownP, List.getElem?_cons_zero, ownC] at hqa
   split at hqa <;> simp [own0] at hqa
  ·simp only [ownP, List.append_nil] at hqa; rw [List.getElem?_eq_none hid] at hqa; cases hqa
  ·simp only [ownP, List.append_nil] at hqa; rw [List.getElem?_eq_none hid] at hqa; cases hqa
theorem mkiface_ok {E G env tm H w} {t : TypeId} {d : TypeDesc} (hd : P.underlying t = some d) (hn : ∀ ms, d ≠ .interface ms) {x : AVal} {xv : Value} (ha : x.argOK = true) (h : St E G ⟨env, tm, [(x, xv)], H⟩ w) :
  Does P E env tm (Instr.makeInterface t xv) w (.iface t x.strip) H := by
 refine Does.pure h (v := .iface t xv) ?_ (.iface t _ _ ((h.fly 0 x xv rfl).arg ha).strip) rfl
 cases d <;> first | exact absurd rfl (hn _) | simp [Instr.makeInterface, run_underlying hd]
theorem run_callFunc {f : FuncId} (h : Enterable P f) (args : Array Value) (w : World) : (callFunc f args).run P w = .ok (.enter f args) w := by
 obtain ⟨fn, hf, hn, hb⟩ := h
 have hn' : ¬ fn.name = "runtime.NumGoroutine" := by intro e; simp [e] at hn
 have hb' : ¬ fn.body = none := by intro e; simp [e] at hb
 simp [callFunc, hf]
 rw [if_neg hn', if_neg hb']
theorem AVal.strip1_strip1 (x : AVal) : x.strip1.strip1 = x.strip1 := by cases x <;> rfl
theorem AVal.strip_strip (x : AVal) : x.strip.strip = x.strip := by
 cases x <;> first | rfl | skip
 simp only [AVal.strip, List.map_map, AVal.agg.injEq]
 exact List.map_congr_left fun a _ => AVal.strip1_strip1 a
theorem map_strip_strip (xs : List AVal) : (xs.map AVal.strip).map AVal.strip = xs.map AVal.strip := by
 simp [AVal.strip_strip]
theorem St.drop {E G env tm fly H w} (h : St E G ⟨env, tm, fly, H⟩ w) : St E G ⟨env, tm, [], H⟩ w := by
 refine h.shuffle rfl h.slot (fun k V v hk => by simp at hk) id (fun p a ha => ?_) (fun _ _ _ _ _ _ e => e)
 cases p with
 | fly k i => simp [ownP] at ha
 | _ => exact ha
theorem St.adds {E G env tm H w} : ∀ (Vs : List AVal) (vs : List Value) (fly : List (AVal × Value)), St E G ⟨env, tm, fly, H⟩ w →
  Vs.length = vs.length → (∀ (i : Nat) V v, Vs[i]? = some V → vs[i]? = some v → Rv G w V v ∧ V.plain = true) → St E G ⟨env, tm, fly ++ Vs.zip vs, H⟩ w
 | [], [], fly, h, _, _ => by simpa using h
 | V :: Vs, v :: vs, fly, h, hl, hv => by
  obtain ⟨h1, h2⟩ := hv 0 V v rfl rfl
  have := St.adds Vs vs _ (h.add h1 h2) (by simpa using hl) (fun i V v hV hv' => hv (i + 1) V v (by simpa using hV) (by simpa using hv'))
  simpa using this
 | [], _ :: _, _, _, hl, _ => by simp at hl
 | _ :: _, [], _, _, hl, _ => by simp at hl
theorem Vals.strips {G w} : ∀ {Vs : List AVal} {vs : List Value}, Vals G w Vs vs → Vs.all AVal.argOK = true → ∀ (i : Nat) V v, (Vs.map AVal.strip)[i]? = some V → vs[i]? = some v → Rv G w V v ∧ V.plain = true
 | [], [], .nil, _, i, V, v, hV, _ => by simp at hV
 | _ :: _, _ :: _, .cons hx ht, ha, i, V, v, hV, hv => by
  simp only [List.all_cons, Bool.and_eq_true] at ha
  cases i with
  | zero => simp at hV hv; subst hV; subst hv; exact ⟨(hx.arg ha.1).strip, (hx.arg ha.1).plain_strip⟩
  | succ i => exact Vals.strips ht ha.2 i V v (by simpa using hV) (by simpa using hv)
theorem Vals.length {G w} : ∀ {Vs : List AVal} {vs : List Value}, Vals G w Vs vs → Vs.length = vs.length
 | _, _, .nil => rfl
 | _, _, .cons _ t => by simp [t.length]
def Yield (P : Program) (E : Ent) (env : Nat → AVal) (tm : Nat → Value) (s : Sem Next) (w : World) (V : AVal) (H' : Heap) : Prop :=
 (∃ v w' G', s.run P w = .ok (.value v) w' ∧ St E G' ⟨env, tm, [(V, v)], H'⟩ w') ∨
 (∃ w' G', s.run P w = .ok .skip w' ∧ St E G' ⟨env, tm, [(V, undef)], H'⟩ w') ∨
 (∃ f args, s.run P w = .ok (.enter f args) w ∧ Calls P f args w fun e w' => ∃ v G', e = .returned v ∧ St E G' ⟨env, tm, [(V, v)], H'⟩ w')
theorem Does.yield {E env tm w V H'} {s : Sem Value} {t : Sem Next} (h : Does P E env tm s w V H') (ht : t = (do Pure.pure (Next.value (← s)))) : Yield P E env tm t w V H' := by
 obtain ⟨v, w', G', hr, hs⟩ := h
 subst ht
 exact .inl ⟨v, w', G', by simp [hr], hs⟩
theorem call_own {E G env tm H w} {f : FuncId} {sem : List AVal → Heap → Option (AVal × Heap)} (hf : FnOK P f sem) {args : List AVal} {argv : List Value} (hl : args.length = argv.length)
  (h : St E G ⟨env, tm, args.zip argv, H⟩ w) {V H'} (hs : sem args H = some (V, H')) :
  (callFunc f argv.toArray).run P w = .ok (.enter f argv.toArray) w ∧ Calls P f argv.toArray w fun e w' => ∃ v G', e = .returned v ∧ St E G' ⟨env, tm, [(V, v)], H'⟩ w' := by
 obtain ⟨hent, hc⟩ := hf G H args argv w V H' hl h.enter hs
 refine ⟨run_callFunc hent _ _, hc.mono fun e w' he => ?_⟩
 obtain ⟨v, G', rfl, hst⟩ := he
 exact ⟨v, G', rfl, h.leave hst⟩
theorem call_ok {E G env tm H w} {f : FuncId} {sem : List AVal → Heap → Option (AVal × Heap)} (hf : FnOK P f sem) {args : List AVal} {argv : List Value} (hl : args.length = argv.length)
  (hv : ∀ (i : Nat) V v, (args.map AVal.strip)[i]? = some V → argv[i]? = some v → Rv G w V v ∧ V.plain = true) {fly} (h : St E G ⟨env, tm, fly, H⟩ w) {V H'} (hs : sem (args.map AVal.strip) H = some (V, H')) :
  (callFunc f argv.toArray).run P w = .ok (.enter f argv.toArray) w ∧ Calls P f argv.toArray w fun e w' => ∃ v G', e = .returned v ∧ St E G' ⟨env, tm, [(V, v)], H'⟩ w' := by
 have h1 := St.adds (args.map AVal.strip) argv [] h.drop (by simpa using hl) hv
 rw [List.nil_append] at h1
 exact call_own hf (by simpa using hl) h1 hs
end
end Go.Abs
