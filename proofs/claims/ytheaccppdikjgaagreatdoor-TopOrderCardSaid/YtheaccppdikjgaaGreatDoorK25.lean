import Derived.Test.YtheaccppdikjgaaGreatDoorK24
namespace Go.Abs
open Go
set_option linter.unusedVariables false
set_option linter.unusedSimpArgs false
theorem St.put {E G env tm H w V v} (h : St E G ⟨env, tm, [(V, v)], H⟩ w) (d : Nat) : St E G ⟨upd env d V, upd tm d v, [], H⟩ w := by
 refine h.shuffle rfl ?_ (fun k V v hk => by simp at hk) (fun p => match p with | .slot t i => if t = d then .fly 0 i else .slot t i | p => p) ?_ ?_
 ·intro t
  by_cases ht : t = d
  ·subst ht; simp only [upd_eq]; exact h.fly 0 V v rfl
  ·simp only [upd_ne _ _ ht]; exact h.slot t
 ·intro p a ha
  cases p with
  | slot t i =>
   simp only [ownP] at ha ⊢
   by_cases ht : t = d
   ·subst ht; simp only [upd_eq] at ha; simp only [if_true, List.getElem?_cons_zero]; exact ha
   ·simp only [upd_ne _ _ ht] at ha; simp only [ht, if_false]; exact ha
  | fly k i => simp [ownP] at ha
  | cell => exact ha
  | box => exact ha
 ·intro p q a b hp hq hpq
  cases p with
  | fly k i => simp [ownP] at hp
  | slot t i =>
   cases q with
   | fly k i => simp [ownP] at hq
   | slot t' i' =>
    simp only at hpq
    split at hpq <;> split at hpq <;> simp_all
   | cell => simp only at hpq; split at hpq <;> cases hpq
   | box => simp only at hpq; split at hpq <;> cases hpq
  | cell =>
   cases q with
   | fly k i => simp [ownP] at hq
   | slot t' i' => simp only at hpq; split at hpq <;> cases hpq
   | _ => first | exact hpq | cases hpq
  | box =>
   cases q with
   | fly k i => simp [ownP] at hq
   | slot t' i' => simp only at hpq; split at hpq <;> cases hpq
   | _ => first | exact hpq | cases hpq
theorem tmOf_put {a : Act} {d : Nat} (v : Value) (hd : d < a.tmps.size) : tmOf (a.put (some d) v) = upd (tmOf a) d v := by
 funext t
 simp only [tmOf, Act.put, upd]
 by_cases ht : t = d
 ·subst ht; simp [hd]
 ·simp only [ht, if_false]
  simp only [Array.getD_eq_getD_getElem?, Array.getElem?_setIfInBounds_ne (Ne.symm ht)]
theorem put_size (a : Act) (d : Option Nat) (v : Value) : (a.put d v).tmps.size = a.tmps.size := by cases d <;> simp [Act.put]
theorem put_defers (a : Act) (d : Option Nat) (v : Value) : (a.put d v).defers = a.defers := by cases d <;> rfl
theorem St.putO {E G H w V v} {e : Env} {a : Act} (h : St E G ⟨e.get, tmOf a, [(V, v)], H⟩ w) (d : Option Nat) (hd : ∀ t, d = some t → t < a.tmps.size) :
  St E G ⟨(e.putO d V).get, tmOf (a.put d v), [], H⟩ w := by
 cases d with
 | none => exact h.drop
 | some t =>
  rw [tmOf_put v (hd t rfl)]
  simp only [Env.putO]
  rw [Env.get_put']
  exact h.put t
theorem St.unit {E G env tm H w} (h : St E G ⟨env, tm, [], H⟩ w) : St E G ⟨env, tm, [(.tuple [], undef)], H⟩ w := by
 refine h.shuffle rfl h.slot ?_ id ?_ (fun _ _ _ _ _ _ e => e)
 ·intro k V v hk'
  cases k with
  | zero => simp at hk'; obtain ⟨rfl, rfl⟩ := hk'; exact ⟨#[], rfl, rfl, fun i X hX => by simp at hX⟩
  | succ k => simp at hk'
 ·intro p b hp
  cases p with
  | fly k i =>
   cases k with
   | zero => simp [ownP, ownC] at hp; revert hp; split <;> simp
   | succ k => simp [ownP] at hp
  | _ => exact hp
def chkGuard (ops : Array Oper) : Option (Nat × Bool) → Option (Nat × Bool) → Bool
 | none, none => true
 | some (j, b), some (t, b') => b == b' && (match (ops[j]?).bind (·.dst) with | some t' => t' == t | none => false)
 | _, _ => false
def chkAOp (P : Program) (nt : Nat) (ops : Array Oper) (o : Oper) (x : AOp) : Bool :=
 decide (o.dst = x.dst) && (match o.dst with | some d => decide (d < nt) | none => true) && chkGuard ops o.guard x.guard &&
 (match o.op with
  | .extract t i => (match x.k, t, x.xs with | .move, .tmp u, [.proj u' i' _] => u == u' && i == i' | _, _, _ => false)
  | op => chkK P op x.k && chkOpds nt (opds op) x.xs)
section
variable {P : Program}
theorem wanted_ok {ops : Array Oper} {o : Oper} {g : Option (Nat × Bool)} (hc : chkGuard ops o.guard g = true) {E G fly H w} {e : Env} {a : Act} (h : St E G ⟨e.get, tmOf a, fly, H⟩ w) {b : Bool}
  (hw : wantedA e g = some b) : Region.wanted o (yielded ops a.tmps) = b := by
 unfold chkGuard at hc
 split at hc
 ·rename_i ho
  simp only [wantedA, Option.some.injEq] at hw; subst hw
  simp [Region.wanted, ho]
 ·rename_i j b1 t b2 ho
  rw [Bool.and_eq_true, beq_iff_eq] at hc
  obtain ⟨rfl, hc⟩ := hc
  split at hc
  ·rename_i t' hd
   simp only [beq_iff_eq] at hc; subst hc
   have hs := h.slot t'
   simp only [wantedA] at hw
   simp only [Region.wanted, ho, yielded, hd, Option.bind_some]
   split at hw
   ·rename_i t ht
    simp only [Option.some.injEq] at hw; subst hw
    simp only [ht] at hs
    have hv := Rv.bool_inv (show Rv G w (.bool t) (tmOf a t') from hs)
    have : a.tmps[t']? = some (.bool t) := by
     simp only [tmOf, Array.getD_eq_getD_getElem?] at hv
     cases hq : a.tmps[t']? with
     | none => rw [hq] at hv; cases hv
     | some q => rw [hq] at hv; simp at hv; rw [hv]
    rw [this]
    cases t <;> cases b1 <;> rfl
   ·rename_i us ht
    simp only [Option.some.injEq] at hw; subst hw
    simp only [ht] at hs
    obtain ⟨arr, hv, _⟩ := hs
    cases hq : a.tmps[t']? with
    | none => rfl
    | some q =>
     simp only [tmOf, Array.getD_eq_getD_getElem?, hq, Option.getD_some] at hv
     subst hv; rfl
   ·cases hw
  ·cases hc
 ·cases hc
theorem run_ok {call : CallF} (hcall : ∀ f, FnOK P f (call f)) {nt : Nat} {ops : Array Oper} {o : Oper} {x : AOp} (hc : chkAOp P nt ops o x = true) {a : Act} {E G H w} {e e' : Env}
  (h : St E G ⟨e.get, tmOf a, [], H⟩ w) {vs : List AVal} (hr : e.rds x.xs = some (vs, e')) {V : AVal} {H' : Heap} (he : ev call x.k vs H = some (V, H')) :
  Yield P E e'.get (tmOf a) (execOp a.eval o) w V H' := by
 unfold chkAOp at hc
 simp only [Bool.and_eq_true] at hc
 obtain ⟨⟨⟨h1, h2⟩, h3⟩, h4⟩ := hc
 split at h4
 ·rename_i t i ho
  split at h4
  ·rename_i u u' i' tk hk hxs
   simp only [Bool.and_eq_true, beq_iff_eq] at h4
   obtain ⟨rfl, rfl⟩ := h4
   rw [hxs] at hr
   rw [hk] at he
   simp only [Env.rds] at hr
   obtain ⟨X, hX, hr⟩ := Option.bind_eq_some_iff.1 hr
   simp only [Option.map_some, Option.some.injEq, Prod.mk.injEq] at hr
   obtain ⟨rfl, rfl⟩ := hr
   simp only [ev, Option.some.injEq, Prod.mk.injEq] at he; obtain ⟨rfl, rfl⟩ := he
   have hX0 := hX
   simp only [Env.rd] at hX0
   split at hX0
   ·rename_i us hus
    split at hX0
    ·rename_i Z hZ
     have hs := h.slot u
     simp only [hus] at hs
     obtain ⟨arr, harr, hsz, _⟩ := hs
     have hi : i < arr.size := by rw [hsz]; exact (List.getElem?_eq_some_iff.1 hZ).1
     have := rd_ok (x := .proj u i tk) (V := X) (v := arr.getD i undef) h rfl hX (fun arr' ha' => by rw [harr] at ha'; cases ha'; rfl)
     refine Yield.val (v := arr.getD i undef) ?_ (by simpa using this)
     have hev : a.eval (.tmp u) = .tuple arr := harr
     obtain ⟨d0, op0, ty0, p0, af0, g0⟩ := o
     simp only at ho; subst ho
     simp [execOp, hev, Instr.extract, hi]
    ·cases hX0
   ·cases hX0
  ·cases h4
 ·rename_i hne
  simp only [Bool.and_eq_true] at h4
  obtain ⟨g1, g2⟩ := rds_ok (E := E) (G := G) (H := H) (w := w) a _ _ _ _ [] _ h4.2 hr h
  exact ev_ok hcall h4.1 a g1 (by simpa using g2) he
theorem chk_dst {nt : Nat} {ops : Array Oper} {o : Oper} {x : AOp} (hc : chkAOp P nt ops o x = true) : o.dst = x.dst ∧ ∀ t, o.dst = some t → t < nt := by
 unfold chkAOp at hc
 simp only [Bool.and_eq_true, decide_eq_true_eq] at hc
 refine ⟨hc.1.1.1, fun t ht => ?_⟩
 have := hc.1.1.2
 rw [ht] at this
 simpa using this
theorem chk_guard {nt : Nat} {ops : Array Oper} {o : Oper} {x : AOp} (hc : chkAOp P nt ops o x = true) : chkGuard ops o.guard x.guard = true := by
 unfold chkAOp at hc
 simp only [Bool.and_eq_true, decide_eq_true_eq] at hc
 exact hc.1.2
theorem Yield.upon {o : Oper} {nt : Nat} {a : Act} (hsz : nt ≤ a.tmps.size) (hd : ∀ t, o.dst = some t → t < nt) {E H w} {e : Env} {V : AVal}
  (h : Yield P E e.get (tmOf a) (execOp a.eval o) w V H) {K : Act → World → Prop} {Q : Exit → Act → World → Prop}
  (hK : ∀ G' v w', St E G' ⟨e.get, tmOf a, [(V, v)], H⟩ w' → K (a.put o.dst v) w') : o.wp P a w K Q := by
 unfold Oper.wp
 rcases h with ⟨v, w', G', h1, h2⟩ | ⟨w', G', h1, h2⟩ | ⟨f, args, h1, h2⟩
 ·rw [h1]; exact hK G' v w' h2
 ·rw [h1]; exact hK G' undef w' h2
 ·rw [h1]
  refine Calls.mono h2 fun en w'' he => ?_
  obtain ⟨v, G', rfl, hst⟩ := he
  exact hK G' v w'' hst
theorem aop_ok {call : CallF} (hcall : ∀ f, FnOK P f (call f)) {nt : Nat} {ops : Array Oper} {i : Nat} {o : Oper} (hi : ops[i]? = some o) {x : AOp} (hc : chkAOp P nt ops o x = true) {a : Act} (hsz : nt ≤ a.tmps.size)
  {E G H w} {e e' : Env} {H' : Heap} (h : St E G ⟨e.get, tmOf a, [], H⟩ w) (ha : aop call x e H = some (e', H')) {K : Act → World → Prop} {Q : Exit → Act → World → Prop}
  (hK : ∀ G' a' w', nt ≤ a'.tmps.size → a'.defers = a.defers → St E G' ⟨e'.get, tmOf a', [], H'⟩ w' → K a' w') : wpOp P ops Q i K a w := by
 obtain ⟨hdx, hdn⟩ := chk_dst hc
 unfold wpOp
 simp only [hi]
 unfold aop at ha
 split at ha
 ·rename_i hw
  rw [if_pos (wanted_ok (chk_guard hc) h hw)]
  obtain ⟨⟨vs, e1⟩, hr, ha⟩ := Option.bind_eq_some_iff.1 ha
  obtain ⟨⟨V, H1⟩, he, ha⟩ := Option.map_eq_some_iff.1 ha
  simp only [Prod.mk.injEq] at ha he hr
  obtain ⟨rfl, rfl⟩ := ha
  refine .inl ((run_ok hcall hc h hr he).upon hsz hdn fun G' v w' hst => ?_)
  refine hK G' _ w' (by rw [put_size]; exact hsz) (put_defers _ _ _) ?_
  rw [← hdx]
  exact hst.putO _ (fun t ht => Nat.lt_of_lt_of_le (hdn t ht) hsz)
 ·rename_i hw
  have := wanted_ok (chk_guard hc) h hw
  rw [this]
  simp only [Option.some.injEq, Prod.mk.injEq] at ha
  obtain ⟨rfl, rfl⟩ := ha
  refine hK G _ w (by rw [put_size]; exact hsz) (put_defers _ _ _) ?_
  rw [← hdx]
  exact h.unit.putO _ (fun t ht => Nat.lt_of_lt_of_le (hdn t ht) hsz)
 ·cases ha
def chkOps (P : Program) (nt : Nat) (ops : Array Oper) : List Oper → List AOp → Bool
 | [], [] => true
 | o :: os, x :: xs => chkAOp P nt ops o x && chkOps P nt ops os xs
 | _, _ => false
theorem aops_ok {call : CallF} (hcall : ∀ f, FnOK P f (call f)) {nt : Nat} {ops : Array Oper} {E : Ent} {Q : Exit → Act → World → Prop} : ∀ (os : List Oper) (xs : List AOp) (i : Nat) (a : Act) (G : Gh) (w : World) (e e' : Env) (H H' : Heap),
  ops.toList.drop i = os → chkOps P nt ops os xs = true → nt ≤ a.tmps.size → St E G ⟨e.get, tmOf a, [], H⟩ w → aops call xs e H = some (e', H') →
  (∀ G' a' w', nt ≤ a'.tmps.size → a'.defers = a.defers → St E G' ⟨e'.get, tmOf a', [], H'⟩ w' → Q .normal a' w') → wpOps P ops Q (List.range' i os.length) a w
 | [], [], i, a, G, w, e, e', H, H', _, _, hsz, h, ha, hK => by
  simp only [aops, Option.some.injEq, Prod.mk.injEq] at ha
  obtain ⟨rfl, rfl⟩ := ha
  exact hK G a w hsz rfl h
 | o :: os, x :: xs, i, a, G, w, e, e', H, H', hos, hc, hsz, h, ha, hK => by
  simp only [chkOps, Bool.and_eq_true] at hc
  simp only [aops] at ha
  obtain ⟨⟨e1, H1⟩, h1, h2⟩ := Option.bind_eq_some_iff.1 ha
  have hi : ops[i]? = some o := by
   have : (ops.toList.drop i)[0]? = some o := by rw [hos]; rfl
   simpa [List.getElem?_drop] using this
  have hos' : ops.toList.drop (i + 1) = os := by
   rw [← List.drop_drop, hos]; rfl
  rw [List.length_cons, List.range'_succ, wpOps_cons]
  refine aop_ok hcall hi hc.1 hsz h h1 fun G' a' w' hs1 hd1 hst => ?_
  exact aops_ok hcall os xs (i + 1) a' G' w' e1 e' H1 H' hos' hc.2 hs1 hst h2 fun G'' a'' w'' hs2 hd2 hst2 => hK G'' a'' w'' hs2 (hd2.trans hd1) hst2
 | [], _ :: _, _, _, _, _, _, _, _, _, _, hc, _, _, _, _ => by simp [chkOps] at hc
 | _ :: _, [], _, _, _, _, _, _, _, _, _, hc, _, _, _, _ => by simp [chkOps] at hc
theorem region_ok {call : CallF} (hcall : ∀ f, FnOK P f (call f)) {nt id : Nat} {ops : Array Oper} {E : Ent} {Q : Exit → Act → World → Prop} {xs : List AOp} {a : Act} {G : Gh} {w : World} {e e' : Env} {H H' : Heap}
  (hc : chkOps P nt ops ops.toList xs = true) (hsz : nt ≤ a.tmps.size) (h : St E G ⟨e.get, tmOf a, [], H⟩ w) (ha : aops call xs e H = some (e', H'))
  (hK : ∀ G' a' w', nt ≤ a'.tmps.size → a'.defers = a.defers → St E G' ⟨e'.get, tmOf a', [], H'⟩ w' → Q .normal a' w') : (Code.region id ops false).wp P Q a w := by
 refine wp_region ?_
 have := aops_ok hcall (Q := Q) ops.toList xs 0 a G w e e' H H' rfl hc hsz h ha hK
 rw [List.range_eq_range']
 simpa using this
end
end Go.Abs
