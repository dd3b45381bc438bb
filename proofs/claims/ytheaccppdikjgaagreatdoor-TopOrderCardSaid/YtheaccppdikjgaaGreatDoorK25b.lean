import Derived.Test.YtheaccppdikjgaaGreatDoorK25
namespace Go.Abs
open Go
set_option linter.unusedVariables false
set_option linter.unusedSimpArgs false
theorem Rv.scalar {G w G' w' V v} (h : Rv G w V v) (hs : V.scalar = true) : Rv G' w' V v := by
 cases h <;> first | (simp [AVal.scalar] at hs; done) | constructor
theorem Rt.stayN {G w G' w' V v} (ge : GE G w G' w') (h : Rt G w V v) (hU : V.hasU = false) : Rt G' w' V v := by
 by_cases ht : ∃ vs, V = .tuple vs
 ·obtain ⟨vs, rfl⟩ := ht
  obtain ⟨arr, rfl, hs, hv⟩ := h
  refine ⟨arr, rfl, hs, fun i X hX => ?_⟩
  have hXU : X.isU = false := by
   have := List.any_eq_false.1 (show vs.any AVal.isU = false from hU) X (List.mem_of_getElem? hX)
   simpa using this
  exact .of (((hv i X hX).rv hXU).stay ge) hXU
 ·have ht' : ∀ vs, V ≠ .tuple vs := fun vs e => ht ⟨vs, e⟩
  have hVU : V.isU = false := by cases V <;> first | exact absurd rfl (ht' _) | simpa [AVal.hasU] using hU
  exact Rt.of (((h.rt0 ht').rv hVU).stay ge) hVU
theorem St.beside {E G env tm H w} (h : St E G ⟨env, tm, [], H⟩ w) (env' : Nat → AVal) (he : ∀ t, env' t = .any ∨ (env' t = env t ∧ (env t).under 0 = true)) :
  St (entOf (G.cut 0) ⟨env', tm, [], []⟩ w) (G.cut 0) ⟨env', tm, [], []⟩ w := by
 have carry : ∀ p a, ownP (G.cut 0) ⟨env', tm, [], []⟩ w p = some a → ownP G ⟨env, tm, [], H⟩ w p = some a := by
  intro p a hp
  cases p with
  | slot t i =>
   simp only [ownP] at hp ⊢
   rcases he t with h1 | ⟨h1, _⟩
   ·rw [h1] at hp; cases i <;> simp [ownC, own0] at hp
   ·rw [h1] at hp; exact hp
  | fly k i => simp [ownP] at hp
  | cell id off => simp [ownP] at hp
  | box id => simp [ownP] at hp
 exact {
  n := rfl
  Db := h.Db
  slot := fun t => by
   rcases he t with h1 | ⟨h1, h2⟩
   ·simp only [h1]; exact Rv.any _
   ·simp only [h1]; exact (h.slot t).cut h2
  fly := fun k V v hk => by simp at hk
  box := fun id B hB => by simp at hB
  ok := fun p a hp => ⟨(h.ok p a (carry p a hp)).lt, (h.ok p a (carry p a hp)).cells, (h.ok p a (carry p a hp)).frozen, (h.ok p a (carry p a hp)).D⟩
  dis := fun p q a b hpq ha hb => h.dis p q a b hpq (carry p a ha) (carry q b hb)
  fr := ⟨Nat.le_refl _, fun _ _ => ⟨rfl, rfl, rfl⟩, fun _ _ h => h, fun _ _ h _ => .inl h, Nat.le_refl _, fun _ _ _ => rfl, fun _ _ _ => rfl, .refl w⟩
  new := fun p a hp _ => ⟨p, a, hp, rfl⟩ }
theorem St.besideBack {E G env tm H w} (h : St E G ⟨env, tm, [], H⟩ w) (hU : ∀ t, (env t).hasU = false) (env' : Nat → AVal) (he : ∀ t, env' t = .any ∨ (env' t = env t ∧ (env t).under 0 = true))
  {G1 S1 w1} (h1 : St (entOf (G.cut 0) ⟨env', tm, [], []⟩ w) G1 S1 w1) (env2 : Nat → AVal) (tm2 : Nat → Value)
  (h2 : ∀ t, (env2 t = env t ∧ tm2 t = tm t) ∨ ((env2 t).scalar = true ∧ Rv G1 w1 (env2 t) (tm2 t)) ∨ env2 t = .any) : St E G ⟨env2, tm2, [], H⟩ w1 := by
 have fr := h1.fr
 have ge : GE G w G w1 := ⟨Nat.le_refl _, fun _ _ h => h, fun _ _ => rfl, fun _ _ => rfl, fun _ _ => rfl, fr.cell, fr.still⟩
 -- what the run beside may have touched is owned by a slot
 have own' : ∀ b, (entOf (G.cut 0) ⟨env', tm, [], []⟩ w).own b → ∃ t i a, ownP G ⟨env, tm, [], H⟩ w (.slot t i) = some a ∧ a.1 = b := by
  rintro b ⟨p, a, hp, rfl⟩
  cases p with
  | slot t i =>
   refine ⟨t, i, a, ?_, rfl⟩
   simp only [ownP] at hp ⊢
   rcases he t with h3 | ⟨h3, _⟩
   ·rw [h3] at hp; cases i <;> simp [ownC, own0] at hp
   ·rw [h3] at hp; exact hp
  | fly k i => simp [ownP] at hp
  | cell id off => simp [ownP] at hp
  | box id => simp [ownP] at hp
 have same : ∀ p a, (∀ t i, p ≠ .slot t i) → ownP G ⟨env, tm, [], H⟩ w p = some a → w1.heap[a.1]? = w.heap[a.1]? := by
  intro p a hp ha
  refine fr.heap a.1 (h.ok p a ha).lt (fun hb => ?_)
  obtain ⟨t, i, a', ha', e⟩ := own' _ hb
  exact h.dis p (.slot t i) a a' (hp t i) ha ha' e.symm
 have boxblk : ∀ id cs, H[id]? = some (Box.cells cs) → w1.heap[G.μ id]? = w.heap[G.μ id]? := fun id cs hB =>
  same (.box id) _ (by simp) (own_box_cells (S := ⟨env, tm, [], H⟩) hB)
 -- each place is what it was
 have back : ∀ p a, ownP G ⟨env2, tm2, [], H⟩ w1 p = some a → ownP G ⟨env, tm, [], H⟩ w p = some a := by
  intro p a hp
  cases p with
  | slot t i =>
   simp only [ownP] at hp ⊢
   rcases h2 t with ⟨h3, h4⟩ | ⟨h3, _⟩ | h3
   ·rw [h3, h4] at hp; exact hp
   ·exfalso
    revert hp
    cases hV : env2 t <;> rw [hV] at h3 <;> simp [AVal.scalar] at h3 <;> cases i <;> simp [ownC, own0]
   ·rw [h3] at hp; cases i <;> simp [ownC, own0] at hp
  | fly k i => simp [ownP] at hp
  | cell id off =>
   simp only [ownP] at hp ⊢
   cases hB : H[id]? with
   | none => rw [hB] at hp; simp at hp
   | some B =>
    cases B with
    | cells cs =>
     rw [hB] at hp
     simp only at hp ⊢
     rwa [cellv_of_heap (boxblk id cs hB)] at hp
    | _ => rw [hB] at hp; simp at hp
  | box id => exact hp
 exact {
  n := h.n
  Db := fun b o hd => Nat.lt_of_lt_of_le (h.Db b o hd) fr.size
  slot := fun t => by
   rcases h2 t with ⟨h3, h4⟩ | ⟨h3, h4⟩ | h3
   ·simp only [h3, h4]; exact (h.slot t).stayN ge (hU t)
   ·have hVU : (env2 t).isU = false := by cases hV : env2 t <;> rw [hV] at h3 <;> first | rfl | simp [AVal.scalar] at h3
    exact Rt.of (h4.scalar h3) hVU
   ·simp only [h3]; exact Rv.any _
  fly := fun k V v hk => by simp at hk
  box := fun id B hB => (h.box id B hB).stay ge (by rw [h.n]; exact (List.getElem?_eq_some_iff.1 hB).1)
   (fun hna hnd => by
    cases B with
    | cells cs => exact boxblk id cs hB
    | arr sz xs => exact absurd rfl (hna sz xs)
    | map es => exact same (.box id) _ (by simp) (own_box_map (S := ⟨env, tm, [], H⟩) hB)
    | iter s p => exact same (.box id) _ (by simp) (own_box_iter (S := ⟨env, tm, [], H⟩) hB)
    | dead => exact absurd rfl hnd)
   (fun cs off V a hBc hV ha => same (.cell id off) a (by simp) (by subst hBc; simp only [ownP, hB, hV]; exact ha))
   (fun sz xs a hBa ha => same (.box id) a (by simp) (by subst hBa; simp only [ownP, hB]; exact ha))
  ok := fun p a hp => by
   have hb := h.ok p a (back p a hp)
   refine ⟨Nat.lt_of_lt_of_le hb.lt fr.size, ?_, ?_, hb.D⟩
   ·rcases hb.cells with h3 | ⟨c, e, f, h3, h4⟩
    ·exact .inl h3
    ·obtain ⟨c', f', h5, h6, _⟩ := fr.still.shape a.1 c e f h3
     exact .inr ⟨c', e, f', h5, by rw [h6]; exact h4⟩
   ·intro h0 c1 e1 f1 h3
    rcases hb.cells with h4 | ⟨c, e, f, h4, _⟩
    ·exact absurd h4 h0
    ·obtain ⟨c', f', h5, h6, h7⟩ := fr.still.shape a.1 c e f h4
     rw [h5] at h3
     simp only [Option.some.injEq, Obj.cells.injEq] at h3
     obtain ⟨rfl, _, rfl⟩ := h3
     rw [h6]; exact h7 (hb.frozen h0 c e f h4)
  dis := fun p q a b hpq ha hb => h.dis p q a b hpq (back p a ha) (back q b hb)
  fr := {
   n := h.fr.n, μ := h.fr.μ, D := h.fr.D, Dn := h.fr.Dn
   size := Nat.le_trans h.fr.size fr.size
   heap := fun b hb hno => by
    rw [fr.heap b (Nat.lt_of_lt_of_le hb h.fr.size) (fun hown => by
     obtain ⟨t, i, a, ha, rfl⟩ := own' b hown
     exact hno (h.new _ a ha hb))]
    exact h.fr.heap b hb hno
   cell := fun b o hd => (fr.cell b o (h.fr.D b o hd)).trans (h.fr.cell b o hd)
   still := h.fr.still.trans fr.still }
  new := fun p a hp hlt => h.new p a (back p a hp) hlt }
section
variable {P : Program}
theorem aop_ok2 {call : CallF} (hcall : ∀ f, FnOK P f (call f)) {nt : Nat} {ops : Array Oper} {i : Nat} {o : Oper} (hi : ops[i]? = some o) {x : AOp} (hc : chkAOp P nt ops o x = true) {a : Act} (hsz : nt ≤ a.tmps.size)
  {E G H w} {e e' : Env} {H' : Heap} (h : St E G ⟨e.get, tmOf a, [], H⟩ w) (ha : aop call x e H = some (e', H')) {K : Act → World → Prop} {Q : Exit → Act → World → Prop}
  (hK : ∀ G' a' w', nt ≤ a'.tmps.size → a'.defers = a.defers → (∀ t, x.dst ≠ some t → tmOf a' t = tmOf a t) → St E G' ⟨e'.get, tmOf a', [], H'⟩ w' → K a' w') : wpOp P ops Q i K a w := by
 obtain ⟨hdx, hdn⟩ := chk_dst hc
 have put : ∀ v t, x.dst ≠ some t → tmOf (a.put o.dst v) t = tmOf a t := by
  intro v t ht
  rw [hdx]
  cases hd : x.dst with
  | none => rfl
  | some d =>
   rw [tmOf_put v (Nat.lt_of_lt_of_le (hdn d (by rw [hdx]; exact hd)) hsz)]
   exact upd_ne _ _ (fun e => ht (by rw [hd, e]))
 unfold wpOp
 simp only [hi]
 unfold aop at ha
 split at ha
 ·rename_i hw
  rw [if_pos (wanted_ok (chk_guard hc) h hw)]
  obtain ⟨⟨vs, e1⟩, hr, ha⟩ := Option.bind_eq_some_iff.1 ha
  obtain ⟨⟨V, H1⟩, he, ha⟩ := Option.map_eq_some_iff.1 ha
  simp only [Prod.mk.injEq] at ha he hr
  obtain ⟨rfl, rfl⟩ := ha
  refine .inl ((run_ok hcall hc h hr he).upon hsz hdn fun G' v w' hst => ?_)
  refine hK G' _ w' (by rw [put_size]; exact hsz) (put_defers _ _ _) (put v) ?_
  rw [← hdx]
  exact hst.putO _ (fun t ht => Nat.lt_of_lt_of_le (hdn t ht) hsz)
 ·rename_i hw
  have := wanted_ok (chk_guard hc) h hw
  rw [this]
  simp only [Option.some.injEq, Prod.mk.injEq] at ha
  obtain ⟨rfl, rfl⟩ := ha
  refine hK G _ w (by rw [put_size]; exact hsz) (put_defers _ _ _) (put undef) ?_
  rw [← hdx]
  exact h.unit.putO _ (fun t ht => Nat.lt_of_lt_of_le (hdn t ht) hsz)
 ·cases ha
theorem aops_run {call : CallF} (hcall : ∀ f, FnOK P f (call f)) {nt : Nat} {ops : Array Oper} {E : Ent} {Q : Exit → Act → World → Prop} (n : Nat) : ∀ (os : List Oper) (xs : List AOp) (i : Nat) (a : Act) (G : Gh) (w : World) (e e' : Env) (H H' : Heap),
  (∀ k o, os[k]? = some o → ops[i + k]? = some o) → chkOps P nt ops os xs = true → nt ≤ a.tmps.size → St E G ⟨e.get, tmOf a, [], H⟩ w → aops call xs e H = some (e', H') →
  (∀ G' a' w', nt ≤ a'.tmps.size → a'.defers = a.defers → (∀ t, t ∉ dstsOf xs → tmOf a' t = tmOf a t) → St E G' ⟨e'.get, tmOf a', [], H'⟩ w' → wpOps P ops Q (List.range' (i + os.length) n) a' w') →
  wpOps P ops Q (List.range' i (os.length + n)) a w
 | [], [], i, a, G, w, e, e', H, H', _, _, hsz, h, ha, hK => by
  simp only [aops, Option.some.injEq, Prod.mk.injEq] at ha
  obtain ⟨rfl, rfl⟩ := ha
  have := hK G a w hsz rfl (fun _ _ => rfl) h
  simpa using this
 | o :: os, x :: xs, i, a, G, w, e, e', H, H', hos, hc, hsz, h, ha, hK => by
  simp only [chkOps, Bool.and_eq_true] at hc
  simp only [aops] at ha
  obtain ⟨⟨e1, H1⟩, h1, h2⟩ := Option.bind_eq_some_iff.1 ha
  have hi : ops[i]? = some o := by simpa using hos 0 o rfl
  rw [List.length_cons, show os.length + 1 + n = (os.length + n) + 1 by omega, List.range'_succ, wpOps_cons]
  refine aop_ok2 hcall hi hc.1 hsz h h1 fun G' a' w' hs1 hd1 ht1 hst => ?_
  refine aops_run hcall n os xs (i + 1) a' G' w' e1 e' H1 H' (fun k o hk => by rw [show i + 1 + k = i + (k + 1) by omega]; exact hos (k + 1) o (by simpa using hk)) hc.2 hs1 hst h2 fun G'' a'' w'' hs2 hd2 ht2 hst2 => ?_
  have := hK G'' a'' w'' hs2 (hd2.trans hd1) (fun t ht => by
   have hn : x.dst ≠ some t ∧ t ∉ dstsOf xs := by
    constructor
    ·intro hx; exact ht (by simp [dstsOf, hx])
    ·intro hx; exact ht (by simp only [dstsOf, List.filterMap_cons]; split <;> first | exact hx | exact List.mem_cons_of_mem _ hx)
   rw [ht2 t hn.2, ht1 t hn.1]) hst2
  rw [List.length_cons] at this
  rw [show i + 1 + os.length = i + (os.length + 1) by omega]
  exact this
 | [], _ :: _, _, _, _, _, _, _, _, _, _, hc, _, _, _, _ => by simp [chkOps] at hc
 | _ :: _, [], _, _, _, _, _, _, _, _, _, hc, _, _, _, _ => by simp [chkOps] at hc
theorem get_mem {e : Env} {t : Nat} : e.get t = .any ∨ ∃ k, (k, e.get t) ∈ e := by
 induction e with
 | nil => exact .inl rfl
 | cons p e ih =>
  obtain ⟨k, v⟩ := p
  simp only [Env.get]
  split
  ·exact .inr ⟨k, List.mem_cons_self ..⟩
  ·rcases ih with h | ⟨k', h⟩
   ·exact .inl h
   ·exact .inr ⟨k', List.mem_cons_of_mem _ h⟩
theorem noU_ok {e : Env} (h : noU e = true) (t : Nat) : (e.get t).hasU = false := by
 rcases get_mem (e := e) (t := t) with h1 | ⟨k, h1⟩
 ·rw [h1]; rfl
 ·have := List.all_eq_true.1 h _ h1
  simpa using this
theorem sub_get (t : Nat) : ∀ e : Env, e.sub.get t = .any ∨ (e.sub.get t = e.get t ∧ (e.get t).under 0 = true)
 | [] => .inl rfl
 | (k, v) :: e => by
  simp only [Env.sub, Env.get]
  split
  ·cases hu : AVal.under 0 v with
   | true => right; simp [hu]
   | false => left; simp [hu]
  ·exact sub_get t e
theorem merge_get (e1 : Env) : ∀ (ts : List Nat) (e : Env) (t : Nat), (e.merge e1 ts).get t = if t ∈ ts then (if (e1.get t).scalar = true then e1.get t else .any) else e.get t
 | [], e, t => by simp [Env.merge]
 | u :: ts, e, t => by
  simp only [Env.merge]
  rw [merge_get e1 ts]
  by_cases h1 : t ∈ ts
  ·simp [h1]
  ·simp only [h1, if_false, Env.get_put, List.mem_cons, or_false]
   by_cases h2 : t = u
   ·subst h2; simp
   ·simp [h2]
theorem aseg_ok {call : CallF} (hcall : ∀ f, FnOK P f (call f)) {nt : Nat} {ops : Array Oper} {E : Ent} {Q : Exit → Act → World → Prop} (n : Nat) (s : Bool × List AOp) (os : List Oper) (i : Nat) (a : Act) (G : Gh) (w : World) (e e' : Env) (H H' : Heap)
  (hos : ∀ k o, os[k]? = some o → ops[i + k]? = some o) (hc : chkOps P nt ops os s.2 = true) (hsz : nt ≤ a.tmps.size) (h : St E G ⟨e.get, tmOf a, [], H⟩ w) (ha : aseg call s e H = some (e', H'))
  (hK : ∀ G' a' w', nt ≤ a'.tmps.size → a'.defers = a.defers → St E G' ⟨e'.get, tmOf a', [], H'⟩ w' → wpOps P ops Q (List.range' (i + os.length) n) a' w') :
  wpOps P ops Q (List.range' i (os.length + n)) a w := by
 unfold aseg at ha
 split at ha
 ·obtain ⟨hu, ha⟩ := ite_some ha
  obtain ⟨⟨e1, H1⟩, h1, h2⟩ := Option.bind_eq_some_iff.1 ha
  simp only [Option.some.injEq, Prod.mk.injEq] at h2
  obtain ⟨rfl, rfl⟩ := h2
  have hb := h.beside e.sub.get (fun t => sub_get t e)
  refine aops_run hcall n os s.2 i a _ w e.sub e1 [] H1 hos hc hsz hb h1 fun G' a' w' hs hd ht hst => ?_
  refine hK G a' w' hs hd ?_
  refine h.besideBack (noU_ok hu) e.sub.get (fun t => sub_get t e) hst _ _ (fun t => ?_)
  rw [merge_get]
  by_cases hm : t ∈ dstsOf s.2
  ·simp only [hm, if_true]
   split
   ·rename_i hsc
    right; left
    refine ⟨hsc, ?_⟩
    have := hst.slot t
    have hx : Rt G' w' (e1.get t) (tmOf a' t) := this
    revert hx hsc
    cases e1.get t <;> intro hsc hx <;> first | (simp [AVal.scalar] at hsc; done) | exact hx
   ·exact .inr (.inr rfl)
  ·simp only [hm, if_false]
   exact .inl ⟨trivial, ht t hm⟩
 ·exact aops_run hcall n os s.2 i a G w e e' H H' hos hc hsz h ha fun G' a' w' hs hd _ hst => hK G' a' w' hs hd hst
theorem chkOps_split {nt : Nat} {ops : Array Oper} : ∀ (xs ys : List AOp) (os : List Oper), chkOps P nt ops os (xs ++ ys) = true → chkOps P nt ops (os.take xs.length) xs = true ∧ chkOps P nt ops (os.drop xs.length) ys = true ∧ xs.length ≤ os.length
 | [], ys, os, h => ⟨by simp [chkOps], by simpa using h, Nat.zero_le _⟩
 | x :: xs, ys, [], h => by simp [chkOps] at h
 | x :: xs, ys, o :: os, h => by
  simp only [List.cons_append, chkOps, Bool.and_eq_true] at h
  obtain ⟨h1, h2, h3⟩ := chkOps_split xs ys os h.2
  refine ⟨by simp [chkOps, h.1, h1], by simpa using h2, by simp; omega⟩
theorem asegs_ok {call : CallF} (hcall : ∀ f, FnOK P f (call f)) {nt : Nat} {ops : Array Oper} {E : Ent} {Q : Exit → Act → World → Prop} : ∀ (ss : List (Bool × List AOp)) (os : List Oper) (i : Nat) (a : Act) (G : Gh) (w : World) (e e' : Env) (H H' : Heap),
  (∀ k o, os[k]? = some o → ops[i + k]? = some o) → chkOps P nt ops os (ss.flatMap (·.2)) = true → nt ≤ a.tmps.size → St E G ⟨e.get, tmOf a, [], H⟩ w → asegs call ss e H = some (e', H') →
  (∀ G' a' w', nt ≤ a'.tmps.size → a'.defers = a.defers → St E G' ⟨e'.get, tmOf a', [], H'⟩ w' → Q .normal a' w') → wpOps P ops Q (List.range' i os.length) a w
 | [], os, i, a, G, w, e, e', H, H', hos, hc, hsz, h, ha, hK => by
  simp only [asegs, Option.some.injEq, Prod.mk.injEq] at ha
  obtain ⟨rfl, rfl⟩ := ha
  cases os with
  | nil => exact hK G a w hsz rfl h
  | cons o os => simp [chkOps] at hc
 | s :: ss, os, i, a, G, w, e, e', H, H', hos, hc, hsz, h, ha, hK => by
  simp only [List.flatMap_cons] at hc
  obtain ⟨h1, h2, h3⟩ := chkOps_split _ _ _ hc
  simp only [asegs] at ha
  obtain ⟨⟨e1, H1⟩, g1, g2⟩ := Option.bind_eq_some_iff.1 ha
  have hl1 : (os.take s.2.length).length = s.2.length := by rw [List.length_take]; omega
  have hl2 : (os.drop s.2.length).length = os.length - s.2.length := List.length_drop ..
  have key := aseg_ok hcall (Q := Q) (os.drop s.2.length).length s (os.take s.2.length) i a G w e e1 H H1 (fun k o hk => by
   rw [List.getElem?_take] at hk
   split at hk
   ·exact hos k o hk
   ·cases hk) h1 hsz h g1 (fun G' a' w' hs hd hst => by
    rw [hl1]
    exact asegs_ok hcall ss (os.drop s.2.length) (i + s.2.length) a' G' w' e1 e' H1 H' (fun k o hk => by
     rw [List.getElem?_drop] at hk
     rw [Nat.add_assoc]; exact hos _ o hk) h2 hs hst g2 fun G'' a'' w'' hs2 hd2 hst2 => hK G'' a'' w'' hs2 (hd2.trans hd) hst2)
  rw [hl1, hl2, show s.2.length + (os.length - s.2.length) = os.length by omega] at key
  exact key
theorem regionS_ok {call : CallF} (hcall : ∀ f, FnOK P f (call f)) {nt id : Nat} {ops : Array Oper} {E : Ent} {Q : Exit → Act → World → Prop} {ss : List (Bool × List AOp)} {a : Act} {G : Gh} {w : World} {e e' : Env} {H H' : Heap}
  (hc : chkOps P nt ops ops.toList (ss.flatMap (·.2)) = true) (hsz : nt ≤ a.tmps.size) (h : St E G ⟨e.get, tmOf a, [], H⟩ w) (ha : asegs call ss e H = some (e', H'))
  (hK : ∀ G' a' w', nt ≤ a'.tmps.size → a'.defers = a.defers → St E G' ⟨e'.get, tmOf a', [], H'⟩ w' → Q .normal a' w') : (Code.region id ops false).wp P Q a w := by
 refine wp_region ?_
 have := asegs_ok hcall (Q := Q) ss ops.toList 0 a G w e e' H H' (fun k o hk => by simpa using hk) hc hsz h ha hK
 rw [List.range_eq_range']
 simpa using this
end
end Go.Abs
