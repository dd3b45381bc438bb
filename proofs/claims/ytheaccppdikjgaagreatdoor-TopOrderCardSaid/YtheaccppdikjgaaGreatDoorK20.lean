import Derived.Test.YtheaccppdikjgaaGreatDoorK19
import Derived.Laws.Sem
namespace Go.Abs
open Go
set_option linter.unusedVariables false
set_option linter.unusedSimpArgs false
theorem St.add {E G env tm fly H w V v} (h : St E G ⟨env, tm, fly, H⟩ w) (hT : Rv G w V v) (hp : V.plain = true) : St E G ⟨env, tm, fly ++ [(V, v)], H⟩ w := by
 refine h.shuffle rfl h.slot ?_ id ?_ (fun _ _ _ _ _ _ e => e)
 ·intro k V' v' hk
  rcases fly_append hk with ⟨_, hk⟩ | ⟨_, hk⟩
  ·exact h.fly k V' v' hk
  ·cases hk; exact Rt.of hT (AVal.plain_isU hp)
 ·intro p a ha
  cases p with
  | fly k i =>
   simp only [ownP] at ha
   split at ha
   ·rename_i V' v' hk
    rcases fly_append hk with ⟨_, hk⟩ | ⟨_, hk⟩
    ·simpa only [id, ownP, hk] using ha
    ·cases hk; rw [ownC_plain hp] at ha; cases ha
   ·cases ha
  | _ => exact ha
theorem Rv.ptr_inv {G w id off v} (h : Rv G w (.ptr id off) v) : v = .pointer (some (at_ (G.μ id) off)) := by cases h; rfl
theorem ld_box {P : Program} {E G env tm fly H w id off agg n V H'} {t : TypeId} (ti : TI P t agg n) (h : St E G ⟨env, tm, fly, H⟩ w) (he : evLoad agg n false (.ptr id off) H = some (V, H')) :
  ∃ v, (Go.loadVar t (at_ (G.μ id) off)).run P w = .ok v w ∧ Rv G w V v ∧ V.plain = true := by
 simp only [evLoad] at he
 split at he
 ·rename_i cs hH
  simp only [Bool.false_eq_true, if_false, Option.map_eq_some_iff, Prod.mk.injEq] at he
  obtain ⟨V', hV, rfl, rfl⟩ := he
  have hb := h.box id _ hH
  have hcell : ∀ j Y, (cs.drop off)[j]? = some Y → w.cell? (at_ (G.μ id) (off + j)) = some (cellv w (G.μ id) (off + j)) ∧ Rt0 G w Y (cellv w (G.μ id) (off + j)) := by
   intro j Y hY
   rw [drop_get] at hY
   obtain ⟨v, hv, hr⟩ := hb (off + j) Y hY
   have : cellv w (G.μ id) (off + j) = v := by simp [cellv, hv]
   exact ⟨by rw [this]; exact hv, by rw [this]; exact hr⟩
  obtain ⟨h1, h2, h3, h4⟩ := ld_vals (G := G) (w := w) (f := fun j => cellv w (G.μ id) (off + j)) hV (fun j Y hY => (hcell j Y hY).2)
  refine ⟨_, ti.loadVar (f := fun j => cellv w (G.μ id) (off + j)) (fun j hj => ?_) h4, h1, h2⟩
  obtain ⟨Y, hY⟩ : ∃ Y, (cs.drop off)[j]? = some Y := ⟨(cs.drop off)[j]'(by omega), List.getElem?_eq_getElem (by omega)⟩
  exact (hcell j Y hY).1
 ·cases he
def typeOK (P : Program) (t : TypeId) (agg : Bool) (n : Nat) : Bool :=
 (match P.info? t with | some i => i.size == n | none => false) &&
 (match P.underlying t with
  | some (.struct _) => agg
  | some (.array _ _) => agg
  | some _ => !agg
  | none => false)
theorem typeOK_ti {P : Program} {t agg n} (h : typeOK P t agg n = true) : TI P t agg n := by
 unfold typeOK at h
 rw [Bool.and_eq_true] at h
 obtain ⟨h1, h2⟩ := h
 constructor
 ·split at h1
  ·rename_i i hi; exact ⟨i, hi, by simpa using h1⟩
  ·cases h1
 ·split at h2
  ·rename_i fs hd; exact ⟨_, hd, h2.symm⟩
  ·rename_i a b hd; exact ⟨_, hd, h2.symm⟩
  ·rename_i d h3 h4 hd
   refine ⟨d, hd, ?_⟩
   have h2' : agg = false := by simpa using h2
   rw [h2']
   cases d <;> first | rfl | exact (h3 _ rfl).elim | exact (h4 _ _ rfl).elim
  ·cases h2
def chkRes (P : Program) : List ResultVar → List ARes → Bool
 | [], [] => true
 | .tmp t :: rl, .tmp t' :: rs => t == t' && chkRes P rl rs
 | .cell a T :: rl, .cell a' agg n :: rs => a == a' && typeOK P T agg n && chkRes P rl rs
 | _, _ => false
abbrev resM (tmps : Array Value) : ResultVar → Sem Value := fun
  | .tmp t => pure (tmps.getD t undef)
  | .cell a t => do loadVar t (← asAddr (tmps.getD a undef))
theorem res_ok {P : Program} {E G H w} {tmps : Array Value} : ∀ (rl : List ResultVar) (rs : List ARes) (e : Env) (fly : List (AVal × Value)) (Vs : List AVal), chkRes P rl rs = true → getRes e H rs = some Vs →
  St E G ⟨e.get, fun t => tmps.getD t undef, fly, H⟩ w →
  ∃ vs env', (rl.mapM (resM tmps)).run P w = .ok vs w ∧ Vs.length = vs.length ∧ St E G ⟨env', fun t => tmps.getD t undef, fly ++ Vs.zip vs, H⟩ w
 | [], [], e, fly, Vs, _, hr, h => by
  simp only [getRes, Option.some.injEq] at hr; subst hr
  exact ⟨[], e.get, rfl, rfl, by simpa using h⟩
 | .tmp t :: rl, .tmp t' :: rs, e, fly, Vs, hc, hr, h => by
  simp only [chkRes, Bool.and_eq_true, beq_iff_eq] at hc
  obtain ⟨rfl, hc⟩ := hc
  simp only [getRes, Option.map_eq_some_iff] at hr
  obtain ⟨Vs', hr, rfl⟩ := hr
  have h1 := rd_ok (x := .tmp t true) (V := e.get t) (v := tmps.getD t undef) h rfl rfl rfl
  obtain ⟨vs, env', h2, h3, h4⟩ := res_ok rl rs _ _ Vs' hc hr h1
  refine ⟨tmps.getD t undef :: vs, env', ?_, by simp [h3], by simpa using h4⟩
  rw [List.mapM_cons]
  simp only [Sem.run_bind, resM, pure_run, Result.andThen, h2]
  rfl
 | .cell a T :: rl, .cell a' agg n :: rs, e, fly, Vs, hc, hr, h => by
  simp only [chkRes, Bool.and_eq_true, beq_iff_eq] at hc
  obtain ⟨⟨rfl, ht⟩, hc⟩ := hc
  simp only [getRes] at hr
  split at hr
  ·rename_i id off hp
   obtain ⟨⟨V, H1⟩, hl, hr⟩ := Option.bind_eq_some_iff.1 hr
   obtain ⟨Vs', hr1, e1⟩ := Option.map_eq_some_iff.1 hr
   simp only at hr1 e1
   subst e1
   obtain ⟨v, hv, hR, hpl⟩ := ld_box (typeOK_ti ht) h hl
   have h1 := h.add hR hpl
   obtain ⟨vs, env', h2, h3, h4⟩ := res_ok rl rs _ _ Vs' hc hr1 h1
   have hsl : Rv G w (.ptr id off) (tmps.getD a undef) := by have := h.slot a; simp only [hp] at this; exact this
   have hpv := hsl.ptr_inv
   refine ⟨v :: vs, env', ?_, by simp [h3], by simpa using h4⟩
   rw [List.mapM_cons]
   simp only [Sem.run_bind, resM, hpv]
   have hp1 : (asAddr (.pointer (some (at_ (G.μ id) off)))).run P w = .ok (at_ (G.μ id) off) w := rfl
   simp only [hp1, hv, Result.andThen, h2]
   rfl
  ·cases hr
 | [], _ :: _, _, _, _, hc, _, _ => by simp [chkRes] at hc
 | .tmp _ :: _, [], _, _, _, hc, _, _ => by simp [chkRes] at hc
 | .cell _ _ :: _, [], _, _, _, hc, _, _ => by simp [chkRes] at hc
 | .tmp _ :: _, .cell _ _ _ :: _, _, _, _, hc, _, _ => by simp [chkRes] at hc
 | .cell _ _ :: _, .tmp _ :: _, _, _, _, hc, _, _ => by simp [chkRes] at hc
theorem tup_ok {E G env tm H w} {Vs : List AVal} {vs : List Value} {V : AVal} (hl : Vs.length = vs.length) (ht : tup Vs = some V) (h : St E G ⟨env, tm, Vs.zip vs, H⟩ w) :
  St E G (bare [(V, if h : vs.toArray.size = 1 then vs.toArray[0] else .tuple vs.toArray)] H) w := by
 have noslot : ∀ {fly : List (AVal × Value)} t i a, ownP G (bare fly H) w (.slot t i) ≠ some a := by intro fly t i a; simp [ownP, ownC, own0]
 by_cases h1 : ∃ V', Vs = [V']
 ·obtain ⟨V', rfl⟩ := h1
  simp only [tup, Option.some.injEq] at ht; subst ht
  match vs, hl with
  | [v], _ =>
   simp only [List.zip_cons_cons, List.zip_nil_left] at h
   simp only [List.size_toArray, List.length_singleton, dite_true]
   refine h.shuffle rfl (fun _ => Rv.any _) h.fly id (fun p a ha => ?_) (fun _ _ _ _ _ _ e => e)
   cases p with
   | slot t i => exact absurd ha (noslot t i a)
   | _ => exact ha
  | [], hl => simp at hl
  | _ :: _ :: _, hl => simp at hl
 ·have ht' : Vs.any AVal.isTuple = false ∧ V = .tuple Vs := by
   unfold tup at ht
   split at ht
   ·exact absurd ⟨_, rfl⟩ h1
   ·split at ht
    ·cases ht
    ·rename_i hn; simp only [Option.some.injEq] at ht; exact ⟨by simpa using hn, ht.symm⟩
  obtain ⟨hnt, rfl⟩ := ht'
  have hsz : ¬ vs.toArray.size = 1 := by
   intro e
   simp at e
   rw [← hl] at e
   obtain ⟨V', hV'⟩ := List.length_eq_one_iff.1 e
   exact h1 ⟨V', hV'⟩
  rw [dif_neg hsz]
  have fl : ∀ (i : Nat) X, Vs[i]? = some X → (Vs.zip vs)[i]? = some (X, vs.toArray.getD i undef) ∧ X.isTuple = false := by
   intro i X hX
   have hi : i < Vs.length := (List.getElem?_eq_some_iff.1 hX).1
   have hi' : i < vs.length := by omega
   refine ⟨?_, ?_⟩
   ·rw [List.getElem?_zip_eq_some]
    refine ⟨hX, ?_⟩
    simp [Array.getD, hi']
   ·have := List.any_eq_false.1 hnt X (List.mem_of_getElem? hX)
    simpa using this
  have nt : ∀ {X : AVal}, X.isTuple = false → ∀ us, X ≠ .tuple us := fun h us e => by subst e; simp [AVal.isTuple] at h
  refine h.shuffle rfl (fun _ => Rv.any _) ?_ (fun p => match p with | .fly _ i => .fly i 0 | p => p) ?_ ?_
  ·intro k V' v' hk
   cases k with
   | zero =>
    simp at hk; obtain ⟨rfl, rfl⟩ := hk
    exact ⟨vs.toArray, rfl, by simp [hl], fun i X hX => by
     obtain ⟨h2, h3⟩ := fl i X hX
     exact (h.fly i X _ h2).rt0 (nt h3)⟩
   | succ k => simp at hk
  ·intro p a ha
   cases p with
   | fly k i =>
    cases k with
    | zero =>
     simp only [ownP, List.getElem?_cons_zero, ownC] at ha
     split at ha
     ·rename_i X hX
      obtain ⟨h2, h3⟩ := fl i X hX
      simp only [ownP, h2]
      cases X <;> first | exact absurd rfl (nt h3 _) | (simp only [ownC, if_true]; exact ha)
     ·cases ha
    | succ k => simp [ownP] at ha
   | slot t i => exact absurd ha (noslot t i a)
   | _ => exact ha
  ·intro p q a b hp hq hpq
   have nf : ∀ k i a, ownP G (bare [(AVal.tuple Vs, Value.tuple vs.toArray)] H) w (.fly (k + 1) i) ≠ some a := by intro k i a; simp [ownP]
   cases p with
   | slot t i => exact absurd hp (noslot t i a)
   | fly k i =>
    cases q with
    | slot t i => exact absurd hq (noslot t i b)
    | fly k' i' =>
     simp only [Pos.fly.injEq, and_true] at hpq
     subst hpq
     cases k with
     | succ k => exact absurd hp (nf k _ a)
     | zero => cases k' with
      | succ k' => exact absurd hq (nf k' _ b)
      | zero => rfl
    | cell => cases hpq
    | box => cases hpq
   | cell id off =>
    cases q with
    | slot t i => exact absurd hq (noslot t i b)
    | _ => first | exact hpq | cases hpq
   | box id =>
    cases q with
    | slot t i => exact absurd hq (noslot t i b)
    | _ => first | exact hpq | cases hpq
theorem trim_ok {E G H0 H w V v V' H'} {keep : Bool} (hE : E.G0.n = H0.length)
  (hold : ∀ (id : Nat) B, H0[id]? = some B → BoxR E.G0 E.w0 id B) (ht : trim keep H0 V H = some (V', H')) (h : St E G (bare [(V, v)] H) w) :
  V' = V ∧ ∃ G', St E G' (bare [(V, v)] H') w := by
 unfold trim at ht
 split at ht
 ·simp only [Option.some.injEq, Prod.mk.injEq] at ht; obtain ⟨rfl, rfl⟩ := ht; exact ⟨rfl, G, h⟩
 ·split at ht
  ·simp only [Option.some.injEq, Prod.mk.injEq] at ht; obtain ⟨rfl, rfl⟩ := ht; exact ⟨rfl, G, h⟩
  ·rename_i hlt
   split at ht
   ·rename_i hc
    rw [Bool.and_eq_true] at hc
    obtain ⟨hv, hk⟩ := hc
    simp only [Option.some.injEq, Prod.mk.injEq] at ht; obtain ⟨rfl, rfl⟩ := ht
    refine ⟨rfl, G.cut H0.length, ?_⟩
    obtain ⟨hlen, hget⟩ := trimOK_get hk
    have hm : ∀ id, id < H0.length → id < G.n := fun id hid => by rw [h.n]; show id < H.length; omega
    have take_get : ∀ {id : Nat} {B : Box}, (H.take H0.length)[id]? = some B → id < H0.length ∧ H[id]? = some B := by
     intro id B hB
     rw [List.getElem?_take] at hB
     split at hB
     ·rename_i hi; exact ⟨hi, hB⟩
     ·cases hB
    have carry : ∀ p a, ownP (G.cut H0.length) (bare [(V, v)] (H.take H0.length)) w p = some a → ownP G (bare [(V, v)] H) w p = some a := by
     intro p a ha
     cases p with
     | slot t i => exact ha
     | fly k i => exact ha
     | cell id off =>
      simp only [ownP] at ha ⊢
      split at ha
      ·rename_i cs hcs
       obtain ⟨_, h2⟩ := take_get hcs
       simp only [h2]; exact ha
      ·cases ha
     | box id =>
      simp only [ownP] at ha ⊢
      split at ha
      ·rename_i cs hcs
       simp only [(take_get hcs).2]; exact ha
      ·rename_i cs hcs
       simp only [(take_get hcs).2]; exact ha
      ·rename_i cs hcs
       simp only [(take_get hcs).2]; exact ha
      ·rename_i cs hcs
       simp only [(take_get hcs).2]; exact ha
      ·cases ha
    exact {
     n := by show H0.length = (H.take H0.length).length; rw [List.length_take]; omega
     Db := h.Db
     slot := fun t => Rv.any _
     fly := by
      intro k V v hk
      cases k with
      | zero =>
       simp at hk; obtain ⟨rfl, rfl⟩ := hk
       exact (h.fly 0 _ _ rfl).cut hv
      | succ k => simp at hk
     box := by
      intro id B hB
      obtain ⟨hid, hB'⟩ := take_get hB
      have hbox := h.box id B hB'
      have hBu : B.under H0.length = true := by
       rcases hget id B hid hB' with h1 | h1
       ·have h2 := hold id B h1
        cases B with
        | cells cs =>
         simp only [Box.under]
         refine underL_iff.2 (fun j Y hY => ?_)
         obtain ⟨v, _, hv⟩ := h2 j Y hY
         have := hv.und; rw [hE] at this; exact this
        | arr sz xs =>
         simp only [Box.under]
         have := h2.2.und; rw [hE] at this; exact this
        | map es =>
         simp only [Box.under, List.all_eq_true, Bool.and_eq_true]
         obtain ⟨ms, c, _, hs, _, he⟩ := h2
         intro p hp
         obtain ⟨j, hj⟩ := List.mem_iff_getElem?.1 hp
         have hjl : j < ms.size := by have := (List.getElem?_eq_some_iff.1 hj).1; omega
         obtain ⟨h3, h4⟩ := he j p ms[j] hj (Array.getElem?_eq_getElem hjl)
         have h3 := h3.und; have h4 := h4.und; rw [hE] at h3 h4
         exact ⟨h3, h4⟩
        | iter s p => rfl
        | dead => rfl
       ·exact h1
      cases B with
      | cells cs =>
       intro j Y hY
       obtain ⟨v, hc, hr⟩ := hbox j Y hY
       exact ⟨v, hc, hr.cut (underL_iff.1 hBu j Y hY)⟩
      | arr sz xs => exact ⟨hbox.1, RU.cut hbox.2 hBu⟩
      | map es =>
       obtain ⟨ms, c, hh, hs, hst, he⟩ := hbox
       refine ⟨ms, c, hh, hs, hst, fun j p m hj hm => ?_⟩
       simp only [Box.under, List.all_eq_true, Bool.and_eq_true] at hBu
       have := hBu p (List.mem_of_getElem? hj)
       obtain ⟨h3, h4⟩ := he j p m hj hm
       exact ⟨h3.cut this.1, h4.cut this.2⟩
      | iter s p => exact hbox
      | dead => trivial
     ok := fun p a ha => ⟨(h.ok p a (carry p a ha)).lt, (h.ok p a (carry p a ha)).cells, (h.ok p a (carry p a ha)).frozen, (h.ok p a (carry p a ha)).D⟩
     dis := fun p q a b hpq ha hb => h.dis p q a b hpq (carry p a ha) (carry q b hb)
     fr := ⟨by show E.G0.n ≤ H0.length; omega, h.fr.μ, h.fr.D, h.fr.Dn, h.fr.size, h.fr.heap, h.fr.cell, h.fr.still⟩
     new := fun p a ha hlt => h.new p a (carry p a ha) hlt }
   ·cases ht
end Go.Abs
