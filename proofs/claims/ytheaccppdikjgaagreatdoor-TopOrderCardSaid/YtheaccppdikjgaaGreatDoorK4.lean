import Derived.Test.YtheaccppdikjgaaGreatDoorK3
namespace Go.Abs
open Go
set_option linter.unusedVariables false
set_option linter.unusedSimpArgs false
theorem Env.get_put (e : Env) (t : Nat) (v : AVal) (u : Nat) : (e.put t v).get u = if u = t then v else e.get u := by
 induction e with
 | nil => simp [Env.put, Env.get]
 | cons p e ih =>
  obtain ⟨k, w⟩ := p
  simp only [Env.put]
  split
  ·rename_i h; subst h; simp only [Env.get]; split <;> simp_all
  ·split
   ·simp only [Env.get]
   ·simp only [Env.get, ih]; split <;> simp_all; intro hh; exact absurd hh.symm ‹_›
theorem Env.get_del (e : Env) (t u : Nat) : (e.del t).get u = if u = t then .any else e.get u := by
 induction e with
 | nil => simp [Env.del, Env.get]
 | cons p e ih =>
  obtain ⟨k, w⟩ := p
  simp only [Env.del]
  split
  ·rename_i h; subst h; rw [ih]; simp only [Env.get]; split <;> simp_all
  ·simp only [Env.get, ih]; split <;> simp_all; intro hh; exact absurd hh.symm ‹_›
theorem St.shuffle {E G S S' w} (h : St E G S w) (hH : S'.H = S.H) (slot : ∀ t, Rt G w (S'.env t) (S'.tm t))
  (fly : ∀ (k : Nat) V v, S'.fly[k]? = some (V, v) → Rt G w V v) (π : Pos → Pos)
  (hπ : ∀ p a, ownP G S' w p = some a → ownP G S w (π p) = some a)
  (inj : ∀ p q a b, ownP G S' w p = some a → ownP G S' w q = some b → π p = π q → p = q) : St E G S' w where
 n := by rw [hH]; exact h.n
 Db := h.Db
 slot := slot
 fly := fly
 box := by rw [hH]; exact h.box
 ok := fun p a hp => h.ok _ _ (hπ p a hp)
 dis := fun p q a b hpq ha hb => h.dis _ _ a b (fun e => hpq (inj p q a b ha hb e)) (hπ p a ha) (hπ q b hb)
 fr := h.fr
 new := fun p a hp => h.new _ _ (hπ p a hp)
def upd {α : Type} (f : Nat → α) (t : Nat) (v : α) : Nat → α := fun u => if u = t then v else f u
theorem upd_eq {α : Type} (f : Nat → α) (t : Nat) (v : α) : upd f t v t = v := by simp [upd]
theorem upd_ne {α : Type} (f : Nat → α) {t u : Nat} (v : α) (h : u ≠ t) : upd f t v u = f u := by simp [upd, h]
theorem Env.get_put' (e : Env) (t : Nat) (v : AVal) : (e.put t v).get = upd e.get t v := by
 funext u; rw [Env.get_put]; rfl
def opdv (tm : Nat → Value) (x : Opd) (v : Value) : Prop :=
 match x with
 | .tmp t _ => v = tm t
 | .proj t i _ => ∀ arr, tm t = .tuple arr → v = arr.getD i undef
 | .val V => (∀ G w, Rv G w V v) ∧ V.isU = false ∧ own0 V v = none
theorem fly_append {l : List (AVal × Value)} {x V v} {k : Nat} (h : (l ++ [x])[k]? = some (V, v)) : (k < l.length ∧ l[k]? = some (V, v)) ∨ (k = l.length ∧ x = (V, v)) := by
 rcases Nat.lt_trichotomy k l.length with hk | hk | hk
 ·exact .inl ⟨hk, by rwa [List.getElem?_append_left hk] at h⟩
 ·subst hk; simp at h; exact .inr ⟨rfl, h⟩
 ·rw [List.getElem?_append_right (by omega), List.getElem?_eq_none (by simp; omega)] at h; cases h
theorem rd_ok {E G env tm fly H w} {e : Env} {x : Opd} {V v} (h : St E G ⟨env, tm, fly, H⟩ w) (he : env = e.get) (hr : e.rd x = some V) (hv : opdv tm x v) :
  St E G ⟨(e.take x).get, tm, fly ++ [(V, v)], H⟩ w := by
 subst he
 -- nothing taken
 have keep : ∀ (hT : Rt G w V v) (hno : ∀ i, ownC V v i = none), St E G ⟨e.get, tm, fly ++ [(V, v)], H⟩ w := by
  intro hT hno
  refine h.shuffle rfl h.slot ?_ id ?_ (fun _ _ _ _ _ _ e => e)
  ·intro k V' v' hk
   rcases fly_append hk with ⟨_, hk⟩ | ⟨_, hk⟩
   ·exact h.fly k V' v' hk
   ·cases hk; exact hT
  ·intro p a hp
   cases p with
   | fly k i =>
    simp only [ownP] at hp
    split at hp
    ·rename_i V' v' hk
     rcases fly_append hk with ⟨_, hk⟩ | ⟨_, hk⟩
     ·simpa only [id, ownP, hk] using hp
     ·cases hk; rw [hno i] at hp; cases hp
    ·cases hp
   | _ => exact hp
 cases x with
 | val V' =>
  simp only [Env.rd, Option.some.injEq] at hr; subst hr
  obtain ⟨h1, h2, h3⟩ := hv
  refine keep (Rt.of (h1 G w) h2) (fun i => ?_)
  cases V' <;> simp only [ownC] <;> first | rfl | (split <;> simp_all) | skip
  all_goals exact absurd (h1 G w) (fun h => h.not_tuple)
 | tmp t tk =>
  cases tk
  ·simp only [Env.rd] at hr
   split at hr
   ·cases hr
   ·rename_i hu
    simp only [Option.some.injEq] at hr; subst hr
    simp only [opdv] at hv; subst hv
    exact keep ((h.slot t).share (by simpa using hu)) (fun i => ownC_share _ _ i)
  ·simp only [Env.rd, Option.some.injEq] at hr
   simp only [opdv] at hv
   simp only [Env.take]
   rw [Env.get_put']
   refine h.shuffle rfl ?_ ?_ (fun p => match p with | .fly k i => if k = fly.length then .slot t i else .fly k i | p => p) ?_ ?_
   ·intro u
    by_cases hu : u = t
    ·subst hu; simp only [upd_eq]; exact (h.slot u).demote
    ·simp only [upd_ne _ _ hu]; exact h.slot u
   ·intro k V' v' hk
    rcases fly_append hk with ⟨_, hk⟩ | ⟨_, hk⟩
    ·exact h.fly k V' v' hk
    ·cases hk; subst hr; subst hv; exact h.slot t
   ·intro p a hp
    cases p with
    | fly k i =>
     simp only [ownP] at hp
     split at hp
     ·rename_i V' v' hk
      rcases fly_append hk with ⟨hl, hk⟩ | ⟨hl, hk⟩
      ·simp only [Nat.ne_of_lt hl, if_false, ownP, hk]; exact hp
      ·cases hk; subst hr; subst hv; simp only [hl, if_true, ownP]; exact hp
     ·cases hp
    | slot u i =>
     simp only [ownP] at hp ⊢
     by_cases hu : u = t
     ·subst hu; simp only [upd_eq, ownC_demote] at hp; cases hp
     ·simpa only [upd_ne _ _ hu] using hp
    | _ => exact hp
   ·intro p q a b hp hq hpq
    have slotno : ∀ i a, ownP G ⟨upd e.get t (e.get t).demote, tm, fly ++ [(V, v)], H⟩ w (.slot t i) ≠ some a := by
     intro i a; simp [ownP, upd_eq, ownC_demote]
    cases p <;> cases q <;> simp only at hpq <;> first
     | exact hpq
     | skip
    all_goals (first
     | (split at hpq <;> split at hpq <;> simp_all; done)
     | (split at hpq <;> simp_all; done)
     | skip)
    all_goals (
     split at hpq
     ·simp only [Pos.slot.injEq] at hpq
      obtain ⟨rfl, rfl⟩ := hpq
      first | exact absurd hp (slotno _ _) | exact absurd hq (slotno _ _)
     ·cases hpq)
 | proj t i0 tk =>
  simp only [Env.rd] at hr
  split at hr
  ·rename_i vs hvs
   split at hr
   ·rename_i X hX
    obtain ⟨arr, harr, hs, hcomp⟩ : ∃ arr, tm t = .tuple arr ∧ arr.size = vs.length ∧ ∀ i X, vs[i]? = some X → Rt0 G w X (arr.getD i undef) := by
     have := h.slot t; simp only [hvs] at this; exact this
    have hv' : v = arr.getD i0 undef := hv arr harr
    subst hv'
    have hXr := hcomp i0 X hX
    have hXt : ∀ us, X ≠ .tuple us := fun us e => by subst e; exact Rv.not_tuple hXr
    cases tk
    ·simp only [Bool.false_eq_true, if_false] at hr
     split at hr
     ·cases hr
     ·rename_i hu
      simp only [Option.some.injEq] at hr; subst hr
      exact keep ((Rt.of0 hXr hXt).share (by simpa using hu)) (fun i => ownC_share _ _ i)
    ·simp only [if_true, Option.some.injEq] at hr; subst hr
     simp only [Env.take, hvs, hX]
     rw [Env.get_put']
     have hown : ∀ i, ownC X (arr.getD i0 undef) i = if i = 0 then own0 X (arr.getD i0 undef) else none := by
      intro i; cases X <;> first | rfl | exact absurd rfl (hXt _)
     have hdem : ∀ us, X.demote ≠ .tuple us := by
      intro us e; cases X <;> simp [AVal.demote] at e
      rename_i fl; cases fl <;> simp at e
     refine h.shuffle rfl ?_ ?_ (fun p => match p with | .fly k i => if k = fly.length then .slot t i0 else .fly k i | p => p) ?_ ?_
     ·intro u
      by_cases hu : u = t
      ·subst hu; simp only [upd_eq]
       refine ⟨arr, harr, by simpa using hs, fun i Y hY => ?_⟩
       rw [List.getElem?_set] at hY
       split at hY
       ·rename_i hi; subst hi
        split at hY
        ·cases hY
         have := (Rt.of0 hXr hXt).demote
         exact this.rt0 hdem
        ·cases hY
       ·exact hcomp i Y hY
      ·simp only [upd_ne _ _ hu]; exact h.slot u
     ·intro k V' v' hk
      rcases fly_append hk with ⟨_, hk⟩ | ⟨_, hk⟩
      ·exact h.fly k V' v' hk
      ·cases hk; exact Rt.of0 hXr hXt
     ·intro p a hp
      cases p with
      | fly k i =>
       simp only [ownP] at hp
       split at hp
       ·rename_i V' v' hk
        rcases fly_append hk with ⟨hl, hk⟩ | ⟨hl, hk⟩
        ·simp only [Nat.ne_of_lt hl, if_false, ownP, hk]; exact hp
        ·cases hk
         rw [hown i] at hp
         split at hp
         ·simp only [hl, if_true, ownP, hvs, ownC, harr, hX]; exact hp
         ·cases hp
       ·cases hp
      | slot u i =>
       simp only [ownP] at hp ⊢
       by_cases hu : u = t
       ·subst hu; simp only [upd_eq, ownC, harr, hvs] at hp ⊢
        rw [List.getElem?_set] at hp
        split at hp
        ·rename_i Y hY
         split at hY
         ·split at hY
          ·cases hY; rw [own0_demote] at hp; cases hp
          ·cases hY
         ·rw [hY]; exact hp
        ·cases hp
       ·simpa only [upd_ne _ _ hu] using hp
      | _ => exact hp
     ·intro p q a b hp hq hpq
      have slotno : ∀ a, ownP G ⟨upd e.get t (.tuple (vs.set i0 X.demote)), tm, fly ++ [(X, arr.getD i0 undef)], H⟩ w (.slot t i0) ≠ some a := by
       intro a
       simp only [ownP, upd_eq, ownC, harr, List.getElem?_set, if_true]
       split
       ·rename_i Y hY
        split at hY
        ·cases hY; rw [own0_demote]; simp
        ·cases hY
       ·simp
      have fly0 : ∀ i a, ownP G ⟨upd e.get t (.tuple (vs.set i0 X.demote)), tm, fly ++ [(X, arr.getD i0 undef)], H⟩ w (.fly fly.length i) = some a → i = 0 := by
       intro i a hh
       simp only [ownP, List.getElem?_append_right (Nat.le_refl _), Nat.sub_self, List.getElem?_cons_zero] at hh
       rw [hown i] at hh
       split at hh
       ·assumption
       ·cases hh
      cases p with
      | fly k i =>
       cases q with
       | fly k' i' =>
        simp only at hpq
        by_cases h1 : k = fly.length <;> by_cases h2 : k' = fly.length <;> simp only [h1, h2, if_true, if_false] at hpq
        ·subst h1; subst h2; rw [fly0 _ _ hp, fly0 _ _ hq]
        ·cases hpq
        ·cases hpq
        ·exact hpq
       | slot u i' =>
        simp only at hpq
        split at hpq
        ·cases hpq; exact absurd hq (slotno _)
        ·cases hpq
       | cell => simp only at hpq; split at hpq <;> cases hpq
       | box => simp only at hpq; split at hpq <;> cases hpq
      | slot u i =>
       cases q with
       | fly k' i' =>
        simp only at hpq
        split at hpq
        ·cases hpq; exact absurd hp (slotno _)
        ·cases hpq
       | _ => exact hpq
      | cell => cases q <;> first | exact hpq | (simp only at hpq; split at hpq <;> cases hpq)
      | box => cases q <;> first | exact hpq | (simp only at hpq; split at hpq <;> cases hpq)
   ·cases hr
  ·cases hr
end Go.Abs
