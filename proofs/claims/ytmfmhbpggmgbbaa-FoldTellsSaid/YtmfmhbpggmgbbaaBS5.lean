import Derived.Test.YtmfmhbpggmgbbaaBS4
set_option linter.unusedVariables false
set_option linter.unusedSimpArgs false
namespace Go.Abs
open Go Go.RowKit
abbrev Opn := Int → Int
def stepO (O : Opn) (b : Ba) : Opn := fun id => if id = b.prod ∧ 0 ≤ b.prod then (if b.mark ≠ 0 then -1 else if b.txn = true ∧ O id < 0 then b.base else O id) else O id
def foldO (L : List Ba) (O : Opn) : Opn := L.foldl stepO O
abbrev opens (L : List Ba) : Opn := foldO L (fun _ => -1)
theorem opens_snoc (L : List Ba) (b : Ba) : opens (L ++ [b]) = stepO (opens L) b := by unfold opens foldO; rw [List.foldl_append]; rfl
structure Rep (M : List Pr) (O : Opn) : Prop where
 nd : (M.map Pr.id).Nodup
 val : ∀ p ∈ M, p.open_ = O p.id
 neg : ∀ id, (∀ p ∈ M, p.id ≠ id) → O id = -1
theorem applyP_open (p : Pr) (k : Bool) (b : Ba) : (applyP p k b).open_ = if b.mark ≠ 0 then -1 else if b.txn = true ∧ openP p k < 0 then b.base else openP p k := by
 unfold applyP; split <;> rfl
theorem Rep.open {M O} (h : Rep M O) (b : Ba) : openP ((M.find? fun p => p.id == b.prod).getD zeroPr) (M.find? fun p => p.id == b.prod).isSome = O b.prod := by
 cases hf : M.find? fun p => p.id == b.prod with
 | none =>
  have : O b.prod = -1 := h.neg _ (fun p hp e => by
   have := List.find?_eq_none.1 hf p hp
   simp [e] at this)
  rw [this]; rfl
 | some p =>
  have h1 := List.mem_of_find?_eq_some hf
  have h2 := List.find?_some hf
  have h3 : p.id = b.prod := by simpa using h2
  show p.open_ = _
  rw [h.val p h1, h3]
theorem Rep.put {M M' O} (h : Rep M O) (b : Ba) (hp : 0 ≤ b.prod) (x : Pr) (hx : x.id = b.prod) (ho : x.open_ = stepO O b b.prod) (hnd : (M'.map Pr.id).Nodup)
  (h1 : ∀ p ∈ M', p = x ∨ (p ∈ M ∧ p.id ≠ b.prod)) (h2 : x ∈ M') (h3 : ∀ p ∈ M, p.id ≠ b.prod → p ∈ M') : Rep M' (stepO O b) where
 nd := hnd
 val := fun p hp' => by
  rcases h1 p hp' with rfl | ⟨h4, h5⟩
  ·rw [hx, ho]
  ·rw [h.val p h4]; unfold stepO; rw [if_neg (fun h => h5 h.1)]
 neg := fun id hid => by
  have hne : id ≠ b.prod := fun e => hid x h2 (by rw [hx, e])
  unfold stepO
  rw [if_neg (fun h => hne h.1)]
  refine h.neg id (fun p hp' e => ?_)
  exact hid p (h3 p hp' (by rw [e]; exact hne)) e
theorem stepO_neg (O : Opn) (b : Ba) (h : b.prod < 0) : stepO O b = O := by
 funext id; unfold stepO; rw [if_neg (by omega)]
theorem nodup_find : ∀ {M : List Pr} {q : Pr}, (M.map Pr.id).Nodup → q ∈ M → M.find? (fun p => p.id == q.id) = some q
 | [], _, _, h => by cases h
 | a :: X, q, hnd, hq => by
  rw [List.find?_cons]
  rw [List.map_cons, List.nodup_cons] at hnd
  rcases List.mem_cons.1 hq with rfl | hq'
  ·simp
  ·have : (a.id == q.id) = false := by
    simp only [beq_eq_false_iff_ne]
    intro e
    exact hnd.1 (e ▸ List.mem_map_of_mem (f := Pr.id) hq')
   rw [this]; exact nodup_find hnd.2 hq'
theorem setM_ids (M : List Pr) (x : Pr) : (setM M x).map Pr.id = if (M.find? fun p => p.id == x.id).isSome then M.map Pr.id else M.map Pr.id ++ [x.id] := by
 rw [← getM_find]
 unfold setM getM
 cases h : idxM x.id M with
 | none => simp
 | some i =>
  obtain ⟨p, h1, h2⟩ := idxM_mem h
  simp only [Option.bind_some, h1, Option.isSome_some, if_true]
  rw [List.map_set]
  refine List.ext_getElem? fun k => ?_
  rw [List.getElem?_set]
  split
  ·rename_i e
   subst e
   split
   ·rw [List.getElem?_map, h1, Option.map_some, h2]
   ·rename_i h3
    rw [List.length_map] at h3
    exact absurd (List.getElem?_eq_some_iff.1 h1).1 h3
  ·rfl
theorem Rep.stepM {M O} (h : Rep M O) (b : Ba) (hr : rightE b = 0) : Rep (stepM M b) (stepO O b) := by
 unfold Go.Abs.stepM
 by_cases hp : b.prod < 0
 ·rw [if_pos (.inr hp), stepO_neg O b hp]; exact h
 ·rw [if_neg (by omega)]
  rw [getM_find]
  have ho := h.open b
  have hx := applyP_id ((M.find? fun p => p.id == b.prod).getD zeroPr) (M.find? fun p => p.id == b.prod).isSome b
  have hxo := applyP_open ((M.find? fun p => p.id == b.prod).getD zeroPr) (M.find? fun p => p.id == b.prod).isSome b
  rw [ho] at hxo
  generalize applyP ((M.find? fun p => p.id == b.prod).getD zeroPr) (M.find? fun p => p.id == b.prod).isSome b = x at *
  have hids := setM_ids M x
  rw [hx] at hids
  have hnd : ((setM M x).map Pr.id).Nodup := by
   rw [hids]
   split
   ·exact h.nd
   ·rename_i hn
    rw [List.nodup_append]
    refine ⟨h.nd, by simp, fun a ha c hc e => ?_⟩
    simp only [List.mem_singleton] at hc
    subst hc; subst e
    obtain ⟨p, hp1, hp2⟩ := List.mem_map.1 ha
    apply hn
    rw [List.find?_isSome]
    exact ⟨p, hp1, by simp [hp2]⟩
  have hmem : ∀ q, q ∈ setM M x ↔ getM q.id (setM M x) = some q := fun q => ⟨fun hq => by rw [getM_find]; exact nodup_find hnd hq, fun hq => getM_mem hq⟩
  have hmemM : ∀ q, q ∈ M → getM q.id M = some q := fun q hq => by rw [getM_find]; exact nodup_find h.nd hq
  refine h.put b (by omega) x hx ?_ hnd ?_ ?_ ?_
  ·rw [hxo]; exact (if_pos (⟨rfl, by omega⟩ : b.prod = b.prod ∧ 0 ≤ b.prod)).symm
  ·intro p hp'
   rw [hmem, getM_set] at hp'
   split at hp'
   ·simp only [Option.some.injEq] at hp'; exact .inl hp'.symm
   ·rename_i e
    exact .inr ⟨getM_mem hp', by rw [← hx]; exact e⟩
  ·rw [hmem, getM_set, if_pos rfl]
  ·intro p hp' hne
   rw [hmem, getM_set, if_neg (by rw [hx]; exact hne)]
   exact hmemM p hp'
abbrev Srt (L : List Pr) : Prop := L.Pairwise (fun p q => p.id < q.id)
theorem Srt.nd {L : List Pr} (h : Srt L) : (L.map Pr.id).Nodup := by
 rw [List.Nodup, List.pairwise_map]
 exact h.imp (fun h => by omega)
theorem below_take (id : Int) : ∀ (L : List Pr), ∀ p ∈ L.take (belowN id L), p.id < id
 | [], p, h => by simp [belowN] at h
 | a :: L, p, h => by
  unfold belowN at h
  split at h
  ·rename_i c
   rw [List.take_succ_cons, List.mem_cons] at h
   rcases h with rfl | h
   ·exact c
   ·exact below_take id L p h
  ·simp at h
theorem below_drop (id : Int) : ∀ (L : List Pr), Srt L → ∀ p ∈ L.drop (belowN id L), id ≤ p.id
 | [], _, p, h => by simp at h
 | a :: L, hs, p, h => by
  unfold belowN at h
  have hs' := List.pairwise_cons.1 hs
  split at h
  ·rw [List.drop_succ_cons] at h
   exact below_drop id L hs'.2 p h
  ·rename_i c
   rw [List.drop_zero, List.mem_cons] at h
   rcases h with rfl | h
   ·omega
   ·have := hs'.1 p h; omega
theorem atP_find (id : Int) (L : List Pr) (hs : Srt L) : atP id L = L.find? (fun p => p.id == id) := by
 have h1 := below_take id L
 have h2 := below_drop id L hs
 have h3 : L.find? (fun p => p.id == id) = (L.drop (belowN id L)).find? (fun p => p.id == id) := by
  conv => lhs; rw [← List.take_append_drop (belowN id L) L]
  rw [List.find?_append]
  have : (L.take (belowN id L)).find? (fun p => p.id == id) = none := by
   rw [List.find?_eq_none]
   intro p hp; have := h1 p hp; simp; omega
  rw [this]; rfl
 rw [h3]
 unfold atP
 have hs2 : Srt (L.drop (belowN id L)) := hs.sublist (List.drop_sublist _ _)
 have h4 : L[belowN id L]? = (L.drop (belowN id L))[0]? := by rw [List.getElem?_drop]; rfl
 rw [h4]
 generalize L.drop (belowN id L) = D at *
 cases D with
 | nil => rfl
 | cons a D =>
  simp only [List.getElem?_cons_zero, List.find?_cons]
  by_cases e : a.id = id
  ·simp [e]
  ·have e' : (a.id == id) = false := by simpa using e
   rw [if_neg e, e']
   have ha := h2 a List.mem_cons_self
   have : D.find? (fun p => p.id == id) = none := by
    rw [List.find?_eq_none]
    intro p hp
    have := (List.pairwise_cons.1 hs2).1 p hp
    simp; omega
   rw [this]
theorem Srt.tabL {L : List Pr} (hs : Srt L) (b : Ba) (hr : rightE b = 0) {O : Opn} (h : Rep L O) : Srt (tabL L b) ∧ Rep (tabL L b) (stepO O b) := by
 unfold Go.Abs.tabL
 by_cases hp : b.prod < 0
 ·rw [if_pos (.inr hp), stepO_neg O b hp]; exact ⟨hs, h⟩
 ·rw [if_neg (by omega)]
  have ho := h.open b
  have hx := applyP_id ((L.find? fun p => p.id == b.prod).getD zeroPr) (L.find? fun p => p.id == b.prod).isSome b
  have hxo := applyP_open ((L.find? fun p => p.id == b.prod).getD zeroPr) (L.find? fun p => p.id == b.prod).isSome b
  rw [ho] at hxo
  have hxo' : (applyP ((L.find? fun p => p.id == b.prod).getD zeroPr) (L.find? fun p => p.id == b.prod).isSome b).open_ = stepO O b b.prod := by
   rw [hxo]; exact (if_pos (⟨rfl, by omega⟩ : b.prod = b.prod ∧ 0 ≤ b.prod)).symm
  have hat := atP_find b.prod L hs
  rw [← hat] at hx hxo'
  cases hf : atP b.prod L with
  | some p =>
   rw [hf] at hx hxo'
   simp only
   have hx : (applyP p true b).id = b.prod := hx
   have hxo' : (applyP p true b).open_ = stepO O b b.prod := hxo'
   generalize applyP p true b = x at *
   obtain ⟨hp1, hp2⟩ := atP_mem hf
   have hp3 : p.id = b.prod := by
    rw [hat] at hf
    simpa using List.find?_some hf
   have hi : belowN b.prod L < L.length := (List.getElem?_eq_some_iff.1 hp2).1
   have hids : (L.set (belowN b.prod L) x).map Pr.id = L.map Pr.id := by
    rw [List.map_set]
    refine List.ext_getElem? fun k => ?_
    rw [List.getElem?_set]
    split
    ·rename_i e
     subst e
     rw [if_pos (by rw [List.length_map]; exact hi), List.getElem?_map, hp2, Option.map_some, hp3, hx]
    ·rfl
   have hsx : Srt (L.set (belowN b.prod L) x) := by
    have h1 : (L.map Pr.id).Pairwise (· < ·) := List.pairwise_map.2 hs
    rw [← hids] at h1
    exact List.pairwise_map.1 h1
   refine ⟨hsx, h.put b (by omega) x hx hxo' hsx.nd ?_ (List.mem_iff_getElem?.2 ⟨_, by rw [List.getElem?_set, if_pos rfl, if_pos hi]⟩) ?_⟩
   ·intro q hq
    rcases List.mem_or_eq_of_mem_set hq with h1 | rfl
    ·by_cases e : q.id = b.prod
     ·have := nodup_find hsx.nd hq
      have h2 := nodup_find hsx.nd (List.mem_iff_getElem?.2 ⟨_, by rw [List.getElem?_set, if_pos rfl, if_pos hi]⟩ : x ∈ L.set (belowN b.prod L) x)
      rw [show x.id = q.id by rw [hx, e], this] at h2
      simp only [Option.some.injEq] at h2
      exact .inl h2
     ·exact .inr ⟨h1, e⟩
    ·exact .inl rfl
   ·intro q hq hne
    obtain ⟨k, hk⟩ := List.mem_iff_getElem?.1 hq
    refine List.mem_iff_getElem?.2 ⟨k, ?_⟩
    rw [List.getElem?_set]
    by_cases e : belowN b.prod L = k
    ·subst e
     rw [hp2] at hk
     simp only [Option.some.injEq] at hk
     exact absurd (hk ▸ hp3) hne
    ·rw [if_neg e]; exact hk
  | none =>
   rw [hf] at hx hxo'
   simp only
   have hx : (applyP zeroPr false b).id = b.prod := hx
   have hxo' : (applyP zeroPr false b).open_ = stepO O b b.prod := hxo'
   generalize applyP zeroPr false b = x at *
   have hno : ∀ p ∈ L, p.id ≠ b.prod := by
    rw [hat, List.find?_eq_none] at hf
    intro p hp e
    exact hf p hp (by simp [e])
   have h1 := below_take b.prod L
   have h2 := below_drop b.prod L hs
   have hL := List.take_append_drop (belowN b.prod L) L
   have hs1 : Srt (L.take (belowN b.prod L)) := hs.sublist (List.take_sublist _ _)
   have hs2 : Srt (L.drop (belowN b.prod L)) := hs.sublist (List.drop_sublist _ _)
   have hm : ∀ q, q ∈ L ↔ q ∈ L.take (belowN b.prod L) ∨ q ∈ L.drop (belowN b.prod L) := fun q => by
    conv => lhs; rw [← hL]
    exact List.mem_append
   have hm1 : ∀ q ∈ L.drop (belowN b.prod L), b.prod < q.id := fun q hq => by
    have a1 := h2 q hq
    have a2 := hno q ((hm q).2 (.inr hq))
    omega
   generalize L.take (belowN b.prod L) = A at *
   generalize L.drop (belowN b.prod L) = B at *
   have hsx : Srt (A ++ [x] ++ B) := by
    rw [List.append_assoc]
    refine List.pairwise_append.2 ⟨hs1, List.pairwise_append.2 ⟨by simp, hs2, ?_⟩, ?_⟩
    ·intro p hp q hq
     simp only [List.mem_singleton] at hp
     rw [hp, hx]; exact hm1 q hq
    ·intro p hp q hq
     rw [List.mem_append, List.mem_singleton] at hq
     have := h1 p hp
     rcases hq with rfl | hq
     ·rw [hx]; exact this
     ·have := hm1 q hq; omega
   refine ⟨hsx, h.put b (by omega) x hx hxo' hsx.nd ?_ (by simp) ?_⟩
   ·intro q hq
    simp only [List.mem_append, List.mem_singleton] at hq
    rcases hq with (hq | rfl) | hq
    ·exact .inr ⟨(hm q).2 (.inl hq), hno q ((hm q).2 (.inl hq))⟩
    ·exact .inl rfl
    ·exact .inr ⟨(hm q).2 (.inr hq), hno q ((hm q).2 (.inr hq))⟩
   ·intro q hq _
    simp only [List.mem_append, List.mem_singleton]
    rcases (hm q).1 hq with h | h
    ·exact .inl (.inl h)
    ·exact .inr h
theorem rep_nil : Rep [] (fun _ => -1) := ⟨by simp, by simp, fun _ _ => rfl⟩
theorem foldM_rep : ∀ (A : List Ba) (M : List Pr) (O : Opn), (∀ b ∈ A, Fit b) → Rep M O → Rep (foldM A M) (foldO A O)
 | [], _, _, _, h => h
 | b :: A, M, O, hA, h => foldM_rep A _ _ (fun x hx => hA x (List.mem_cons_of_mem _ hx)) (h.stepM b (hA b List.mem_cons_self).right)
theorem foldL_rep : ∀ (A : List Ba) (L : List Pr) (O : Opn), (∀ b ∈ A, Fit b) → Srt L → Rep L O → Srt (foldL A L) ∧ Rep (foldL A L) (foldO A O)
 | [], _, _, _, hs, h => ⟨hs, h⟩
 | b :: A, L, O, hA, hs, h =>
  have h1 := hs.tabL b (hA b List.mem_cons_self).right h
  foldL_rep A _ _ (fun x hx => hA x (List.mem_cons_of_mem _ hx)) h1.1 h1.2
def Least (s : Int × Bool) (O : Opn) : Prop := (s.2 = true ∧ 0 ≤ s.1 ∧ (∃ id, O id = s.1) ∧ ∀ id, 0 ≤ O id → s.1 ≤ O id) ∨ (s = (-1, false) ∧ ∀ id, O id < 0)
theorem Least.eq {s t O} (h : Least s O) (h' : Least t O) : s = t := by
 obtain ⟨a, b⟩ := s
 obtain ⟨c, d⟩ := t
 rcases h with ⟨h1, h2, ⟨i, h3⟩, h4⟩ | ⟨h1, h2⟩ <;> rcases h' with ⟨g1, g2, ⟨j, g3⟩, g4⟩ | ⟨g1, g2⟩
 ·simp only at *
  have e1 := h4 j (by omega)
  have e2 := g4 i (by omega)
  subst h1; subst g1
  congr 1; omega
 ·have := g2 i; simp only at *; omega
 ·have := h2 j; simp only at *; omega
 ·rw [h1, g1]
theorem openS_fold : ∀ (l : List Pr) (s : Int × Bool), (s.2 = true → 0 ≤ s.1) → (s.2 = false → s.1 = -1) →
  ((l.foldl openS s).2 = true ∧ 0 ≤ (l.foldl openS s).1 ∧ ((s.2 = true ∧ (l.foldl openS s).1 = s.1) ∨ ∃ p ∈ l, p.open_ = (l.foldl openS s).1) ∧ (s.2 = true → (l.foldl openS s).1 ≤ s.1) ∧ ∀ p ∈ l, 0 ≤ p.open_ → (l.foldl openS s).1 ≤ p.open_) ∨
  (l.foldl openS s = (-1, false) ∧ s.2 = false ∧ ∀ p ∈ l, p.open_ < 0)
 | [], (a, b), h1, h2 => by
  cases b with
  | true => exact .inl ⟨rfl, h1 rfl, .inl ⟨rfl, rfl⟩, fun _ => Int.le_refl _, by simp⟩
  | false => refine .inr ⟨?_, rfl, by simp⟩; have := h2 rfl; simp only at this; rw [this]; rfl
 | p :: l, (a, b), h1, h2 => by
  simp only [List.foldl_cons]
  by_cases c : p.open_ ≥ 0 ∧ (b = false ∨ p.open_ < a)
  ·have e : openS (a, b) p = (p.open_, true) := by unfold openS; rw [if_pos c]
   rw [e]
   rcases openS_fold l (p.open_, true) (fun _ => c.1) (fun h => by cases h) with ⟨g1, g2, g3, g4, g5⟩ | ⟨g1, g2, g3⟩
   ·refine .inl ⟨g1, g2, .inr ?_, ?_, ?_⟩
    ·rcases g3 with ⟨_, g⟩ | ⟨q, hq, g⟩
     ·exact ⟨p, List.mem_cons_self, g.symm⟩
     ·exact ⟨q, List.mem_cons_of_mem _ hq, g⟩
    ·intro hb
     have := g4 rfl
     rcases c.2 with c2 | c2
     ·rw [hb] at c2; cases c2
     ·simp only at this ⊢; omega
    ·intro q hq h0
     rcases List.mem_cons.1 hq with rfl | hq
     ·exact g4 rfl
     ·exact g5 q hq h0
   ·cases g2
  ·have e : openS (a, b) p = (a, b) := by unfold openS; rw [if_neg c]
   rw [e]
   rcases openS_fold l (a, b) h1 h2 with ⟨g1, g2, g3, g4, g5⟩ | ⟨g1, g2, g3⟩
   ·refine .inl ⟨g1, g2, ?_, g4, ?_⟩
    ·rcases g3 with g | ⟨q, hq, g⟩
     ·exact .inl g
     ·exact .inr ⟨q, List.mem_cons_of_mem _ hq, g⟩
    ·intro q hq h0
     rcases List.mem_cons.1 hq with rfl | hq
     ·cases b with
      | false => exact absurd ⟨h0, .inl rfl⟩ c
      | true =>
       have := g4 rfl
       have : ¬ q.open_ < a := fun h => c ⟨h0, .inr h⟩
       simp only at *; omega
     ·exact g5 q hq h0
   ·refine .inr ⟨g1, g2, ?_⟩
    intro q hq
    rcases List.mem_cons.1 hq with rfl | hq
    ·simp only at g2
     subst g2
     have : ¬ q.open_ ≥ 0 := fun h => c ⟨h, .inl rfl⟩
     omega
    ·exact g3 q hq
theorem Rep.least {M O} (h : Rep M O) : Least (openM M) O := by
 have hin : ∀ id, 0 ≤ O id → ∃ p ∈ M, p.id = id ∧ p.open_ = O id := by
  intro id h0
  by_cases hex : ∃ p ∈ M, p.id = id
  ·obtain ⟨p, hp, e⟩ := hex
   exact ⟨p, hp, e, by rw [h.val p hp, e]⟩
  ·have := h.neg id (fun p hp e => hex ⟨p, hp, e⟩)
   omega
 unfold openM
 rcases openS_fold M (-1, false) (fun h => by cases h) (fun _ => rfl) with ⟨g1, g2, g3, g4, g5⟩ | ⟨g1, g2, g3⟩
 ·refine .inl ⟨g1, g2, ?_, ?_⟩
  ·rcases g3 with ⟨g, _⟩ | ⟨q, hq, g⟩
   ·cases g
   ·exact ⟨q.id, by rw [← h.val q hq, g]⟩
  ·intro id h0
   obtain ⟨p, hp, _, e⟩ := hin id h0
   rw [← e] at h0 ⊢
   exact g5 p hp h0
 ·refine .inr ⟨g1, fun id => ?_⟩
  by_cases h0 : 0 ≤ O id
  ·obtain ⟨p, hp, _, e⟩ := hin id h0
   have := g3 p hp; omega
  ·omega
theorem open_same (A : List Ba) (hA : ∀ b ∈ A, Fit b) : openM (foldM A []) = openM (foldL A []) :=
 (foldM_rep A _ _ hA rep_nil).least.eq (foldL_rep A _ _ hA List.Pairwise.nil rep_nil).2.least
theorem open_least (A : List Ba) (hA : ∀ b ∈ A, Fit b) : Least (openM (foldM A [])) (opens A) := (foldM_rep A _ _ hA rep_nil).least
def stepR (l : Int) (p : Pr) : Int := if p.open_ ≥ 0 ∧ (l < 0 ∨ p.open_ < l) then p.open_ else l
theorem stepR_S : ∀ (L : List Pr) (s : Int × Bool), s.2 = decide (s.1 ≥ 0) → (L.foldl openS s).1 = L.foldl stepR s.1 ∧ (L.foldl openS s).2 = decide ((L.foldl openS s).1 ≥ 0)
 | [], s, h => ⟨rfl, h⟩
 | p :: L, (a, b), h => by
  simp only at h
  have e : (openS (a, b) p).1 = stepR a p ∧ (openS (a, b) p).2 = decide ((openS (a, b) p).1 ≥ 0) := by
   unfold openS stepR
   by_cases c : p.open_ ≥ 0 ∧ (a < 0 ∨ p.open_ < a)
   ·have : p.open_ ≥ 0 ∧ (b = false ∨ p.open_ < a) := ⟨c.1, by rcases c.2 with c2 | c2; exact .inl (by rw [h]; simp; omega); exact .inr c2⟩
    rw [if_pos c, if_pos this]
    exact ⟨rfl, by simp [c.1]⟩
   ·have : ¬ (p.open_ ≥ 0 ∧ (b = false ∨ p.open_ < a)) := fun g => c ⟨g.1, by rcases g.2 with c2 | c2; exact .inl (by rw [h] at c2; simp at c2; omega); exact .inr c2⟩
    rw [if_neg c, if_neg this]
    exact ⟨rfl, h⟩
  have ih := stepR_S L (openS (a, b) p) e.2
  rw [e.1] at ih
  exact ih
theorem openM_R (L : List Pr) : L.foldl stepR (-1) = (openM L).1 ∧ (openM L).2 = decide ((openM L).1 ≥ 0) := by
 have := stepR_S L (-1, false) rfl
 exact ⟨this.1.symm, this.2⟩
theorem ropen_loop (L : List Pr) (hn : L.length ≤ 100000) (f : Fl) (hf : f = .ro ∨ (f = .full ∧ L = [])) (H : Heap) (r : List Pr) : ∀ (p : List Pr) (l : Int) (N : Heap), L = p ++ r →
  ∃ N', loopA W loopW (.ghost (.kill k_ref10_Table_Open_0) l_ref10_Table_Open_0) [(4, .int .i64 l), (10, .list 4 (L.map Pr.V) f), (11, .int .i64 (L.length : Nat)), (12, .int .i64 (p.length : Nat))] (hx H N) = some (.exit 0, [(4, .int .i64 (r.foldl stepR l))], hx H N') := by
 induction r with
 | nil =>
  intro p l N hp
  rw [List.append_nil] at hp
  subst hp
  refine ⟨N, ?_⟩
  have h1 : ¬ ((L.length : Int) < (L.length : Int)) := by omega
  rw [List.foldl_nil]
  refine loop_step l_ref10_Table_Open_0.eq_1 k_ref10_Table_Open_0.eq_1 (by kernel_rfl) ?_
  simp only [go_sem, h1, simprocAttr]
 | cons x r ih =>
  intro p l N hp
  have hf0 : f = .ro := by
   rcases hf with h | ⟨_, h⟩
   ·exact h
   ·rw [hp] at h; simp at h
  subst hf0
  have hlen : L.length = p.length + (r.length + 1) := by rw [hp]; simp
  have h1 : ((p.length : Int) < (L.length : Int)) := by omega
  have e0 : (0 : Int) ≤ (p.length : Int) := by omega
  have e7 : ((p.length : Nat) : Int).toNat = p.length := by omega
  have e1 : (L.map Pr.V)[p.length]? = some (.agg [.int .i64 x.id, .int .i64 x.epoch, .list 3 (x.last.map laV) .ro, .int .i64 x.open_]) := by rw [hp]; simp [Pr.V, Pr.cs]
  have e6 : IntKind.i64.wrap ((p.length : Int) + 1) = ((p.length + 1 : Nat) : Int) := by rw [wrap_id (by unfold I64; omega)]; omega
  have n1 : ∀ y : Box, (N ++ [y])[N.length]? = some y := fun y => by simp
  have n2 : ∀ y z : Box, (N ++ [y]).set N.length z = N ++ [z] := fun y z => by simp
  obtain ⟨N', h2⟩ := ih (p ++ [x]) (stepR l x) (N ++ [.cells x.cs]) (by rw [hp]; simp)
  simp only [List.length_append, List.length_cons, List.length_nil, Nat.zero_add] at h2
  refine ⟨N', ?_⟩
  rw [List.foldl_cons]
  unfold stepR at h2 ⊢
  unfold Pr.cs at *
  by_cases c1 : x.open_ ≥ 0
  ·by_cases c2 : l < 0
   ·rw [if_pos ⟨c1, .inl c2⟩] at h2 ⊢
    refine loop_step l_ref10_Table_Open_0.eq_1 k_ref10_Table_Open_0.eq_1 (by kernel_rfl) ?_
    simp only [go_sem, h1, e0, e7, e1, n1, n2, c1, c2, e6, simprocAttr]
    exact h2
   ·by_cases c3 : x.open_ < l
    ·rw [if_pos ⟨c1, .inr c3⟩] at h2 ⊢
     refine loop_step l_ref10_Table_Open_0.eq_1 k_ref10_Table_Open_0.eq_1 (by kernel_rfl) ?_
     simp only [go_sem, h1, e0, e7, e1, n1, n2, c1, c2, c3, e6, simprocAttr]
     exact h2
    ·rw [if_neg (fun h => by rcases h.2 with h | h; exact c2 h; exact c3 h)] at h2 ⊢
     refine loop_step l_ref10_Table_Open_0.eq_1 k_ref10_Table_Open_0.eq_1 (by kernel_rfl) ?_
     simp only [go_sem, h1, e0, e7, e1, n1, n2, c1, c2, c3, e6, simprocAttr]
     exact h2
  ·rw [if_neg (fun h => c1 h.1)] at h2 ⊢
   refine loop_step l_ref10_Table_Open_0.eq_1 k_ref10_Table_Open_0.eq_1 (by kernel_rfl) ?_
   simp only [go_sem, h1, e0, e7, e1, n1, n2, c1, e6, simprocAttr]
   exact h2
theorem ropen_spec (L : List Pr) (hn : L.length ≤ 100000) (fl : Fl) (hfl : fl = .own ∨ (fl = .full ∧ L = [])) (i : Nat) (H : Heap) (hi : Old H i (tabB L fl)) :
  W n_ref10_Table_Open [.ptr i 0] H = some (.tuple [.int .i64 (openM L).1, .bool (openM L).2], H) := by
 have h0 := fun f hf => ropen_loop L hn f hf H L [] (-1) [] rfl
 have hr := openM_R L
 rw [hr.1] at h0
 rw [hr.2]
 generalize (openM L).1 = m at *
 have gi := hi.get
 unfold tabB at gi
 simp only [List.length_nil, Int.natCast_zero] at h0
 refine W_fn rfl rfl ?_
 rcases hfl with rfl | ⟨rfl, rfl⟩
 ·obtain ⟨N, h⟩ := h0 .ro (.inl rfl)
  simp only [go_sem, c_ref10_Table_Open, gi, List.length_map, h, simprocAttr]
 ·obtain ⟨N, h⟩ := h0 .full (.inr ⟨rfl, rfl⟩)
  simp only [List.map_nil, List.length_nil, Int.natCast_zero] at h gi
  simp only [go_sem, c_ref10_Table_Open, gi, List.length_nil, Int.natCast_zero, h, simprocAttr]
def stableE (start : Int) (L : List Ba) : Int := if (openM (foldM L [])).2 = true then (openM (foldM L [])).1 else endE start L
theorem stable_spec (L : List Ba) (hL : ∀ b ∈ L, Fit b) (hn : L.length ≤ 1000) (start : Int) (H : Heap) :
  W n_fold_Stable [.int .i64 start, .list 7 (L.map Ba.V) .ro] H = some (.int .i64 (stableE start L), H) := by
 obtain ⟨N, t1⟩ := tfold_spec L (fun b hb => (hL b hb).ok) (fun b hb => by have := (rightE_small (hL b hb).right).1; omega) hn (hx H [])
 have t2 := fun N' => topen_spec (foldM L []) (pt H 1) (pt H 0) (hx H (mapB (foldM L []) :: tblB (pt H 0) :: N')) ⟨by rw [hx_get]; rfl⟩ ⟨by rw [hx_get]; rfl⟩
 have t3 := fun H => fend_spec L hL (by omega) start H
 unfold stableE
 have p1 : pt (hx H []) 1 = pt H 1 := by rw [pt_hx]; rfl
 have p0 : pt (hx H []) 0 = pt H 0 := by rw [pt_hx]; rfl
 rw [p1, p0, hx_hx, List.nil_append] at t1
 generalize openM (foldM L []) = s at *
 generalize mapB (foldM L []) = B at *
 obtain ⟨a, b⟩ := s
 refine W_fn rfl rfl ?_
 cases b with
 | true =>
  simp only [go_sem, c_fold_Stable, t1, t2, simprocAttr]
 | false =>
  simp only [go_sem, c_fold_Stable, t1, t2, t3, simprocAttr]
theorem eq_gt (x : Gt) : eqCells [.int .i64, .int .i64, .str, .str] [.int .i64 x.1, .int .i64 x.2.1, .str x.2.2.1, .str x.2.2.2] [.int .i64 x.1, .int .i64 x.2.1, .str x.2.2.1, .str x.2.2.2] = some true := by
 simp [eqCells]
theorem gots_loop (l : List Gt) (hn : l.length ≤ 1000000) (H : Heap) (r : List Gt) : ∀ (p : List Gt), l = p ++ r →
  loopA W loopW (.ghost (.kill k_ref14_Gots_0) l_ref14_Gots_0) [(0, .list 4 (l.map gV) .ro), (1, .list 4 (l.map gV) .ro), (12, .int .i64 (l.length : Nat)), (13, .int .i64 (p.length : Nat))] H = some (.exit 0, [], H) := by
 induction r with
 | nil =>
  intro p hp
  have h1 : ¬ ((p.length : Int) < (l.length : Int)) := by rw [hp]; simp
  refine loop_step l_ref14_Gots_0.eq_1 k_ref14_Gots_0.eq_1 (by kernel_rfl) ?_
  simp only [go_sem, h1, simprocAttr]
 | cons x r ih =>
  intro p hp
  have h1 : ((p.length : Int) < (l.length : Int)) := by rw [hp]; simp; omega
  have e0 : (0 : Int) ≤ (p.length : Int) := by omega
  have e7 : ((p.length : Nat) : Int).toNat = p.length := by omega
  have e1 : (l.map gV)[p.length]? = some (.agg [.int .i64 x.1, .int .i64 x.2.1, .str x.2.2.1, .str x.2.2.2]) := by rw [hp]; simp [gV]
  have hlen : l.length = p.length + (r.length + 1) := by rw [hp]; simp
  have e6 : IntKind.i64.wrap ((p.length : Int) + 1) = ((p.length + 1 : Nat) : Int) := by rw [wrap_id (by unfold I64; omega)]; omega
  have hq := eq_gt x
  have h2 := ih (p ++ [x]) (by rw [hp]; simp)
  simp only [List.length_append, List.length_cons, List.length_nil, Nat.zero_add] at h2
  refine loop_step l_ref14_Gots_0.eq_1 k_ref14_Gots_0.eq_1 (by kernel_rfl) ?_
  simp only [go_sem, h1, e0, e7, e1, hq, e6, simprocAttr]
  exact h2
theorem gots_self (l : List Gt) (hn : l.length ≤ 1000000) (H : Heap) : W n_ref14_Gots [.list 4 (l.map gV) .ro, .list 4 (l.map gV) .ro] H = some (.bool true, H) := by
 have h := gots_loop l hn H l [] rfl
 simp only [List.length_nil, Int.natCast_zero] at h
 refine W_fn0 rfl rfl ?_
 simp only [go_sem, trim_same, c_ref14_Gots, List.length_map, h, simprocAttr]
 first | done | rfl
def commL (top : Int) : List Ba → List Gt
 | [] => []
 | b :: l => (if b.txn = false ∨ keptQ b.prod l = true then recB b b.base top else []) ++ commL top l
theorem commL_len (top : Int) : ∀ (l : List Ba), (∀ b ∈ l, Fit b) → (commL top l).length ≤ 16 * l.length
 | [], _ => by simp [commL]
 | b :: l, h => by
  have h1 := commL_len top l (fun x hx => h x (List.mem_cons_of_mem _ hx))
  have h2 := recB_len b (h b List.mem_cons_self) b.base top
  unfold commL
  rw [List.length_append, List.length_cons]
  split
  ·omega
  ·simp only [List.length_nil]; omega
set_option maxHeartbeats 1000000 in
theorem comm_loop (L : List Ba) (hL : ∀ b ∈ L, Fit b) (hn : L.length ≤ 1000) (start top : Int) (H : Heap) (r : List Ba) : ∀ (p : List Ba) (out : List Gt) (fl : Fl) (N : Heap), L = p ++ r → out.length ≤ 16 * p.length → (fl = .own ∨ (fl = .full ∧ out = [])) →
  ∃ N' fl', loopA W loopW (.ghost (.kill k_fold_Committed_0) l_fold_Committed_0) [(0, .int .i64 start), (1, .list 7 (L.map Ba.V) .ro), (5, .int .i64 top), (6, .list 4 (out.map gV) fl), (12, .list 7 (L.map Ba.V) .ro), (13, .int .i64 (L.length : Nat)), (14, .int .i64 (p.length : Nat))] (hx H N) =
   some (.exit 0, [(6, .list 4 ((out ++ commL top r).map gV) fl')], hx H N') ∧ (fl' = .own ∨ (fl' = .full ∧ out ++ commL top r = [])) := by
 induction r with
 | nil =>
  intro p out fl N hp ho hfl
  rw [List.append_nil] at hp
  subst hp
  rw [show commL top [] = [] from rfl, List.append_nil]
  refine ⟨N, fl, ?_, hfl⟩
  have h1 : ¬ ((L.length : Int) < (L.length : Int)) := by omega
  refine loop_step l_fold_Committed_0.eq_1 k_fold_Committed_0.eq_1 (by kernel_rfl) ?_
  simp only [go_sem, h1, simprocAttr]
 | cons b r ih =>
  intro p out fl N hp ho hfl
  have hb := hL b (by rw [hp]; simp)
  have hlen : L.length = p.length + (r.length + 1) := by rw [hp]; simp
  have h1 : ((p.length : Int) < (L.length : Int)) := by omega
  have e0 : (0 : Int) ≤ (p.length : Int) := by omega
  have e7 : ((p.length : Nat) : Int).toNat = p.length := by omega
  have e1 : (L.map Ba.V)[p.length]? = some (.agg [.int .i64 b.base, .int .i64 b.prod, .int .i64 b.epoch, .int .i64 b.seq, .bool b.txn, .int .i64 b.mark, .list 2 (b.recs.map rcV) .ro]) := by rw [hp]; simp [Ba.V, Ba.cs]
  have e6 : IntKind.i64.wrap ((p.length : Int) + 1) = ((p.length + 1 : Nat) : Int) := by rw [wrap_id (by unfold I64; omega)]; omega
  have n1 : ∀ x : Box, (N ++ [x])[N.length]? = some x := fun x => by simp
  have n2 : ∀ x z : Box, (N ++ [x]).set N.length z = N ++ [z] := fun x z => by simp
  have g0 : (0 : Int) ≤ ((p.length + 1 : Nat) : Int) := by omega
  have g1 : ((p.length + 1 : Nat) : Int) ≤ (L.length : Int) := by omega
  have g2 : (p.length : Int) ≤ ((p.length + 1 : Nat) : Int) := by omega
  have g3 : ((p.length + 1 : Nat) : Int).toNat = p.length + 1 := by omega
  have d1 : (L.map Ba.V).drop (p.length + 1) = r.map Ba.V := by rw [hp, ← List.map_drop]; congr 1; simp [List.drop_append]
  have d2 : ((L.map Ba.V).take (p.length + 1)).drop p.length = [b.V] := by rw [hp, ← List.map_take, ← List.map_drop]; show _ = [b].map Ba.V; congr 1; simp [List.take_append]
  have sm := slM 7 (L.map Ba.V) .ro .i64 .i64 (p.length : Int) ((p.length + 1 : Nat) : Int) (by simp)
  have tk : ∀ H, W n_fold_kept [.agg [.int .i64 b.base, .int .i64 b.prod, .int .i64 b.epoch, .int .i64 b.seq, .bool b.txn, .int .i64 b.mark, .list 2 (b.recs.map rcV) .ro], .list 7 (r.map Ba.V) .ro] H = some (.bool (keptQ b.prod r), H) := fun H => kept_spec b r (by omega) H
  have tr : ∀ H, W n_fold_Records [.int .i64 start, .list 7 [b.V] .ro, .int .i64 b.base, .int .i64 top] H = some (.list 4 ((recordsL b.base top [b]).map gV) .full, H) := fun H => records_spec [b] (fun x hx => by rw [List.mem_singleton] at hx; rw [hx]; exact hb) (by simp) start b.base top H
  have hrl := recB_len b hb b.base top
  rw [show recordsL b.base top [b] = recB b b.base top by show recB b b.base top ++ [] = _; rw [List.append_nil]] at tr
  have key : ∀ out' fl', (out' = out ++ (if b.txn = false ∨ keptQ b.prod r = true then recB b b.base top else [])) → (fl' = .own ∨ (fl' = .full ∧ out' = [])) →
    ∃ N' fl'', loopA W loopW (.ghost (.kill k_fold_Committed_0) l_fold_Committed_0) [(0, .int .i64 start), (1, .list 7 (L.map Ba.V) .ro), (5, .int .i64 top), (6, .list 4 (out'.map gV) fl'), (12, .list 7 (L.map Ba.V) .ro), (13, .int .i64 (L.length : Nat)), (14, .int .i64 (p.length + 1 : Nat))] (hx H (N ++ [.cells b.cs])) =
     some (.exit 0, [(6, .list 4 ((out ++ commL top (b :: r)).map gV) fl'')], hx H N') ∧ (fl'' = .own ∨ (fl'' = .full ∧ out ++ commL top (b :: r) = [])) := by
   intro out' fl' ho' hfl'
   have hl' : out'.length ≤ 16 * (p ++ [b]).length := by
    rw [ho']; split <;> simp <;> omega
   obtain ⟨N', fl'', h, hh⟩ := ih (p ++ [b]) out' fl' (N ++ [.cells b.cs]) (by rw [hp]; simp) hl' hfl'
   have e : out' ++ commL top r = out ++ commL top (b :: r) := by
    rw [ho', List.append_assoc]; rfl
   rw [e] at h hh
   simp only [List.length_append, List.length_cons, List.length_nil, Nat.zero_add] at h
   exact ⟨N', fl'', h, hh⟩
  generalize commL top (b :: r) = R at *
  generalize hRB : recB b b.base top = RB at *
  have bb : (out.length + RB.length) * 48 ≤ maxBytes := by simp only [maxBytes]; omega
  have b0 : (0 + RB.length) * 48 ≤ maxBytes := by simp only [maxBytes]; omega
  have e8 : out.map gV ++ RB.map gV = (out ++ RB).map gV := by simp
  unfold Ba.cs at *
  by_cases c1 : b.txn = false
  ·rw [if_pos (.inl c1)] at key
   obtain ⟨N', fl'', h, hh⟩ := key _ .own rfl (.inl rfl)
   refine ⟨N', fl'', ?_, hh⟩
   refine loop_step l_fold_Committed_0.eq_1 k_fold_Committed_0.eq_1 (by kernel_rfl) ?_
   rcases hfl with rfl | ⟨rfl, rfl⟩
   ·simp only [go_sem, h1, e0, e7, e1, n1, n2, c1, e6, sm, g0, g1, g2, g3, d2, tr, List.length_map, apO, bb, e8, simprocAttr]
    rw [c1] at h
    exact h
   ·simp only [List.map_nil, List.nil_append] at *
    simp only [go_sem, h1, e0, e7, e1, n1, n2, c1, e6, sm, g0, g1, g2, g3, d2, tr, List.length_map, List.length_nil, apF, b0, List.nil_append, simprocAttr]
    rw [c1] at h
    exact h
  ·have c1' : b.txn = true := by simpa using c1
   by_cases c2 : keptQ b.prod r = true
   ·rw [if_pos (.inr c2)] at key
    obtain ⟨N', fl'', h, hh⟩ := key _ .own rfl (.inl rfl)
    refine ⟨N', fl'', ?_, hh⟩
    rw [c1'] at h tk
    rw [c2] at tk
    refine loop_step l_fold_Committed_0.eq_1 k_fold_Committed_0.eq_1 (by kernel_rfl) ?_
    rcases hfl with rfl | ⟨rfl, rfl⟩
    ·simp only [go_sem, h1, e0, e7, e1, n1, n2, c1', e6, slL, sm, g0, g1, g2, g3, d1, d2, tk, tr, List.length_map, apO, bb, e8, simprocAttr]
     exact h
    ·simp only [List.map_nil, List.nil_append] at *
     simp only [go_sem, h1, e0, e7, e1, n1, n2, c1', e6, slL, sm, g0, g1, g2, g3, d1, d2, tk, tr, List.length_map, List.length_nil, apF, b0, List.nil_append, simprocAttr]
     exact h
   ·have c2' : keptQ b.prod r = false := by simpa using c2
    rw [if_neg (fun h => by rcases h with h | h; exact c1 h; exact c2 h)] at key
    obtain ⟨N', fl'', h, hh⟩ := key out fl (by rw [List.append_nil]) hfl
    refine ⟨N', fl'', ?_, hh⟩
    rw [c1'] at h tk
    rw [c2'] at tk
    refine loop_step l_fold_Committed_0.eq_1 k_fold_Committed_0.eq_1 (by kernel_rfl) ?_
    simp only [go_sem, h1, e0, e7, e1, n1, n2, c1', e6, slL, g0, g1, g3, d1, tk, List.length_map, simprocAttr]
    exact h
theorem committed_spec (L : List Ba) (hL : ∀ b ∈ L, Fit b) (hn : L.length ≤ 1000) (start : Int) (H : Heap) :
  W n_fold_Committed [.int .i64 start, .list 7 (L.map Ba.V) .ro] H = some (.list 4 ((commL (stableE start L) L).map gV) .full, H) := by
 have ts := fun H => stable_spec L hL hn start H
 obtain ⟨N, fl, h, hf⟩ := comm_loop L hL hn start (stableE start L) H L [] [] .full [] rfl (by simp) (.inr ⟨rfl, rfl⟩)
 simp only [List.length_nil, Int.natCast_zero, List.map_nil, List.nil_append] at h hf
 have tc := fun H => clip_got ((commL (stableE start L) L).map gV) fl (by rcases hf with rfl | ⟨rfl, _⟩ <;> simp) H
 generalize stableE start L = top at *
 generalize commL top L = R at *
 refine W_fn rfl rfl ?_
 rcases hf with rfl | ⟨rfl, rfl⟩
 ·simp only [go_sem, c_fold_Committed, ts, List.length_map, h, tc, under_g, simprocAttr]
 ·simp only [List.map_nil] at h tc ⊢
  simp only [go_sem, c_fold_Committed, ts, List.length_map, h, tc, simprocAttr]
  first | done | rfl
def topE (start : Int) (L : List Ba) (only : Bool) : Int := if only = true then stableE start L else endE start L
def fRecs (lo top n : Int) (L : List Ba) : List Gt := (recordsL lo top L).take n.toNat
def fNext (lo top n : Int) (R : List Gt) : Int := if (R.length : Int) = n then (match R.getLast? with | some g => g.1 + 1 | none => 0) else mx lo top
theorem recordsL_len (lo hi : Int) : ∀ (L : List Ba), (∀ b ∈ L, Fit b) → (recordsL lo hi L).length ≤ 16 * L.length
 | [], _ => by simp [recordsL]
 | b :: L, h => by
  have h1 := recordsL_len lo hi L (fun x hx => h x (List.mem_cons_of_mem _ hx))
  have h2 := recB_len b (h b List.mem_cons_self) lo hi
  unfold recordsL
  rw [List.length_append, List.length_cons]; omega
theorem recsF_off (b : Ba) (lo hi : Int) : ∀ (rs : List Rc) (i : Int), ∀ g ∈ recsF b lo hi i rs, lo ≤ g.1 ∧ g.1 < hi ∧ b.base + i ≤ g.1 ∧ g.1 < b.base + i + rs.length
 | [], _, g, h => by cases h
 | r :: rs, i, g, h => by
  unfold recsF at h
  have ih := recsF_off b lo hi rs (i + 1) g
  have hl : ((r :: rs).length : Int) = rs.length + 1 := by simp
  rw [hl]
  split at h
  ·rename_i c
   rcases List.mem_cons.1 h with rfl | h
   ·simp only; omega
   ·have := ih h; omega
  ·have := ih h; omega
theorem records_off (lo hi : Int) : ∀ (L : List Ba), (∀ b ∈ L, Fit b) → ∀ g ∈ recordsL lo hi L, lo ≤ g.1 ∧ g.1 < hi ∧ I64 (g.1 + 1)
 | [], _, g, h => by cases h
 | b :: L, hL, g, h => by
  unfold recordsL at h
  rcases List.mem_append.1 h with h | h
  ·unfold recB at h
   split at h
   ·have h1 := recsF_off b lo hi b.recs 0 g h
    have h2 := (hL b List.mem_cons_self).base
    have h3 := (rightE_small (hL b List.mem_cons_self).right).1
    refine ⟨h1.1, h1.2.1, ?_⟩
    unfold I64; omega
   ·cases h
  ·exact records_off lo hi L (fun x hx => hL x (List.mem_cons_of_mem _ hx)) g h
set_option maxHeartbeats 2000000 in
theorem fetch_spec (L : List Ba) (hL : ∀ b ∈ L, Fit b) (hn : L.length ≤ 1000) (start lo n : Int) (only : Bool) (h1 : 1 ≤ n) (h2 : n ≤ 64) (h3 : start ≤ lo) (h4 : lo ≤ endE start L) (H : Heap) :
  ∃ D : List La, W n_fold_Fetch [.int .i64 start, .list 7 (L.map Ba.V) .ro, .int .i64 lo, .int .i64 n, .bool only] H =
   some (.tuple [.agg [.list 4 ((fRecs lo (topE start L only) n L).map gV) .ro, .list 3 (D.map laV) .ro, .int .i64 (fNext lo (topE start L only) n (fRecs lo (topE start L only) n L)), .int .i64 (stableE start L)], .int .i64 0], H) ∧
   D = if only = true then (abOf L [] []).filter (inR lo (fNext lo (topE start L only) n (fRecs lo (topE start L only) n L))) else [] := by
 have te := fun H => fend_spec L hL (by omega) start H
 have ts := fun H => stable_spec L hL hn start H
 have tr := fun H => records_spec L hL hn start lo (topE start L only) H
 have ho := records_off lo (topE start L only) L hL
 have hln := recordsL_len lo (topE start L only) L hL
 have c1 : ¬ n < 1 := by omega
 have c2 : ¬ n > 64 := by omega
 have c3 : ¬ lo < start := by omega
 have c4 : ¬ lo > endE start L := by omega
 have hR : ∃ R, fRecs lo (topE start L only) n L = R := ⟨_, rfl⟩
 obtain ⟨R, hR⟩ := hR
 rw [hR]
 unfold fRecs at hR
 have m1 : mn ((recordsL lo (topE start L only) L).length : Int) n = (R.length : Nat) := by
  rw [← hR, List.length_take]; unfold mn; split <;> omega
 have g0 : (0 : Int) ≤ (R.length : Nat) := by omega
 have g1 : ((R.length : Nat) : Int) ≤ ((recordsL lo (topE start L only) L).length : Nat) := by rw [← hR, List.length_take]; omega
 have g2 : ((R.length : Nat) : Int).toNat = R.length := by omega
 have g3 : ((recordsL lo (topE start L only) L).map gV).take R.length = R.map gV := by
  rw [← List.map_take]
  congr 1
  rw [← hR, List.length_take]
  by_cases hc : n.toNat ≤ (recordsL lo (topE start L only) L).length
  ·rw [Nat.min_eq_left hc]
  ·rw [Nat.min_eq_right (by omega), List.take_of_length_le (by omega), List.take_of_length_le (by omega)]
 have ho' : ∀ g ∈ R, I64 (g.1 + 1) := fun g hg => (ho g (by rw [← hR] at hg; exact List.mem_of_mem_take hg)).2.2
 have tc := fun H => clip_got (R.map gV) .ro (.inl rfl) H
 generalize recordsL lo (topE start L only) L = R0 at *
 have hRl : R.length ≤ 64 := by rw [← hR, List.length_take]; omega
 clear hR
 cases only with
 | false =>
  simp only [topE, Bool.false_eq_true, if_false] at *
  generalize endE start L = top at *
  generalize stableE start L = st at *
  unfold fNext
  by_cases c5 : (R.length : Int) = n
  ·rcases List.eq_nil_or_concat R with rfl | ⟨R', g, hg⟩
   ·simp at c5; omega
   ·rw [List.concat_eq_append] at hg
    have hgo := ho' g (by rw [hg]; simp)
    have hl : R.length = R'.length + 1 := by rw [hg]; simp
    have w1 : IntKind.i64.wrap ((R.length : Int) - 1) = ((R'.length : Nat) : Int) := by rw [wrap_id (by unfold I64; omega)]; omega
    have e0 : (0 : Int) ≤ ((R'.length : Nat) : Int) := by omega
    have e7 : ((R'.length : Nat) : Int).toNat = R'.length := by omega
    have e1 : (R.map gV)[R'.length]? = some (.agg [.int .i64 g.1, .int .i64 g.2.1, .str g.2.2.1, .str g.2.2.2]) := by rw [hg]; simp [gV]
    have w2 : IntKind.i64.wrap (g.1 + 1) = g.1 + 1 := wrap_id hgo
    have e9 : R.getLast? = some g := by rw [hg]; simp
    rw [if_pos c5, e9]
    refine ⟨[], ?_, rfl⟩
    ·refine W_fn rfl rfl ?_
     simp only [go_sem, c_fold_Fetch, te, ts, tr, tc, c1, c2, c3, c4, m1, slH, g0, g1, g2, g3, List.length_map, mm_mn, eq_true c5, w1, e0, e7, e1, w2, under_g, simprocAttr]
     first | done | rfl
  ·rw [if_neg c5]
   refine ⟨[], ?_, rfl⟩
   ·refine W_fn rfl rfl ?_
    simp only [go_sem, c_fold_Fetch, te, ts, tr, tc, c1, c2, c3, c4, m1, slH, g0, g1, g2, g3, List.length_map, mm_mn, c5, under_g, simprocAttr]
    first | done | rfl
 | true =>
  simp only [topE, if_true] at *
  generalize endE start L = top at *
  generalize stableE start L = st at *
  unfold fNext
  by_cases c5 : (R.length : Int) = n
  ·rcases List.eq_nil_or_concat R with rfl | ⟨R', g, hg⟩
   ·simp at c5; omega
   ·rw [List.concat_eq_append] at hg
    have hgo := ho' g (by rw [hg]; simp)
    have hl : R.length = R'.length + 1 := by rw [hg]; simp
    have w1 : IntKind.i64.wrap ((R.length : Int) - 1) = ((R'.length : Nat) : Int) := by rw [wrap_id (by unfold I64; omega)]; omega
    have e0 : (0 : Int) ≤ ((R'.length : Nat) : Int) := by omega
    have e7 : ((R'.length : Nat) : Int).toNat = R'.length := by omega
    have e1 : (R.map gV)[R'.length]? = some (.agg [.int .i64 g.1, .int .i64 g.2.1, .str g.2.2.1, .str g.2.2.2]) := by rw [hg]; simp [gV]
    have w2 : IntKind.i64.wrap (g.1 + 1) = g.1 + 1 := wrap_id hgo
    have e9 : R.getLast? = some g := by rw [hg]; simp
    rw [if_pos c5, e9]
    obtain ⟨N, fl, ta, hfl, hal⟩ := abof_spec L (fun b hb => (hL b hb).ok) (fun b hb => by have := (rightE_small (hL b hb).right).1; omega) hn (hx H [.cells [.list 4 [] .full, .list 3 [] .full, .int .i64 0, .int .i64 0], .cells [.list 4 (R.map gV) .full, .list 3 [] .full, .int .i64 (g.1 + 1), .int .i64 st]])
    obtain ⟨f, tw, hf⟩ := abwithin_spec (abOf L [] []) (by omega) fl hfl lo (g.1 + 1) (pt H 2) (hx H (.cells [.list 4 [] .full, .list 3 [] .full, .int .i64 0, .int .i64 0] :: .cells [.list 4 (R.map gV) .full, .list 3 [] .full, .int .i64 (g.1 + 1), .int .i64 st] :: rwB (abOf L [] []) fl :: N)) ⟨by rw [hx_get]; rfl⟩
    simp only [hx_set, List.set_cons_succ, List.set_cons_zero] at tw
    refine ⟨(abOf L [] []).filter (inR lo (g.1 + 1)), ?_, rfl⟩
    have hlen2 : ((abOf L [] []).filter (inR lo (g.1 + 1))).length ≤ 1000 := Nat.le_trans (List.length_filter_le _ _) (by omega)
    generalize (abOf L [] []).filter (inR lo (g.1 + 1)) = D at *
    generalize rwB (abOf L [] []) fl = B at *
    generalize rwB (abOf L [] []) .uniq = B' at *
    ·refine W_fn rfl rfl ?_
     rcases hf with rfl | ⟨rfl, rfl⟩
     ·simp only [go_sem, c_fold_Fetch, te, ts, tr, tc, c1, c2, c3, c4, m1, slH, g0, g1, g2, g3, List.length_map, mm_mn, eq_true c5, w1, e0, e7, e1, w2, ta, tw, under_g, under_la, simprocAttr]
      first | done | rfl
     ·simp only [List.map_nil] at tw
      simp only [go_sem, c_fold_Fetch, te, ts, tr, tc, c1, c2, c3, c4, m1, slH, g0, g1, g2, g3, List.length_map, mm_mn, eq_true c5, w1, e0, e7, e1, w2, ta, tw, under_g, simprocAttr]
  ·rw [if_neg c5]
   obtain ⟨N, fl, ta, hfl, hal⟩ := abof_spec L (fun b hb => (hL b hb).ok) (fun b hb => by have := (rightE_small (hL b hb).right).1; omega) hn (hx H [.cells [.list 4 [] .full, .list 3 [] .full, .int .i64 0, .int .i64 0], .cells [.list 4 (R.map gV) .full, .list 3 [] .full, .int .i64 (mx lo st), .int .i64 st]])
   obtain ⟨f, tw, hf⟩ := abwithin_spec (abOf L [] []) (by omega) fl hfl lo (mx lo st) (pt H 2) (hx H (.cells [.list 4 [] .full, .list 3 [] .full, .int .i64 0, .int .i64 0] :: .cells [.list 4 (R.map gV) .full, .list 3 [] .full, .int .i64 (mx lo st), .int .i64 st] :: rwB (abOf L [] []) fl :: N)) ⟨by rw [hx_get]; rfl⟩
   simp only [hx_set, List.set_cons_succ, List.set_cons_zero] at tw
   refine ⟨(abOf L [] []).filter (inR lo (mx lo st)), ?_, rfl⟩
   have hlen2 : ((abOf L [] []).filter (inR lo (mx lo st))).length ≤ 1000 := Nat.le_trans (List.length_filter_le _ _) (by omega)
   generalize (abOf L [] []).filter (inR lo (mx lo st)) = D at *
   generalize rwB (abOf L [] []) fl = B at *
   generalize rwB (abOf L [] []) .uniq = B' at *
   ·refine W_fn rfl rfl ?_
    rcases hf with rfl | ⟨rfl, rfl⟩
    ·simp only [go_sem, c_fold_Fetch, te, ts, tr, tc, c1, c2, c3, c4, m1, slH, g0, g1, g2, g3, List.length_map, mm_mn, c5, ta, tw, under_g, under_la, simprocAttr]
     first | done | rfl
    ·simp only [List.map_nil] at tw
     simp only [go_sem, c_fold_Fetch, te, ts, tr, tc, c1, c2, c3, c4, m1, slH, g0, g1, g2, g3, List.length_map, mm_mn, c5, ta, tw, under_g, simprocAttr]
def RowC : Int → List Ba → Prop
 | _, [] => True
 | s, b :: l => b.base = s ∧ RowC (s + countE b) l
theorem endE_nil (s : Int) : endE s [] = s := rfl
theorem endE_cons (s : Int) (b : Ba) (l : List Ba) (h : b.base = s) : endE s (b :: l) = endE (s + countE b) l := by
 unfold endE
 cases l with
 | nil => simp [h]
 | cons c l =>
  obtain ⟨x, hx⟩ : ∃ x, (c :: l).getLast? = some x := ⟨_, List.getLast?_eq_some_getLast (by simp)⟩
  rw [List.getLast?_cons_cons, hx]
theorem RowC.snoc : ∀ {s : Int} {l : List Ba} {b : Ba}, RowC s l → b.base = endE s l → RowC s (l ++ [b])
 | s, [], b, _, h => ⟨h, trivial⟩
 | s, c :: l, b, h, k => ⟨h.1, RowC.snoc h.2 (by rw [k, endE_cons s c l h.1])⟩
theorem prodL_row {cap start L b} (h : RowC start L) : RowC start (prodL cap start L b) := by
 unfold prodL
 split
 ·exact h.snoc rfl
 ·exact h
theorem markL_row {cap start L p e m} (h : RowC start L) : RowC start (markL cap start L p e m) := by
 unfold markL
 split
 ·exact h.snoc rfl
 ·exact h
theorem rowStep_row {l cap start s} (h : RowC start s.L) : RowC start (rowStep l cap start s).L := by
 unfold rowStep
 simp only
 split
 ·exact prodL_row h
 ·exact markL_row h
theorem rowGo_row {l : List Int} {cap start : Int} {most : Nat} : ∀ (k : Nat) (s : RS), RowC start s.L → RowC start (rowGo l cap start most k s).L
 | 0, _, h => h
 | k + 1, s, h => by
  unfold rowGo
  split
  ·exact rowGo_row k _ (rowStep_row h)
  ·exact h
theorem row_rowC (l : List Int) (start : Int) (most : Nat) : RowC start (rowOf l start most) := rowGo_row _ _ trivial
theorem countE_pos {b : Ba} (h : Fit b) : 1 ≤ countE b := by
 have hr := h.right
 unfold countE
 split
 ·rename_i hm
  unfold rightE at hr
  split at hr
  ·cases hr
  ·first | rw [if_pos hm] at hr | skip
   unfold dataE at hr
   split at hr
   ·cases hr
   ·split at hr
    ·cases hr
    ·omega
 ·exact Int.le_refl _
theorem RowC.left : ∀ {s : Int} {A B : List Ba}, RowC s (A ++ B) → RowC s A
 | _, [], _, _ => trivial
 | _, b :: A, B, h => ⟨h.1, RowC.left h.2⟩
structure OIs (s : Int) (O : Opn) : Prop where
 pos : 0 ≤ s
 lo : ∀ id, -1 ≤ O id
 hi : ∀ id, O id < s
 inj : ∀ id id', O id = O id' → 0 ≤ O id → id = id'
theorem OIs.nil {s : Int} (h : 0 ≤ s) : OIs s (fun _ => -1) := ⟨h, fun _ => Int.le_refl _, fun _ => by show (-1 : Int) < s; omega, fun _ _ _ h => by have : (0 : Int) ≤ -1 := h; omega⟩
theorem stepO_cases (O : Opn) (b : Ba) (id : Int) : stepO O b id = O id ∨ (id = b.prod ∧ b.mark ≠ 0 ∧ stepO O b id = -1) ∨ (id = b.prod ∧ 0 ≤ b.prod ∧ O id < 0 ∧ b.txn = true ∧ b.mark = 0 ∧ stepO O b id = b.base) := by
 unfold stepO
 by_cases c : id = b.prod ∧ 0 ≤ b.prod
 ·rw [if_pos c]
  by_cases c2 : b.mark ≠ 0
  ·rw [if_pos c2]; exact .inr (.inl ⟨c.1, c2, rfl⟩)
  ·rw [if_neg c2]
   by_cases c3 : b.txn = true ∧ O id < 0
   ·rw [if_pos c3]; exact .inr (.inr ⟨c.1, c.2, c3.2, c3.1, by omega, rfl⟩)
   ·rw [if_neg c3]; exact .inl rfl
 ·rw [if_neg c]; exact .inl rfl
theorem OIs.step {s O b} (h : OIs s O) (hb : Fit b) (hs : b.base = s) : OIs (s + countE b) (stepO O b) where
 pos := by have := h.pos; have := countE_pos hb; omega
 lo := fun id => by
  have := h.lo id
  have := h.pos
  rcases stepO_cases O b id with e | ⟨_, _, e⟩ | ⟨_, _, _, _, _, e⟩ <;> omega
 hi := fun id => by
  have := h.hi id
  have := h.pos
  have := countE_pos hb
  rcases stepO_cases O b id with e | ⟨_, _, e⟩ | ⟨_, _, _, _, _, e⟩ <;> omega
 inj := fun id id' he h0 => by
  have h1 := h.hi id
  have h2 := h.hi id'
  rcases stepO_cases O b id with e | ⟨_, _, e⟩ | ⟨i1, _, _, _, _, e⟩ <;> rcases stepO_cases O b id' with e' | ⟨_, _, e'⟩ | ⟨i2, _, _, _, _, e'⟩
  ·exact h.inj id id' (by omega) (by omega)
  ·omega
  ·omega
  ·omega
  ·omega
  ·omega
  ·omega
  ·omega
  ·omega
theorem OIs.fold : ∀ {L : List Ba} {s : Int} {O : Opn}, OIs s O → (∀ b ∈ L, Fit b) → RowC s L → OIs (endE s L) (foldO L O)
 | [], s, O, h, _, _ => h
 | b :: L, s, O, h, hL, hr => by
  rw [endE_cons s b L hr.1]
  exact OIs.fold (h.step (hL b List.mem_cons_self) hr.1) (fun x hx => hL x (List.mem_cons_of_mem _ hx)) hr.2
theorem endE_le : ∀ {L : List Ba} {s : Int}, (∀ b ∈ L, Fit b) → RowC s L → s ≤ endE s L
 | [], s, _, _ => Int.le_refl _
 | b :: L, s, hL, hr => by
  rw [endE_cons s b L hr.1]
  have := endE_le (fun x hx => hL x (List.mem_cons_of_mem _ hx)) hr.2
  have := countE_pos (hL b List.mem_cons_self)
  omega
theorem endE_bound : ∀ {L : List Ba} {s : Int}, (∀ b ∈ L, Fit b) → RowC s L → endE s L ≤ s + 16 * L.length
 | [], s, _, _ => by simp [endE_nil]
 | b :: L, s, hL, hr => by
  rw [endE_cons s b L hr.1]
  have := endE_bound (fun x hx => hL x (List.mem_cons_of_mem _ hx)) hr.2
  have := (hL b List.mem_cons_self).count
  simp only [List.length_cons]; omega
theorem RowC.app : ∀ {A B : List Ba} {s : Int}, RowC s (A ++ B) → RowC (endE s A) B ∧ endE s (A ++ B) = endE (endE s A) B
 | [], B, s, h => ⟨h, rfl⟩
 | b :: A, B, s, h => by
  have ih := RowC.app (A := A) h.2
  rw [List.cons_append, endE_cons s b A h.1, endE_cons s b (A ++ B) h.1]
  exact ih
theorem later : ∀ {L : List Ba} {s : Int} {O : Opn}, (∀ b ∈ L, Fit b) → RowC s L → ∀ id, 0 ≤ foldO L O id → foldO L O id = O id ∨ s ≤ foldO L O id
 | [], s, O, _, _, id, _ => .inl rfl
 | b :: L, s, O, hL, hr, id, h => by
  have hc := countE_pos (hL b List.mem_cons_self)
  have hb := hr.1
  rcases later (O := stepO O b) (fun x hx => hL x (List.mem_cons_of_mem _ hx)) hr.2 id h with e | e
  ·have h' : 0 ≤ foldO L (stepO O b) id := h
   rw [e] at h'
   show foldO L (stepO O b) id = O id ∨ s ≤ foldO L (stepO O b) id
   rw [e]
   rcases stepO_cases O b id with e' | ⟨_, _, e'⟩ | ⟨_, _, _, _, _, e'⟩
   ·exact .inl e'
   ·omega
   ·exact .inr (by omega)
  ·have e : s + countE b ≤ foldO L (stepO O b) id := e
   show foldO L (stepO O b) id = O id ∨ s ≤ foldO L (stepO O b) id
   exact .inr (by omega)
def Stab (s : Int) (O : Opn) (v : Int) : Prop := (v = s ∧ ∀ id, O id < 0) ∨ (0 ≤ v ∧ (∃ id, O id = v) ∧ ∀ id, 0 ≤ O id → v ≤ O id)
theorem stable_stab (start : Int) (L : List Ba) (hL : ∀ b ∈ L, Fit b) : Stab (endE start L) (opens L) (stableE start L) := by
 have h := open_least L hL
 unfold stableE
 rcases h with ⟨h1, h2, h3, h4⟩ | ⟨h1, h2⟩
 ·rw [if_pos h1]; exact .inr ⟨h2, h3, h4⟩
 ·rw [h1, if_neg (by decide)]; exact .inl ⟨rfl, h2⟩
theorem Stab.le_end {s O v} (h : Stab s O v) (hO : OIs s O) : v ≤ s := by
 rcases h with ⟨h, _⟩ | ⟨_, ⟨id, h⟩, _⟩
 ·omega
 ·have := hO.hi id; omega
theorem Stab.mono {s O v s' O' v'} (h : Stab s O v) (hO : OIs s O) (h' : Stab s' O' v') (hs : s ≤ s') (hl : ∀ id, 0 ≤ O' id → O' id = O id ∨ s ≤ O' id) : v ≤ v' := by
 have hv := h.le_end hO
 rcases h' with ⟨h1, _⟩ | ⟨h1, ⟨id, h2⟩, _⟩
 ·omega
 ·rcases hl id (by omega) with e | e
  ·rcases h with ⟨g1, g2⟩ | ⟨_, _, g3⟩
   ·have := g2 id; omega
   ·have := g3 id (by omega); omega
  ·omega
theorem foldO_app (A B : List Ba) (O : Opn) : foldO (A ++ B) O = foldO B (foldO A O) := by unfold foldO; rw [List.foldl_append]
theorem stable_mono (A B : List Ba) (start : Int) (h0 : 0 ≤ start) (hf : ∀ b ∈ A ++ B, Fit b) (hr : RowC start (A ++ B)) : stableE start A ≤ stableE start (A ++ B) := by
 have hA : ∀ b ∈ A, Fit b := fun b hb => hf b (List.mem_append.2 (.inl hb))
 have hB : ∀ b ∈ B, Fit b := fun b hb => hf b (List.mem_append.2 (.inr hb))
 have h1 := stable_stab start A hA
 have h2 := stable_stab start (A ++ B) hf
 have hO : OIs (endE start A) (opens A) := (OIs.nil h0).fold hA hr.left
 have ha := RowC.app hr
 refine h1.mono hO h2 (by rw [ha.2]; exact endE_le hB ha.1) ?_
 intro id h
 rw [show opens (A ++ B) = foldO B (opens A) from foldO_app A B _] at h ⊢
 exact later hB ha.1 id h
theorem keptQ_app (p : Int) : ∀ (A B : List Ba), (∃ x ∈ A, x.mark ≠ 0 ∧ x.prod = p) → keptQ p (A ++ B) = keptQ p A
 | [], B, h => by obtain ⟨x, hx, _⟩ := h; cases hx
 | a :: A, B, h => by
  rw [List.cons_append]
  unfold keptQ
  by_cases c : a.mark ≠ 0 ∧ a.prod = p
  ·rw [if_pos c, if_pos c]
  ·rw [if_neg c, if_neg c]
   refine keptQ_app p A B ?_
   obtain ⟨x, hx, h1⟩ := h
   rcases List.mem_cons.1 hx with rfl | hx
   ·exact absurd h1 c
   ·exact ⟨x, hx, h1⟩
theorem open_stays (p : Int) : ∀ (A : List Ba) (O : Opn), (¬ ∃ x ∈ A, x.mark ≠ 0 ∧ x.prod = p) → 0 ≤ O p → foldO A O p = O p
 | [], O, _, _ => rfl
 | a :: A, O, h, h0 => by
  have e : stepO O a p = O p := by
   rcases stepO_cases O a p with e | ⟨e1, e2, _⟩ | ⟨_, _, e3, _, _, _⟩
   ·exact e
   ·exact absurd ⟨a, List.mem_cons_self, e2, e1.symm⟩ h
   ·omega
  have := open_stays p A (stepO O a) (fun ⟨x, hx, hh⟩ => h ⟨x, List.mem_cons_of_mem _ hx, hh⟩) (by rw [e]; exact h0)
  rw [e] at this
  exact this
theorem recsF_all (b : Ba) (lo hi hi' : Int) : ∀ (rs : List Rc) (i : Int), b.base + i + rs.length ≤ hi → b.base + i + rs.length ≤ hi' → recsF b lo hi i rs = recsF b lo hi' i rs
 | [], _, _, _ => rfl
 | r :: rs, i, h, h' => by
  have hl : ((r :: rs).length : Int) = rs.length + 1 := by simp
  rw [hl] at h h'
  have ih := recsF_all b lo hi hi' rs (i + 1) (by omega) (by omega)
  unfold recsF
  rw [ih]
  have e1 : b.base + i < hi := by omega
  have e2 : b.base + i < hi' := by omega
  simp only [e1, e2, and_true]
theorem recsF_none (b : Ba) (lo hi : Int) : ∀ (rs : List Rc) (i : Int), hi ≤ b.base + i → recsF b lo hi i rs = []
 | [], _, _ => rfl
 | r :: rs, i, h => by
  unfold recsF
  rw [if_neg (by omega)]
  exact recsF_none b lo hi rs (i + 1) (by omega)
theorem recB_none (b : Ba) (lo hi : Int) (h : hi ≤ b.base) : recB b lo hi = [] := by
 unfold recB
 split
 ·exact recsF_none b lo hi _ 0 (by omega)
 ·rfl
theorem commL_none (v : Int) : ∀ (A : List Ba) (s : Int), (∀ b ∈ A, Fit b) → RowC s A → v ≤ s → commL v A = []
 | [], _, _, _, _ => rfl
 | b :: A, s, hA, hr, h => by
  have hc := countE_pos (hA b List.mem_cons_self)
  have hb := hr.1
  unfold commL
  rw [recB_none b b.base v (by omega), commL_none v A _ (fun x hx => hA x (List.mem_cons_of_mem _ hx)) hr.2 (by omega)]
  simp
theorem noneB_txn {b : Ba} (hb : Fit b) (h : b.prod < 0) : b.txn = false := by
 have hr := hb.right
 unfold rightE at hr
 split at hr
 ·cases hr
 have hnm : namedB b = false := by unfold namedB; simp; intro h'; omega
 split at hr
 ·unfold dataE at hr
  cases hn : noneB b with
  | true => unfold noneB at hn; simp at hn; exact hn.2.2.2
  | false => simp [hn, hnm] at hr
 ·unfold markE at hr
  simp [hnm] at hr
theorem comm_prefix (B : List Ba) : ∀ (A : List Ba) (s : Int) (O : Opn) (v v' : Int), (∀ b ∈ A, Fit b) → RowC s A → OIs s O → Stab (endE s A) (foldO A O) v → v ≤ v' → commL v A <+: commL v' (A ++ B)
 | [], s, O, v, v', _, _, _, _, _ => List.nil_prefix
 | b :: A, s, O, v, v', hA, hr, hO, hst, hv => by
  have hb := hA b List.mem_cons_self
  have hA' : ∀ x ∈ A, Fit x := fun x hx => hA x (List.mem_cons_of_mem _ hx)
  have hc := countE_pos hb
  have hbs := hr.1
  have hO1 := hO.step hb hbs
  have hst' : Stab (endE (s + countE b) A) (foldO A (stepO O b)) v := by
   rw [← endE_cons s b A hbs]; exact hst
  have ih := comm_prefix B A (s + countE b) (stepO O b) v v' hA' hr.2 hO1 hst' hv
  have hend := endE_le hA' hr.2
  rw [List.cons_append]
  by_cases hm : b.mark = 0
  ·have hcn : countE b = (b.recs.length : Int) := by unfold countE; rw [if_pos hm]
   by_cases hlt : v < s + countE b
   ·-- not whole below: nothing of it, nothing behind it
    have hvs : v ≤ s := by
     rcases hst' with ⟨h1, _⟩ | ⟨h0, ⟨id, h1⟩, _⟩
     ·omega
     ·rcases later (O := stepO O b) hA' hr.2 id (by omega) with e | e
      ·rcases stepO_cases O b id with e' | ⟨_, _, e'⟩ | ⟨_, _, _, _, _, e'⟩
       ·have := hO.hi id; omega
       ·omega
       ·omega
      ·omega
    rw [commL_none v (b :: A) s hA hr hvs]
    exact List.nil_prefix
   ·have hre : recB b b.base v' = recB b b.base v := by
     unfold recB
     rw [if_pos hm, if_pos hm]
     exact recsF_all b b.base v' v b.recs 0 (by omega) (by omega)
    have hk : (b.txn = false ∨ keptQ b.prod (A ++ B) = true) ↔ (b.txn = false ∨ keptQ b.prod A = true) := by
     by_cases ht : b.txn = false
     ·simp [ht]
     ·by_cases hex : ∃ x ∈ A, x.mark ≠ 0 ∧ x.prod = b.prod
      ·rw [keptQ_app b.prod A B hex]
      ·exfalso
       have htx : b.txn = true := by simpa using ht
       have hp : 0 ≤ b.prod := by
        by_cases hp : b.prod < 0
        ·rw [noneB_txn hb hp] at htx; cases htx
        ·omega
       have ho : 0 ≤ stepO O b b.prod ∧ stepO O b b.prod ≤ s := by
        unfold stepO
        rw [if_pos ⟨rfl, hp⟩, if_neg (by omega)]
        by_cases h0 : O b.prod < 0
        ·rw [if_pos ⟨htx, h0⟩]; have := hO.pos; omega
        ·rw [if_neg (by omega)]; have := hO.hi b.prod; omega
       have hst2 := open_stays b.prod A (stepO O b) hex ho.1
       rcases hst' with ⟨_, h1⟩ | ⟨_, _, h1⟩
       ·have := h1 b.prod; omega
       ·have := h1 b.prod (by omega); omega
    unfold commL
    rw [hre]
    by_cases hcc : b.txn = false ∨ keptQ b.prod A = true
    ·rw [if_pos hcc, if_pos (hk.2 hcc)]
     exact (List.prefix_append_right_inj _).2 ih
    ·rw [if_neg hcc, if_neg (fun h => hcc (hk.1 h))]
     exact ih
  ·have e : ∀ w, recB b b.base w = [] := fun w => by unfold recB; rw [if_neg hm]
   unfold commL
   rw [e, e]
   simpa using ih
theorem comm_take (L : List Ba) (k : Nat) (hf : ∀ b ∈ L, Fit b) (hr : RowC 0 L) : commL (stableE 0 (L.take k)) (L.take k) <+: commL (stableE 0 L) L := by
 have hL := List.take_append_drop k L
 have hA : ∀ b ∈ L.take k, Fit b := fun b hb => hf b (List.mem_of_mem_take hb)
 have hrA : RowC 0 (L.take k) := by rw [← hL] at hr; exact hr.left
 have hm := stable_mono (L.take k) (L.drop k) 0 (by decide) (by rw [hL]; exact hf) (by rw [hL]; exact hr)
 rw [hL] at hm
 have := comm_prefix (L.drop k) (L.take k) 0 (fun _ => -1) _ _ hA hrA (OIs.nil (by decide)) (stable_stab 0 _ hA) hm
 rw [hL] at this
 exact this
abbrev Rise (l : List Gt) : Prop := l.Pairwise (fun x y => x.1 < y.1)
theorem recsF_rise (b : Ba) (lo hi : Int) : ∀ (rs : List Rc) (i : Int), Rise (recsF b lo hi i rs)
 | [], _ => List.Pairwise.nil
 | r :: rs, i => by
  have ih := recsF_rise b lo hi rs (i + 1)
  have ho := recsF_off b lo hi rs (i + 1)
  unfold recsF
  split
  ·refine List.pairwise_cons.2 ⟨fun g hg => ?_, ih⟩
   have := ho g hg
   simp only; omega
  ·exact ih
theorem records_rise (lo hi : Int) : ∀ (L : List Ba) (s : Int), (∀ b ∈ L, Fit b) → RowC s L → Rise (recordsL lo hi L) ∧ ∀ g ∈ recordsL lo hi L, s ≤ g.1
 | [], _, _, _ => ⟨List.Pairwise.nil, by simp [recordsL]⟩
 | b :: L, s, hL, hr => by
  have ih := records_rise lo hi L (s + countE b) (fun x hx => hL x (List.mem_cons_of_mem _ hx)) hr.2
  have hc := countE_pos (hL b List.mem_cons_self)
  have hb := hr.1
  unfold recordsL recB
  by_cases hm : b.mark = 0
  ·have hcn : countE b = (b.recs.length : Int) := by unfold countE; rw [if_pos hm]
   rw [if_pos hm]
   have ho := recsF_off b lo hi b.recs 0
   refine ⟨List.pairwise_append.2 ⟨recsF_rise b lo hi _ 0, ih.1, fun x hx y hy => ?_⟩, fun g hg => ?_⟩
   ·have h1 := ho x hx; have h2 := ih.2 y hy; omega
   ·rcases List.mem_append.1 hg with h | h
    ·have h1 := ho g h; omega
    ·have h2 := ih.2 g h; omega
  ·rw [if_neg hm, List.nil_append]
   exact ⟨ih.1, fun g hg => by have := ih.2 g hg; omega⟩
def idxI (o : Option Nat) : Int := match o with | some i => (i : Int) | none => -1
theorem gthv0 (Xs : List AVal) (e : Env) (H : Heap) (h1 : Env.get e 0 = .list 4 Xs .uniq) :
  agh (.thaw 0) e (hx H []) = some (e.put 0 (.lbox (pt H 0)), hx H [.arr 4 Xs]) := by
 have hl : (hx H []).length = pt H 0 := hx_len H []
 simp only [agh, h1, hl, hx_app, List.nil_append]
theorem gbkv0 (Xs : List AVal) (e : Env) (H N : Heap) (h1 : Env.get e 0 = .lbox (pt H 0)) :
  agh (.back 0) e (hx H (.arr 4 Xs :: N)) = some (e.put 0 (.list 4 Xs .uniq), hx H (.dead :: N)) := by
 have g : (hx H (.arr 4 Xs :: N))[pt H 0]? = some (.arr 4 Xs) := by rw [hx_get]; rfl
 simp only [agh, h1, g, hx_set, List.set_cons_zero]
theorem gindexfunc_loop (p : Gt → Bool) (g : FuncId) (kc k : Nat) (H : Heap) (l : List Gt) (hn : l.length ≤ 1000000) (hk : H[k]? = some (.arr 4 (l.map gV)))
  (hp : ∀ (N : Heap) (x : Gt), W g [.agg [.int .i64 x.1, .int .i64 x.2.1, .str x.2.2.1, .str x.2.2.2], .ptr kc 0] (hx H N) = some (.bool (p x), hx H N)) (r : List Gt) : ∀ (q : List Gt), l = q ++ r →
  loopA W loopW (.ghost (.kill k_slices_IndexFunc_api_Got_api_Got__0) l_slices_IndexFunc_api_Got_api_Got__0) [(0, .lbox k), (1, .fn g [] [.ptr kc 0]), (7, .int .i64 (l.length : Nat)), (8, .int .i64 (q.length : Nat))] (hx H []) =
   match r.findIdx? p with
   | some i => some (.ret, [(4, .int .i64 ((q.length + i : Nat) : Int))], hx H [])
   | none => some (.exit 0, [], hx H []) := by
 have gk := hx_old hk []
 induction r with
 | nil =>
  intro q hq
  rw [List.append_nil] at hq
  subst hq
  have h1 : ¬ ((l.length : Int) < (l.length : Int)) := by omega
  rw [List.findIdx?_nil]
  simp only
  refine loop_step l_slices_IndexFunc_api_Got_api_Got__0.eq_1 k_slices_IndexFunc_api_Got_api_Got__0.eq_1 (by kernel_rfl) ?_
  simp only [go_sem, h1, simprocAttr]
 | cons x r ih =>
  intro q hq
  have hlen : l.length = q.length + (r.length + 1) := by rw [hq]; simp
  have h1 : ((q.length : Int) < (l.length : Int)) := by omega
  have e0 : (0 : Int) ≤ (q.length : Int) := by omega
  have e7 : ((q.length : Nat) : Int).toNat = q.length := by omega
  have e1 : (l.map gV)[q.length]? = some (.agg [.int .i64 x.1, .int .i64 x.2.1, .str x.2.2.1, .str x.2.2.2]) := by rw [hq]; simp [gV]
  have e6 : IntKind.i64.wrap ((q.length : Int) + 1) = ((q.length + 1 : Nat) : Int) := by rw [wrap_id (by unfold I64; omega)]; omega
  have hpx := hp [] x
  rw [List.findIdx?_cons]
  cases hc : p x with
  | true =>
   rw [hc] at hpx
   simp only [if_true, Nat.add_zero]
   refine loop_step l_slices_IndexFunc_api_Got_api_Got__0.eq_1 k_slices_IndexFunc_api_Got_api_Got__0.eq_1 (by kernel_rfl) ?_
   simp only [go_sem, h1, e0, e7, gk, List.length_map, e1, hpx, simprocAttr]
  | false =>
   rw [hc] at hpx
   have h2 := ih (q ++ [x]) (by rw [hq]; simp)
   simp only [List.length_append, List.length_cons, List.length_nil, Nat.zero_add] at h2
   simp only [Bool.false_eq_true, if_false]
   cases hf : r.findIdx? p with
   | none =>
    rw [hf] at h2
    simp only [Option.map_none] at h2 ⊢
    refine loop_step l_slices_IndexFunc_api_Got_api_Got__0.eq_1 k_slices_IndexFunc_api_Got_api_Got__0.eq_1 (by kernel_rfl) ?_
    simp only [go_sem, h1, e0, e7, gk, List.length_map, e1, hpx, e6, simprocAttr]
    exact h2
   | some i =>
    rw [hf] at h2
    simp only [Option.map_some] at h2 ⊢
    rw [show q.length + (i + 1) = q.length + 1 + i by omega]
    refine loop_step l_slices_IndexFunc_api_Got_api_Got__0.eq_1 k_slices_IndexFunc_api_Got_api_Got__0.eq_1 (by kernel_rfl) ?_
    simp only [go_sem, h1, e0, e7, gk, List.length_map, e1, hpx, e6, simprocAttr]
    exact h2
theorem gindexfunc_spec (p : Gt → Bool) (g : FuncId) (kc k : Nat) (H : Heap) (l : List Gt) (hn : l.length ≤ 1000000) (hk : H[k]? = some (.arr 4 (l.map gV)))
  (hp : ∀ (N : Heap) (x : Gt), W g [.agg [.int .i64 x.1, .int .i64 x.2.1, .str x.2.2.1, .str x.2.2.2], .ptr kc 0] (hx H N) = some (.bool (p x), hx H N)) :
  W n_slices_IndexFunc_api_Got_api_Got_ [.lbox k, .fn g [] [.ptr kc 0]] H = some (.int .i64 (idxI (l.findIdx? p)), H) := by
 have h := gindexfunc_loop p g kc k H l hn hk hp l [] rfl
 have gk := hx_old hk []
 simp only [List.length_nil, Int.natCast_zero, Nat.zero_add] at h
 refine W_fn rfl rfl ?_
 unfold idxI
 cases hf : l.findIdx? p with
 | none =>
  rw [hf] at h
  simp only at h ⊢
  simp only [go_sem, c_slices_IndexFunc_api_Got_api_Got_, gk, List.length_map, h, simprocAttr]
 | some i =>
  rw [hf] at h
  simp only at h ⊢
  simp only [go_sem, c_slices_IndexFunc_api_Got_api_Got_, gk, List.length_map, h, simprocAttr]
theorem gdelete_loop (p : Gt → Bool) (g : FuncId) (kc : Nat) (H : Heap) (n : Nat) (hn : n ≤ 1000000)
  (hp : ∀ (N : Heap) (x : Gt), W g [.agg [.int .i64 x.1, .int .i64 x.2.1, .str x.2.2.1, .str x.2.2.2], .ptr kc 0] (hx H N) = some (.bool (p x), hx H N)) (r : List Gt) : ∀ (A kept : List Gt) (j : Nat) (N : Heap),
  A.length = n → A.take kept.length = kept → A.drop j = r → j + r.length = n → kept.length < j →
  ∃ (A' : List Gt) (N' : Heap), loopA W loopW (.ghost (.kill k_slices_DeleteFunc_api_Got_api_Got__0) l_slices_DeleteFunc_api_Got_api_Got__0) [(0, .lbox (pt H 0)), (1, .fn g [] [.ptr kc 0]), (5, .int .i64 (kept.length : Nat)), (6, .int .i64 (j : Nat))] (hx H (.arr 4 (A.map gV) :: N)) =
   some (.exit 0, [(0, .lbox (pt H 0)), (5, .int .i64 ((kept ++ r.filter fun x => !p x).length : Nat))], hx H (.arr 4 (A'.map gV) :: N')) ∧ A'.length = n ∧ A'.take (kept ++ r.filter fun x => !p x).length = kept ++ r.filter (fun x => !p x) ∧ (kept ++ r.filter fun x => !p x).length < n := by
 induction r with
 | nil =>
  intro A kept j N hA ht hd hj hk
  simp only [List.length_nil, Nat.add_zero] at hj
  subst hj
  refine ⟨A, N, ?_, hA, ?_, ?_⟩
  ·have h1 : ¬ ((j : Int) < (A.length : Int)) := by omega
   rw [List.filter_nil, List.append_nil]
   refine loop_step l_slices_DeleteFunc_api_Got_api_Got__0.eq_1 k_slices_DeleteFunc_api_Got_api_Got__0.eq_1 (by kernel_rfl) ?_
   simp only [go_sem, List.length_map, h1, simprocAttr]
  ·rw [List.filter_nil, List.append_nil]; exact ht
  ·rw [List.filter_nil, List.append_nil]; exact hk
 | cons x r ih =>
  intro A kept j N hA ht hd hj hk
  simp only [List.length_cons] at hj
  have h1 : ((j : Int) < (A.length : Int)) := by omega
  have e0 : (0 : Int) ≤ (j : Int) := by omega
  have e7 : ((j : Nat) : Int).toNat = j := by omega
  have hAj : A[j]? = some x := by
   have : (A.drop j)[0]? = some x := by rw [hd]; rfl
   rwa [List.getElem?_drop, Nat.add_zero] at this
  have e1 : (A.map gV)[j]? = some (.agg [.int .i64 x.1, .int .i64 x.2.1, .str x.2.2.1, .str x.2.2.2]) := by rw [List.getElem?_map, hAj]; rfl
  have e6 : IntKind.i64.wrap ((j : Int) + 1) = ((j + 1 : Nat) : Int) := by rw [wrap_id (by unfold I64; omega)]; omega
  have n1 : ∀ y : Box, (N ++ [y])[N.length]? = some y := fun y => by simp
  have n2 : ∀ y z : Box, (N ++ [y]).set N.length z = N ++ [z] := fun y z => by simp
  have hpx := fun N => hp N x
  have hd' : A.drop (j + 1) = r := by
   have : (A.drop j).drop 1 = r := by rw [hd]; rfl
   rwa [List.drop_drop] at this
  rw [List.filter_cons]
  cases hc : p x with
  | true =>
   rw [hc] at hpx
   simp only [Bool.not_true, Bool.false_eq_true, if_false]
   obtain ⟨A', N', h2, h3, h4, h5⟩ := ih A kept (j + 1) (N ++ [.cells [.int .i64 x.1, .int .i64 x.2.1, .str x.2.2.1, .str x.2.2.2]]) hA ht hd' (by omega) (by omega)
   refine ⟨A', N', ?_, h3, h4, h5⟩
   generalize (kept ++ r.filter fun x => !p x).length = K at *
   refine loop_step l_slices_DeleteFunc_api_Got_api_Got__0.eq_1 k_slices_DeleteFunc_api_Got_api_Got__0.eq_1 (by kernel_rfl) ?_
   simp only [go_sem, List.length_map, h1, e0, e7, e1, n1, n2, hpx, e6, simprocAttr]
   exact h2
  | false =>
   rw [hc] at hpx
   simp only [Bool.not_false, if_true]
   have hki : kept.length < A.length := by omega
   obtain ⟨y, hy⟩ : ∃ y, A[kept.length]? = some y := ⟨_, List.getElem?_eq_getElem hki⟩
   have k0 : (0 : Int) ≤ (kept.length : Int) := by omega
   have k1 : (kept.length : Int) < (A.length : Int) := by omega
   have k7 : ((kept.length : Nat) : Int).toNat = kept.length := by omega
   have k2 : (A.map gV)[kept.length]? = some (.agg [.int .i64 y.1, .int .i64 y.2.1, .str y.2.2.1, .str y.2.2.2]) := by rw [List.getElem?_map, hy]; rfl
   have k6 : IntKind.i64.wrap ((kept.length : Int) + 1) = ((kept.length + 1 : Nat) : Int) := by rw [wrap_id (by unfold I64; omega)]; omega
   have ks : (A.map gV).set kept.length (.agg [.int .i64 x.1, .int .i64 x.2.1, .str x.2.2.1, .str x.2.2.2]) = (A.set kept.length x).map gV := by rw [List.map_set]; rfl
   have ht' : (A.set kept.length x).take (kept ++ [x]).length = kept ++ [x] := by
    rw [List.length_append, List.length_singleton]
    refine List.ext_getElem? fun q => ?_
    rw [List.getElem?_take]
    by_cases hq : q < kept.length + 1
    ·rw [if_pos hq, List.getElem?_set]
     by_cases hq2 : kept.length = q
     ·subst hq2
      rw [if_pos rfl, if_pos hki, List.getElem?_append_right (Nat.le_refl _), Nat.sub_self]; rfl
     ·rw [if_neg hq2, List.getElem?_append_left (by omega)]
      have : (A.take kept.length)[q]? = kept[q]? := by rw [ht]
      rwa [List.getElem?_take, if_pos (by omega)] at this
    ·rw [if_neg hq, List.getElem?_eq_none (by simp; omega)]
   have hd2 : (A.set kept.length x).drop (j + 1) = r := by
    rw [List.drop_set_of_lt (by omega), hd']
   obtain ⟨A', N', h2, h3, h4, h5⟩ := ih (A.set kept.length x) (kept ++ [x]) (j + 1) (N ++ [.cells [.int .i64 x.1, .int .i64 x.2.1, .str x.2.2.1, .str x.2.2.2]]) (by simp [hA]) ht' hd2 (by omega) (by simp; omega)
   rw [List.append_assoc, List.cons_append, List.nil_append] at h2 h4 h5
   refine ⟨A', N', ?_, h3, h4, h5⟩
   simp only [List.length_append, List.length_cons, List.length_nil, Nat.zero_add] at h2
   rw [show ((kept ++ x :: r.filter fun x => !p x).length : Nat) = kept.length + (r.filter fun x => !p x).length + 1 by simp; omega]
   rw [show kept.length + ((r.filter fun x => !p x).length + 1) = kept.length + (r.filter fun x => !p x).length + 1 by omega] at h2
   generalize kept.length + (r.filter fun x => !p x).length + 1 = K at *
   refine loop_step l_slices_DeleteFunc_api_Got_api_Got__0.eq_1 k_slices_DeleteFunc_api_Got_api_Got__0.eq_1 (by kernel_rfl) ?_
   simp only [go_sem, List.length_map, h1, e0, e7, e1, n1, n2, hpx, e6, k0, k1, k7, k2, k6, ks, simprocAttr]
   exact h2
theorem gfind_none {p : Gt → Bool} : ∀ {l : List Gt}, l.findIdx? p = none → l.filter (fun x => !p x) = l := by
 intro l h
 rw [List.findIdx?_eq_none_iff] at h
 rw [List.filter_eq_self]
 intro x hx
 rw [h x hx]; rfl
theorem gfind_some {p : Gt → Bool} {l : List Gt} {i : Nat} (h : l.findIdx? p = some i) : i < l.length ∧ l.filter (fun x => !p x) = l.take i ++ (l.drop (i + 1)).filter (fun x => !p x) := by
 rw [List.findIdx?_eq_some_iff_getElem] at h
 obtain ⟨hi, h1, h2⟩ := h
 refine ⟨hi, ?_⟩
 conv => lhs; rw [← List.take_append_drop i l, List.drop_eq_getElem_cons hi]
 rw [List.filter_append, List.filter_cons, h1]
 simp only [Bool.not_true, Bool.false_eq_true, if_false]
 congr 1
 rw [List.filter_eq_self]
 intro x hx
 obtain ⟨j, hj, rfl⟩ := List.mem_iff_getElem.1 hx
 rw [List.getElem_take]
 have := h2 j (by simp at hj; omega)
 simpa using this
set_option maxHeartbeats 1000000 in
theorem gdelete_spec (p : Gt → Bool) (g : FuncId) (kc : Nat) (H : Heap) (l : List Gt) (hn : l.length ≤ 1000000)
  (hp : ∀ (N : Heap) (x : Gt), W g [.agg [.int .i64 x.1, .int .i64 x.2.1, .str x.2.2.1, .str x.2.2.2], .ptr kc 0] (hx H N) = some (.bool (p x), hx H N)) :
  W n_slices_DeleteFunc_api_Got_api_Got_ [.list 4 (l.map gV) .uniq, .fn g [] [.ptr kc 0]] H = some (.list 4 ((l.filter fun x => !p x).map gV) .uniq, H) := by
 have hth := fun e => gthv0 (l.map gV) e H
 have hbk := fun Xs e N => gbkv0 Xs e H N
 have ti := gindexfunc_spec p g kc (pt H 0) (hx H [.arr 4 (l.map gV)]) l hn (by rw [hx_get]; rfl) (fun N x => by rw [hx_hx]; exact hp _ x)
 have u := fun m => under_g m (l.filter fun x => !p x)
 cases hf : l.findIdx? p with
 | none =>
  rw [hf] at ti
  simp only [idxI] at ti
  rw [gfind_none hf] at u ⊢
  refine W_fn rfl rfl ?_
  simp only [go_sem, c_slices_DeleteFunc_api_Got_api_Got_, hth, ti, hbk, u, simprocAttr]
  first | done | rfl
 | some i =>
  rw [hf] at ti
  simp only [idxI] at ti
  obtain ⟨hi, hfl⟩ := gfind_some hf
  have hkl : (l.take i).length = i := by rw [List.length_take]; omega
  obtain ⟨A', N', h2, h3, h4, h5⟩ := gdelete_loop p g kc H l.length hn hp (l.drop (i + 1)) l (l.take i) (i + 1) [] rfl (by rw [hkl]) rfl (by rw [List.length_drop]; omega) (by rw [hkl]; omega)
  rw [← hfl] at h2 h4 h5
  rw [hkl] at h2
  have c1 : ¬ ((i : Int) = -1) := by omega
  have w1 : IntKind.i64.wrap ((i : Int) + 1) = ((i + 1 : Nat) : Int) := by rw [wrap_id (by unfold I64; omega)]; omega
  have hA : (A'.map gV).take (l.filter fun x => !p x).length = (l.filter fun x => !p x).map gV := by rw [← List.map_take, h4]
  generalize l.filter (fun x => !p x) = F at *
  have k0 : (0 : Int) ≤ (F.length : Int) := by omega
  have k1 : (F.length : Int) < (A'.length : Int) := by omega
  have k2 : F.length ≤ A'.length := by omega
  have k7 : ((F.length : Nat) : Int).toNat = F.length := by omega
  have k8 : ∀ z : AVal, (F.map gV ++ List.replicate (A'.length - F.length) z).length = A'.length := fun z => by simp; omega
  have k9 : ∀ z : AVal, (F.map gV ++ List.replicate (A'.length - F.length) z).take F.length = F.map gV := fun z => by rw [List.take_append_of_le_length (by simp)]; rw [List.take_of_length_le (by simp)]
  have k3 : (F.length : Int) ≤ (A'.length : Int) := by omega
  have ct : ∀ z : AVal, ev W (.cut 4) [.list 4 (F.map gV ++ List.replicate (A'.length - F.length) z) .uniq, .int .i64 (F.length : Nat)] = fun H => some (.list 4 (F.map gV) .uniq, H) := by
   intro z
   funext H
   rw [e_cutU, k8, if_pos ⟨k0, k3⟩, k7, k9]
  refine W_fn rfl rfl ?_
  simp only [go_sem, c_slices_DeleteFunc_api_Got_api_Got_, hth, ti, c1, w1, h2, List.length_map, k0, k1, k7, k2, hA, hbk, ct, u, simprocAttr]
  first | done | rfl
def hitD (g : Gt) (d : La) : Bool := decide (g.2.1 ≠ -1) && (decide (d.1 = g.2.1) && (decide (d.2.1 ≤ g.1) && decide (g.1 ≤ d.2.2)))
def hitG (D : List La) (g : Gt) : Bool := D.any (hitD g)
theorem rindex_loop (p : La → Bool) (g : FuncId) (kc : Nat) (H : Heap) (l : List La) (hn : l.length ≤ 9223372036854775807)
  (hp : ∀ (x : La), W g [.agg [.int .i64 x.1, .int .i64 x.2.1, .int .i64 x.2.2], .ptr kc 0] (hx H []) = some (.bool (p x), hx H [])) (f : Fl) (hf : f = .ro ∨ (f = .full ∧ l = [])) (r : List La) : ∀ (q : List La), l = q ++ r →
  loopA W loopW (.ghost (.kill k_slices_IndexFunc_api_Dropped_api_Dropped__0) l_slices_IndexFunc_api_Dropped_api_Dropped__0) [(0, .list 3 (l.map laV) f), (1, .fn g [] [.ptr kc 0]), (7, .int .i64 (l.length : Nat)), (8, .int .i64 (q.length : Nat))] (hx H []) =
   match r.findIdx? p with
   | some i => some (.ret, [(4, .int .i64 ((q.length + i : Nat) : Int))], hx H [])
   | none => some (.exit 0, [], hx H []) := by
 induction r with
 | nil =>
  intro q hq
  rw [List.append_nil] at hq
  subst hq
  have h1 : ¬ ((l.length : Int) < (l.length : Int)) := by omega
  rw [List.findIdx?_nil]
  simp only
  refine loop_step l_slices_IndexFunc_api_Dropped_api_Dropped__0.eq_1 k_slices_IndexFunc_api_Dropped_api_Dropped__0.eq_1 (by kernel_rfl) ?_
  simp only [go_sem, h1, simprocAttr]
 | cons x r ih =>
  intro q hq
  have hf0 : f = .ro := by
   rcases hf with h | ⟨_, h⟩
   ·exact h
   ·rw [hq] at h; simp at h
  subst hf0
  have hlen : l.length = q.length + (r.length + 1) := by rw [hq]; simp
  have h1 : ((q.length : Int) < (l.length : Int)) := by omega
  have e0 : (0 : Int) ≤ (q.length : Int) := by omega
  have e7 : ((q.length : Nat) : Int).toNat = q.length := by omega
  have e1 : (l.map laV)[q.length]? = some (.agg [.int .i64 x.1, .int .i64 x.2.1, .int .i64 x.2.2]) := by rw [hq]; simp [laV]
  have e6 : IntKind.i64.wrap ((q.length : Int) + 1) = ((q.length + 1 : Nat) : Int) := by rw [wrap_id (by unfold I64; omega)]; omega
  have hpx := hp x
  rw [List.findIdx?_cons]
  cases hc : p x with
  | true =>
   rw [hc] at hpx
   simp only [if_true, Nat.add_zero]
   refine loop_step l_slices_IndexFunc_api_Dropped_api_Dropped__0.eq_1 k_slices_IndexFunc_api_Dropped_api_Dropped__0.eq_1 (by kernel_rfl) ?_
   simp only [go_sem, h1, e0, e7, List.length_map, e1, hpx, simprocAttr]
  | false =>
   rw [hc] at hpx
   have h2 := ih (q ++ [x]) (by rw [hq]; simp)
   simp only [List.length_append, List.length_cons, List.length_nil, Nat.zero_add] at h2
   simp only [Bool.false_eq_true, if_false]
   cases hf : r.findIdx? p with
   | none =>
    rw [hf] at h2
    simp only [Option.map_none] at h2 ⊢
    refine loop_step l_slices_IndexFunc_api_Dropped_api_Dropped__0.eq_1 k_slices_IndexFunc_api_Dropped_api_Dropped__0.eq_1 (by kernel_rfl) ?_
    simp only [go_sem, h1, e0, e7, List.length_map, e1, hpx, e6, simprocAttr]
    exact h2
   | some i =>
    rw [hf] at h2
    simp only [Option.map_some] at h2 ⊢
    rw [show q.length + (i + 1) = q.length + 1 + i by omega]
    refine loop_step l_slices_IndexFunc_api_Dropped_api_Dropped__0.eq_1 k_slices_IndexFunc_api_Dropped_api_Dropped__0.eq_1 (by kernel_rfl) ?_
    simp only [go_sem, h1, e0, e7, List.length_map, e1, hpx, e6, simprocAttr]
    exact h2
theorem contains_spec (p : La → Bool) (g : FuncId) (kc : Nat) (H : Heap) (l : List La) (hn : l.length ≤ 9223372036854775807)
  (hp : ∀ (x : La), W g [.agg [.int .i64 x.1, .int .i64 x.2.1, .int .i64 x.2.2], .ptr kc 0] (hx H []) = some (.bool (p x), hx H [])) :
  W n_slices_ContainsFunc_api_Dropped_api_Dropped_ [.list 3 (l.map laV) .ro, .fn g [] [.ptr kc 0]] H = some (.bool (l.any p), H) := by
 have h := rindex_loop p g kc H l hn hp .ro (.inl rfl) l [] rfl
 simp only [List.length_nil, Int.natCast_zero, Nat.zero_add] at h
 have ti : W n_slices_IndexFunc_api_Dropped_api_Dropped_ [.list 3 (l.map laV) .ro, .fn g [] [.ptr kc 0]] (hx H []) = some (.int .i64 (idxI (l.findIdx? p)), hx H []) := by
  have : W n_slices_IndexFunc_api_Dropped_api_Dropped_ [.list 3 (l.map laV) .ro, .fn g [] [.ptr kc 0]] H = some (.int .i64 (idxI (l.findIdx? p)), H) := by
   refine W_fn rfl rfl ?_
   unfold idxI
   cases hf : l.findIdx? p with
   | none =>
    rw [hf] at h
    simp only at h ⊢
    simp only [go_sem, c_slices_IndexFunc_api_Dropped_api_Dropped_, List.length_map, h, simprocAttr]
   | some i =>
    rw [hf] at h
    simp only at h ⊢
    simp only [go_sem, c_slices_IndexFunc_api_Dropped_api_Dropped_, List.length_map, h, simprocAttr]
  rwa [hx_nil]
 refine W_fn rfl rfl ?_
 unfold idxI at ti
 cases hf : l.findIdx? p with
 | none =>
  rw [hf] at ti
  have ha : l.any p = false := by
   rw [List.findIdx?_eq_none_iff] at hf
   rw [List.any_eq_false]
   intro x hx; rw [hf x hx]; decide
  rw [ha]
  have c : ¬ ((-1 : Int) ≥ 0) := by decide
  simp only at ti
  simp only [go_sem, c_slices_ContainsFunc_api_Dropped_api_Dropped_, ti, c, simprocAttr]
 | some i =>
  rw [hf] at ti
  have ha : l.any p = true := by
   rw [List.findIdx?_eq_some_iff_getElem] at hf
   obtain ⟨hi, h1, _⟩ := hf
   rw [List.any_eq_true]
   exact ⟨_, List.getElem_mem hi, h1⟩
  rw [ha]
  have c : ((i : Nat) : Int) ≥ 0 := by omega
  simp only at ti
  simp only [go_sem, c_slices_ContainsFunc_api_Dropped_api_Dropped_, ti, c, simprocAttr]
theorem deliver11_spec (g : Gt) (kc : Nat) (H : Heap) (hk : H[kc]? = some (.cells [.int .i64 g.1, .int .i64 g.2.1, .str g.2.2.1, .str g.2.2.2])) (x : La) :
  W n_fold_Deliver_1_1 [.agg [.int .i64 x.1, .int .i64 x.2.1, .int .i64 x.2.2], .ptr kc 0] H = some (.bool (hitD g x), H) := by
 have gk := fun M => hx_old hk M
 unfold hitD
 refine W_fn rfl rfl ?_
 by_cases c1 : g.2.1 = -1
 ·rw [decide_eq_false (by simpa using c1)]
  simp only [go_sem, c_fold_Deliver_1_1, gk, eq_true c1, simprocAttr]
 ·rw [decide_eq_true (by simpa using c1)]
  by_cases c2 : x.1 = g.2.1
  ·rw [decide_eq_true c2]
   by_cases c3 : x.2.1 ≤ g.1
   ·rw [decide_eq_true c3]
    by_cases c4 : g.1 ≤ x.2.2
    ·rw [decide_eq_true c4]
     simp only [go_sem, c_fold_Deliver_1_1, gk, c1, eq_true c2, c3, c4, simprocAttr]
    ·rw [decide_eq_false c4]
     simp only [go_sem, c_fold_Deliver_1_1, gk, c1, eq_true c2, c3, c4, simprocAttr]
   ·rw [decide_eq_false c3]
    simp only [go_sem, c_fold_Deliver_1_1, gk, c1, eq_true c2, c3, simprocAttr]
  ·rw [decide_eq_false c2]
   simp only [go_sem, c_fold_Deliver_1_1, gk, c1, c2, simprocAttr]
theorem deliver1_spec (D : List La) (hD : D.length ≤ 9223372036854775807) (R N S : AVal) (kf : Nat) (f : Fl) (hf : f = .ro ∨ f = .own ∨ f = .full) (H : Heap) (hk : H[kf]? = some (.cells [R, .list 3 (D.map laV) f, N, S])) (g : Gt) :
  W n_fold_Deliver_1 [.agg [.int .i64 g.1, .int .i64 g.2.1, .str g.2.2.1, .str g.2.2.2], .ptr kf 0] H = some (.bool (hitG D g), H) := by
 have gk := fun M => hx_old hk M
 have tc := contains_spec (hitD g) n_fold_Deliver_1_1 (pt H 0) (hx H [.cells [.int .i64 g.1, .int .i64 g.2.1, .str g.2.2.1, .str g.2.2.2]]) D hD (fun x => by rw [hx_nil]; exact deliver11_spec g (pt H 0) _ (by rw [hx_get]; rfl) x)
 unfold hitG
 generalize D.any (hitD g) = b at *
 refine W_fn rfl rfl ?_
 rcases hf with rfl | rfl | rfl <;> simp only [go_sem, c_fold_Deliver_1, gk, tc, simprocAttr]
theorem deliver_spec (R : List Gt) (hR : R.length ≤ 1000000) (D : List La) (hD : D.length ≤ 9223372036854775807) (N S : Int) (H : Heap) :
  W n_fold_Deliver [.agg [.list 4 (R.map gV) .ro, .list 3 (D.map laV) .ro, .int .i64 N, .int .i64 S]] H = some (.list 4 ((R.filter fun g => !hitG D g).map gV) .full, H) := by
 have t1 := fun H => W_slices_Clone_api_Got_api_Got_ (R.map gV) H (by simp only [List.length_map, maxBytes]; omega)
 have t2 := gdelete_spec (hitG D) n_fold_Deliver_1 (pt H 0) (hx H [.cells [.list 4 (R.map gV) .ro, .list 3 (D.map laV) .ro, .int .i64 N, .int .i64 S]]) R hR (fun M x => deliver1_spec D hD _ _ _ (pt H 0) .ro (.inl rfl) _ (hx_old (by rw [hx_get]; rfl) M) x)
 have t3 := fun H => clip_got ((R.filter fun g => !hitG D g).map gV) .uniq (by simp) H
 have u := fun n => under_g n (R.filter fun g => !hitG D g)
 generalize R.filter (fun g => !hitG D g) = F at *
 refine W_fn rfl rfl ?_
 simp only [go_sem, c_fold_Deliver, t1, t2, t3, u, simprocAttr]
end Go.Abs
