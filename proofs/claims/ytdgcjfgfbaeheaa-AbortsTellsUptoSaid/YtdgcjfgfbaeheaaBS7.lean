import Derived.Test.YtdgcjfgfbaeheaaBS6
import Derived.Test.YtdgcjfgfbaeheaaBS4
import Derived.Test.YtdgcjfgfbaeheaaBS5
import Derived.Test.YtdgcjfgfbaeheaaBS3
import Derived.Test.YtdgcjfgfbaeheaaB0
import Derived.Test.YtdgcjfgfbaeheaaK42
set_option linter.unusedVariables false
set_option linter.unusedSimpArgs false
namespace Go.Abs
open Go Go.RowKit
abbrev Opn := Int → Int
def stepO (O : Opn) (b : Ba) : Opn := fun id => if id = b.prod ∧ 0 ≤ b.prod then (if b.mark ≠ 0 then -1 else if b.txn = true ∧ O id < 0 then b.base else O id) else O id
def foldO (L : List Ba) (O : Opn) : Opn := L.foldl stepO O
abbrev opens (L : List Ba) : Opn := foldO L (fun _ => -1)
theorem opens_snoc (L : List Ba) (b : Ba) : opens (L ++ [b]) = stepO (opens L) b := by unfold opens foldO; rw [List.foldl_append]; rfl
structure Rep (M : List Pr) (O : Opn) : Prop where
 nd : (M.map Pr.id).Nodup
 val : ∀ p ∈ M, p.open_ = O p.id
 neg : ∀ id, (∀ p ∈ M, p.id ≠ id) → O id = -1
theorem applyP_open (p : Pr) (k : Bool) (b : Ba) : (applyP p k b).open_ = if b.mark ≠ 0 then -1 else if b.txn = true ∧ openP p k < 0 then b.base else openP p k := by
 unfold applyP; split <;> rfl
theorem Rep.open {M O} (h : Rep M O) (b : Ba) : openP ((M.find? fun p => p.id == b.prod).getD zeroPr) (M.find? fun p => p.id == b.prod).isSome = O b.prod := by
 cases hf : M.find? fun p => p.id == b.prod with
 | none =>
  have : O b.prod = -1 := h.neg _ (fun p hp e => by
   have := List.find?_eq_none.1 hf p hp
   simp [e] at this)
  rw [this]; rfl
 | some p =>
  have h1 := List.mem_of_find?_eq_some hf
  have h2 := List.find?_some hf
  have h3 : p.id = b.prod := by simpa using h2
  show p.open_ = _
  rw [h.val p h1, h3]
theorem Rep.put {M M' O} (h : Rep M O) (b : Ba) (hp : 0 ≤ b.prod) (x : Pr) (hx : x.id = b.prod) (ho : x.open_ = stepO O b b.prod) (hnd : (M'.map Pr.id).Nodup)
  (h1 : ∀ p ∈ M', p = x ∨ (p ∈ M ∧ p.id ≠ b.prod)) (h2 : x ∈ M') (h3 : ∀ p ∈ M, p.id ≠ b.prod → p ∈ M') : Rep M' (stepO O b) where
 nd := hnd
 val := fun p hp' => by
  rcases h1 p hp' with rfl | ⟨h4, h5⟩
  ·rw [hx, ho]
  ·rw [h.val p h4]; unfold stepO; rw [if_neg (fun h => h5 h.1)]
 neg := fun id hid => by
  have hne : id ≠ b.prod := fun e => hid x h2 (by rw [hx, e])
  unfold stepO
  rw [if_neg (fun h => hne h.1)]
  refine h.neg id (fun p hp' e => ?_)
  exact hid p (h3 p hp' (by rw [e]; exact hne)) e
theorem stepO_neg (O : Opn) (b : Ba) (h : b.prod < 0) : stepO O b = O := by
 funext id; unfold stepO; rw [if_neg (by omega)]
theorem nodup_find : ∀ {M : List Pr} {q : Pr}, (M.map Pr.id).Nodup → q ∈ M → M.find? (fun p => p.id == q.id) = some q
 | [], _, _, h => by cases h
 | a :: X, q, hnd, hq => by
  rw [List.find?_cons]
  rw [List.map_cons, List.nodup_cons] at hnd
  rcases List.mem_cons.1 hq with rfl | hq'
  ·simp
  ·have : (a.id == q.id) = false := by
    simp only [beq_eq_false_iff_ne]
    intro e
    exact hnd.1 (e ▸ List.mem_map_of_mem (f := Pr.id) hq')
   rw [this]; exact nodup_find hnd.2 hq'
theorem setM_ids (M : List Pr) (x : Pr) : (setM M x).map Pr.id = if (M.find? fun p => p.id == x.id).isSome then M.map Pr.id else M.map Pr.id ++ [x.id] := by
 rw [← getM_find]
 unfold setM getM
 cases h : idxM x.id M with
 | none => simp
 | some i =>
  obtain ⟨p, h1, h2⟩ := idxM_mem h
  simp only [Option.bind_some, h1, Option.isSome_some, if_true]
  rw [List.map_set]
  refine List.ext_getElem? fun k => ?_
  rw [List.getElem?_set]
  split
  ·rename_i e
   subst e
   split
   ·rw [List.getElem?_map, h1, Option.map_some, h2]
   ·rename_i h3
    rw [List.length_map] at h3
    exact absurd (List.getElem?_eq_some_iff.1 h1).1 h3
  ·rfl
theorem Rep.stepM {M O} (h : Rep M O) (b : Ba) (hr : rightE b = 0) : Rep (stepM M b) (stepO O b) := by
 unfold Go.Abs.stepM
 by_cases hp : b.prod < 0
 ·rw [if_pos (.inr hp), stepO_neg O b hp]; exact h
 ·rw [if_neg (by omega)]
  rw [getM_find]
  have ho := h.open b
  have hx := applyP_id ((M.find? fun p => p.id == b.prod).getD zeroPr) (M.find? fun p => p.id == b.prod).isSome b
  have hxo := applyP_open ((M.find? fun p => p.id == b.prod).getD zeroPr) (M.find? fun p => p.id == b.prod).isSome b
  rw [ho] at hxo
  generalize applyP ((M.find? fun p => p.id == b.prod).getD zeroPr) (M.find? fun p => p.id == b.prod).isSome b = x at *
  have hids := setM_ids M x
  rw [hx] at hids
  have hnd : ((setM M x).map Pr.id).Nodup := by
   rw [hids]
   split
   ·exact h.nd
   ·rename_i hn
    rw [List.nodup_append]
    refine ⟨h.nd, by simp, fun a ha c hc e => ?_⟩
    simp only [List.mem_singleton] at hc
    subst hc; subst e
    obtain ⟨p, hp1, hp2⟩ := List.mem_map.1 ha
    apply hn
    rw [List.find?_isSome]
    exact ⟨p, hp1, by simp [hp2]⟩
  have hmem : ∀ q, q ∈ setM M x ↔ getM q.id (setM M x) = some q := fun q => ⟨fun hq => by rw [getM_find]; exact nodup_find hnd hq, fun hq => getM_mem hq⟩
  have hmemM : ∀ q, q ∈ M → getM q.id M = some q := fun q hq => by rw [getM_find]; exact nodup_find h.nd hq
  refine h.put b (by omega) x hx ?_ hnd ?_ ?_ ?_
  ·rw [hxo]; exact (if_pos (⟨rfl, by omega⟩ : b.prod = b.prod ∧ 0 ≤ b.prod)).symm
  ·intro p hp'
   rw [hmem, getM_set] at hp'
   split at hp'
   ·simp only [Option.some.injEq] at hp'; exact .inl hp'.symm
   ·rename_i e
    exact .inr ⟨getM_mem hp', by rw [← hx]; exact e⟩
  ·rw [hmem, getM_set, if_pos rfl]
  ·intro p hp' hne
   rw [hmem, getM_set, if_neg (by rw [hx]; exact hne)]
   exact hmemM p hp'
abbrev Srt (L : List Pr) : Prop := L.Pairwise (fun p q => p.id < q.id)
theorem Srt.nd {L : List Pr} (h : Srt L) : (L.map Pr.id).Nodup := by
 rw [List.Nodup, List.pairwise_map]
 exact h.imp (fun h => by omega)
theorem below_take (id : Int) : ∀ (L : List Pr), ∀ p ∈ L.take (belowN id L), p.id < id
 | [], p, h => by simp [belowN] at h
 | a :: L, p, h => by
  unfold belowN at h
  split at h
  ·rename_i c
   rw [List.take_succ_cons, List.mem_cons] at h
   rcases h with rfl | h
   ·exact c
   ·exact below_take id L p h
  ·simp at h
theorem below_drop (id : Int) : ∀ (L : List Pr), Srt L → ∀ p ∈ L.drop (belowN id L), id ≤ p.id
 | [], _, p, h => by simp at h
 | a :: L, hs, p, h => by
  unfold belowN at h
  have hs' := List.pairwise_cons.1 hs
  split at h
  ·rw [List.drop_succ_cons] at h
   exact below_drop id L hs'.2 p h
  ·rename_i c
   rw [List.drop_zero, List.mem_cons] at h
   rcases h with rfl | h
   ·omega
   ·have := hs'.1 p h; omega
theorem atP_find (id : Int) (L : List Pr) (hs : Srt L) : atP id L = L.find? (fun p => p.id == id) := by
 have h1 := below_take id L
 have h2 := below_drop id L hs
 have h3 : L.find? (fun p => p.id == id) = (L.drop (belowN id L)).find? (fun p => p.id == id) := by
  conv => lhs; rw [← List.take_append_drop (belowN id L) L]
  rw [List.find?_append]
  have : (L.take (belowN id L)).find? (fun p => p.id == id) = none := by
   rw [List.find?_eq_none]
   intro p hp; have := h1 p hp; simp; omega
  rw [this]; rfl
 rw [h3]
 unfold atP
 have hs2 : Srt (L.drop (belowN id L)) := hs.sublist (List.drop_sublist _ _)
 have h4 : L[belowN id L]? = (L.drop (belowN id L))[0]? := by rw [List.getElem?_drop]; rfl
 rw [h4]
 generalize L.drop (belowN id L) = D at *
 cases D with
 | nil => rfl
 | cons a D =>
  simp only [List.getElem?_cons_zero, List.find?_cons]
  by_cases e : a.id = id
  ·simp [e]
  ·have e' : (a.id == id) = false := by simpa using e
   rw [if_neg e, e']
   have ha := h2 a List.mem_cons_self
   have : D.find? (fun p => p.id == id) = none := by
    rw [List.find?_eq_none]
    intro p hp
    have := (List.pairwise_cons.1 hs2).1 p hp
    simp; omega
   rw [this]
theorem Srt.tabL {L : List Pr} (hs : Srt L) (b : Ba) (hr : rightE b = 0) {O : Opn} (h : Rep L O) : Srt (tabL L b) ∧ Rep (tabL L b) (stepO O b) := by
 unfold Go.Abs.tabL
 by_cases hp : b.prod < 0
 ·rw [if_pos (.inr hp), stepO_neg O b hp]; exact ⟨hs, h⟩
 ·rw [if_neg (by omega)]
  have ho := h.open b
  have hx := applyP_id ((L.find? fun p => p.id == b.prod).getD zeroPr) (L.find? fun p => p.id == b.prod).isSome b
  have hxo := applyP_open ((L.find? fun p => p.id == b.prod).getD zeroPr) (L.find? fun p => p.id == b.prod).isSome b
  rw [ho] at hxo
  have hxo' : (applyP ((L.find? fun p => p.id == b.prod).getD zeroPr) (L.find? fun p => p.id == b.prod).isSome b).open_ = stepO O b b.prod := by
   rw [hxo]; exact (if_pos (⟨rfl, by omega⟩ : b.prod = b.prod ∧ 0 ≤ b.prod)).symm
  have hat := atP_find b.prod L hs
  rw [← hat] at hx hxo'
  cases hf : atP b.prod L with
  | some p =>
   rw [hf] at hx hxo'
   simp only
   have hx : (applyP p true b).id = b.prod := hx
   have hxo' : (applyP p true b).open_ = stepO O b b.prod := hxo'
   generalize applyP p true b = x at *
   obtain ⟨hp1, hp2⟩ := atP_mem hf
   have hp3 : p.id = b.prod := by
    rw [hat] at hf
    simpa using List.find?_some hf
   have hi : belowN b.prod L < L.length := (List.getElem?_eq_some_iff.1 hp2).1
   have hids : (L.set (belowN b.prod L) x).map Pr.id = L.map Pr.id := by
    rw [List.map_set]
    refine List.ext_getElem? fun k => ?_
    rw [List.getElem?_set]
    split
    ·rename_i e
     subst e
     rw [if_pos (by rw [List.length_map]; exact hi), List.getElem?_map, hp2, Option.map_some, hp3, hx]
    ·rfl
   have hsx : Srt (L.set (belowN b.prod L) x) := by
    have h1 : (L.map Pr.id).Pairwise (· < ·) := List.pairwise_map.2 hs
    rw [← hids] at h1
    exact List.pairwise_map.1 h1
   refine ⟨hsx, h.put b (by omega) x hx hxo' hsx.nd ?_ (List.mem_iff_getElem?.2 ⟨_, by rw [List.getElem?_set, if_pos rfl, if_pos hi]⟩) ?_⟩
   ·intro q hq
    rcases List.mem_or_eq_of_mem_set hq with h1 | rfl
    ·by_cases e : q.id = b.prod
     ·have := nodup_find hsx.nd hq
      have h2 := nodup_find hsx.nd (List.mem_iff_getElem?.2 ⟨_, by rw [List.getElem?_set, if_pos rfl, if_pos hi]⟩ : x ∈ L.set (belowN b.prod L) x)
      rw [show x.id = q.id by rw [hx, e], this] at h2
      simp only [Option.some.injEq] at h2
      exact .inl h2
     ·exact .inr ⟨h1, e⟩
    ·exact .inl rfl
   ·intro q hq hne
    obtain ⟨k, hk⟩ := List.mem_iff_getElem?.1 hq
    refine List.mem_iff_getElem?.2 ⟨k, ?_⟩
    rw [List.getElem?_set]
    by_cases e : belowN b.prod L = k
    ·subst e
     rw [hp2] at hk
     simp only [Option.some.injEq] at hk
     exact absurd (hk ▸ hp3) hne
    ·rw [if_neg e]; exact hk
  | none =>
   rw [hf] at hx hxo'
   simp only
   have hx : (applyP zeroPr false b).id = b.prod := hx
   have hxo' : (applyP zeroPr false b).open_ = stepO O b b.prod := hxo'
   generalize applyP zeroPr false b = x at *
   have hno : ∀ p ∈ L, p.id ≠ b.prod := by
    rw [hat, List.find?_eq_none] at hf
    intro p hp e
    exact hf p hp (by simp [e])
   have h1 := below_take b.prod L
   have h2 := below_drop b.prod L hs
   have hL := List.take_append_drop (belowN b.prod L) L
   have hs1 : Srt (L.take (belowN b.prod L)) := hs.sublist (List.take_sublist _ _)
   have hs2 : Srt (L.drop (belowN b.prod L)) := hs.sublist (List.drop_sublist _ _)
   have hm : ∀ q, q ∈ L ↔ q ∈ L.take (belowN b.prod L) ∨ q ∈ L.drop (belowN b.prod L) := fun q => by
    conv => lhs; rw [← hL]
    exact List.mem_append
   have hm1 : ∀ q ∈ L.drop (belowN b.prod L), b.prod < q.id := fun q hq => by
    have a1 := h2 q hq
    have a2 := hno q ((hm q).2 (.inr hq))
    omega
   generalize L.take (belowN b.prod L) = A at *
   generalize L.drop (belowN b.prod L) = B at *
   have hsx : Srt (A ++ [x] ++ B) := by
    rw [List.append_assoc]
    refine List.pairwise_append.2 ⟨hs1, List.pairwise_append.2 ⟨by simp, hs2, ?_⟩, ?_⟩
    ·intro p hp q hq
     simp only [List.mem_singleton] at hp
     rw [hp, hx]; exact hm1 q hq
    ·intro p hp q hq
     rw [List.mem_append, List.mem_singleton] at hq
     have := h1 p hp
     rcases hq with rfl | hq
     ·rw [hx]; exact this
     ·have := hm1 q hq; omega
   refine ⟨hsx, h.put b (by omega) x hx hxo' hsx.nd ?_ (by simp) ?_⟩
   ·intro q hq
    simp only [List.mem_append, List.mem_singleton] at hq
    rcases hq with (hq | rfl) | hq
    ·exact .inr ⟨(hm q).2 (.inl hq), hno q ((hm q).2 (.inl hq))⟩
    ·exact .inl rfl
    ·exact .inr ⟨(hm q).2 (.inr hq), hno q ((hm q).2 (.inr hq))⟩
   ·intro q hq _
    simp only [List.mem_append, List.mem_singleton]
    rcases (hm q).1 hq with h | h
    ·exact .inl (.inl h)
    ·exact .inr h
theorem rep_nil : Rep [] (fun _ => -1) := ⟨by simp, by simp, fun _ _ => rfl⟩
def RowC : Int → List Ba → Prop
 | _, [] => True
 | s, b :: l => b.base = s ∧ RowC (s + countE b) l
theorem endE_nil (s : Int) : endE s [] = s := rfl
theorem endE_cons (s : Int) (b : Ba) (l : List Ba) (h : b.base = s) : endE s (b :: l) = endE (s + countE b) l := by
 unfold endE
 cases l with
 | nil => simp [h]
 | cons c l =>
  obtain ⟨x, hx⟩ : ∃ x, (c :: l).getLast? = some x := ⟨_, List.getLast?_eq_some_getLast (by simp)⟩
  rw [List.getLast?_cons_cons, hx]
theorem RowC.snoc : ∀ {s : Int} {l : List Ba} {b : Ba}, RowC s l → b.base = endE s l → RowC s (l ++ [b])
 | s, [], b, _, h => ⟨h, trivial⟩
 | s, c :: l, b, h, k => ⟨h.1, RowC.snoc h.2 (by rw [k, endE_cons s c l h.1])⟩
theorem prodL_row {cap start L b} (h : RowC start L) : RowC start (prodL cap start L b) := by
 unfold prodL
 split
 ·exact h.snoc rfl
 ·exact h
theorem markL_row {cap start L p e m} (h : RowC start L) : RowC start (markL cap start L p e m) := by
 unfold markL
 split
 ·exact h.snoc rfl
 ·exact h
theorem rowStep_row {l cap start s} (h : RowC start s.L) : RowC start (rowStep l cap start s).L := by
 unfold rowStep
 simp only
 split
 ·exact prodL_row h
 ·exact markL_row h
theorem rowGo_row {l : List Int} {cap start : Int} {most : Nat} : ∀ (k : Nat) (s : RS), RowC start s.L → RowC start (rowGo l cap start most k s).L
 | 0, _, h => h
 | k + 1, s, h => by
  unfold rowGo
  split
  ·exact rowGo_row k _ (rowStep_row h)
  ·exact h
theorem row_rowC (l : List Int) (start : Int) (most : Nat) : RowC start (rowOf l start most) := rowGo_row _ _ trivial
theorem countE_pos {b : Ba} (h : Fit b) : 1 ≤ countE b := by
 have hr := h.right
 unfold countE
 split
 ·rename_i hm
  unfold rightE at hr
  split at hr
  ·cases hr
  ·first | rw [if_pos hm] at hr | skip
   unfold dataE at hr
   split at hr
   ·cases hr
   ·split at hr
    ·cases hr
    ·omega
 ·exact Int.le_refl _
structure OIs (s : Int) (O : Opn) : Prop where
 pos : 0 ≤ s
 lo : ∀ id, -1 ≤ O id
 hi : ∀ id, O id < s
 inj : ∀ id id', O id = O id' → 0 ≤ O id → id = id'
theorem OIs.nil {s : Int} (h : 0 ≤ s) : OIs s (fun _ => -1) := ⟨h, fun _ => Int.le_refl _, fun _ => by show (-1 : Int) < s; omega, fun _ _ _ h => by have : (0 : Int) ≤ -1 := h; omega⟩
theorem stepO_cases (O : Opn) (b : Ba) (id : Int) : stepO O b id = O id ∨ (id = b.prod ∧ b.mark ≠ 0 ∧ stepO O b id = -1) ∨ (id = b.prod ∧ 0 ≤ b.prod ∧ O id < 0 ∧ b.txn = true ∧ b.mark = 0 ∧ stepO O b id = b.base) := by
 unfold stepO
 by_cases c : id = b.prod ∧ 0 ≤ b.prod
 ·rw [if_pos c]
  by_cases c2 : b.mark ≠ 0
  ·rw [if_pos c2]; exact .inr (.inl ⟨c.1, c2, rfl⟩)
  ·rw [if_neg c2]
   by_cases c3 : b.txn = true ∧ O id < 0
   ·rw [if_pos c3]; exact .inr (.inr ⟨c.1, c.2, c3.2, c3.1, by omega, rfl⟩)
   ·rw [if_neg c3]; exact .inl rfl
 ·rw [if_neg c]; exact .inl rfl
theorem OIs.step {s O b} (h : OIs s O) (hb : Fit b) (hs : b.base = s) : OIs (s + countE b) (stepO O b) where
 pos := by have := h.pos; have := countE_pos hb; omega
 lo := fun id => by
  have := h.lo id
  have := h.pos
  rcases stepO_cases O b id with e | ⟨_, _, e⟩ | ⟨_, _, _, _, _, e⟩ <;> omega
 hi := fun id => by
  have := h.hi id
  have := h.pos
  have := countE_pos hb
  rcases stepO_cases O b id with e | ⟨_, _, e⟩ | ⟨_, _, _, _, _, e⟩ <;> omega
 inj := fun id id' he h0 => by
  have h1 := h.hi id
  have h2 := h.hi id'
  rcases stepO_cases O b id with e | ⟨_, _, e⟩ | ⟨i1, _, _, _, _, e⟩ <;> rcases stepO_cases O b id' with e' | ⟨_, _, e'⟩ | ⟨i2, _, _, _, _, e'⟩
  ·exact h.inj id id' (by omega) (by omega)
  ·omega
  ·omega
  ·omega
  ·omega
  ·omega
  ·omega
  ·omega
  ·omega
def dropO (O : Opn) (b : Ba) : Option La := if ¬ b.prod < 0 ∧ b.mark = 2 ∧ O b.prod ≥ 0 then some (b.prod, O b.prod, b.base) else none
theorem stepD_O {M O b} (h : Rep M O) (hr : rightE b = 0) : stepD M b = dropO O b := by
 unfold stepD dropO
 by_cases hp : b.prod < 0
 ·rw [if_pos (.inr hp), if_neg (by omega)]
 ·rw [if_neg (by omega), getM_find]
  cases hf : M.find? (fun p => p.id == b.prod) with
  | none =>
   have : O b.prod = -1 := h.neg _ (fun p hp e => by
    have := List.find?_eq_none.1 hf p hp
    simp [e] at this)
   rw [if_neg (by omega)]
  | some p =>
   have h1 := h.val p (List.mem_of_find?_eq_some hf)
   have h2 : p.id = b.prod := by simpa using List.find?_some hf
   simp only
   rw [h1, h2]
   by_cases c : b.mark = 2 ∧ O b.prod ≥ 0
   ·rw [if_pos c, if_pos ⟨hp, c⟩]
   ·rw [if_neg c, if_neg (fun h => c h.2)]
theorem tabD_O {L O b} (hs : Srt L) (h : Rep L O) (hr : rightE b = 0) : tabD L b = dropO O b := by
 rw [← stepD_O h hr]
 unfold tabD stepD
 rw [atP_find b.prod L hs, getM_find]
 cases L.find? (fun p => p.id == b.prod) <;> rfl
theorem ab_fold : ∀ (A : List Ba) (s : Int) (O : Opn) (M T : List Pr) (l : List La), (∀ b ∈ A, Fit b) → RowC s A → OIs s O → Rep M O → Srt T → Rep T O → (∀ d ∈ l, d.2.2 < s) → abOf A M l = l ++ foldD A T
 | [], _, _, _, _, l, _, _, _, _, _, _, _ => by rw [show foldD [] _ = [] from rfl, List.append_nil]; rfl
 | b :: A, s, O, M, T, l, hA, hr, hO, hM, hs, hT, hl => by
  have hb := hA b List.mem_cons_self
  have hA' : ∀ x ∈ A, Fit x := fun x hx => hA x (List.mem_cons_of_mem _ hx)
  have hc := countE_pos hb
  have hbs := hr.1
  have hbb := hb.base
  have h1 := hs.tabL b hb.right hT
  have e1 := stepD_O hM hb.right
  have e2 := tabD_O hs hT hb.right
  have hfd : foldD (b :: A) T = (match tabD T b with | some d => [d] | none => []) ++ foldD A (tabL T b) := rfl
  have hab : abOf (b :: A) M l = abOf A (stepM M b) (match stepD M b with | some d => abL l d | none => l) := rfl
  rw [hfd, hab, e1, e2]
  cases hd : dropO O b with
  | none =>
   simp only [List.nil_append]
   exact ab_fold A (s + countE b) (stepO O b) _ _ l hA' hr.2 (hO.step hb hbs) (hM.stepM b hb.right) h1.1 h1.2 (fun d hd => by have := hl d hd; omega)
  | some d =>
   simp only
   unfold dropO at hd
   split at hd
   ·rename_i c
    simp only [Option.some.injEq] at hd
    subst hd
    have ho := hO.hi b.prod
    have hk : abOK l (b.prod, O b.prod, b.base) = true := by
     unfold abOK
     simp only [Bool.and_eq_true, decide_eq_true_eq]
     refine ⟨by omega, by omega, by omega, by omega, ?_⟩
     cases hg : l.getLast? with
     | none => rfl
     | some q =>
      have := hl q (List.mem_of_getLast? hg)
      simp; omega
    have hL : abL l (b.prod, O b.prod, b.base) = l ++ [(b.prod, O b.prod, b.base)] := by unfold abL; rw [if_pos hk]
    rw [hL, ab_fold A (s + countE b) (stepO O b) _ _ _ hA' hr.2 (hO.step hb hbs) (hM.stepM b hb.right) h1.1 h1.2 (fun d hd => by
     rw [List.mem_append, List.mem_singleton] at hd
     rcases hd with hd | rfl
     ·have := hl d hd; omega
     ·simp only; omega), List.append_assoc]
   ·cases hd
theorem ab_eq (start : Int) (L : List Ba) (h0 : 0 ≤ start) (hf : ∀ b ∈ L, Fit b) (hr : RowC start L) : abOf L [] [] = foldD L [] := by
 have := ab_fold L start (fun _ => -1) [] [] [] hf hr (OIs.nil h0) rep_nil List.Pairwise.nil rep_nil (by simp)
 simpa using this
def AOK (d : La) : Prop := 0 ≤ d.1 ∧ 0 ≤ d.2.1 ∧ d.2.1 < d.2.2 ∧ d.2.2 ≤ 1099511627776
theorem abOK_ok {l d} (h : abOK l d = true) : AOK d := by
 unfold abOK at h
 simp only [Bool.and_eq_true, decide_eq_true_eq] at h
 unfold AOK; omega
theorem abOf_ok : ∀ (A : List Ba) (M : List Pr) (l : List La), (∀ d ∈ l, AOK d) → ∀ d ∈ abOf A M l, AOK d
 | [], _, _, h => h
 | b :: A, M, l, h => by
  refine abOf_ok A _ _ ?_
  split
  ·rename_i d0 _
   unfold abL
   split
   ·rename_i hk
    intro d hd
    rw [List.mem_append, List.mem_singleton] at hd
    rcases hd with hd | rfl
    ·exact h d hd
    ·exact abOK_ok hk
   ·exact h
  ·exact h
def inR2 (lo hi : Int) (d : La) : Bool := decide (lo < hi) && (decide (d.2.1 < hi) && decide (d.2.2 ≥ lo))
theorem inR_eq {lo hi : Int} {d : La} (h : AOK d) : inR lo hi d = inR2 lo hi d := by
 unfold AOK at h
 unfold inR inR2 mx
 rw [Bool.eq_iff_iff]
 simp only [Bool.and_eq_true, decide_eq_true_eq]
 split <;> constructor <;> intro g <;> omega
theorem rwithin_loop (l : List La) (hn : l.length ≤ 100000) (lo hi : Int) (f : Fl) (hf : f = .ro ∨ (f = .full ∧ l = [])) (H : Heap) (r : List La) : ∀ (p out : List La) (fl : Fl) (N : Heap), l = p ++ r → out.length ≤ p.length → (fl = .own ∨ (fl = .full ∧ out = [])) →
  ∃ N' fl', loopA W loopW (.ghost (.kill k_ref10_Within_0) l_ref10_Within_0) [(1, .int .i64 lo), (2, .int .i64 hi), (7, .list 3 (out.map laV) fl), (10, .list 3 (l.map laV) f), (11, .int .i64 (l.length : Nat)), (12, .int .i64 (p.length : Nat))] (hx H N) =
   some (.exit 0, [(7, .list 3 ((out ++ r.filter (inR2 lo hi)).map laV) fl')], hx H N') ∧ (fl' = .own ∨ (fl' = .full ∧ out ++ r.filter (inR2 lo hi) = [])) := by
 induction r with
 | nil =>
  intro p out fl N hp ho hfl
  rw [List.append_nil] at hp
  subst hp
  rw [List.filter_nil, List.append_nil]
  refine ⟨N, fl, ?_, hfl⟩
  have h1 : ¬ ((l.length : Int) < (l.length : Int)) := by omega
  refine loop_step l_ref10_Within_0.eq_1 k_ref10_Within_0.eq_1 (by kernel_rfl) ?_
  simp only [go_sem, h1, simprocAttr]
 | cons d r ih =>
  intro p out fl N hp ho hfl
  have hf0 : f = .ro := by
   rcases hf with h | ⟨_, h⟩
   ·exact h
   ·rw [hp] at h; simp at h
  subst hf0
  have hlen : l.length = p.length + (r.length + 1) := by rw [hp]; simp
  have h1 : ((p.length : Int) < (l.length : Int)) := by omega
  have e0 : (0 : Int) ≤ (p.length : Int) := by omega
  have e7 : ((p.length : Nat) : Int).toNat = p.length := by omega
  have e1 : (l.map laV)[p.length]? = some (.agg [.int .i64 d.1, .int .i64 d.2.1, .int .i64 d.2.2]) := by rw [hp]; simp [laV]
  have e6 : IntKind.i64.wrap ((p.length : Int) + 1) = ((p.length + 1 : Nat) : Int) := by rw [wrap_id (by unfold I64; omega)]; omega
  have n1 : ∀ x : Box, (N ++ [x])[N.length]? = some x := fun x => by simp
  have n2 : ∀ x z : Box, (N ++ [x]).set N.length z = N ++ [z] := fun x z => by simp
  have bb : (out.length + 1) * 24 ≤ maxBytes := by simp only [maxBytes]; omega
  have b0 : (0 + 1) * 24 ≤ maxBytes := by decide
  have e8 : out.map laV ++ [.agg [.int .i64 d.1, .int .i64 d.2.1, .int .i64 d.2.2]] = (out ++ [d]).map laV := by simp [laV]
  rw [List.filter_cons]
  have skip : inR2 lo hi d = false → ∃ N' fl', loopA W loopW (.ghost (.kill k_ref10_Within_0) l_ref10_Within_0) [(1, .int .i64 lo), (2, .int .i64 hi), (7, .list 3 (out.map laV) fl), (10, .list 3 (l.map laV) .ro), (11, .int .i64 (l.length : Nat)), (12, .int .i64 ((p.length + 1 : Nat) : Int))] (hx H (N ++ [.cells [.int .i64 d.1, .int .i64 d.2.1, .int .i64 d.2.2]])) =
   some (.exit 0, [(7, .list 3 ((out ++ r.filter (inR2 lo hi)).map laV) fl')], hx H N') ∧ (fl' = .own ∨ (fl' = .full ∧ out ++ r.filter (inR2 lo hi) = [])) := fun _ => by
   obtain ⟨N', fl', h2, h3⟩ := ih (p ++ [d]) out fl (N ++ [.cells [.int .i64 d.1, .int .i64 d.2.1, .int .i64 d.2.2]]) (by rw [hp]; simp) (by simp; omega) hfl
   simp only [List.length_append, List.length_cons, List.length_nil, Nat.zero_add] at h2
   exact ⟨N', fl', h2, h3⟩
  by_cases c1 : lo < hi
  ·by_cases c2 : d.2.1 < hi
   ·by_cases c3 : d.2.2 ≥ lo
    ·have hk : inR2 lo hi d = true := by simp [inR2, c1, c2, c3]
     rw [hk, if_pos rfl]
     obtain ⟨N', fl', h2, h3⟩ := ih (p ++ [d]) (out ++ [d]) .own (N ++ [.cells [.int .i64 d.1, .int .i64 d.2.1, .int .i64 d.2.2]]) (by rw [hp]; simp) (by simp; omega) (.inl rfl)
     rw [List.append_assoc, List.cons_append, List.nil_append] at h2 h3
     simp only [List.length_append, List.length_cons, List.length_nil, Nat.zero_add] at h2
     refine ⟨N', fl', ?_, h3⟩
     refine loop_step l_ref10_Within_0.eq_1 k_ref10_Within_0.eq_1 (by kernel_rfl) ?_
     rcases hfl with rfl | ⟨rfl, rfl⟩
     ·simp only [go_sem, h1, e0, e7, e1, n1, n2, c1, c2, c3, List.length_map, apO, bb, e8, e6, simprocAttr]
      exact h2
     ·simp only [List.map_nil, List.nil_append] at *
      simp only [go_sem, h1, e0, e7, e1, n1, n2, c1, c2, c3, List.length_nil, apF, b0, List.nil_append, e6, simprocAttr]
      rw [e8]
      exact h2
    ·have hk : inR2 lo hi d = false := by simp [inR2, c3]
     rw [hk, if_neg (by decide)]
     obtain ⟨N', fl', h2, h3⟩ := skip hk
     refine ⟨N', fl', ?_, h3⟩
     refine loop_step l_ref10_Within_0.eq_1 k_ref10_Within_0.eq_1 (by kernel_rfl) ?_
     simp only [go_sem, h1, e0, e7, e1, n1, n2, c1, c2, c3, e6, simprocAttr]
     exact h2
   ·have hk : inR2 lo hi d = false := by simp [inR2, c2]
    rw [hk, if_neg (by decide)]
    obtain ⟨N', fl', h2, h3⟩ := skip hk
    refine ⟨N', fl', ?_, h3⟩
    refine loop_step l_ref10_Within_0.eq_1 k_ref10_Within_0.eq_1 (by kernel_rfl) ?_
    simp only [go_sem, h1, e0, e7, e1, n1, n2, c1, c2, e6, simprocAttr]
    exact h2
  ·have hk : inR2 lo hi d = false := by simp [inR2, c1]
   rw [hk, if_neg (by decide)]
   obtain ⟨N', fl', h2, h3⟩ := skip hk
   refine ⟨N', fl', ?_, h3⟩
   refine loop_step l_ref10_Within_0.eq_1 k_ref10_Within_0.eq_1 (by kernel_rfl) ?_
   simp only [go_sem, h1, e0, e7, e1, n1, n2, c1, e6, simprocAttr]
   exact h2
theorem rwithin_spec (l : List La) (hn : l.length ≤ 100000) (lo hi : Int) (H : Heap) :
  ∃ f, W n_ref10_Within [.list 3 (l.map laV) .ro, .int .i64 lo, .int .i64 hi] H = some (.list 3 ((l.filter (inR2 lo hi)).map laV) f, H) ∧ (f = .own ∨ (f = .full ∧ l.filter (inR2 lo hi) = [])) := by
 obtain ⟨N, f, h, hf⟩ := rwithin_loop l hn lo hi .ro (.inl rfl) H l [] [] .full [] rfl (by simp) (.inr ⟨rfl, rfl⟩)
 simp only [List.length_nil, Int.natCast_zero, List.map_nil, List.nil_append] at h hf
 refine ⟨f, ?_, hf⟩
 generalize l.filter (inR2 lo hi) = R at *
 refine W_fn rfl rfl ?_
 rcases hf with rfl | ⟨rfl, rfl⟩
 ·have u := fun n => under_la n R
  simp only [go_sem, c_ref10_Within, List.length_map, h, u, simprocAttr]
 ·simp only [List.map_nil] at h ⊢
  simp only [go_sem, c_ref10_Within, List.length_map, h, simprocAttr]
  first | done | rfl
theorem start1_at (e : Int) (kc : Nat) (H : Heap) (hk : H[kc]? = some (.cells [.int .i64 e])) (x : La) :
  W n_aborts_Row_Start_1 [.agg [.int .i64 x.1, .int .i64 x.2.1, .int .i64 x.2.2], .ptr kc 0] H = some (.bool (decide (x.2.2 < e)), H) := by
 have gk := fun M => hx_old hk M
 refine W_fn rfl rfl ?_
 by_cases c : x.2.2 < e
 ·rw [decide_eq_true c]
  simp only [go_sem, c_aborts_Row_Start_1, gk, c, simprocAttr]
 ·rw [decide_eq_false c]
  simp only [go_sem, c_aborts_Row_Start_1, gk, c, simprocAttr]
theorem start1_spec (e : Int) (kc : Nat) (H : Heap) (hk : H[kc]? = some (.cells [.int .i64 e])) (N : Heap) (x : La) :
  W n_aborts_Row_Start_1 [.agg [.int .i64 x.1, .int .i64 x.2.1, .int .i64 x.2.2], .ptr kc 0] (hx H N) = some (.bool (decide (x.2.2 < e)), hx H N) :=
 start1_at e kc (hx H N) (hx_old hk N) x
theorem abstart_spec (l : List La) (hn : l.length ≤ 1000000) (fl : Fl) (hfl : RF l fl) (e : Int) (i : Nat) (H : Heap) (hi : Old H i (rwB l fl)) :
  W n_aborts_Row_Start [.ptr i 0, .int .i64 e] H = some (.tuple [], H.set i (rwB (l.filter fun d => !decide (d.2.2 < e)) fl)) := by
 have gi := hi.get
 have gs := hi.set
 have gi' := hi.get'
 have gs' := hi.set'
 unfold rwB at *
 rcases hfl with rfl | ⟨rfl, rfl⟩
 ·have td := delete_spec (fun d => decide (d.2.2 < e)) n_aborts_Row_Start_1 (pt H 0) (hx (H.set i (.cells [.any])) [.cells [.int .i64 e]]) l hn (fun N x => start1_spec e (pt H 0) _ (by rw [hx_getS]; rfl) N x)
  have u := fun m => under_la m (l.filter fun d => !decide (d.2.2 < e))
  generalize l.filter (fun d => !decide (d.2.2 < e)) = F at *
  refine W_fnS rfl rfl ?_
  simp only [go_sem, c_aborts_Row_Start, gi, gs, gi', gs', AVal.demote, td, u, simprocAttr]
  first | done | rfl
 ·have td := fun H => delete_nil n_aborts_Row_Start_1 (pt H 0) H
  simp only [List.filter_nil, List.map_nil] at *
  refine W_fnS rfl rfl ?_
  simp only [go_sem, c_aborts_Row_Start, gi, gs, gi', gs', AVal.demote, delete_nil, simprocAttr]
  first | done | rfl
theorem abOf_len (L : List Ba) (hL : ∀ b ∈ L, Fit b) (hn : L.length ≤ 1000) : (abOf L [] []).length ≤ L.length := by
 obtain ⟨_, _, _, _, h⟩ := abof_spec L (fun b hb => (hL b hb).ok) (fun b hb => by have := (rightE_small (hL b hb).right).1; omega) hn []
 exact h
theorem rows_spec (L : List Ba) (hL : ∀ b ∈ L, Fit b) (hn : L.length ≤ 1000) (hr : RowC 0 L) (H : Heap) : W n_law13_rows [.list 7 (L.map Ba.V) .ro] H = some (.bool true, H) := by
 obtain ⟨M, t1⟩ := fold_spec L (fun b hb => (hL b hb).ok) hn (hx H [])
 rw [hx_hx, List.nil_append, pt_hx, List.length_nil, Nat.zero_add, ← ab_eq 0 L (by decide) hL hr] at t1
 generalize (tabB (foldL L []) (foldF L [] .full) :: M) = K at *
 obtain ⟨N, fl, t2, hfl, hal⟩ := abof_spec L (fun b hb => (hL b hb).ok) (fun b hb => by have := (rightE_small (hL b hb).right).1; omega) hn (hx H K)
 rw [hx_hx, pt_hx, Nat.add_zero] at t2
 have hdl := abOf_len L hL hn
 have t3 := aball_spec (abOf L [] []) (by omega) fl hfl (pt H K.length) (hx H (K ++ rwB (abOf L [] []) fl :: N)) ⟨by rw [hx_get, List.getElem?_append_right (Nat.le_refl _), Nat.sub_self]; rfl⟩
 have t4 := fun H => dropped_self (abOf L [] []) (by omega) H
 have hdf : dFl (abOf L [] []) = .own ∨ dFl (abOf L [] []) = .full := by unfold dFl; split <;> simp
 generalize abOf L [] [] = D at *
 generalize dFl D = df at *
 rw [hx_set] at t3
 generalize (K ++ rwB D fl :: N).set K.length (rwB D .uniq) = K2 at *
 generalize (K ++ rwB D fl :: N) = K1 at *
 refine W_fn rfl rfl ?_
 rcases hdf with rfl | rfl
 all_goals simp only [go_sem, c_law13_rows, t1, t2, t3, t4, simprocAttr]
abbrev Ak := Int × La × Int
def akV (a : Ak) : AVal := .agg [.int .i64 a.1, .int .i64 a.2.1.1, .int .i64 a.2.1.2.1, .int .i64 a.2.1.2.2, .int .i64 a.2.2]
theorem abOK_aok {D : List La} {d : La} (h : abOK D d = true) : AOK d := by
 unfold abOK at h
 simp only [Bool.and_eq_true, decide_eq_true_eq] at h
 unfold AOK; omega
def AL (D : List La) : Prop := ∀ d ∈ D, AOK d
theorem AL.add {D : List La} (h : AL D) (d : La) : AL (abL D d) := by
 unfold abL
 split
 ·rename_i hk
  intro x hx
  rw [List.mem_append, List.mem_singleton] at hx
  rcases hx with hx | rfl
  ·exact h x hx
  ·exact abOK_aok hk
 ·exact h
theorem di_add {D : List La} (h : DI D) {d : La} (hd : I64 d.1 ∧ I64 d.2.1 ∧ I64 d.2.2) : DI (abL D d) := by
 unfold abL
 split
 ·intro x hx
  rw [List.mem_append, List.mem_singleton] at hx
  rcases hx with hx | rfl
  ·exact h x hx
  ·exact hd
 ·exact h
theorem AL.within {D : List La} (h : AL D) (lo hi : Int) : D.filter (inR2 lo hi) = D.filter (inR lo hi) := List.filter_congr fun d hd => (inR_eq (h d hd)).symm
theorem two_v (sz xs) {f : Fl} (h : f = .own ∨ f = .full) : ∃ v : AVal, v = .list sz xs f ∧ v.argOK = true ∧ v.strip = .list sz xs .ro := by
 rcases h with rfl | rfl
 ·exact ⟨_, rfl, rfl, rfl⟩
 ·exact ⟨_, rfl, rfl, rfl⟩
set_option maxHeartbeats 2000000 in
theorem play0_loop (l : List Ak) (hl : l.length ≤ 9223372036854775807) (hI : ∀ a ∈ l, I64 a.2.1.1 ∧ I64 a.2.1.2.1 ∧ I64 a.2.1.2.2) (lo hi : Int) (H : Heap) (m : Nat) : ∀ (i : Nat) (D : List La) (fl pf : Fl) (N : Heap), i + m = min l.length 60 → D.length ≤ i → AL D → DI D → RF D fl → PF D pf →
  ∃ D' fl' pf' N', loopA W loopW (.ghost (.kill k_law13_play_0) l_law13_play_0) [(0, .list 5 (l.map akV) .ro), (1, .int .i64 lo), (2, .int .i64 hi), (7, .ptr (pt H 0) 0), (8, .ptr (pt H 1) 0), (9, .int .i64 (i : Nat))] (hx H (rwB D fl :: plB D (lastM D) pf :: N)) =
   some (.exit 0, [(0, .list 5 (l.map akV) .ro), (7, .ptr (pt H 0) 0), (8, .ptr (pt H 1) 0)], hx H (rwB D' fl' :: plB D' (lastM D') pf' :: N')) ∧ D'.length ≤ 60 ∧ AL D' ∧ DI D' ∧ RF D' fl' ∧ PF D' pf' := by
 induction m with
 | zero =>
  intro i D fl pf N him hD hA hDI hfl hpf
  refine ⟨D, fl, pf, N, ?_, by omega, hA, hDI, hfl, hpf⟩
  generalize rwB D fl = B1 at *
  generalize plB D (lastM D) pf = B2 at *
  by_cases c : (i : Int) < (l.length : Int)
  ·have c2 : ¬ (i : Int) < 60 := by omega
   refine loop_step l_law13_play_0.eq_1 k_law13_play_0.eq_1 (by kernel_rfl) ?_
   simp only [go_sem, List.length_map, c, c2, simprocAttr]
  ·refine loop_step l_law13_play_0.eq_1 k_law13_play_0.eq_1 (by kernel_rfl) ?_
   simp only [go_sem, List.length_map, c, simprocAttr]
 | succ m ih =>
  intro i D fl pf N him hD hA hDI hfl hpf
  have c : (i : Int) < (l.length : Int) := by omega
  have c2 : (i : Int) < 60 := by omega
  have e0 : (0 : Int) ≤ (i : Int) := by omega
  have e7 : ((i : Nat) : Int).toNat = i := by omega
  have e6 : IntKind.i64.wrap ((i : Int) + 1) = ((i + 1 : Nat) : Int) := by rw [wrap_id (by unfold I64; omega)]; omega
  obtain ⟨⟨k, d, n⟩, ha⟩ : ∃ a, l[i]? = some a := ⟨_, List.getElem?_eq_getElem (by omega)⟩
  have e1 : (l.map akV)[i]? = some (.agg [.int .i64 k, .int .i64 d.1, .int .i64 d.2.1, .int .i64 d.2.2, .int .i64 n]) := by rw [List.getElem?_map, ha]; rfl
  have n1 : ∀ x : Box, (N ++ [x])[N.length]? = some x := fun x => by simp
  have n2 : ∀ x z : Box, (N ++ [x]).set N.length z = N ++ [z] := fun x z => by simp
  by_cases ck : k > 4
  ·obtain ⟨D', fl', pf', N', h, hh⟩ := ih (i + 1) D fl pf (N ++ [.cells [.int .i64 k, .int .i64 d.1, .int .i64 d.2.1, .int .i64 d.2.2, .int .i64 n]]) (by omega) (by omega) hA hDI hfl hpf
   refine ⟨D', fl', pf', N', ?_, hh⟩
   generalize rwB D fl = B1 at *
   generalize plB D (lastM D) pf = B2 at *
   generalize rwB D' fl' = B3 at *
   generalize plB D' (lastM D') pf' = B4 at *
   refine loop_step l_law13_play_0.eq_1 k_law13_play_0.eq_1 (by kernel_rfl) ?_
   simp only [go_sem, List.length_map, c, c2, e0, e7, e1, n1, n2, ck, e6, simprocAttr]
   exact h
  ·obtain ⟨A, hAk⟩ : ∃ A : Box, A = .cells [.int .i64 k, .int .i64 d.1, .int .i64 d.2.1, .int .i64 d.2.2, .int .i64 n] := ⟨_, rfl⟩
   have hpl : (if abOK D d = true then plB (D ++ [d]) d.2.2 .own else plB D (lastM D) pf) = plB (abL D d) (lastM (abL D d)) (if abOK D d = true then .own else pf) := by
    unfold abL
    split
    ·rw [lastM_snoc]
    ·rfl
   have hpf' : PF (abL D d) (if abOK D d = true then .own else pf) := by
    unfold abL
    split
    ·exact .inl rfl
    ·exact hpf
   have t1 := fun B M => abadd_spec D (by omega) fl hfl d (pt H 0) (hx H (rwB D fl :: B :: M)) ⟨by rw [hx_get]; rfl⟩
   have t2 := fun B M => padd_spec D (by omega) (lastM D) pf hpf d (pt H 1) (hx H (B :: plB D (lastM D) pf :: M)) ⟨by rw [hx_get]; rfl⟩
   rw [pl_ab, hpl] at t2
   have hA' := hA.add d
   have hDI' := di_add hDI (hI _ (List.mem_of_getElem? ha))
   simp only at hDI'
   have hfl' := @abF_ok D d fl hfl
   have hlen : (abL D d).length ≤ i + 1 := Nat.le_trans abL_len (by omega)
   generalize abL D d = D1 at *
   generalize abF d fl = fl1 at *
   generalize (if abOK D d = true then Fl.own else pf) = pf1 at *
   generalize abOK D d = ok at *
   have t3 := fun fl hfl B M => aball_spec D1 (by omega) fl hfl (pt H 0) (hx H (rwB D1 fl :: B :: M)) ⟨by rw [hx_get]; rfl⟩
   have t4 := fun H => dropped_self D1 (by omega) H
   have hru : RF D1 .uniq := .inl rfl
   obtain ⟨f5, t5, hf5⟩ := abwithin_spec D1 (by omega) .uniq hru lo hi (pt H 0) (hx H (rwB D1 .uniq :: plB D1 (lastM D1) pf1 :: (N ++ [A]))) ⟨by rw [hx_get]; rfl⟩
   obtain ⟨f6, t6, hf6⟩ := rwithin_spec D1 (by omega) lo hi (hx H (rwB D1 .uniq :: plB D1 (lastM D1) pf1 :: (N ++ [A])))
   obtain ⟨f8, t8, hf8⟩ := abwithin_spec D1 (by omega) .uniq hru d.2.1 n (pt H 0) (hx H (rwB D1 .uniq :: plB D1 (lastM D1) pf1 :: (N ++ [A]))) ⟨by rw [hx_get]; rfl⟩
   obtain ⟨f9, t9, hf9⟩ := rwithin_spec D1 (by omega) d.2.1 n (hx H (rwB D1 .uniq :: plB D1 (lastM D1) pf1 :: (N ++ [A])))
   rw [hA'.within] at t6 hf6 t9 hf9
   have t7 := fun H => dropped_self (D1.filter (inR lo hi)) (Nat.le_trans (List.length_filter_le _ _) (by omega)) H
   have t10 := fun H => dropped_self (D1.filter (inR d.2.1 n)) (Nat.le_trans (List.length_filter_le _ _) (by omega)) H
   simp only [hx_set, List.set_cons_succ, List.set_cons_zero] at t1 t2 t3 t5 t8
   have t3' := t3 fl1 hfl'
   obtain ⟨D', fl', pf', N', h, hh⟩ := ih (i + 1) D1 .uniq pf1 (N ++ [A]) (by omega) hlen hA' hDI' hru hpf'
   refine ⟨D', fl', pf', N', ?_, hh⟩
   clear t3 hh ih hDI' hDI hI
   generalize D1.filter (inR lo hi) = W1 at *
   generalize D1.filter (inR d.2.1 n) = W2 at *
   generalize rwB D' fl' = B3 at *
   generalize plB D' (lastM D') pf' = B4 at *
   generalize rwB D1 fl1 = R1 at *
   generalize rwB D1 .uniq = R2 at *
   generalize plB D (lastM D) pf = P0 at *
   generalize rwB D fl = R0 at *
   unfold laV at t1
   subst hAk
   unfold plB at *
   have f5' : f5 = .own ∨ f5 = .full := by rcases hf5 with h | ⟨h, _⟩ <;> simp [h]
   have f6' : f6 = .own ∨ f6 = .full := by rcases hf6 with h | ⟨h, _⟩ <;> simp [h]
   have f8' : f8 = .own ∨ f8 = .full := by rcases hf8 with h | ⟨h, _⟩ <;> simp [h]
   have f9' : f9 = .own ∨ f9 = .full := by rcases hf9 with h | ⟨h, _⟩ <;> simp [h]
   have p1' : pf1 = .own ∨ pf1 = .full := by rcases hpf' with h | ⟨h, _⟩ <;> simp [h]
   clear hf5 hf6 hf8 hf9 hpf'
   obtain ⟨v5, q5, a5, s5⟩ := two_v 3 (W1.map laV) f5'
   obtain ⟨v6, q6, a6, s6⟩ := two_v 3 (W1.map laV) f6'
   obtain ⟨v8, q8, a8, s8⟩ := two_v 3 (W2.map laV) f8'
   obtain ⟨v9, q9, a9, s9⟩ := two_v 3 (W2.map laV) f9'
   rw [← q5] at t5
   rw [← q6] at t6
   rw [← q8] at t8
   rw [← q9] at t9
   clear q5 q6 q8 q9
   simp only [AVal.argOK, AVal.isU] at a5 a6 a8 a9
   simp only [AVal.strip] at s5 s6 s8 s9
   refine loop_step l_law13_play_0.eq_1 k_law13_play_0.eq_1 (by kernel_rfl) ?_
   have bb : (ok != ok) = false := by cases ok <;> rfl
   rcases p1' with rfl | rfl
   all_goals
    simp only [go_sem, List.length_map, c, c2, e0, e7, e1, n1, n2, ck, t1, t2, bb, t3', t4, t5, t6, t7, t8, t9, t10, a5, a6, a8, a9, s5, s6, s8, s9, e6, simprocAttr]
    exact h
def keepA (k n : Int) (d : La) : Bool := if k = 5 then decide (d.2.2 < n) else if k = 6 then decide (d.2.2 ≥ n) else true
set_option maxHeartbeats 1000000 in
theorem play1_loop (l : List Ak) (i : Nat) (k : Int) (d0 : La) (n : Int) (ha : l[i]? = some (k, d0, n)) (hl : l.length ≤ 9223372036854775807) (D : List La) (hn : D.length ≤ 1000) (fD : Fl) (hfD : fD = .ro ∨ (fD = .full ∧ D = [])) (X7 X8 : AVal) (H : Heap) (r : List La) :
  ∀ (p out : List La) (fo : Fl) (N : Heap), D = p ++ r → out.length ≤ p.length → PF out fo →
  ∃ X fo', loopA W loopW (.ghost (.kill k_law13_play_1) l_law13_play_1) [(0, .list 5 (l.map akV) .ro), (7, X7), (8, X8), (11, .int .i64 (i : Nat)), (12, .list 3 (out.map laV) fo), (120, .list 3 (D.map laV) fD), (121, .int .i64 (D.length : Nat)), (122, .int .i64 (p.length : Nat))] (hx H N) =
   some (.exit 4, [(0, .list 5 (l.map akV) .ro), (7, X7), (8, X8), (11, .int .i64 (i : Nat)), (12, .list 3 ((out ++ r.filter (keepA k n)).map laV) fo')], hx H (N ++ X)) ∧ PF (out ++ r.filter (keepA k n)) fo' := by
 have hil : i < l.length := (List.getElem?_eq_some_iff.1 ha).1
 have i1 : (i : Int) < (l.length : Int) := by omega
 have i0 : (0 : Int) ≤ (i : Int) := by omega
 have i7 : ((i : Nat) : Int).toNat = i := by omega
 have ia : (l.map akV)[i]? = some (.agg [.int .i64 k, .int .i64 d0.1, .int .i64 d0.2.1, .int .i64 d0.2.2, .int .i64 n]) := by rw [List.getElem?_map, ha]; rfl
 induction r with
 | nil =>
  intro p out fo N hp ho hfo
  rw [List.append_nil] at hp
  subst hp
  rw [List.filter_nil, List.append_nil]
  refine ⟨[], fo, ?_, hfo⟩
  rw [List.append_nil]
  have h1 : ¬ ((D.length : Int) < (D.length : Int)) := by omega
  refine loop_step l_law13_play_1.eq_1 k_law13_play_1.eq_1 (by kernel_rfl) ?_
  simp only [go_sem, h1, simprocAttr]
 | cons d r ih =>
  intro p out fo N hp ho hfo
  have hf0 : fD = .ro := by
   rcases hfD with h | ⟨_, h⟩
   ·exact h
   ·rw [hp] at h; simp at h
  subst hf0
  have hlen : D.length = p.length + (r.length + 1) := by rw [hp]; simp
  have h1 : ((p.length : Int) < (D.length : Int)) := by omega
  have e0 : (0 : Int) ≤ (p.length : Int) := by omega
  have e7 : ((p.length : Nat) : Int).toNat = p.length := by omega
  have e1 : (D.map laV)[p.length]? = some (.agg [.int .i64 d.1, .int .i64 d.2.1, .int .i64 d.2.2]) := by rw [hp]; simp [laV]
  have e6 : IntKind.i64.wrap ((p.length : Int) + 1) = ((p.length + 1 : Nat) : Int) := by rw [wrap_id (by unfold I64; omega)]; omega
  have n1 : ∀ x : Box, (N ++ [x])[N.length]? = some x := fun x => by simp
  have n2 : ∀ x z : Box, (N ++ [x]).set N.length z = N ++ [z] := fun x z => by simp
  have bb : (out.length + 1) * 24 ≤ maxBytes := by simp only [maxBytes]; omega
  have b0 : (0 + 1) * 24 ≤ maxBytes := by decide
  have e8 : out.map laV ++ [.agg [.int .i64 d.1, .int .i64 d.2.1, .int .i64 d.2.2]] = (out ++ [d]).map laV := by simp [laV]
  have key : ∀ out' fo', out' = out ++ (if keepA k n d = true then [d] else []) → PF out' fo' → ∃ X fo'', loopA W loopW (.ghost (.kill k_law13_play_1) l_law13_play_1) [(0, .list 5 (l.map akV) .ro), (7, X7), (8, X8), (11, .int .i64 (i : Nat)), (12, .list 3 (out'.map laV) fo'), (120, .list 3 (D.map laV) .ro), (121, .int .i64 (D.length : Nat)), (122, .int .i64 ((p.length + 1 : Nat) : Int))] (hx H (N ++ [.cells [.int .i64 d.1, .int .i64 d.2.1, .int .i64 d.2.2]])) =
   some (.exit 4, [(0, .list 5 (l.map akV) .ro), (7, X7), (8, X8), (11, .int .i64 (i : Nat)), (12, .list 3 ((out ++ (d :: r).filter (keepA k n)).map laV) fo'')], hx H (N ++ X)) ∧ PF (out ++ (d :: r).filter (keepA k n)) fo'' := by
   intro out' fo' ho' hfo'
   obtain ⟨X, fo'', h2, h3⟩ := ih (p ++ [d]) out' fo' (N ++ [.cells [.int .i64 d.1, .int .i64 d.2.1, .int .i64 d.2.2]]) (by rw [hp]; simp) (by rw [ho']; split <;> simp <;> omega) hfo'
   have e : out' ++ r.filter (keepA k n) = out ++ (d :: r).filter (keepA k n) := by
    rw [ho', List.filter_cons, List.append_assoc]
    split <;> rfl
   rw [e, List.append_assoc] at h2
   rw [e] at h3
   simp only [List.length_append, List.length_cons, List.length_nil, Nat.zero_add] at h2
   exact ⟨_, fo'', h2, h3⟩
  cases hk : keepA k n d with
  | false =>
   rw [hk] at key
   obtain ⟨X, fo', h2, h3⟩ := key out fo (by simp) hfo
   refine ⟨X, fo', ?_, h3⟩
   generalize out ++ (d :: r).filter (keepA k n) = R at *
   unfold keepA at hk
   refine loop_step l_law13_play_1.eq_1 k_law13_play_1.eq_1 (by kernel_rfl) ?_
   by_cases k5 : k = 5
   ·subst k5
    rw [if_pos rfl] at hk
    have c1 : ¬ d.2.2 < n := by simpa using hk
    have c2 : ¬ ((5 : Int) < 5) := by decide
    have c3 : ¬ ((5 : Int) > 6) := by decide
    have c4 : ¬ ((5 : Int) = 6) := by decide
    simp only [go_sem, h1, e0, e7, e1, n1, n2, i1, i0, i7, ia, List.length_map, c1, c2, c3, c4, e6, simprocAttr]
    exact h2
   ·rw [if_neg k5] at hk
    by_cases k6 : k = 6
    ·subst k6
     rw [if_pos rfl] at hk
     have c1 : ¬ d.2.2 ≥ n := by simpa using hk
     have c2 : ¬ ((6 : Int) < 5) := by decide
     have c3 : ¬ ((6 : Int) > 6) := by decide
     have c4 : ¬ ((6 : Int) = 5) := by decide
     simp only [go_sem, h1, e0, e7, e1, n1, n2, i1, i0, i7, ia, List.length_map, c1, c2, c3, c4, e6, simprocAttr]
     exact h2
    ·rw [if_neg k6] at hk; cases hk
  | true =>
   rw [hk] at key
   obtain ⟨X, fo', h2, h3⟩ := key (out ++ [d]) .own (by simp) (.inl rfl)
   refine ⟨X, fo', ?_, h3⟩
   generalize out ++ (d :: r).filter (keepA k n) = R at *
   unfold keepA at hk
   refine loop_step l_law13_play_1.eq_1 k_law13_play_1.eq_1 (by kernel_rfl) ?_
   by_cases k5 : k = 5
   ·subst k5
    rw [if_pos rfl] at hk
    have c1 : d.2.2 < n := by simpa using hk
    rcases hfo with rfl | ⟨rfl, rfl⟩
    ·simp only [go_sem, h1, e0, e7, e1, n1, n2, i1, i0, i7, ia, List.length_map, c1, apO, bb, e8, e6, simprocAttr]
     exact h2
    ·simp only [List.map_nil, List.nil_append] at *
     simp only [go_sem, h1, e0, e7, e1, n1, n2, i1, i0, i7, ia, List.length_map, c1, apF, List.length_nil, b0, List.nil_append, e6, simprocAttr]
     rw [e8]; exact h2
   ·rw [if_neg k5] at hk
    by_cases k6 : k = 6
    ·subst k6
     rw [if_pos rfl] at hk
     have c1 : d.2.2 ≥ n := by simpa using hk
     have c4 : ¬ ((6 : Int) = 5) := by decide
     rcases hfo with rfl | ⟨rfl, rfl⟩
     ·simp only [go_sem, h1, e0, e7, e1, n1, n2, i1, i0, i7, ia, List.length_map, c1, c4, apO, bb, e8, e6, simprocAttr]
      exact h2
     ·simp only [List.map_nil, List.nil_append] at *
      simp only [go_sem, h1, e0, e7, e1, n1, n2, i1, i0, i7, ia, List.length_map, c1, c4, apF, List.length_nil, b0, List.nil_append, e6, simprocAttr]
      rw [e8]; exact h2
    ·by_cases k4 : k < 5
     ·rcases hfo with rfl | ⟨rfl, rfl⟩
      ·simp only [go_sem, h1, e0, e7, e1, n1, n2, i1, i0, i7, ia, List.length_map, k5, k6, k4, apO, bb, e8, e6, simprocAttr]
       exact h2
      ·simp only [List.map_nil, List.nil_append] at *
       simp only [go_sem, h1, e0, e7, e1, n1, n2, i1, i0, i7, ia, List.length_map, k5, k6, k4, apF, List.length_nil, b0, List.nil_append, e6, simprocAttr]
       rw [e8]; exact h2
     ·have k7 : k > 6 := by omega
      rcases hfo with rfl | ⟨rfl, rfl⟩
      ·simp only [go_sem, h1, e0, e7, e1, n1, n2, i1, i0, i7, ia, List.length_map, k5, k6, k4, k7, apO, bb, e8, e6, simprocAttr]
       exact h2
      ·simp only [List.map_nil, List.nil_append] at *
       simp only [go_sem, h1, e0, e7, e1, n1, n2, i1, i0, i7, ia, List.length_map, k5, k6, k4, k7, apF, List.length_nil, b0, List.nil_append, e6, simprocAttr]
       rw [e8]; exact h2
theorem keep5 (D : List La) (n : Int) : D.filter (keepA 5 n) = D.filter (fun d => !decide (d.2.2 ≥ n)) := by
 refine List.filter_congr fun d _ => ?_
 unfold keepA
 rw [if_pos rfl]
 by_cases c : d.2.2 < n
 ·have : ¬ d.2.2 ≥ n := by omega
  simp [c, this]
 ·have : d.2.2 ≥ n := by omega
  simp [c, this]
theorem keep6 (D : List La) (n : Int) : D.filter (keepA 6 n) = D.filter (fun d => !decide (d.2.2 < n)) := by
 refine List.filter_congr fun d _ => ?_
 unfold keepA
 rw [if_neg (by decide), if_pos rfl]
 by_cases c : d.2.2 < n
 ·have : ¬ d.2.2 ≥ n := by omega
  simp [c, this]
 ·have : d.2.2 ≥ n := by omega
  simp [c, this]
theorem keepO (D : List La) (k n : Int) (h5 : k ≠ 5) (h6 : k ≠ 6) : D.filter (keepA k n) = D := by
 refine List.filter_eq_self.2 fun d _ => ?_
 unfold keepA
 rw [if_neg h5, if_neg h6]
theorem RF.filter {D : List La} {fl : Fl} (h : RF D fl) (p : La → Bool) : RF (D.filter p) fl := by
 rcases h with rfl | ⟨rfl, rfl⟩
 ·exact .inl rfl
 ·exact .inr ⟨rfl, rfl⟩
set_option maxHeartbeats 2000000 in
theorem play2_loop (l : List Ak) (hl : l.length ≤ 9223372036854775807) (la : Int) (H : Heap) (m : Nat) : ∀ (i : Nat) (D : List La) (fl pf : Fl) (N : Heap), i + m = min l.length 60 → D.length ≤ 60 → RF D fl → PF D pf →
  ∃ M, loopA W loopW (.ghost (.kill k_law13_play_2) l_law13_play_2) [(0, .list 5 (l.map akV) .ro), (7, .ptr (pt H 0) 0), (8, .ptr (pt H 1) 0), (11, .int .i64 (i : Nat))] (hx H (rwB D fl :: plB D la pf :: N)) = some (.exit 2, [], hx H M) := by
 induction m with
 | zero =>
  intro i D fl pf N him hD hfl hpf
  refine ⟨rwB D fl :: plB D la pf :: N, ?_⟩
  generalize rwB D fl = B1 at *
  generalize plB D la pf = B2 at *
  by_cases c : (i : Int) < (l.length : Int)
  ·have c2 : ¬ (i : Int) < 60 := by omega
   refine loop_step l_law13_play_2.eq_1 k_law13_play_2.eq_1 (by kernel_rfl) ?_
   simp only [go_sem, List.length_map, c, c2, simprocAttr]
   first | done | rfl
  ·refine loop_step l_law13_play_2.eq_1 k_law13_play_2.eq_1 (by kernel_rfl) ?_
   simp only [go_sem, List.length_map, c, simprocAttr]
   first | done | rfl
 | succ m ih =>
  intro i D fl pf N him hD hfl hpf
  have c : (i : Int) < (l.length : Int) := by omega
  have c2 : (i : Int) < 60 := by omega
  have e0 : (0 : Int) ≤ (i : Int) := by omega
  have e7 : ((i : Nat) : Int).toNat = i := by omega
  have e6 : IntKind.i64.wrap ((i : Int) + 1) = ((i + 1 : Nat) : Int) := by rw [wrap_id (by unfold I64; omega)]; omega
  obtain ⟨⟨k, d, n⟩, ha⟩ : ∃ a, l[i]? = some a := ⟨_, List.getElem?_eq_getElem (by omega)⟩
  have e1 : (l.map akV)[i]? = some (.agg [.int .i64 k, .int .i64 d.1, .int .i64 d.2.1, .int .i64 d.2.2, .int .i64 n]) := by rw [List.getElem?_map, ha]; rfl
  have p1 := fun fD hfD => play1_loop l i k d n ha hl D (by omega) fD hfD (.ptr (pt H 0) 0) (.ptr (pt H 1) 0) H D [] [] .full (rwB D fl :: plB D la pf :: N) rfl (by simp) (.inr ⟨rfl, rfl⟩)
  obtain ⟨fD, hfD, hsh⟩ : ∃ fD : Fl, (fD = .ro ∨ (fD = .full ∧ D = [])) ∧ (pf = .own ∧ fD = .ro ∨ pf = .full ∧ fD = .full) := by
   rcases hpf with rfl | ⟨rfl, rfl⟩
   ·exact ⟨.ro, .inl rfl, .inl ⟨rfl, rfl⟩⟩
   ·exact ⟨.full, .inr ⟨rfl, rfl⟩, .inr ⟨rfl, rfl⟩⟩
  obtain ⟨X, fo, h1, hfo⟩ := p1 fD hfD
  simp only [List.length_nil, Int.natCast_zero, List.map_nil, List.nil_append, List.cons_append] at h1 hfo
  have hlen : (D.filter (keepA k n)).length ≤ 60 := Nat.le_trans (List.length_filter_le _ _) hD
  have hD1 : ∀ fl1, RF (D.filter (keepA k n)) fl1 → ∃ M, loopA W loopW (.ghost (.kill k_law13_play_2) l_law13_play_2) [(0, .list 5 (l.map akV) .ro), (7, .ptr (pt H 0) 0), (8, .ptr (pt H 1) 0), (11, .int .i64 ((i + 1 : Nat) : Int))] (hx H (rwB (D.filter (keepA k n)) fl1 :: plB (D.filter (keepA k n)) la fo :: (N ++ X))) = some (.exit 2, [], hx H M) :=
   fun fl1 h => ih (i + 1) (D.filter (keepA k n)) fl1 fo (N ++ X) (by omega) hlen h hfo
  have t1 := fun B => abcut_spec D (by omega) fl hfl n (pt H 0) (hx H (rwB D fl :: B :: (N ++ X))) ⟨by rw [hx_get]; rfl⟩
  have t2 := fun B => abstart_spec D (by omega) fl hfl n (pt H 0) (hx H (rwB D fl :: B :: (N ++ X))) ⟨by rw [hx_get]; rfl⟩
  have t3 := fun fl1 (h : RF (D.filter (keepA k n)) fl1) B => aball_spec (D.filter (keepA k n)) (by omega) fl1 h (pt H 0) (hx H (rwB (D.filter (keepA k n)) fl1 :: B :: (N ++ X))) ⟨by rw [hx_get]; rfl⟩
  have t4 := fun H => dropped_self (D.filter (keepA k n)) (by omega) H
  simp only [hx_set, List.set_cons_zero] at t1 t2 t3
  have tf : RF (D.filter (keepA k n)) fl := hfl.filter _
  have t3' := t3 fl tf
  obtain ⟨M, hM⟩ := hD1 .uniq (.inl rfl)
  refine ⟨M, ?_⟩
  have hfo' : fo = .own ∨ fo = .full := by rcases hfo with h | ⟨h, _⟩ <;> simp [h]
  clear hD1 t3 tf p1
  by_cases k5 : k = 5
  ·subst k5
   rw [← keep5] at t1
   have c6 : ¬ ((5 : Int) = 6) := by decide
   generalize D.filter (keepA 5 n) = D1 at *
   generalize rwB D1 fl = R1 at *
   generalize rwB D1 .uniq = R2 at *
   generalize rwB D fl = R0 at *
   unfold plB at *
   refine loop_step l_law13_play_2.eq_1 k_law13_play_2.eq_1 (by kernel_rfl) ?_
   rcases hfo' with rfl | rfl <;> rcases hsh with ⟨rfl, rfl⟩ | ⟨rfl, rfl⟩
   all_goals
    simp only [go_sem, List.length_map, c, c2, e0, e7, e1, h1, t1, t3', t4, c6, e6, simprocAttr]
    exact hM
  ·by_cases k6 : k = 6
   ·subst k6
    rw [← keep6] at t2
    have c5 : ¬ ((6 : Int) = 5) := by decide
    generalize D.filter (keepA 6 n) = D1 at *
    generalize rwB D1 fl = R1 at *
    generalize rwB D1 .uniq = R2 at *
    generalize rwB D fl = R0 at *
    unfold plB at *
    refine loop_step l_law13_play_2.eq_1 k_law13_play_2.eq_1 (by kernel_rfl) ?_
    rcases hfo' with rfl | rfl <;> rcases hsh with ⟨rfl, rfl⟩ | ⟨rfl, rfl⟩
    all_goals
     simp only [go_sem, List.length_map, c, c2, e0, e7, e1, h1, t2, t3', t4, c5, e6, simprocAttr]
     exact hM
   ·have hke := keepO D k n k5 k6
    generalize D.filter (keepA k n) = F at *
    obtain rfl : D = F := hke.symm
    generalize rwB D fl = R0 at *
    generalize rwB D .uniq = R2 at *
    unfold plB at *
    refine loop_step l_law13_play_2.eq_1 k_law13_play_2.eq_1 (by kernel_rfl) ?_
    rcases hfo' with rfl | rfl <;> rcases hsh with ⟨rfl, rfl⟩ | ⟨rfl, rfl⟩
    all_goals
     simp only [go_sem, List.length_map, c, c2, e0, e7, e1, h1, t3', t4, k5, k6, e6, simprocAttr]
     exact hM
set_option maxHeartbeats 2000000 in
theorem play_spec (l : List Ak) (hl : l.length ≤ 9223372036854775807) (hI : ∀ a ∈ l, I64 a.2.1.1 ∧ I64 a.2.1.2.1 ∧ I64 a.2.1.2.2) (lo hi : Int) (H : Heap) :
  W n_law13_play [.list 5 (l.map akV) .ro, .int .i64 lo, .int .i64 hi] H = some (.bool true, H) := by
 obtain ⟨D, fl, pf, N, h0, hD, hA, hDI, hfl, hpf⟩ := play0_loop l hl hI lo hi H (min l.length 60) 0 [] .full .full [] (by omega) (by simp) (by intro d h; cases h) (by intro d h; cases h) (.inr ⟨rfl, rfl⟩) (.inr ⟨rfl, rfl⟩)
 obtain ⟨M, h2⟩ := play2_loop l hl (lastM D) H (min l.length 60) 0 D .uniq pf N (by omega) hD (.inl rfl) hpf
 have t1 := abnew_spec (hx H [])
 rw [hx_hx, pt_hx, List.nil_append, List.length_nil, Nat.zero_add] at t1
 have t2 := abbytes_spec D hDI (by omega) fl hfl (pt H 0) (hx H (rwB D fl :: plB D (lastM D) pf :: N)) ⟨by rw [hx_get]; rfl⟩
 rw [hx_set, List.set_cons_zero] at t2
 have t3 := pbytes_spec D hDI (by omega) (lastM D) pf hpf (pt H 1) (hx H (rwB D .uniq :: plB D (lastM D) pf :: N)) ⟨by rw [hx_get]; rfl⟩
 have hb := encD_bytesL hDI (by omega)
 have hle : (sealE (encD D)).length < 140737488355328 := by
  have h1 : (encD D).length ≤ 10 + 30 * D.length := by
   unfold encD
   have := pN_len ((D.length : Nat) : Int)
   have := encR_len D
   rw [List.length_append]; omega
  have h2 : (sealE (encD D)).length = 4 + (encD D).length := by unfold sealE; simp [le4]; omega
  omega
 have t4 := fun H => reads_spec (sealE (encD D)) (sealE_bytes hb) hle H
 have la0 : lastM [] = -1 := rfl
 rw [la0] at h0
 generalize hS : sealE (encD D) = S at *
 generalize lastM D = la at *
 generalize rwB D fl = R0 at *
 generalize rwB D .uniq = R1 at *
 generalize plB D la pf = P0 at *
 unfold rwB plB at h0
 simp only [List.map_nil, Int.natCast_zero] at h0 h2
 clear hle hb hS
 refine W_fn rfl rfl ?_
 simp only [go_sem, c_law13_play, List.length_map, t1, h0, t2, t3, t4, h2, simprocAttr]
theorem wrap_I64 (n : Int) : I64 (IntKind.i64.wrap n) := by rw [IntKind.wrap_i64]; unfold I64; omega
theorem bits_I64 (op a b) : I64 (bits op .i64 a b) := by unfold bits; exact wrap_I64 _
theorem mx_I64 {a b : Int} (ha : I64 a) (hb : I64 b) : I64 (mx a b) := by unfold mx; split <;> assumption
abbrev AkI (a : Ak) : Prop := I64 a.2.1.1 ∧ I64 a.2.1.2.1 ∧ I64 a.2.1.2.2
abbrev atQ (n at' : Int) : Int := IntKind.i64.wrap (at' + bits .and .i64 n 7)
theorem zI64 : I64 0 := by unfold I64; omega
def akOf (n at' : Int) : Ak := (bits .and .i64 (shr .i64 n 8) 3, (bits .and .i64 n 3, mx (IntKind.i64.wrap (atQ n at' - bits .and .i64 (shr .i64 n 4) 15)) 0, atQ n at'), atQ n at')
theorem akOf_i (n at' : Int) : AkI (akOf n at') := by
 have h1 := bits_I64 .and n 3
 have h2 := mx_I64 (wrap_I64 (atQ n at' - bits .and .i64 (shr .i64 n 4) 15)) zI64
 have h3 := wrap_I64 (at' + bits .and .i64 n 7)
 simp only [AkI, akOf, atQ] at *
 exact And.intro h1 (And.intro h2 h3)
set_option maxHeartbeats 1000000 in
theorem tells_loop13 (ns : List Int) (hl : ns.length ≤ 1048576) (X0 X1 X2 X3 X4 : AVal) (H : Heap) (r : List Int) : ∀ (p : List Int) (out : List Ak) (at' : Int) (fl : Fl), ns = p ++ r → out.length = p.length → (∀ a ∈ out, AkI a) → (fl = .own ∨ (fl = .full ∧ out = [])) →
  ∃ out' at2 fl', loopA W loopW (.ghost (.kill k_law13_AbortsTells_0) l_law13_AbortsTells_0) [(0, X0), (1, X1), (2, X2), (3, X3), (4, X4), (5, .list 1 (ints .i64 ns) .ro), (13, .list 5 (out.map akV) fl), (14, .int .i64 at'), (17, .int .i64 (ns.length : Nat)), (18, .int .i64 (p.length : Nat))] H =
   some (.exit 0, [(0, X0), (1, X1), (2, X2), (3, X3), (4, X4), (13, .list 5 (out'.map akV) fl'), (14, .int .i64 at2)], H) ∧ out'.length ≤ 1048576 ∧ (∀ a ∈ out', AkI a) ∧ (fl' = .own ∨ (fl' = .full ∧ out' = [])) := by
 induction r with
 | nil =>
  intro p out at' fl hp ho hI hfl
  rw [List.append_nil] at hp
  subst hp
  refine ⟨out, at', fl, ?_, by omega, hI, hfl⟩
  have h1 : ¬ ((ns.length : Int) < (ns.length : Int)) := by omega
  refine loop_step l_law13_AbortsTells_0.eq_1 k_law13_AbortsTells_0.eq_1 (by kernel_rfl) ?_
  simp only [go_sem, h1, simprocAttr]
 | cons n r ih =>
  intro p out at' fl hp ho hI hfl
  have hlen : ns.length = p.length + (r.length + 1) := by rw [hp]; simp
  have h1 : ((p.length : Int) < (ns.length : Int)) := by omega
  have e0 : (0 : Int) ≤ (p.length : Int) := by omega
  have e7 : ((p.length : Nat) : Int).toNat = p.length := by omega
  have e1 : (ints .i64 ns)[p.length]? = some (.int .i64 n) := by rw [hp]; simp [ints]
  have e6 : IntKind.i64.wrap ((p.length : Int) + 1) = ((p.length + 1 : Nat) : Int) := by rw [wrap_id (by unfold I64; omega)]; omega
  have bb : (out.length + 1) * 40 ≤ maxBytes := by simp only [maxBytes]; omega
  have b0 : (0 + 1) * 40 ≤ maxBytes := by decide
  have e8 : out.map akV ++ [.agg [.int .i64 (akOf n at').1, .int .i64 (akOf n at').2.1.1, .int .i64 (akOf n at').2.1.2.1, .int .i64 (akOf n at').2.1.2.2, .int .i64 (akOf n at').2.2]] = (out ++ [akOf n at']).map akV := by simp [akV]
  obtain ⟨out', at2, fl', h2, h3, h4, h5⟩ := ih (p ++ [n]) (out ++ [akOf n at']) (atQ n at') .own (by rw [hp]; simp) (by simp [ho]) (by
   intro a ha
   rw [List.mem_append, List.mem_singleton] at ha
   rcases ha with ha | rfl
   ·exact hI a ha
   ·exact akOf_i n at') (.inl rfl)
  refine ⟨out', at2, fl', ?_, h3, h4, h5⟩
  simp only [List.length_append, List.length_cons, List.length_nil, Nat.zero_add] at h2
  have d1 : (akOf n at').1 = bits .and .i64 (shr .i64 n 8) 3 := rfl
  have d2 : (akOf n at').2.1.1 = bits .and .i64 n 3 := rfl
  have d3 : (akOf n at').2.1.2.1 = mx (IntKind.i64.wrap (atQ n at' - bits .and .i64 (shr .i64 n 4) 15)) 0 := rfl
  have d4 : (akOf n at').2.1.2.2 = atQ n at' := rfl
  have d5 : (akOf n at').2.2 = atQ n at' := rfl
  rw [d1, d2, d3, d4, d5] at e8
  unfold atQ at *
  generalize (out ++ [akOf n at']).map akV = R at *
  refine loop_step l_law13_AbortsTells_0.eq_1 k_law13_AbortsTells_0.eq_1 (by kernel_rfl) ?_
  rcases hfl with rfl | ⟨rfl, rfl⟩
  ·simp only [go_sem, h1, e0, e7, e1, apO, bb, List.length_map, e8, e6, simprocAttr]
   exact h2
  ·simp only [List.map_nil, List.nil_append] at *
   simp only [go_sem, h1, e0, e7, e1, apF, b0, List.length_nil, List.nil_append, e6, simprocAttr]
   rw [e8]; exact h2
set_option maxHeartbeats 1000000 in
theorem tells_spec (t : List Int) (l : List Ak) (lo hi : Int) (raw ns : List Int) (ht : ∀ x ∈ t, I64 x) (htl : t.length ≤ 1048576) (hI : ∀ a ∈ l, AkI a) (hl : l.length ≤ 1048576)
  (hlo : I64 lo) (hhi : I64 hi) (hr : ∀ x ∈ raw, 0 ≤ x ∧ x < 256) (hrl : raw.length ≤ 1048576) (hns : ∀ x ∈ ns, I64 x) (hnl : ns.length ≤ 1048576) :
  W n_law13_AbortsTells [.list 1 (ints .i64 t) .ro, .list 5 (l.map akV) .ro, .int .i64 lo, .int .i64 hi, .list 1 (ints .u8 raw) .ro, .list 1 (ints .i64 ns) .ro] [] = some (.bool true, []) := by
 obtain ⟨out, at2, fl, t0, ho, hoI, hfl⟩ := tells_loop13 ns hnl (.list 1 (ints .i64 t) .ro) (.list 5 (l.map akV) .ro) (.int .i64 lo) (.int .i64 hi) (.list 1 (ints .u8 raw) .ro) [] ns [] [] 0 .full rfl rfl (by intro a h; cases h) (.inr ⟨rfl, rfl⟩)
 simp only [List.map_nil, List.length_nil, Int.natCast_zero] at t0
 have bb : (out.length + 2) * 40 ≤ maxBytes := by simp only [maxBytes]; omega
 have b0 : (0 + 2) * 40 ≤ maxBytes := by decide
 obtain ⟨a1, ha1⟩ : ∃ a : Ak, a = (5, (0, 0, 0), IntKind.i64.wrap (at2 - bits .and .i64 lo 7)) := ⟨_, rfl⟩
 obtain ⟨a2, ha2⟩ : ∃ a : Ak, a = (6, (0, 0, 0), bits .and .i64 hi 31) := ⟨_, rfl⟩
 have e8 : out.map akV ++ [.agg [.int .i64 5, .int .i64 0, .int .i64 0, .int .i64 0, .int .i64 (IntKind.i64.wrap (at2 - bits .and .i64 lo 7))], .agg [.int .i64 6, .int .i64 0, .int .i64 0, .int .i64 0, .int .i64 (bits .and .i64 hi 31)]] = (out ++ [a1, a2]).map akV := by subst ha1; subst ha2; simp [akV]
 have hsI : ∀ a ∈ out ++ [a1, a2], AkI a := by
  intro a ha
  simp only [List.mem_append, List.mem_cons, List.not_mem_nil, or_false] at ha
  rcases ha with ha | rfl | rfl
  ·exact hoI a ha
  ·subst ha1; exact ⟨zI64, zI64, zI64⟩
  ·subst ha2; exact ⟨zI64, zI64, zI64⟩
 have t1 := fun H => play_spec (out ++ [a1, a2]) (by simp; omega) hsI (bits .and .i64 lo 63) (bits .and .i64 hi 63) H
 have t2 := fun H => play_spec l (by omega) hI lo hi H
 obtain ⟨rf, t3, hrf⟩ := row_spec t (by omega) 0 (by decide) (by decide) 40 (by decide) []
 simp only [Int.cast_ofNat_Int] at t3
 have hri := row_ri t (by omega) 0 (by decide) (by decide) 40
 have t4 := fun H => rows_spec (rowOf t 0 40) hri.fit (by have := hri.len; unfold rowOf; omega) (row_rowC t 0 40) H
 have t5 := fun H => reads_spec raw hr (by omega) H
 have t6 := fun H => ref_sealed_spec raw H hr (by omega)
 have t7 := fun H => reads_spec (sealE raw) (sealE_bytes hr) (by unfold sealE; simp [le4]; omega) H
 have t8 := fun H => known_spec H
 rw [show le4 (crcN (toN raw) : Nat) ++ raw = sealE raw from rfl] at t6
 have hrf' : rf = .ro ∨ rf = .full := by rcases hrf with h | ⟨h, _⟩ <;> simp [h]
 clear ho hoI hsI hri
 subst ha1
 subst ha2
 generalize (out ++ [(5, (0, 0, 0), IntKind.i64.wrap (at2 - bits .and .i64 lo 7)), (6, (0, 0, 0), bits .and .i64 hi 31)]).map akV = R at *
 generalize sealE raw = SR at *
 refine W_fn0 rfl rfl ?_
 rcases hfl with rfl | ⟨rfl, rfl⟩
 ·rcases hrf' with rfl | rfl
  all_goals simp only [go_sem, trim_same, c_law13_AbortsTells, List.length_map, t0, apO, bb, e8, t1, t2, t3, t4, t5, t6, t7, t8, simprocAttr]
 ·simp only [List.map_nil, List.nil_append] at *
  subst e8
  rcases hrf' with rfl | rfl
  all_goals
   simp only [go_sem, trim_same, c_law13_AbortsTells, List.length_map, t0, apF, b0, List.length_nil, List.nil_append, t1, t2, t3, t4, t5, t6, t7, t8, simprocAttr]
theorem asks_of13 : ∀ (rows : List (List AVal)), (∀ r ∈ rows, Reps [.int .i64, .int .i64, .int .i64, .int .i64, .int .i64] r) → ∃ l : List Ak, rows.map AVal.agg = l.map akV ∧ (∀ a ∈ l, AkI a) ∧ l.length = rows.length
 | [], _ => ⟨[], rfl, by simp, rfl⟩
 | r :: rows, h => by
  obtain ⟨l, h1, h2, h3⟩ := asks_of13 rows fun r hr => h r (List.mem_cons_of_mem _ hr)
  have hr := h r (by simp)
  cases hr with | cons a hr =>
  cases hr with | cons b hr =>
  cases hr with | cons c hr =>
  cases hr with | cons d hr =>
  cases hr with | cons e hr =>
  cases hr with | nil =>
  cases a with | int _ na ha =>
  cases b with | int _ nb hb =>
  cases c with | int _ nc hc =>
  cases d with | int _ nd hd =>
  cases e with | int _ ne he =>
  refine ⟨(na, (nb, nc, nd), ne) :: l, by rw [List.map_cons, List.map_cons, h1]; rfl, ?_, by simp [h3]⟩
  intro q hq
  rcases List.mem_cons.1 hq with rfl | hq
  ·exact And.intro (wf_i64 hb) (And.intro (wf_i64 hc) (wf_i64 hd))
  ·exact h2 q hq
end Go.Abs
