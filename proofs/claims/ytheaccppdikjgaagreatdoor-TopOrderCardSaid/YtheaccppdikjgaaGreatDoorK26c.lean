import Derived.Test.YtheaccppdikjgaaGreatDoorK26b
namespace Go.Abs
open Go
set_option linter.unusedVariables false
set_option linter.unusedSimpArgs false
theorem mem_ins (a : Nat) : ∀ (s t : List Nat), (s ++ a :: t) ∈ ins a (s ++ t)
  | [], [] => by simp [ins]
  | [], b :: t => by simp [ins]
  | b :: s, t => by
    have := mem_ins a s t
    simp only [List.cons_append, ins, List.mem_cons, List.mem_map]
    exact .inr ⟨_, this, rfl⟩
theorem mem_perms : ∀ (l p : List Nat), p.Perm l → p ∈ perms l
  | [], p, h => by simp [perms, h.eq_nil]
  | a :: l, p, h => by
    obtain ⟨s, t, rfl⟩ := List.append_of_mem (h.symm.subset (List.mem_cons_self))
    have h2 : (s ++ t).Perm l := (List.perm_cons a).1 (List.perm_middle.symm.trans h)
    simp only [perms, List.mem_flatMap]
    exact ⟨s ++ t, mem_perms l _ h2, mem_ins a s t⟩
theorem sameE_eq : ∀ {a b : Env}, sameE a b = true → a = b
  | [], [], _ => rfl
  | (a, v) :: e, (b, w) :: f, h => by
    simp only [sameE, Bool.and_eq_true, beq_iff_eq] at h
    rw [h.1.1, same_eq _ _ h.1.2, sameE_eq h.2]
  | [], _ :: _, h => by simp [sameE] at h
  | _ :: _, [], h => by simp [sameE] at h
theorem sameE_refl : ∀ (a : Env), sameE a a = true
  | [] => rfl
  | (a, v) :: e => by simp [sameE, same_refl, sameE_refl e]
theorem sameR_eq {r : Option (Env × Heap)} {q : Env × Heap} (h : sameR r q = true) : r = some q := by
  unfold sameR at h
  split at h
  · rename_i p
    rw [Bool.and_eq_true] at h
    obtain ⟨a, b⟩ := p; obtain ⟨c, d⟩ := q
    simp only at h
    rw [sameE_eq h.1, sameH_eq h.2]
  · cases h
theorem mfold_app (step : MStep) (es : List (AVal × AVal)) : ∀ (a b : List Nat) (e : Env) (H : Heap), mfold step es (a ++ b) e H = (mfold step es a e H).bind fun r => mfold step es b r.1 r.2
  | [], b, e, H => rfl
  | i :: a, b, e, H => by
    simp only [List.cons_append, mfold]
    cases es[i]? with
    | none => rfl
    | some p =>
      simp only [Option.bind_some]
      cases step p e H with
      | none => rfl
      | some r => simp only [Option.bind_some]; exact mfold_app step es a b r.1 r.2
theorem mrun_all {step : MStep} {es : List (AVal × AVal)} {e : Env} {H : Heap} {r} (h : mrun step es e H = some r) : ∀ p : List Nat, p.Perm (List.range es.length) → mfold step es p e H = some r := by
  intro p hp
  unfold mrun at h
  obtain ⟨q, hq, h⟩ := Option.bind_eq_some_iff.1 h
  obtain ⟨hall, h⟩ := ite_some h
  simp only [Option.some.injEq] at h; subst h
  exact sameR_eq (List.all_eq_true.1 hall p (mem_perms _ p hp))
theorem mrun_of {step : MStep} {es : List (AVal × AVal)} {e : Env} {H : Heap} {r} (h : ∀ p : List Nat, p.Perm (List.range es.length) → mfold step es p e H = some r)
    (hp : ∀ p ∈ perms (List.range es.length), p.Perm (List.range es.length)) : mrun step es e H = some r := by
  unfold mrun
  rw [h _ (List.Perm.refl _)]
  simp only [Option.bind_some]
  rw [if_pos]
  rw [List.all_eq_true]
  intro p hp'
  rw [h p (hp p hp')]
  obtain ⟨a, b⟩ := r
  simp [sameR, sameE_refl, sameH_refl]
theorem ins_perm (a : Nat) : ∀ (l p : List Nat), p ∈ ins a l → p.Perm (a :: l)
  | [], p, h => by simp [ins] at h; subst h; exact .refl _
  | b :: l, p, h => by
    simp only [ins, List.mem_cons, List.mem_map] at h
    rcases h with rfl | ⟨q, hq, rfl⟩
    · exact .refl _
    · exact ((ins_perm a l q hq).cons b).trans (List.Perm.swap a b l)
theorem perms_perm : ∀ (l p : List Nat), p ∈ perms l → p.Perm l
  | [], p, h => by simp [perms] at h; subst h; exact .refl _
  | a :: l, p, h => by
    simp only [perms, List.mem_flatMap] at h
    obtain ⟨q, hq, hp⟩ := h
    exact (ins_perm a q p hp).trans ((perms_perm l q hq).cons a)
theorem path_more {N : Nat} {path : List Nat} {j : Nat} (hn : path.Nodup) (hb : ∀ k ∈ path, k < N) (hj : j < N) (hjp : j ∉ path) :
    (path ++ [j]).Nodup ∧ (∀ k ∈ path ++ [j], k < N) ∧ ∃ rest, (path ++ j :: rest).Perm (List.range N) := by
  have h1 : (path ++ [j]).Nodup := by
    rw [List.nodup_append]
    refine ⟨hn, by simp, ?_⟩
    intro a ha b hb' e
    simp only [List.mem_singleton] at hb'
    subst hb'; subst e; exact hjp ha
  have h2 : ∀ k ∈ path ++ [j], k < N := by
    intro k hk
    rw [List.mem_append, List.mem_singleton] at hk
    rcases hk with hk | rfl
    · exact hb k hk
    · exact hj
  refine ⟨h1, h2, (List.range N).filter (fun k => !(path ++ [j]).contains k), ?_⟩
  have e : path ++ j :: (List.range N).filter (fun k => !(path ++ [j]).contains k) = (path ++ [j]) ++ (List.range N).filter (fun k => !(path ++ [j]).contains k) := by simp
  rw [e]
  refine (List.perm_ext_iff_of_nodup ?_ List.nodup_range).2 fun a => ?_
  · rw [List.nodup_append]
    refine ⟨h1, (List.nodup_range).filter _, ?_⟩
    intro a ha b hb' e
    subst e
    rw [List.mem_filter] at hb'
    simp [List.contains_iff_mem] at hb'
    rw [List.mem_append, List.mem_singleton] at ha
    rcases ha with ha | rfl
    · exact hb'.2.1 ha
    · exact hb'.2.2 rfl
  · rw [List.mem_append, List.mem_filter, List.mem_range]
    constructor
    · rintro (h | h)
      · exact h2 a h
      · exact h.1
    · intro ha
      by_cases hm : a ∈ path ++ [j]
      · exact .inl hm
      · exact .inr ⟨ha, by simpa [List.contains_iff_mem] using hm⟩
theorem path_all {N : Nat} {path : List Nat} (hn : path.Nodup) (hb : ∀ k ∈ path, k < N) (hall : ∀ k, k < N → k ∈ path) : path.Perm (List.range N) :=
  (List.perm_ext_iff_of_nodup hn List.nodup_range).2 fun a => by rw [List.mem_range]; exact ⟨hb a, hall a⟩
theorem path_less {N : Nat} {path : List Nat} {j : Nat} (hj : j < N) (hjp : j ∉ path) :
    ((List.range N).filter (fun k => !(path ++ [j]).contains k)).length < ((List.range N).filter (fun k => !path.contains k)).length := by
  refine filter_lt _ _ _ j (List.mem_range.2 hj) ?_ ?_ ?_
  · simpa [List.contains_iff_mem] using hjp
  · simp [List.contains_iff_mem]
  · intro x hx
    simp [List.contains_iff_mem] at hx ⊢
    exact hx.1
end Go.Abs
