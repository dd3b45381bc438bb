import Derived.Test.YtheaccppdikjgaaGreatDoorK2
namespace Go.Abs
open Go
set_option linter.unusedVariables false
set_option linter.unusedSimpArgs false
abbrev pushW (w : World) (o : Obj) : World := { w with heap := w.heap.push o }
theorem heap_push_lt {w : World} {o : Obj} {b : Nat} (h : b < w.heap.size) : (pushW w o).heap[b]? = w.heap[b]? := by
 simp [pushW, Array.getElem?_push, Nat.ne_of_lt h]
theorem heap_push_eq {w : World} {o : Obj} : (pushW w o).heap[w.heap.size]? = some o := by simp [pushW]
theorem cell_of_heap {w w' : World} {b o : Nat} (h : w'.heap[b]? = w.heap[b]?) : w'.cell? (at_ b o) = w.cell? (at_ b o) := by
 simp [World.cell?, h]
theorem frozen_of_heap {w w' : World} {b o : Nat} (h : w'.heap[b]? = w.heap[b]?) : w'.frozen? (at_ b o) = w.frozen? (at_ b o) := by
 simp [World.frozen?, h]
theorem cell_push_lt {w : World} {obj : Obj} {b o : Nat} (h : b < w.heap.size) : (pushW w obj).cell? (at_ b o) = w.cell? (at_ b o) :=
 cell_of_heap (heap_push_lt h)
theorem cell_cells {w : World} {b o : Nat} {c : Array Value} {e : TypeId} {fr : Nat × Nat} (h : w.heap[b]? = some (.cells c e fr)) :
  w.cell? (at_ b o) = c[o]? := by simp [World.cell?, h]
theorem cell_push_eq {w : World} {c : Array Value} {e : TypeId} {fr : Nat × Nat} {o : Nat} : (pushW w (.cells c e fr)).cell? (at_ w.heap.size o) = c[o]? :=
 cell_cells heap_push_eq
theorem frozen_cells0 {w : World} {b o : Nat} {c : Array Value} {e : TypeId} {fr : Nat × Nat} (h : w.heap[b]? = some (.cells c e fr)) (hf : FrOK fr c.size) (ho : o < c.size) :
  w.frozen? (at_ b o) = false := by
 obtain ⟨lo, hi⟩ := fr
 simp only [World.frozen?, h]
 rcases hf with hf | hf
 ·have hf' : lo = hi := hf
  subst hf'
  by_cases h1 : lo ≤ o
  ·simp [Nat.not_lt.2 h1]
  ·simp [h1]
 ·have : ¬ lo ≤ o := by have hf' : c.size ≤ lo := hf; omega
  simp [this]
theorem OwnOK.fz {G w a} (h : OwnOK G w a) (x : Nat) (_ : a.2.1 ≤ x) (h2 : x < a.2.2) : w.frozen? (at_ a.1 x) = false := by
 rcases h.cells with h0 | ⟨c, e, fr, h3, h4⟩
 ·omega
 ·exact frozen_cells0 h3 (h.frozen (by omega) c e fr h3) (by omega)
theorem frozen_cells {w : World} {b o : Nat} {c : Array Value} {e : TypeId} {lo hi : Nat} (h : w.heap[b]? = some (.cells c e (lo, hi))) :
  w.frozen? (at_ b o) = (decide (lo ≤ o) && decide (o < hi)) := by simp only [World.frozen?, h]
theorem setCell_heap_ne {w : World} {a : Addr} {v : Value} {b : Nat} (h : b ≠ a.block) : (w.setCell a v).heap[b]? = w.heap[b]? := by
 simp [World.setCell, Array.getElem?_modify, Ne.symm h]
theorem setCell_heap_eq {w : World} {b o : Nat} {v : Value} {c : Array Value} {e : TypeId} {fr : Nat × Nat} (h : w.heap[b]? = some (.cells c e fr)) :
  (w.setCell (at_ b o) v).heap[b]? = some (.cells (c.setIfInBounds o v) e fr) := by
 simp [World.setCell, Array.getElem?_modify, h]
theorem setCell_size {w : World} {a : Addr} {v : Value} : (w.setCell a v).heap.size = w.heap.size := by simp [World.setCell]
theorem add_at (b o n : Nat) : (at_ b o).add n = at_ b (o + n) := by
 unfold Addr.add at_; split <;> simp_all
theorem own0_ro {sz xs v} : own0 (.list sz xs .ro) v = none := rfl
theorem own0_full {sz xs v} : own0 (.list sz xs .full) v = none := rfl
theorem own0_share0 (V : AVal) (v : Value) : own0 V.share0 v = none := by
 cases V <;> try rfl
 rename_i sz xs fl; cases fl <;> rfl
theorem own0_strip (V : AVal) (v : Value) : own0 V.strip v = none := by
 cases V <;> rfl
theorem own0_demote (V : AVal) (v : Value) : own0 V.demote v = none := by
 cases V <;> try rfl
 rename_i sz xs fl; cases fl <;> rfl
theorem ownC_share (V : AVal) (v : Value) (i : Nat) : ownC V.share v i = none := by
 cases V
 case tuple vs =>
  cases v <;> simp only [AVal.share, ownC]
  rename_i arr
  rw [List.getElem?_map]
  cases vs[i]? with
  | none => rfl
  | some Y => exact own0_share0 _ _
 case list sz xs fl => cases fl <;> simp [AVal.share, AVal.share0, ownC, own0]
 all_goals simp [AVal.share, AVal.share0, ownC, own0]
theorem ownC_demote (V : AVal) (v : Value) (i : Nat) : ownC V.demote v i = none := by
 cases V
 case list sz xs fl => cases fl <;> simp [AVal.demote, ownC, own0]
 all_goals simp [AVal.demote, ownC, own0]
theorem Rt0.of {G w V v} (h : Rv G w V v) (hu : V.isU = false) : Rt0 G w V v := by
 cases V <;> try exact h
 rename_i sz xs fl; cases fl <;> first | exact h | simp [AVal.isU] at hu
theorem Rt0.rv {G w V v} (h : Rt0 G w V v) (hu : V.isU = false) : Rv G w V v := by
 cases V <;> try exact h
 rename_i sz xs fl; cases fl <;> first | exact h | simp [AVal.isU] at hu
theorem Rv.not_tuple {G w vs v} (h : Rv G w (.tuple vs) v) : False := by cases h
theorem Rt.of0 {G w V v} (h : Rt0 G w V v) (ht : ∀ vs, V ≠ .tuple vs) : Rt G w V v := by
 cases V <;> first | exact h | exact absurd rfl (ht _)
theorem Rt.of {G w V v} (h : Rv G w V v) (hu : V.isU = false) : Rt G w V v :=
 .of0 (.of h hu) (fun vs e => by subst e; exact h.not_tuple)
theorem Rt.rt0 {G w V v} (h : Rt G w V v) (ht : ∀ vs, V ≠ .tuple vs) : Rt0 G w V v := by
 cases V <;> first | exact h | exact absurd rfl (ht _)
theorem RU.stay {G w G' w' sz xs v} (e : GE G w G' w') (h : RU G w sz xs v)
  (hc : ∀ b o len cap, v = .slice (some (at_ b o)) len cap → 0 < cap → w'.heap[b]? = w.heap[b]?) : RU G' w' sz xs v := by
 rcases h with h | ⟨b, o, len, cap, f, hv, h1, h2, h3, h4, h5, h6⟩
 ·exact .inl h
 ·refine .inr ⟨b, o, len, cap, f, hv, h1, h2, h3, fun i X j Y hi hj => (h4 i X j Y hi hj).stay e, fun k hk => ?_, h6⟩
  by_cases h0 : 0 < cap
  ·rw [cell_of_heap (hc b o len cap hv h0)]; exact h5 k hk
  ·have : len = 0 := by omega
   simp [this] at hk
theorem Rt0.stay {G w G' w' V v} (e : GE G w G' w') (h : Rt0 G w V v) (hc : ∀ a, own0 V v = some a → w'.heap[a.1]? = w.heap[a.1]?) : Rt0 G' w' V v := by
 cases V <;> try exact Rv.stay e h
 rename_i sz xs fl; cases fl
 case uniq =>
  refine RU.stay (sz := sz) (xs := xs) e h (fun b o len cap hv h0 => hc (b, o, o + cap * sz) ?_)
  subst hv; simp [own0, h0]
 all_goals exact Rv.stay e h
theorem Rt.stay {G w G' w' V v} (e : GE G w G' w') (h : Rt G w V v) (hc : ∀ i a, ownC V v i = some a → w'.heap[a.1]? = w.heap[a.1]?) : Rt G' w' V v := by
 by_cases ht : ∃ vs, V = .tuple vs
 ·obtain ⟨vs, rfl⟩ := ht
  obtain ⟨arr, rfl, hs, hv⟩ := h
  refine ⟨arr, rfl, hs, fun i X hi => (hv i X hi).stay e (fun a ha => hc i a ?_)⟩
  simp only [ownC, hi, ha]
 ·have ht' : ∀ vs, V ≠ .tuple vs := fun vs e => ht ⟨vs, e⟩
  refine .of0 ((h.rt0 ht').stay e (fun a ha => hc 0 a ?_)) ht'
  cases V <;> first | exact absurd rfl (ht' _) | simpa [ownC] using ha
theorem RU.ro {G w sz xs v} (h : RU G w sz xs v)
  (hd : ∀ b o len cap k, v = .slice (some (at_ b o)) len cap → k < len * sz → G.D b (o + k)) (fl : Fl)
  (hf : ∀ b o len cap, v = .slice (some (at_ b o)) len cap → fl = .full → cap = len) : Rv G w (.list sz xs fl) v := by
 rcases h with ⟨rfl, rfl⟩ | ⟨b, o, len, cap, f, rfl, h1, h2, h3, h4, h5, h6⟩
 ·exact .nilList sz fl
 ·exact .list sz xs fl b o len cap f h1 h2 (hf b o len cap rfl) h3 h4 h5 (fun k hk => hd b o len cap k rfl hk) h6
theorem Rv.refl_ro {G w sz xs fl v} (h : Rv G w (.list sz xs fl) v) : Rv G w (.list sz xs .ro) v := by
 cases h with
 | list _ _ _ b o len cap f hlen hcap hfull hsz hv hm hd h1 => exact .list sz xs .ro b o len cap f hlen hcap (by simp) hsz hv hm hd h1
 | nilList => exact .nilList sz .ro
theorem Rv.strip1 {G w V v} (h : Rv G w V v) : Rv G w V.strip1 v := by
 cases V <;> first | exact h | exact h.refl_ro
theorem Rv.strip {G w V v} (h : Rv G w V v) : Rv G w V.strip v := by
 cases V <;> first | exact h | exact h.refl_ro | skip
 rename_i cs
 cases h with
 | agg _ arr hs hv =>
  refine .agg _ arr (by rw [List.length_map]; exact hs) fun j Y hY => ?_
  rw [List.getElem?_map] at hY
  obtain ⟨Z, hZ, rfl⟩ := Option.map_eq_some_iff.1 hY
  exact (hv j Z hZ).strip1
theorem Rv.strip1F {G w V v} (h : Rv G w V v) : Rv G w V.strip1F v := by
 cases V <;> first | exact h | skip
 rename_i fl
 cases fl <;> first | exact h | exact h.refl_ro
theorem Rv.stripF {G w V v} (h : Rv G w V v) : Rv G w V.stripF v := by
 cases V <;> first | exact h | skip
 ·rename_i fl
  cases fl <;> first | exact h | exact h.refl_ro
 rename_i cs
 cases h with
 | agg _ arr hs hv =>
  refine .agg _ arr (by rw [List.length_map]; exact hs) fun j Y hY => ?_
  rw [List.getElem?_map] at hY
  obtain ⟨Z, hZ, rfl⟩ := Option.map_eq_some_iff.1 hY
  exact (hv j Z hZ).strip1F
theorem Rv.share0 {G w V v} (h : Rv G w V v) : Rv G w V.share0 v := by
 cases V with
 | list sz xs fl =>
  cases fl with
  | own => exact h.strip
  | uniq => exact h.strip
  | ro => exact h
  | full => exact h
 | _ => exact h
theorem Rt0.share0 {G w V v} (h : Rt0 G w V v) (hu : V.isU = false) : Rv G w V.share0 v := by
 replace h := h.rv hu
 cases V <;> try exact h
 rename_i sz xs fl; cases fl <;> first | exact h | exact h.refl_ro
theorem isU_share0 (V : AVal) : V.share0.isU = false := by
 cases V <;> try rfl
 rename_i sz xs fl; cases fl <;> rfl
theorem isU_strip (V : AVal) : V.strip.isU = false := by cases V <;> rfl
theorem Rt.share {G w V v} (h : Rt G w V v) (hu : V.hasU = false) : Rt G w V.share v := by
 by_cases ht : ∃ vs, V = .tuple vs
 ·obtain ⟨vs, rfl⟩ := ht
  obtain ⟨arr, rfl, hs, hv⟩ := h
  refine ⟨arr, rfl, by simpa using hs, fun i X hi => ?_⟩
  simp only [List.getElem?_map, Option.map_eq_some_iff] at hi
  obtain ⟨Y, hY, rfl⟩ := hi
  simp only [AVal.hasU, List.any_eq_false] at hu
  have hYu : Y.isU = false := by simpa using hu Y (List.mem_of_getElem? hY)
  exact Rt0.of ((hv i Y hY).share0 hYu) (isU_share0 Y)
 ·have ht' : ∀ vs, V ≠ .tuple vs := fun vs e => ht ⟨vs, e⟩
  have hu' : V.isU = false := by cases V <;> first | exact absurd rfl (ht' _) | simpa [AVal.hasU] using hu
  have hsh : V.share = V.share0 := by cases V <;> first | exact absurd rfl (ht' _) | rfl
  rw [hsh]
  exact Rt.of ((h.rt0 ht').share0 hu') (isU_share0 V)
theorem Rt.demote {G w V v} (h : Rt G w V v) : Rt G w V.demote v := by
 cases V
 case list sz xs fl =>
  cases fl
  ·exact h
  ·exact h
  ·exact Rv.refl_ro h
  ·exact Rv.any v
 case tuple vs => exact Rv.any v
 all_goals exact h
end Go.Abs
