import Derived.Test.YtheaccppdikjgaaGreatDoorK7
namespace Go.Abs
open Go
set_option linter.unusedVariables false
set_option linter.unusedSimpArgs false
theorem Rv.plain_strip {G w V v} (h : Rv G w V v) : V.strip.plain = true :=
 AVal.plain_strip V (fun vs e => by subst e; exact h.not_tuple)
theorem Rt0.oneCell {G w x xv} (h : Rt0 G w x xv) (h1 : x.one = true) : xv.oneCell' = true := by
 by_cases hu : x.isU = true
 ·cases x <;> simp [AVal.isU] at hu
  rename_i sz xs fl; cases fl <;> simp [AVal.isU] at hu
  rcases (show RU G w sz xs xv from h) with ⟨_, rfl⟩ | ⟨b, o, len, cap, f, rfl, _⟩ <;> rfl
 ·have h := h.rv (by simpa using hu)
  cases h with
  | lbox id hid hs => obtain ⟨a, l, c, e⟩ := hs; rw [e]; rfl
  | any => simp [AVal.one] at h1
  | agg => simp [AVal.one] at h1
  | _ => rfl
theorem cells_one {v : Value} (h : v.oneCell' = true) : v.cells = #[v] := by
 cases v <;> first | rfl | simp [Value.oneCell'] at h
theorem flat_cells {G w x xv} (h : Rt0 G w x xv) (hk : x.known = true) : x.flat.length = xv.cells.size ∧ ∀ j Y, x.flat[j]? = some Y → Rt0 G w Y (xv.cells.getD j undef) ∧
  (∀ a, own0 Y (xv.cells.getD j undef) = some a → j = 0 ∧ own0 x xv = some a) ∧
  (Y.one = true → (xv.cells.getD j undef).oneCell' = true) := by
 by_cases ha : ∃ cs, x = .agg cs
 ·obtain ⟨cs, rfl⟩ := ha
  cases (show Rv G w (.agg cs) xv from h) with
  | agg _ arr hs hv =>
   refine ⟨by simp [AVal.flat, Value.cells, hs], fun j Y hY => ?_⟩
   simp only [AVal.flat, List.getElem?_map, Option.map_eq_some_iff] at hY
   obtain ⟨Z, hZ, rfl⟩ := hY
   have hr := Rt0.of (hv j Z hZ).share0 (isU_share0 Z)
   exact ⟨hr, (fun a ho => by rw [own0_share0] at ho; cases ho), fun h1 => hr.oneCell h1⟩
 ·have hf : x.flat = [x] := by cases x <;> first | rfl | exact absurd ⟨_, rfl⟩ ha
  have h1 : x.one = true := by cases x <;> first | exact absurd ⟨_, rfl⟩ ha | exact hk
  have ho := h.oneCell h1
  rw [hf, cells_one ho]
  refine ⟨rfl, fun j Y hY => ?_⟩
  cases j with
  | zero => simp at hY; subst hY; exact ⟨by simpa using h, (fun a ho => ⟨rfl, by simpa using ho⟩), fun _ => by simpa using ho⟩
  | succ j => simp at hY
theorem heap_alloc_lt {w : World} {o : Obj} {b : Nat} (h : b < w.heap.size) : (w.alloc o).heap[b]? = w.heap[b]? := by
 show (w.heap.push o)[b]? = _
 rw [Array.getElem?_push, if_neg (Nat.ne_of_lt h)]
theorem heap_alloc_eq {w : World} {o : Obj} : (w.alloc o).heap[w.heap.size]? = some o := by
 show (w.heap.push o)[w.heap.size]? = _
 rw [Array.getElem?_push, if_pos rfl]
theorem size_alloc {w : World} {o : Obj} : (w.alloc o).heap.size = w.heap.size + 1 := by
 show (w.heap.push o).size = _
 rw [Array.size_push]
theorem St.newBox {E G env tm fly H w} (h : St E G ⟨env, tm, fly, H⟩ w) (arr : Array Value) (T : TypeId) (cs : List AVal) (hl : cs.length ≤ arr.size)
  (hc : ∀ j Y, cs[j]? = some Y → Rt0 G w Y (arr.getD j undef))
  (ho : ∀ j Y a, cs[j]? = some Y → own0 Y (arr.getD j undef) = some a → j = 0 ∧ ownP G ⟨env, tm, fly, H⟩ w (.fly 0 0) = some a) :
  ∃ G', St E G' ⟨env, tm, [(.ptr H.length 0, .pointer (some (at_ w.heap.size 0)))], H ++ [.cells cs]⟩ (w.alloc (.cells arr T)) := by
 let G' : Gh := { G with n := G.n + 1, μ := upd G.μ G.n w.heap.size }
 have hn : G.n = H.length := h.n
 have hcell : ∀ b o, b < w.heap.size → (w.alloc (.cells arr T)).cell? (at_ b o) = w.cell? (at_ b o) := fun b o hb => cell_of_heap (heap_alloc_lt hb)
 have ge : GE G w G' (w.alloc (.cells arr T)) := {
  n := Nat.le_succ _
  D := fun _ _ h => h
  μ := fun id hid => upd_ne _ _ (Nat.ne_of_lt hid)
  sl := fun _ _ => rfl
  sz := fun _ _ => rfl
  cell := fun b o hd => hcell b o (h.Db b o hd)
  still := .ofPush rfl rfl rfl rfl }
 have hμ : G'.μ H.length = w.heap.size := by rw [← hn]; exact upd_eq _ _ _
 have hnew : ∀ j, (w.alloc (.cells arr T)).cell? (at_ w.heap.size j) = arr[j]? := fun j => cell_cells heap_alloc_eq
 have hcv : ∀ j Y, cs[j]? = some Y → (w.alloc (.cells arr T)).cell? (at_ w.heap.size j) = some (arr.getD j undef) := by
  intro j Y hY
  have hj : j < cs.length := (List.getElem?_eq_some_iff.1 hY).1
  rw [hnew]; simp [Array.getElem?_eq_getElem (show j < arr.size by omega)]
 refine ⟨G', h.grow ge [.cells cs] (by simp [G', hn]) (fun b o hd => Nat.lt_of_lt_of_le (h.Db b o hd) (by rw [size_alloc]; omega)) (by rw [size_alloc]; omega) 0
  (fun b hb => .inl (heap_alloc_lt hb)) (fun b o hd => .inl hd) _ _ ?_ ?_ (.box H.length)
  (fun p => match p with | .cell _ off => .fly 0 off | .box _ => .fly 1 0 | .fly _ i => .fly 2 i | .slot _ _ => .fly 3 0)
  (fun p => by cases p <;> exact ⟨_, _, rfl⟩) ?_ ?_ ?_⟩
 ·rw [← hμ]; exact Rt.of (.ptr H.length 0 (by simp [G', hn])) rfl
 ·intro k B hB
  cases k with
  | zero =>
   simp at hB; subst hB
   intro j Y hY
   rw [Nat.add_zero, hμ]
   refine ⟨_, hcv j Y hY, (hc j Y hY).stay ge (fun a ha => heap_alloc_lt ?_)⟩
   obtain ⟨rfl, h0⟩ := ho j Y a hY ha
   exact (h.ok _ a h0).lt
  | succ k => simp at hB
 ·intro i a ha; rw [ownC_plain rfl] at ha; cases ha
 ·intro p a hp hpa
  rcases hp with ⟨id, off, rfl, hid⟩ | ⟨id, rfl, hid⟩
  ·by_cases he : id = H.length
   ·subst he
    simp only [ownP, List.getElem?_append_right (Nat.le_refl _), Nat.sub_self, List.getElem?_cons_zero, hμ] at hpa
    split at hpa
    ·rename_i Y hY
     have : cellv (w.alloc (.cells arr T)) w.heap.size off = arr.getD off undef := by unfold cellv; rw [hcv off Y hY]; rfl
     rw [this] at hpa
     obtain ⟨rfl, h0⟩ := ho off Y a hY hpa
     have hlt := (h.ok _ a h0).lt
     exact ⟨(h.ok _ a h0).stay (by rw [size_alloc]; omega) (heap_alloc_lt hlt) (h.ok _ a h0).D, .inr ⟨a, h0, rfl⟩⟩
    ·cases hpa
   ·simp only [ownP] at hpa
    rw [List.getElem?_eq_none (by simp; omega)] at hpa; cases hpa
  ·by_cases he : id = H.length
   ·subst he
    simp only [ownP, List.getElem?_append_right (Nat.le_refl _), Nat.sub_self, List.getElem?_cons_zero, hμ, Option.some.injEq] at hpa
    subst hpa
    refine ⟨⟨by rw [size_alloc]; omega, .inr ⟨arr, T, (0, 0), heap_alloc_eq, hl⟩, ?_, fun x _ hd => ?_⟩, .inl ⟨rfl, Nat.le_refl _⟩⟩
    ·intro _ c' e' fr' hc'
     rw [show (w.alloc (.cells arr T)).heap[w.heap.size]? = some (.cells arr T (0, 0)) from heap_alloc_eq] at hc'
     simp only [Option.some.injEq, Obj.cells.injEq] at hc'
     obtain ⟨_, _, rfl⟩ := hc'
     exact .inl rfl
    ·exact absurd (h.Db _ _ hd) (Nat.lt_irrefl _)
   ·simp only [ownP] at hpa
    rw [List.getElem?_eq_none (by simp; omega)] at hpa; cases hpa
 ·intro p q a b hp hq hpa hqa hh
  -- only cell 0 and the box itself own: but a cell and the box come from different places
  have key : ∀ p a, ((∃ i, p = .fly 0 i) ∨ (∃ id off, p = .cell id off ∧ H.length ≤ id) ∨ ∃ id, p = .box id ∧ H.length ≤ id) →
    ownP G' ⟨env, tm, [(.ptr H.length 0, .pointer (some (at_ w.heap.size 0)))], H ++ [.cells cs]⟩ (w.alloc (.cells arr T)) p = some a →
    (p = .cell H.length 0 ∧ a.1 < w.heap.size) ∨ (p = .box H.length ∧ a.1 = w.heap.size) := by
   intro p a hp hpa
   rcases hp with ⟨i, rfl⟩ | ⟨id, off, rfl, hid⟩ | ⟨id, rfl, hid⟩
   ·simp only [ownP, List.getElem?_cons_zero] at hpa; rw [ownC_plain rfl] at hpa; cases hpa
   ·by_cases he : id = H.length
    ·subst he
     simp only [ownP, List.getElem?_append_right (Nat.le_refl _), Nat.sub_self, List.getElem?_cons_zero, hμ] at hpa
     split at hpa
     ·rename_i Y hY
      have : cellv (w.alloc (.cells arr T)) w.heap.size off = arr.getD off undef := by unfold cellv; rw [hcv off Y hY]; rfl
      rw [this] at hpa
      obtain ⟨rfl, h0⟩ := ho off Y a hY hpa
      exact .inl ⟨rfl, (h.ok _ a h0).lt⟩
     ·cases hpa
    ·simp only [ownP] at hpa
     rw [List.getElem?_eq_none (by simp; omega)] at hpa; cases hpa
   ·by_cases he : id = H.length
    ·subst he
     simp only [ownP, List.getElem?_append_right (Nat.le_refl _), Nat.sub_self, List.getElem?_cons_zero, hμ, Option.some.injEq] at hpa
     subst hpa; exact .inr ⟨rfl, rfl⟩
    ·simp only [ownP] at hpa
     rw [List.getElem?_eq_none (by simp; omega)] at hpa; cases hpa
  have h2 := key q b hq hqa
  have h1 := key p a (by rcases hp with rfl | hp <;> first | exact .inl ⟨0, rfl⟩ | exact hp) hpa
  rcases h1 with ⟨rfl, _⟩ | ⟨rfl, _⟩ <;> rcases h2 with ⟨rfl, _⟩ | ⟨rfl, _⟩ <;> first | rfl | simp at hh
end Go.Abs
