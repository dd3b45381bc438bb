import Derived.Test.YtheaccppdikjgaaGreatDoorK8
namespace Go.Abs
open Go
set_option linter.unusedVariables false
set_option linter.unusedSimpArgs false
theorem get_fold (off : Nat) : ∀ (vs : List Value) (d : Nat) (cs : Array Value) (k : Nat),
  (((vs.zipIdx d).foldl (fun (cs : Array Value) (p : Value × Nat) => cs.setIfInBounds (off + p.2) p.1) cs)[k]? = if off + d ≤ k ∧ k < off + d + vs.length ∧ k < cs.size then vs[k - (off + d)]? else cs[k]?) ∧
  ((vs.zipIdx d).foldl (fun (cs : Array Value) (p : Value × Nat) => cs.setIfInBounds (off + p.2) p.1) cs).size = cs.size
 | [], d, cs, k => by simp; omega
 | v :: vs, d, cs, k => by
  obtain ⟨h1, h2⟩ := get_fold off vs (d + 1) (cs.setIfInBounds (off + d) v) k
  simp only [List.zipIdx_cons, List.foldl_cons]
  refine ⟨?_, by rw [h2]; simp⟩
  rw [h1, Array.size_setIfInBounds, List.length_cons]
  clear h1 h2
  by_cases hk : k = off + d
  ·subst hk
   rw [if_neg (by omega), Array.getElem?_setIfInBounds]
   by_cases hs : off + d < cs.size
   ·rw [if_pos rfl, if_pos hs, if_pos (by omega)]; simp
   ·rw [if_pos rfl, if_neg hs, if_neg (by omega), Array.getElem?_eq_none (by omega)]
  ·rw [Array.getElem?_setIfInBounds_ne (Ne.symm hk)]
   by_cases hc : off + (d + 1) ≤ k ∧ k < off + (d + 1) + vs.length ∧ k < cs.size
   ·rw [if_pos hc, if_pos (by omega)]
    have : k - (off + d) = k - (off + (d + 1)) + 1 := by omega
    rw [this, List.getElem?_cons_succ]
   ·rw [if_neg hc, if_neg (by omega)]
theorem get_fold' (off : Nat) (vs cs : Array Value) (k : Nat) :
  ((vs.zipIdx.foldl (fun (cs : Array Value) (p : Value × Nat) => cs.setIfInBounds (off + p.2) p.1) cs)[k]? = if off ≤ k ∧ k < off + vs.size ∧ k < cs.size then vs[k - off]? else cs[k]?) ∧
  (vs.zipIdx.foldl (fun (cs : Array Value) (p : Value × Nat) => cs.setIfInBounds (off + p.2) p.1) cs).size = cs.size := by
 have := get_fold off vs.toList 0 cs k
 rw [← Array.foldl_toList, Array.toList_zipIdx]
 simpa using this
structure Lay (G : Gh) (w : World) (sz : Nat) (els : List AVal) (arr : Array Value) : Prop where
 size : arr.size = els.length * sz
 hz : ∀ X, X ∈ els → X.cells.length = sz
 v : ∀ (i : Nat) X (j : Nat) Y, els[i]? = some X → X.cells[j]? = some Y → Rv G w Y (arr.getD (i * sz + j) undef) ∧ (arr.getD (i * sz + j) undef).oneCell' = true
theorem Lay.one {G w sz els arr} (h : Lay G w sz els arr) (k : Nat) (hk : k < els.length * sz) : (arr.getD k undef).oneCell' = true := by
 have hz : 0 < sz := by
  rcases Nat.eq_zero_or_pos sz with h0 | h0
  ·simp [h0] at hk
  ·exact h0
 have hi : k / sz < els.length := Nat.div_lt_of_lt_mul (by rwa [Nat.mul_comm])
 have hX : els[k / sz]? = some els[k / sz] := List.getElem?_eq_getElem hi
 have hl := h.hz _ (List.mem_of_getElem? hX)
 have hj : k % sz < els[k / sz].cells.length := by rw [hl]; exact Nat.mod_lt _ hz
 have := (h.v _ _ _ _ hX (List.getElem?_eq_getElem hj)).2
 rwa [Nat.mul_comm, Nat.div_add_mod] at this
theorem Lay.put {G w sz els arr i x xv} (h : Lay G w sz els arr) (hi : i < els.length) (hl : x.strip.cells.length = sz) (h1 : x.strip.cells.all AVal.one = true) (hx : Rv G w x xv) :
  xv.cells.size = sz ∧ Lay G w sz (els.set i x.strip) (xv.cells.zipIdx.foldl (fun (cs : Array Value) (p : Value × Nat) => cs.setIfInBounds (i * sz + p.2) p.1) arr) := by
 have hxs := hx.strip
 have hxt : ∀ us, x ≠ .tuple us := fun us e => by subst e; exact hx.not_tuple
 -- the cells
 have hcv : xv.cells.size = sz ∧ ∀ j Y, x.strip.cells[j]? = some Y → Rv G w Y (xv.cells.getD j undef) ∧ (xv.cells.getD j undef).oneCell' = true := by
  by_cases ha : ∃ cs, x = .agg cs
  ·obtain ⟨cs, rfl⟩ := ha
   have hxs' : Rv G w (.agg (cs.map AVal.strip1)) xv := hxs
   cases hxs' with
   | agg _ ar hs hv =>
    simp only [AVal.strip, AVal.cells] at hl h1 ⊢
    refine ⟨by rw [← hl, ← hs]; rfl, fun j Y hY => ⟨hv j Y hY, ?_⟩⟩
    have : Y.one = true := List.all_eq_true.1 h1 Y (List.mem_of_getElem? hY)
    exact (Rt0.ofRv (hv j Y hY)).oneCell this
  ·have hc : x.strip.cells = [x.strip] := by cases x <;> first | rfl | exact absurd ⟨_, rfl⟩ ha
   rw [hc] at hl h1 ⊢
   simp only [List.all_cons, List.all_nil, Bool.and_true] at h1
   have ho := (Rt0.ofRv hxs).oneCell h1
   rw [cells_one ho]
   simp only [List.length_singleton] at hl
   refine ⟨by simpa using hl, fun j Y hY => ?_⟩
   cases j with
   | zero => simp at hY; subst hY; exact ⟨by simpa using hxs, by simpa using ho⟩
   | succ j => simp at hY
 obtain ⟨hs, hcell⟩ := hcv
 refine ⟨hs, ⟨?_, ?_, ?_⟩⟩
 ·rw [(get_fold' (i * sz) xv.cells arr 0).2, List.length_set]; exact h.size
 ·intro X hX
  rcases List.mem_or_eq_of_mem_set hX with hX | rfl
  ·exact h.hz X hX
  ·exact hl
 ·intro i' X j Y hX hY
  have hXl : X.cells.length = sz := by
   rcases List.mem_or_eq_of_mem_set (List.mem_of_getElem? hX) with hX | rfl
   ·exact h.hz X hX
   ·exact hl
  have hj : j < sz := by rw [← hXl]; exact (List.getElem?_eq_some_iff.1 hY).1
  have hi' : i' < els.length := by have := (List.getElem?_eq_some_iff.1 hX).1; simpa using this
  have hbd : i' * sz + j < arr.size := by
   rw [h.size]
   have : (i' + 1) * sz ≤ els.length * sz := Nat.mul_le_mul_right _ (by omega)
   rw [Nat.add_mul] at this; omega
  rw [List.getElem?_set] at hX
  simp only [Array.getD_eq_getD_getElem?]
  rw [(get_fold' (i * sz) xv.cells arr (i' * sz + j)).1, hs]
  by_cases he : i = i'
  ·subst he
   simp only [if_true, hi, Option.some.injEq] at hX; subst hX
   rw [if_pos ⟨by omega, by omega, hbd⟩, Nat.add_sub_cancel_left]
   have := hcell j Y hY
   simpa only [Array.getD_eq_getD_getElem?] using this
  ·simp only [he, if_false] at hX
   rw [if_neg]
   ·have := h.v i' X j Y hX hY
    simpa only [Array.getD_eq_getD_getElem?] using this
   ·rintro ⟨g1, g2, _⟩
    rcases Nat.lt_or_gt_of_ne he with hlt | hgt
    ·have : (i + 1) * sz ≤ i' * sz := Nat.mul_le_mul_right _ hlt
     rw [Nat.add_mul] at this; omega
    ·have : (i' + 1) * sz ≤ i * sz := Nat.mul_le_mul_right _ hgt
     rw [Nat.add_mul] at this; omega
theorem St.newData {E G env tm fly H w w'} (h : St E G ⟨env, tm, fly, H⟩ w) (arr : Array Value) (T : TypeId) (fr : Nat × Nat) (hw : w'.heap = w.heap.push (.cells arr T fr)) (hst : Still w w')
  (sz : Nat) (xs : List AVal) (fl : Fl) (len cap : Nat) (f : Nat → Value) (hlen : xs.length = len) (hcap : len ≤ cap) (hfull : fl = .full → cap = len)
  (hsz : ∀ X, X ∈ xs → X.cells.length = sz) (hv : ∀ (i : Nat) X (j : Nat) Y, xs[i]? = some X → X.cells[j]? = some Y → Rv G w Y (f (i * sz + j)))
  (hm : ∀ k, k < len * sz → arr[k]? = some (f k)) (h1 : ∀ k, k < len * sz → (f k).oneCell' = true)
  (hbig : cap * sz ≤ arr.size) (hfr : FrOK fr arr.size) :
  ∃ G', St E G' ⟨env, tm, [(.list sz xs fl, .slice (some (at_ w.heap.size 0)) len cap)], H⟩ w' := by
 let G' : Gh := { G with D := fun b o => G.D b o ∨ (fl ≠ .uniq ∧ b = w.heap.size ∧ o < len * sz) }
 have hn : G.n = H.length := h.n
 have hsize : w'.heap.size = w.heap.size + 1 := by rw [hw, Array.size_push]
 have hlt : ∀ b, b < w.heap.size → w'.heap[b]? = w.heap[b]? := fun b hb => by rw [hw, Array.getElem?_push, if_neg (Nat.ne_of_lt hb)]
 have heq : w'.heap[w.heap.size]? = some (.cells arr T fr) := by rw [hw, Array.getElem?_push, if_pos rfl]
 have ge : GE G w G' w' := {
  n := Nat.le_refl _
  D := fun _ _ h => .inl h
  μ := fun _ _ => rfl
  sl := fun _ _ => rfl
  sz := fun _ _ => rfl
  cell := fun b o hd => cell_of_heap (hlt b (h.Db b o hd))
  still := hst }
 have hcell : ∀ k, k < len * sz → w'.cell? (at_ w.heap.size (0 + k)) = some (f k) := by
  intro k hk; rw [Nat.zero_add, cell_cells heq]; exact hm k hk
 have hvV : ∀ (i : Nat) X (j : Nat) Y, xs[i]? = some X → X.cells[j]? = some Y → Rv G' w' Y (f (i * sz + j)) := fun i X j Y hX hY => (hv i X j Y hX hY).stay ge
 have hown : ∀ i a, ownC (.list sz xs fl) (.slice (some (at_ w.heap.size 0)) len cap) i = some a → i = 0 ∧
   ((fl = .own ∧ a = (w.heap.size, len * sz, cap * sz)) ∨ (fl = .uniq ∧ a = (w.heap.size, 0, cap * sz))) := by
  intro i a ha
  simp only [ownC] at ha
  split at ha
  ·rename_i hi
   refine ⟨hi, ?_⟩
   cases fl <;> simp only [own0, reduceCtorEq] at ha
   ·split at ha
    ·simp at ha; exact .inl ⟨rfl, ha.symm⟩
    ·cases ha
   ·split at ha
    ·simp at ha; exact .inr ⟨rfl, ha.symm⟩
    ·cases ha
  ·cases ha
 refine ⟨G', by
  have := h.grow (w' := w') ge [] (by simpa [G'] using hn) ?_ (by omega) 0 (fun b hb => .inl (hlt b hb)) ?_ (.list sz xs fl) (.slice (some (at_ w.heap.size 0)) len cap)
   ?_ (by intro k B hB; simp at hB) (.fly 0 0) (fun _ => .fly 0 0) (fun _ => ⟨0, 0, rfl⟩) ?_ ?_ ?_
  ·simpa using this
  ·rintro b o (hd | ⟨_, rfl, _⟩)
   ·have := h.Db b o hd; omega
   ·omega
  ·rintro b o (hd | ⟨_, rfl, _⟩)
   ·exact .inl hd
   ·exact .inr (.inl (Nat.le_refl _))
  ·by_cases hu : fl = .uniq
   ·subst hu
    exact .inr ⟨_, _, _, _, f, rfl, hlen, hcap, hsz, hvV, hcell, h1⟩
   ·refine Rt.of (.list sz xs fl _ _ _ _ f hlen hcap hfull hsz hvV hcell (fun k hk => .inr ⟨hu, rfl, by omega⟩) h1) ?_
    cases fl <;> first | rfl | exact absurd rfl hu
  ·intro i a ha
   obtain ⟨rfl, hh⟩ := hown i a ha
   refine ⟨?_, .inl ⟨rfl, ?_⟩⟩
   ·rcases hh with ⟨hf, rfl⟩ | ⟨hf, rfl⟩
    ·refine ⟨by show w.heap.size < _; omega, .inr ⟨arr, T, fr, heq, hbig⟩, ?_, fun x hx hd => ?_⟩
     ·intro _ c' e' fr' hc'
      rw [show w'.heap[w.heap.size]? = _ from heq] at hc'
      simp only [Option.some.injEq, Obj.cells.injEq] at hc'
      obtain ⟨rfl, _, rfl⟩ := hc'
      exact hfr
     ·rcases hd with hd | ⟨_, _, hd⟩
      ·exact absurd (h.Db _ _ hd) (Nat.lt_irrefl _)
      ·exact absurd hd (Nat.not_lt.2 hx)
    ·refine ⟨by show w.heap.size < _; omega, .inr ⟨arr, T, fr, heq, hbig⟩, ?_, fun x hx hd => ?_⟩
     ·intro _ c' e' fr' hc'
      rw [show w'.heap[w.heap.size]? = _ from heq] at hc'
      simp only [Option.some.injEq, Obj.cells.injEq] at hc'
      obtain ⟨rfl, _, rfl⟩ := hc'
      exact hfr
     ·rcases hd with hd | ⟨hd, _, _⟩
      ·exact absurd (h.Db _ _ hd) (Nat.lt_irrefl _)
      ·exact hd hf
   ·rcases hh with ⟨_, rfl⟩ | ⟨_, rfl⟩ <;> exact Nat.le_refl _
  ·rintro p a (⟨id, off, rfl, hid⟩ | ⟨id, rfl, hid⟩) hp
   ·simp only [ownP, List.append_nil] at hp; rw [List.getElem?_eq_none hid] at hp; cases hp
   ·simp only [ownP, List.append_nil] at hp; rw [List.getElem?_eq_none hid] at hp; cases hp
  ·intro p q a b hp hq hpa hqa _
   have key : ∀ p a, ((∃ i, p = .fly 0 i) ∨ (∃ id off, p = .cell id off ∧ H.length ≤ id) ∨ ∃ id, p = .box id ∧ H.length ≤ id) →
     ownP G' ⟨env, tm, [(.list sz xs fl, .slice (some (at_ w.heap.size 0)) len cap)], H ++ []⟩ w' p = some a → p = .fly 0 0 := by
    rintro p a (⟨i, rfl⟩ | ⟨id, off, rfl, hid⟩ | ⟨id, rfl, hid⟩) hp
    ·obtain ⟨rfl, _⟩ := hown i a (by simpa [ownP] using hp); rfl
    ·simp only [ownP, List.append_nil] at hp; rw [List.getElem?_eq_none hid] at hp; cases hp
    ·simp only [ownP, List.append_nil] at hp; rw [List.getElem?_eq_none hid] at hp; cases hp
   rw [key q b hq hqa, key p a (by rcases hp with rfl | hp <;> first | exact .inl ⟨0, rfl⟩ | exact hp) hpa]⟩
end Go.Abs
