import Derived.Test.YtnogeclgmdkabaaKB
namespace Go.Abs
open Go Go.RowKit Go.ChangeShapes Go.WideShapes
set_option linter.unusedVariables false
set_option linter.unusedSimpArgs false
def segsOf (F : TypeId → Option (List FT)) (P : Program) : List Field → Nat → Option (List FT)
 | [], _ => some []
 | f :: fs, off => match F f.type, segsOf F P fs (off + P.cellsOf f.type) with
  | some a, some b => if f.offset = off ∧ P.cellsOf f.type = a.length then some (a ++ b) else none
  | _, _ => none
def flatsN (P : Program) : Nat → TypeId → Option (List FT)
 | 0, t => (flatOf P t).map fun f => [f]
 | n + 1, t => match P.underlying t with
  | some (.struct fs) => match segsOf (flatsN P n) P fs.toList 0 with
   | some r => if P.cellsOf t = r.length then some r else none
   | none => none
  | _ => (flatOf P t).map fun f => [f]
section
variable {H : Type} {enc : TypeId × Value → H} {P : Program} {W : World} {base : Nat} {spare : Nat → Bool} {held : Bool}
def CellsAre (W : World) (G : Gh) (fts : List FT) (cs : List Value) : Prop :=
 ∃ Vs, Reps fts Vs ∧ ∀ (j : Nat) V v, Vs[j]? = some V → cs[j]? = some v → Rv G W V v ∧ v.oneCell' = true
theorem open_one {t : TypeId} {fts : List FT} (hf : (flatOf P t).map (fun f => [f]) = some fts) {fuel cs x} (h : DataW.trod enc P W base spare held fuel t cs = some x) (G : Gh) : cs.length = fts.length ∧ CellsAre W G fts cs := by
 obtain ⟨f, h1, rfl⟩ := Option.map_eq_some_iff.1 hf
 obtain ⟨V, v, rfl, h2, h3, h4⟩ := open_flat h1 h G
 refine ⟨rfl, [V], .cons h2 .nil, ?_⟩
 intro j V' v' hV hv
 cases j with
 | zero => simp at hV hv; subst hV; subst hv; exact ⟨h3, h4⟩
 | succ j => simp at hV
theorem open_segs {F : TypeId → Option (List FT)} {cs : List Value} {G : Gh} : ∀ (l : List Field) (off : Nat) (r : List FT), segsOf F P l off = some r →
  (∀ f ∈ l, ∀ a, F f.type = some a → ((cs.drop f.offset).take (P.cellsOf f.type)).length = a.length ∧ CellsAre W G a ((cs.drop f.offset).take (P.cellsOf f.type))) → CellsAre W G r (cs.drop off)
 | [], off, r, h, _ => by
  cases h
  exact ⟨[], .nil, by simp⟩
 | f :: l, off, r, h, hF => by
  unfold segsOf at h
  split at h
  ·rename_i a b ha hb
   split at h
   ·rename_i hc
    cases h
    obtain ⟨hl1, Vs, r1, r2⟩ := hF f List.mem_cons_self a ha
    obtain ⟨Us, u1, u2⟩ := open_segs l _ b hb (fun g hg => hF g (List.mem_cons_of_mem _ hg))
    rw [hc.1, hc.2] at r2
    rw [hc.2] at u2
    refine ⟨Vs ++ Us, r1.app u1, ?_⟩
    intro j V v hV hv
    by_cases hj : j < a.length
    ·rw [List.getElem?_append_left (by rw [r1.length]; exact hj)] at hV
     exact r2 j V v hV (by rw [List.getElem?_take, if_pos hj]; exact hv)
    ·rw [List.getElem?_append_right (by rw [r1.length]; omega), r1.length] at hV
     refine u2 (j - a.length) V v hV ?_
     rw [List.getElem?_drop] at hv ⊢
     rw [← hv]; congr 1; omega
   ·cases h
  ·cases h
theorem open_flatsN : ∀ (n : Nat) (t : TypeId) (fts : List FT), flatsN P n t = some fts → ∀ fuel cs x, DataW.trod enc P W base spare held fuel t cs = some x → ∀ G : Gh, cs.length = fts.length ∧ CellsAre W G fts cs
 | 0, t, fts, hf, fuel, cs, x, h, G => open_one hf h G
 | n + 1, t, fts, hf, fuel, cs, x, h, G => by
  unfold flatsN at hf
  split at hf
  ·rename_i fs hu
   split at hf
   ·rename_i r hr
    split at hf
    ·rename_i hc
     cases hf
     obtain ⟨xs, m, rfl, rfl, hl, hxl, hx⟩ := DataW.trod_struct hu h
     refine ⟨by rw [hl, hc], ?_⟩
     refine open_segs fs.toList 0 _ hr fun f hf a ha => ?_
     obtain ⟨i, hi⟩ := List.mem_iff_getElem?.1 hf
     have hi' : fs[i]? = some f := by rw [← hi]; simp
     have h1 := hx i f hi'
     have hil : i < fs.size := by
      have := (List.getElem?_eq_some_iff.1 hi).1
      simpa using this
     obtain ⟨y, hy⟩ : ∃ y, xs[i]? = some y := ⟨_, List.getElem?_eq_getElem (by omega)⟩
     rw [hy] at h1
     exact open_flatsN n f.type a ha _ _ _ h1 G
    ·cases hf
   ·cases hf
  ·exact open_one hf h G
end
theorem open_struct {H : Type} {enc : TypeId × Value → H} {P : Program} {W : World} {r : Reach} {base b0 : Nat} {spare : Nat → Bool} {held : Bool} {t : TypeId} {fs : Array Field} {ts : List TypeId} {v : Value} {d : DataW H} {ps : List MemPlace}
  (hu : P.underlying t = some (.struct fs)) (hc : P.cellTypes P.depth t = some ts) (hv : Value.okWide P W r base t v) (h : DataW.Trod enc P W b0 spare held t v d ps) :
  ∃ arr : Array Value, v = .agg arr ∧ arr.size = P.cellsOf t ∧ (∀ (i : Nat) (f : Field), fs[i]? = some f → ∃ fuel y, DataW.trod enc P W b0 spare held fuel f.type ((arr.toList.drop f.offset).take (P.cellsOf f.type)) = some y) ∧
   ∀ i v, arr[i]? = some v → ∃ u, ts[i % ts.length]? = some u ∧ Cell.okWide P W r base u v := by
 unfold Value.okWide at hv
 rw [hu] at hv
 obtain ⟨arr, rfl, hs, ts', h1, _, h3⟩ := hv
 rw [hc] at h1
 cases h1
 obtain ⟨fuel, hf⟩ := h
 obtain ⟨xs, m, rfl, _, hl, hxl, hx⟩ := DataW.trod_struct hu hf
 refine ⟨arr, rfl, hs, ?_, h3⟩
 intro i f hi
 have h4 := hx i f hi
 have hil : i < fs.size := (Array.getElem?_eq_some_iff.1 hi).1
 obtain ⟨y, hy⟩ : ∃ y, xs[i]? = some y := ⟨_, List.getElem?_eq_getElem (by omega)⟩
 rw [hy] at h4
 exact ⟨_, _, h4⟩
theorem okWide_cell {P : Program} {W : World} {r : Reach} {base : Nat} {t e : TypeId} {v : Value} (hu : P.underlying t = some (.slice e)) (h : Cell.okWide P W r base t v) : Value.okWide P W r base t v := by
 unfold Value.okWide
 rw [hu]
 exact h
theorem trod_of {H : Type} {enc : TypeId × Value → H} {P : Program} {W : World} {base : Nat} {spare : Nat → Bool} {held : Bool} {t : TypeId} {v : Value} {fuel y} (hv : v.cells.toList = [v]) (h : DataW.trod enc P W base spare held fuel t [v] = some y) :
  DataW.Trod enc P W base spare held t v y.1 y.2 := ⟨fuel, by rw [hv]; exact h⟩
theorem row_len {H : Type} {enc : TypeId × Value → H} {P : Program} {W : World} {base : Nat} {spare : Nat → Bool} {held : Bool} {t e : TypeId} {a : Option Addr} {len cap : Nat} {d : DataW H} {ps : List MemPlace}
  (hu : P.underlying t = some (.slice e)) (h : DataW.Trod enc P W base spare held t (.slice a len cap) d ps) : len ≤ 9223372036854775807 := by
 obtain ⟨fuel, hf⟩ := h
 rcases DataW.trod_slice hu hf with ⟨hcs, hx⟩ | ⟨x, l, c, elems, rest, n, _, hcs, hx, _, hl, hm, _⟩
 ·simp [Value.cells] at hcs
  obtain ⟨rfl, rfl, rfl⟩ := hcs
  omega
 ·simp [Value.cells] at hcs
  obtain ⟨rfl, rfl, rfl⟩ := hcs
  unfold maxLen at hm
  omega
theorem st_agg4 {w : World} {A B C D : AVal} {a b c d : Value} (h1 : Stands w A a) (h2 : Stands w B b) (h3 : Stands w C c) (h4 : Stands w D d) : Stands w (.agg [A, B, C, D]) (.agg #[a, b, c, d]) := by
 refine ⟨.agg _ _ rfl ?_, ?_⟩
 ·intro j Y hY
  match j, hY with
  | 0, hY => cases hY; exact h1.1
  | 1, hY => cases hY; exact h2.1
  | 2, hY => cases hY; exact h3.1
  | 3, hY => cases hY; exact h4.1
  | n + 4, hY => simp at hY
 ·rfl
theorem open_field {H : Type} {enc : TypeId × Value → H} {P : Program} {W : World} {b0 : Nat} {spare : Nat → Bool} {held : Bool} {fs : Array Field} {arr : Array Value} {x : Value} {i t : Nat}
  (hx : ∀ (i : Nat) (f : Field), fs[i]? = some f → ∃ fuel y, DataW.trod enc P W b0 spare held fuel f.type ((arr.toList.drop f.offset).take (P.cellsOf f.type)) = some y)
  (hf : ∃ f, fs[i]? = some f ∧ f.type = t ∧ f.offset = i) (hc : P.cellsOf t = 1) (ha : arr[i]? = some x) : ∃ fuel y, DataW.trod enc P W b0 spare held fuel t [x] = some y := by
 obtain ⟨f, h1, h2, h3⟩ := hf
 obtain ⟨fuel, y, h⟩ := hx i f h1
 rw [h2, h3, hc] at h
 refine ⟨fuel, y, ?_⟩
 rw [← h]
 congr 1
 have hl : arr.toList[i]? = some x := by rw [Array.getElem?_toList]; exact ha
 obtain ⟨hlt, rfl⟩ := List.getElem?_eq_some_iff.1 hl
 rw [List.drop_eq_getElem_cons hlt]; rfl
theorem open_rowf {H : Type} {enc : TypeId × Value → H} {P : Program} {W : World} {base : Nat} {held : Bool} {t e : TypeId} {fts : List FT} {x : Value} {fuel : Nat} {y}
  (hu : P.underlying t = some (.slice e)) (he : flatsN P 2 e = some fts) (hn : P.cellsOf e = fts.length) (hv : Cell.okWide P W .any base t x) (h : DataW.trod enc P W 0 (fun _ => true) held fuel t [x] = some y) :
  ∃ rows : List (List AVal), Stands W (.list fts.length (rows.map .agg) .ro) x ∧ (∀ r ∈ rows, Reps fts r) ∧ rows.length ≤ 9223372036854775807 := by
 obtain ⟨a, len, cap, rfl⟩ := okWide_slice hu (okWide_cell hu hv)
 have hT : DataW.Trod enc P W 0 (fun _ => true) held t (.slice a len cap) y.1 y.2 := trod_of rfl h
 obtain ⟨rows, h1, h2, h3⟩ := open_rowsW hu (fun fuel cs x h G => open_flatsN 2 e fts he fuel cs x h G) hn (okWide_cell hu hv) hT
 exact ⟨rows, h1, h3, by rw [h2]; exact row_len hu hT⟩
theorem open_rrnn {H : Type} {enc : TypeId × Value → H} {P : Program} {W : World} {base : Nat} {held : Bool} {t t0 e0 t1 e1 t2 t3 : TypeId} {fts0 fts1 : List FT} {fs : Array Field} {v : Value} {d : DataW H} {ps : List MemPlace}
  (hu : P.underlying t = some (.struct fs)) (hc : P.cellTypes P.depth t = some [t0, t1, t2, t3]) (hz : P.cellsOf t = 4)
  (f0 : ∃ f, fs[0]? = some f ∧ f.type = t0 ∧ f.offset = 0) (f1 : ∃ f, fs[1]? = some f ∧ f.type = t1 ∧ f.offset = 1) (f2 : ∃ f, fs[2]? = some f ∧ f.type = t2 ∧ f.offset = 2) (f3 : ∃ f, fs[3]? = some f ∧ f.type = t3 ∧ f.offset = 3)
  (z0 : P.cellsOf t0 = 1) (z1 : P.cellsOf t1 = 1) (z2 : P.cellsOf t2 = 1) (z3 : P.cellsOf t3 = 1)
  (u0 : P.underlying t0 = some (.slice e0)) (u1 : P.underlying t1 = some (.slice e1)) (u2 : P.underlying t2 = some (.int .i64)) (u3 : P.underlying t3 = some (.int .i64))
  (g0 : flatsN P 2 e0 = some fts0) (g1 : flatsN P 2 e1 = some fts1) (q0 : P.cellsOf e0 = fts0.length) (q1 : P.cellsOf e1 = fts1.length)
  (hv : Value.okWide P W .any base t v) (h : DataW.Trod enc P W 0 (fun _ => true) held t v d ps) :
  ∃ (rows0 rows1 : List (List AVal)) (n s : Int), Stands W (.agg [.list fts0.length (rows0.map .agg) .ro, .list fts1.length (rows1.map .agg) .ro, .int .i64 n, .int .i64 s]) v ∧
   (∀ r ∈ rows0, Reps fts0 r) ∧ (∀ r ∈ rows1, Reps fts1 r) ∧ rows1.length ≤ 9223372036854775807 := by
 obtain ⟨arr, rfl, hs, hx, hcell⟩ := open_struct hu hc hv h
 rw [hz] at hs
 obtain ⟨x0, x1, x2, x3, rfl⟩ : ∃ x0 x1 x2 x3, arr = #[x0, x1, x2, x3] := by
  obtain ⟨l⟩ := arr
  match l, hs with
  | [a, b, c, d], _ => exact ⟨a, b, c, d, rfl⟩
 obtain ⟨_, y0, h0⟩ := open_field hx f0 z0 rfl
 obtain ⟨_, y1, h1⟩ := open_field hx f1 z1 rfl
 obtain ⟨_, y2, h2⟩ := open_field hx f2 z2 rfl
 obtain ⟨_, y3, h3⟩ := open_field hx f3 z3 rfl
 obtain ⟨_, e, c0⟩ := hcell 0 x0 rfl
 cases e
 obtain ⟨_, e, c1⟩ := hcell 1 x1 rfl
 cases e
 obtain ⟨R, r1, r2, _⟩ := open_rowf u0 g0 q0 c0 h0
 obtain ⟨S, s1, s2, s3⟩ := open_rowf u1 g1 q1 c1 h1
 obtain ⟨n, hn, _, _⟩ := DataW.trod_int u2 h2
 cases hn
 obtain ⟨m, hm, _, _⟩ := DataW.trod_int u3 h3
 cases hm
 exact ⟨R, S, n, m, st_agg4 r1 s1 (st_int .i64 n) (st_int .i64 m), r2, s2, s3⟩
end Go.Abs
