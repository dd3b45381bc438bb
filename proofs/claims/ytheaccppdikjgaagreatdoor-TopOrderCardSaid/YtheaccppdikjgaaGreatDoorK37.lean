import Derived.Test.YtheaccppdikjgaaGreatDoorK36
import Derived.ChangeArms
namespace Go.Abs
open Go Go.RowKit Go.ChangeShapes Go.WideShapes
set_option linter.unusedVariables false
set_option linter.unusedSimpArgs false
inductive FT where
 | int (k : IntKind) | str | bool
 deriving DecidableEq
inductive RepF : FT → AVal → Prop where
 | int (k : IntKind) (n : Int) (h : (Lit.int k n).wf = true) : RepF (.int k) (.int k n)
 | str (s : List UInt8) (h : s.length ≤ maxLen) : RepF .str (.str s)
 | bool (b : Bool) : RepF .bool (.bool b)
inductive Reps : List FT → List AVal → Prop where
 | nil : Reps [] []
 | cons {f V fs Vs} (h : RepF f V) (hs : Reps fs Vs) : Reps (f :: fs) (V :: Vs)
theorem Reps.length {fs Vs} (h : Reps fs Vs) : Vs.length = fs.length := by
 induction h with
 | nil => rfl
 | cons _ _ ih => simp [ih]
theorem Reps.app {fs Vs gs Ws} (h : Reps fs Vs) (k : Reps gs Ws) : Reps (fs ++ gs) (Vs ++ Ws) := by
 induction h with
 | nil => exact k
 | cons h _ ih => exact .cons h ih
def flatOf (P : Program) (t : TypeId) : Option FT :=
 match P.underlying t with
 | some (.int k) => some (.int k)
 | some .string => some .str
 | some .bool => some .bool
 | _ => none
def flatsOf (P : Program) (t : TypeId) : Option (List FT) :=
 match P.underlying t with
 | some (.struct fs) => if fs.toList.zipIdx.all (fun p => p.1.offset == p.2 && P.cellsOf p.1.type == 1) && P.cellsOf t == fs.size then fs.toList.mapM fun f => flatOf P f.type else none
 | _ => none
section
variable {H : Type} {enc : TypeId × Value → H} {P : Program} {W : World} {base : Nat} {spare : Nat → Bool} {held : Bool}
theorem open_flat {fuel : Nat} {t : TypeId} {cs : List Value} {x} {f : FT} (hf : flatOf P t = some f) (h : DataW.trod enc P W base spare held fuel t cs = some x) (G : Gh) :
  ∃ V v, cs = [v] ∧ RepF f V ∧ Rv G W V v ∧ v.oneCell' = true := by
 unfold flatOf at hf
 split at hf
 ·rename_i k hu
  cases hf
  obtain ⟨n, rfl, _, hw⟩ := DataW.trod_int hu h
  exact ⟨_, _, rfl, .int k n hw, .int k n, rfl⟩
 ·rename_i hu
  cases hf
  obtain ⟨s, rfl, _, hs⟩ := DataW.trod_string hu h
  exact ⟨_, _, rfl, .str s.data.toList (by simpa using hs), .str s.data.toList, rfl⟩
 ·rename_i hu
  cases hf
  obtain ⟨b, rfl, _⟩ := DataW.trod_bool hu h
  exact ⟨_, _, rfl, .bool b, .bool b, rfl⟩
 ·cases hf
theorem open_flats {fuel : Nat} {t : TypeId} {cs : List Value} {x} {fts : List FT} (hf : flatsOf P t = some fts) (h : DataW.trod enc P W base spare held fuel t cs = some x) (G : Gh) :
  cs.length = fts.length ∧ ∃ Vs, Reps fts Vs ∧ ∀ (j : Nat) V v, Vs[j]? = some V → cs[j]? = some v → Rv G W V v ∧ v.oneCell' = true := by
 unfold flatsOf at hf
 split at hf
 ·rename_i fs hu
  split at hf
  ·rename_i hc
   simp only [Bool.and_eq_true, beq_iff_eq] at hc
   obtain ⟨hc1, hc2⟩ := hc
   obtain ⟨xs, n, rfl, rfl, hl, hxl, hx⟩ := DataW.trod_struct hu h
   have hlen : fts.length = fs.size := by have := mapM_some_length hf; simpa using this
   refine ⟨by rw [hl, hc2, hlen], ?_⟩
   have each : ∀ j, j < fts.length → ∃ V v, cs[j]? = some v ∧ RepF (fts.getD j .bool) V ∧ Rv G W V v ∧ v.oneCell' = true := by
    intro j hj
    have hjf : j < fs.size := by omega
    have hfj : fs[j]? = some fs[j] := by simp [hjf]
    have h1 := hx j fs[j] hfj
    have hfo : fs[j].offset = j ∧ P.cellsOf fs[j].type = 1 := by
     have := List.all_eq_true.1 hc1 (fs[j], j) (by
      rw [List.mem_zipIdx_iff_getElem?]; simp [hjf])
     simpa using this
    rw [hfo.1, hfo.2] at h1
    have hx2 : ∃ y, xs[j]? = some y := ⟨_, List.getElem?_eq_getElem (by omega)⟩
    obtain ⟨y, hy⟩ := hx2
    rw [hy] at h1
    have hflat : flatOf P fs[j].type = some (fts.getD j .bool) := by
     have := mapM_some_get hf j fs[j] (by simp)
     rw [this, List.getD_eq_getElem?_getD, List.getElem?_eq_getElem hj]; rfl
    obtain ⟨V, v, e1, e2, e3, e4⟩ := open_flat hflat h1 G
    refine ⟨V, v, ?_, e2, e3, e4⟩
    have : ((cs.drop j).take 1)[0]? = some v := by rw [e1]; rfl
    simpa using this
   clear hx hf hc1 hc2 hl
   -- one by one
   have build : ∀ (m : Nat), m ≤ fts.length → ∃ Vs, Reps (fts.take m) Vs ∧ ∀ (j : Nat) V v, Vs[j]? = some V → cs[j]? = some v → Rv G W V v ∧ v.oneCell' = true := by
    intro m
    induction m with
    | zero => intro _; exact ⟨[], .nil, by simp⟩
    | succ m ih =>
     intro hm
     obtain ⟨Vs, r1, r2⟩ := ih (by omega)
     obtain ⟨V, v, q1, q2, q3, q4⟩ := each m (by omega)
     have hVl : Vs.length = m := by rw [r1.length, List.length_take]; omega
     refine ⟨Vs ++ [V], ?_, ?_⟩
     ·rw [List.take_succ_eq_append_getElem (by omega)]
      refine r1.app (.cons ?_ .nil)
      rw [List.getD_eq_getElem?_getD, List.getElem?_eq_getElem (show m < fts.length by omega)] at q2
      exact q2
     ·intro j V' v' hV hv
      by_cases hj : j < m
      ·rw [List.getElem?_append_left (by omega)] at hV
       exact r2 j V' v' hV hv
      ·have hjm : j = m := by
        have := (List.getElem?_eq_some_iff.1 hV).1
        simp at this; omega
       subst hjm
       rw [List.getElem?_append_right (by omega), hVl, Nat.sub_self] at hV
       simp at hV; subst hV
       rw [q1] at hv; cases hv
       exact ⟨q3, q4⟩
   obtain ⟨Vs, r1, r2⟩ := build fts.length (Nat.le_refl _)
   rw [List.take_length] at r1
   exact ⟨Vs, r1, r2⟩
  ·cases hf
 ·cases hf
theorem cells_get {a : Addr} {n : Nat} {cs : List Value} (h : W.cells? base a n = some cs) (hs : a.spot = none) : ∀ j, j < n → W.cell? (at_ a.block (a.off + j)) = cs[j]? := by
 unfold World.cells? at h
 split at h
 ·intro j hj
  have := mapM_some_get h j j (by simp [hj])
  rw [← this]
  obtain ⟨b, o, sp⟩ := a
  simp only at hs; subst hs
  rw [← add_at]
 ·cases h
end
theorem open_rowsW {H : Type} {enc : TypeId × Value → H} {P : Program} {W : World} {base : Nat} {held : Bool} {t e : TypeId} {fts : List FT} {a : Option Addr} {len cap : Nat} {d : DataW H} {ps : List MemPlace}
  (hu : P.underlying t = some (.slice e)) (he : ∀ fuel cs x, DataW.trod enc P W 0 (fun _ => true) held fuel e cs = some x → ∀ G : Gh, cs.length = fts.length ∧ ∃ Vs, Reps fts Vs ∧ ∀ (j : Nat) V v, Vs[j]? = some V → cs[j]? = some v → Rv G W V v ∧ v.oneCell' = true) (hn : P.cellsOf e = fts.length) (hv : Value.okWide P W .any base t (.slice a len cap))
  (h : DataW.Trod enc P W 0 (fun _ => true) held t (.slice a len cap) d ps) : ∃ rows : List (List AVal), Stands W (.list fts.length (rows.map .agg) .ro) (.slice a len cap) ∧ rows.length = len ∧ ∀ r ∈ rows, Reps fts r := by
 obtain ⟨fuel, hf⟩ := h
 have hsp : ∀ x, a = some x → x.spot = none := by
  intro x hx; subst hx
  simp only [Value.okWide, hu, Cell.okWide, Cell.ok] at hv
  exact hv.2.2.2.1
 rcases DataW.trod_slice hu hf with ⟨hcs, _⟩ | ⟨x, l, c, elems, rest, n, _, hcs, _, _, hl, _, hlen, hel, _, _⟩
 ·simp [Value.cells] at hcs
  obtain ⟨rfl, rfl, rfl⟩ := hcs
  exact ⟨[], ⟨.nilList _ _, rfl⟩, rfl, by simp⟩
 ·simp [Value.cells] at hcs
  obtain ⟨rfl, rfl, rfl⟩ := hcs
  have hx := hsp x rfl
  have each : ∀ i, i < len → ∃ cs Vs, W.cells? 0 (x.add (i * fts.length)) fts.length = some cs ∧ cs.length = fts.length ∧ Reps fts Vs ∧ ∀ (j : Nat) V v, Vs[j]? = some V → cs[j]? = some v → Rv (G0 W) W V v ∧ v.oneCell' = true := by
   intro i hi
   have h1 := hel i hi
   rw [List.getElem?_eq_getElem (by omega), hn] at h1
   obtain ⟨cs, h2, h3⟩ := Option.bind_eq_some_iff.1 h1
   obtain ⟨h4, Vs, h5, h6⟩ := he _ _ _ h3 (G0 W)
   exact ⟨cs, Vs, h2, h4, h5, h6⟩
  have rowsEx : ∀ m, m ≤ len → ∃ rows : List (List AVal), rows.length = m ∧ (∀ r ∈ rows, Reps fts r) ∧ ∀ i r, rows[i]? = some r → ∃ cs, W.cells? 0 (x.add (i * fts.length)) fts.length = some cs ∧ cs.length = fts.length ∧ ∀ (j : Nat) V v, r[j]? = some V → cs[j]? = some v → Rv (G0 W) W V v ∧ v.oneCell' = true := by
   intro m
   induction m with
   | zero => intro _; exact ⟨[], rfl, by simp, by simp⟩
   | succ m ih =>
    intro hm
    obtain ⟨rows, r1, r2, r3⟩ := ih (by omega)
    obtain ⟨cs, Vs, q1, q2, q3, q4⟩ := each m (by omega)
    refine ⟨rows ++ [Vs], by simp [r1], ?_, ?_⟩
    ·intro r hr
     rcases List.mem_append.1 hr with hr | hr
     ·exact r2 r hr
     ·rw [List.mem_singleton] at hr; subst hr; exact q3
    ·intro i r hi
     by_cases him : i < m
     ·rw [List.getElem?_append_left (by omega)] at hi; exact r3 i r hi
     ·have : i = m := by have := (List.getElem?_eq_some_iff.1 hi).1; simp at this; omega
      subst this
      rw [List.getElem?_append_right (by omega), r1, Nat.sub_self] at hi
      simp at hi; subst hi
      exact ⟨cs, q1, q2, q4⟩
  obtain ⟨rows, r1, r2, r3⟩ := rowsEx len (Nat.le_refl _)
  refine ⟨rows, ⟨?_, rfl⟩, r1, r2⟩
  obtain ⟨b, o, sp⟩ := x
  simp only at hx; subst hx
  have hsz : ∀ X ∈ rows.map AVal.agg, X.cells.length = fts.length := by
   intro X hX
   obtain ⟨r, hr, rfl⟩ := List.mem_map.1 hX
   exact (r2 r hr).length
  let f : Nat → Value := fun k => (W.cell? (at_ b (o + k))).getD undef
  have hcell : ∀ i j, i < len → j < fts.length → ∃ v, W.cell? (at_ b (o + (i * fts.length + j))) = some v ∧ v.oneCell' = true ∧ ∀ r V, rows[i]? = some r → r[j]? = some V → Rv (G0 W) W V v := by
   intro i j hi hj
   obtain ⟨r, hr⟩ : ∃ r, rows[i]? = some r := ⟨_, List.getElem?_eq_getElem (by omega)⟩
   obtain ⟨cs, q1, q2, q3⟩ := r3 i r hr
   have h1 := cells_get q1 (by unfold Addr.add; split <;> rfl) j hj
   have h2 : ((⟨b, o, none⟩ : Addr).add (i * fts.length)) = at_ b (o + i * fts.length) := add_at b o _
   rw [h2] at h1
   obtain ⟨v, hv⟩ : ∃ v, cs[j]? = some v := ⟨_, List.getElem?_eq_getElem (by omega)⟩
   rw [hv] at h1
   simp only at h1
   refine ⟨v, by rw [← h1, Nat.add_assoc], ?_, ?_⟩
   ·have hrl : j < r.length := by rw [(r2 r (List.mem_of_getElem? hr)).length]; exact hj
    exact (q3 j _ v (List.getElem?_eq_getElem hrl) hv).2
   ·intro r' V hr' hV
    rw [hr] at hr'; cases hr'
    exact (q3 j V v hV hv).1
  have hdiv : ∀ k, k < len * fts.length → ∃ i j, i < len ∧ j < fts.length ∧ k = i * fts.length + j := by
   intro k hk
   have hpos : 0 < fts.length := by
    rcases Nat.eq_zero_or_pos fts.length with h | h
    ·rw [h] at hk; omega
    ·exact h
   refine ⟨k / fts.length, k % fts.length, (Nat.div_lt_iff_lt_mul hpos).2 hk, Nat.mod_lt _ hpos, ?_⟩
   have := Nat.div_add_mod k fts.length
   rw [Nat.mul_comm] at this; omega
  refine .list fts.length _ .ro b o len cap f (by simp [r1]) hl (by simp) hsz ?_ ?_ ?_ ?_
  ·intro i X j Y hX hY
   rw [List.getElem?_map] at hX
   obtain ⟨r, hr, rfl⟩ := Option.map_eq_some_iff.1 hX
   have hi : i < len := by rw [← r1]; exact (List.getElem?_eq_some_iff.1 hr).1
   have hj : j < fts.length := by rw [← (r2 r (List.mem_of_getElem? hr)).length]; exact (List.getElem?_eq_some_iff.1 hY).1
   obtain ⟨v, g1, g2, g3⟩ := hcell i j hi hj
   simp only [f, g1, Option.getD_some]
   exact g3 r Y hr hY
  ·intro k hk
   obtain ⟨i, j, hi, hj, rfl⟩ := hdiv k hk
   obtain ⟨v, g1, g2, g3⟩ := hcell i j hi hj
   simp only [f, g1, Option.getD_some]
  ·intro k hk
   obtain ⟨i, j, hi, hj, rfl⟩ := hdiv k hk
   obtain ⟨v, g1, g2, g3⟩ := hcell i j hi hj
   exact cell_lt g1
  ·intro k hk
   obtain ⟨i, j, hi, hj, rfl⟩ := hdiv k hk
   obtain ⟨v, g1, g2, g3⟩ := hcell i j hi hj
   simp only [f, g1, Option.getD_some]; exact g2
theorem open_rows {H : Type} {enc : TypeId × Value → H} {P : Program} {W : World} {base : Nat} {held : Bool} {t e : TypeId} {fts : List FT} {a : Option Addr} {len cap : Nat} {d : DataW H} {ps : List MemPlace}
  (hu : P.underlying t = some (.slice e)) (he : flatsOf P e = some fts) (hn : P.cellsOf e = fts.length) (hv : Value.okWide P W .any base t (.slice a len cap))
  (h : DataW.Trod enc P W 0 (fun _ => true) held t (.slice a len cap) d ps) : ∃ rows : List (List AVal), Stands W (.list fts.length (rows.map .agg) .ro) (.slice a len cap) ∧ rows.length = len ∧ ∀ r ∈ rows, Reps fts r :=
 open_rowsW hu (fun _ _ _ h G => open_flats he h G) hn hv h
theorem row_data {H : Type} {enc : TypeId × Value → H} {P : Program} {W : World} {base : Nat} {spare : Nat → Bool} {held : Bool} {t e : TypeId} {a : Option Addr} {len cap : Nat} {d : DataW H} {ps : List MemPlace}
  (hu : P.underlying t = some (.slice e)) (h : DataW.Trod enc P W base spare held t (.slice a len cap) d ps) : (d = .nil ∧ len = 0) ∨ ∃ es rs, d = .slice es rs ∧ es.length = len := by
 obtain ⟨fuel, hf⟩ := h
 rcases DataW.trod_slice hu hf with ⟨hcs, hx⟩ | ⟨x, l, c, elems, rest, n, _, hcs, hx, _, hl, _, hlen, hel, _, _⟩
 ·simp [Value.cells] at hcs
  obtain ⟨rfl, rfl, rfl⟩ := hcs
  obtain ⟨hx, _⟩ := Prod.mk.inj hx
  exact .inl ⟨hx, rfl⟩
 ·simp [Value.cells] at hcs
  obtain ⟨rfl, rfl, rfl⟩ := hcs
  obtain ⟨hx, _⟩ := Prod.mk.inj hx
  exact .inr ⟨_, _, hx, by simpa using hlen⟩
end Go.Abs
