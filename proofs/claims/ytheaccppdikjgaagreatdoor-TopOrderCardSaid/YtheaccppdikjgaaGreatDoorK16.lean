import Derived.Test.YtheaccppdikjgaaGreatDoorK15
import Derived.Test.YtheaccppdikjgaaGreatDoorK15b
namespace Go.Abs
open Go
set_option linter.unusedVariables false
set_option linter.unusedSimpArgs false
theorem strip_cells {G w x xv} (hx : Rv G w x xv) (hk : x.known = true) : x.strip.cells.length = xv.cells.size ∧ ∀ j Y, x.strip.cells[j]? = some Y → Rv G w Y (xv.cells.getD j undef) := by
 by_cases ha : ∃ cs, x = .agg cs
 ·obtain ⟨cs, rfl⟩ := ha
  have hx' : Rv G w (.agg (cs.map AVal.strip1)) xv := hx.strip
  cases hx' with
  | agg _ ar hs hv => exact ⟨hs.symm, fun j Y hY => hv j Y hY⟩
 ·have h1 : x.one = true := by cases x <;> first | exact absurd ⟨_, rfl⟩ ha | exact hk
  have hc : x.strip.cells = [x.strip] := by cases x <;> first | rfl | exact absurd ⟨_, rfl⟩ ha
  have ho := (Rt0.ofRv hx).oneCell h1
  rw [hc, cells_one ho]
  refine ⟨rfl, fun j Y hY => ?_⟩
  cases j with
  | zero => simp at hY; subst hY; simpa using hx.strip
  | succ j => simp at hY
theorem strip_cellsF {G w x xv} (hx : Rv G w x xv) (hk : x.known = true) : x.stripF.cells.length = xv.cells.size ∧ ∀ j Y, x.stripF.cells[j]? = some Y → Rv G w Y (xv.cells.getD j undef) := by
 by_cases ha : ∃ cs, x = .agg cs
 ·obtain ⟨cs, rfl⟩ := ha
  have hx' : Rv G w (.agg (cs.map AVal.strip1F)) xv := hx.stripF
  cases hx' with
  | agg _ ar hs hv => exact ⟨hs.symm, fun j Y hY => hv j Y hY⟩
 ·have h1 : x.one = true := by cases x <;> first | exact absurd ⟨_, rfl⟩ ha | exact hk
  have hc : x.stripF.cells = [x.stripF] := by cases x <;> first | rfl | exact absurd ⟨_, rfl⟩ ha | (rename_i fl; cases fl <;> rfl)
  have ho := (Rt0.ofRv hx).oneCell h1
  rw [hc, cells_one ho]
  refine ⟨rfl, fun j Y hY => ?_⟩
  cases j with
  | zero => simp at hY; subst hY; simpa using hx.stripF
  | succ j => simp at hY
section
variable {P : Program}
theorem fillA_ok {G w} {place : Nat → Option (Nat × Nat)} : ∀ (ix : List Nat) (ps : List (Nat × Nat)) (vs : List AVal) (cv : List Value) (cs cs' : List AVal) (arr : Array Value), ix.map place = ps.map some →
  fillA cs ps vs = some cs' → Vals G w vs cv → arr.size = cs.length → (∀ j Y, cs[j]? = some Y → Rv G w Y (arr.getD j undef)) →
  ∃ arr', Instr.fill place arr (ix.zip cv) = some arr' ∧ arr'.size = cs'.length ∧ (∀ j Y, cs'[j]? = some Y → Rv G w Y (arr'.getD j undef))
 | [], [], [], [], cs, cs', arr, _, h, _, hs, hv => by simp only [fillA, Option.some.injEq] at h; subst h; exact ⟨arr, rfl, hs, hv⟩
 | i :: ix, (off, n) :: ps, x :: vs, c :: cv, cs, cs', arr, hp, h, hV, hs, hv => by
  simp only [List.map_cons, List.cons.injEq] at hp
  obtain ⟨hp0, hp⟩ := hp
  cases hV with
  | cons hx ht =>
   simp only [fillA] at h
   obtain ⟨⟨h1, h2, h3, h4⟩, h⟩ := ite_some h
   have hxr := hx.arg h4
   obtain ⟨g1, g2⟩ := strip_cells hxr h3
   rw [h1] at g1
   let arr1 := c.cells.zipIdx.foldl (fun (cs : Array Value) (p : Value × Nat) => cs.setIfInBounds (off + p.2) p.1) arr
   have hs1 : arr1.size = arr.size := (get_fold' off c.cells arr 0).2
   obtain ⟨arr', k1, k2, k3⟩ := fillA_ok ix ps vs cv (overwrite cs off x.strip.cells) cs' arr1 hp h ht (by rw [hs1, hs, overwrite_length (by omega)]) (fun j Y hY => by
    rw [overwrite_get (by omega)] at hY
    simp only [Array.getD_eq_getD_getElem?]
    rw [(get_fold' off c.cells arr j).1, ← g1]
    by_cases hin : off ≤ j ∧ j < off + n
    ·rw [if_pos (by omega)] at hY
     rw [if_pos ⟨hin.1, hin.2, by omega⟩]
     have := g2 _ Y hY
     simpa only [Array.getD_eq_getD_getElem?] using this
    ·rw [if_neg (by omega)] at hY
     rw [if_neg (by omega)]
     have := hv j Y hY
     simpa only [Array.getD_eq_getD_getElem?] using this)
   refine ⟨arr', ?_, k2, k3⟩
   rw [List.zip_cons_cons]
   simp only [Instr.fill, hp0]
   rw [if_neg]
   ·exact k1
   ·simp only [Bool.or_eq_true, decide_eq_true_eq, bne_iff_ne, ne_eq, not_or, Nat.not_lt]
    exact ⟨by omega, by omega⟩
 | [], _ :: _, _, _, _, _, _, hp, _, _, _, _ => by simp at hp
 | _ :: _, [], _, _, _, _, _, hp, _, _, _, _ => by simp at hp
 | [], [], _ :: _, _, _, _, _, _, h, _, _, _ => by simp [fillA] at h
 | _ :: _, _ :: _, [], _, _, _, _, _, h, _, _, _ => by simp [fillA] at h
 | [], [], [], _ :: _, _, _, _, _, _, hV, _, _ => by cases hV
 | _ :: _, _ :: _, _ :: _, [], _, _, _, _, _, hV, _, _ => by cases hV
theorem build_ok {E G env tm H w} {t : TypeId} {n : Nat} {zero : AVal} {cs0 : List AVal} {place : Nat → Option (Nat × Nat)} (hz : ZI P t zero n) (hcs0 : zero.cells = cs0)
  (hb : ∀ z i parts cells, P.info? t = some i → i.zero = some z → Instr.fill place z.cells parts = some cells → P.built t parts = some cells)
  (ix : List Nat) (ps : List (Nat × Nat)) (hps : ix.map place = ps.map some) (vs : List AVal) (cv : List Value) (hl : vs.length = cv.length) {cs : List AVal} (hf : fillA cs0 ps vs = some cs)
  (h : St E G ⟨env, tm, vs.zip cv, H⟩ w) : Does P E env tm (Instr.build t (ix.zip cv).toArray) w (.agg cs) H := by
 obtain ⟨i, z, hi, hiz, hs, hzs, hzl, hzc⟩ := hz.z
 rw [hcs0] at hzl hzc
 obtain ⟨arr, h1, h2, h3⟩ := fillA_ok ix ps vs cv cs0 cs z.cells hps hf (vals_of vs cv [] hl (by simpa using h)) (by omega) (fun j Y hY => (hzc j Y hY).1 G w)
 exact Does.pure h (run_build w t _ arr (hb z i _ _ hi hiz h1)) (.agg cs arr h2 h3) rfl
theorem fillAF_ok {G w} {place : Nat → Option (Nat × Nat)} : ∀ (ix : List Nat) (ps : List (Nat × Nat)) (vs : List AVal) (cv : List Value) (cs cs' : List AVal) (arr : Array Value), ix.map place = ps.map some →
  fillAF cs ps vs = some cs' → Vals G w vs cv → arr.size = cs.length → (∀ j Y, cs[j]? = some Y → Rv G w Y (arr.getD j undef)) →
  ∃ arr', Instr.fill place arr (ix.zip cv) = some arr' ∧ arr'.size = cs'.length ∧ (∀ j Y, cs'[j]? = some Y → Rv G w Y (arr'.getD j undef))
 | [], [], [], [], cs, cs', arr, _, h, _, hs, hv => by simp only [fillAF, Option.some.injEq] at h; subst h; exact ⟨arr, rfl, hs, hv⟩
 | i :: ix, (off, n) :: ps, x :: vs, c :: cv, cs, cs', arr, hp, h, hV, hs, hv => by
  simp only [List.map_cons, List.cons.injEq] at hp
  obtain ⟨hp0, hp⟩ := hp
  cases hV with
  | cons hx ht =>
   simp only [fillAF] at h
   obtain ⟨⟨h1, h2, h3, h4⟩, h⟩ := ite_some h
   have hxr := hx.arg h4
   obtain ⟨g1, g2⟩ := strip_cellsF hxr h3
   rw [h1] at g1
   let arr1 := c.cells.zipIdx.foldl (fun (cs : Array Value) (p : Value × Nat) => cs.setIfInBounds (off + p.2) p.1) arr
   have hs1 : arr1.size = arr.size := (get_fold' off c.cells arr 0).2
   obtain ⟨arr', k1, k2, k3⟩ := fillAF_ok ix ps vs cv (overwrite cs off x.stripF.cells) cs' arr1 hp h ht (by rw [hs1, hs, overwrite_length (by omega)]) (fun j Y hY => by
    rw [overwrite_get (by omega)] at hY
    simp only [Array.getD_eq_getD_getElem?]
    rw [(get_fold' off c.cells arr j).1, ← g1]
    by_cases hin : off ≤ j ∧ j < off + n
    ·rw [if_pos (by omega)] at hY
     rw [if_pos ⟨hin.1, hin.2, by omega⟩]
     have := g2 _ Y hY
     simpa only [Array.getD_eq_getD_getElem?] using this
    ·rw [if_neg (by omega)] at hY
     rw [if_neg (by omega)]
     have := hv j Y hY
     simpa only [Array.getD_eq_getD_getElem?] using this)
   refine ⟨arr', ?_, k2, k3⟩
   rw [List.zip_cons_cons]
   simp only [Instr.fill, hp0]
   rw [if_neg]
   ·exact k1
   ·simp only [Bool.or_eq_true, decide_eq_true_eq, bne_iff_ne, ne_eq, not_or, Nat.not_lt]
    exact ⟨by omega, by omega⟩
 | [], _ :: _, _, _, _, _, _, hp, _, _, _, _ => by simp at hp
 | _ :: _, [], _, _, _, _, _, hp, _, _, _, _ => by simp at hp
 | [], [], _ :: _, _, _, _, _, _, h, _, _, _ => by simp [fillAF] at h
 | _ :: _, _ :: _, [], _, _, _, _, _, h, _, _, _ => by simp [fillAF] at h
 | [], [], [], _ :: _, _, _, _, _, _, hV, _, _ => by cases hV
 | _ :: _, _ :: _, _ :: _, [], _, _, _, _, _, hV, _, _ => by cases hV
theorem buildF_ok {E G env tm H w} {t : TypeId} {n : Nat} {zero : AVal} {cs0 : List AVal} {place : Nat → Option (Nat × Nat)} (hz : ZI P t zero n) (hcs0 : zero.cells = cs0)
  (hb : ∀ z i parts cells, P.info? t = some i → i.zero = some z → Instr.fill place z.cells parts = some cells → P.built t parts = some cells)
  (ix : List Nat) (ps : List (Nat × Nat)) (hps : ix.map place = ps.map some) (vs : List AVal) (cv : List Value) (hl : vs.length = cv.length) {cs : List AVal} (hf : fillAF cs0 ps vs = some cs)
  (h : St E G ⟨env, tm, vs.zip cv, H⟩ w) : Does P E env tm (Instr.build t (ix.zip cv).toArray) w (.agg cs) H := by
 obtain ⟨i, z, hi, hiz, hs, hzs, hzl, hzc⟩ := hz.z
 rw [hcs0] at hzl hzc
 obtain ⟨arr, h1, h2, h3⟩ := fillAF_ok ix ps vs cv cs0 cs z.cells hps hf (vals_of vs cv [] hl (by simpa using h)) (by omega) (fun j Y hY => (hzc j Y hY).1 G w)
 exact Does.pure h (run_build w t _ arr (hb z i _ _ hi hiz h1)) (.agg cs arr h2 h3) rfl
theorem mkfn_ok {E G env tm H w} {f : FuncId} {vs1 vs2 : List AVal} {cv1 cv2 : List Value} (hl1 : vs1.length = cv1.length) (hl2 : vs2.length = cv2.length) (ha : (vs1 ++ vs2).all AVal.argOK = true)
  (h : St E G ⟨env, tm, (vs1 ++ vs2).zip (cv1 ++ cv2), H⟩ w) :
  Does P E env tm (Instr.makeFunc (.func f) cv1.toArray cv2.toArray) w (.fn f (vs1.map AVal.strip) (vs2.map AVal.strip)) H := by
 have hv := vals_of (vs1 ++ vs2) (cv1 ++ cv2) [] (by simp [hl1, hl2]) (by simpa using h)
 have get : ∀ {vs : List AVal} {cv : List Value}, Vals G w vs cv → ∀ (j : Nat) V, vs[j]? = some V → Rt G w V (cv.getD j undef) := by
  intro vs cv hv
  induction hv with
  | nil => intro j V hV; simp at hV
  | cons h t ih =>
   intro j V hV
   cases j with
   | zero => simp at hV; subst hV; simpa using h
   | succ j => simpa using ih j V (by simpa using hV)
 have hg := get hv
 refine Does.pure h (v := .func (.func f) cv1.toArray cv2.toArray) rfl (.fn f _ _ _ _ (by simp [hl1]) (by simp [hl2]) (fun j Y hY => ?_) (fun j Y hY => ?_)) rfl
 ·simp only [List.getElem?_map, Option.map_eq_some_iff] at hY
  obtain ⟨Z, hZ, rfl⟩ := hY
  have hj : j < vs1.length := (List.getElem?_eq_some_iff.1 hZ).1
  have hZ' : (vs1 ++ vs2)[j]? = some Z := by rw [List.getElem?_append_left hj]; exact hZ
  have := (hg j Z hZ').arg (List.all_eq_true.1 ha Z (List.mem_of_getElem? hZ'))
  have e : (cv1 ++ cv2).getD j undef = cv1.toArray.getD j undef := by
   simp [List.getD, List.getElem?_append_left (show j < cv1.length by omega)]
  rw [← e]; exact this.strip
 ·simp only [List.getElem?_map, Option.map_eq_some_iff] at hY
  obtain ⟨Z, hZ, rfl⟩ := hY
  have hZ' : (vs1 ++ vs2)[vs1.length + j]? = some Z := by rw [List.getElem?_append_right (by omega)]; simpa using hZ
  have := (hg _ Z hZ').arg (List.all_eq_true.1 ha Z (List.mem_of_getElem? hZ'))
  have e : (cv1 ++ cv2).getD (vs1.length + j) undef = cv2.toArray.getD j undef := by
   simp only [List.getD, hl1]
   rw [List.getElem?_append_right (by omega), Nat.add_sub_cancel_left]
   simp
  rw [← e]; exact this.strip
theorem mm_ok {E G env tm H w} {isMax : Bool} {vs : List AVal} {cv : List Value} (hl : vs.length = cv.length) (h : St E G ⟨env, tm, vs.zip cv, H⟩ w) {V : AVal} (he : evMm isMax vs = some V) {ts : Array TypeId} {ty : TypeId} :
  Does P E env tm (if isMax then Builtin.max_ ts ty cv.toArray else Builtin.min_ ts ty cv.toArray) w V H := by
 have hv := vals_of vs cv [] hl (by simpa using h)
 cases hv with
 | nil => simp [evMm] at he
 | cons hx ht =>
  rename_i x xv xs xvs
  cases x <;> simp only [evMm, reduceCtorEq] at he
  rename_i k a
  have hxv := (hx.arg rfl).int_inv
  subst hxv
  -- the fold
  have fold : ∀ (xs : List AVal) (xvs : List Value) (a : Int), Vals G w xs xvs → ∀ V, xs.foldlM (fun (x : AVal) y => match x, y with
    | .int k x, .int k' y => if k = k' then some (AVal.int k (if isMax then (if x < y then y else x) else (if y < x then y else x))) else none
    | _, _ => none) (.int k a) = some V →
    ∃ b, V = .int k b ∧ (xvs.foldlM (if isMax then Builtin.max2 else Builtin.min2) (.int k a) : Sem Value).run P w = .ok (.int k b) w := by
   intro xs xvs a hv
   induction hv generalizing a with
   | nil => intro V hV; simp only [List.foldlM_nil] at hV; cases hV; exact ⟨a, rfl, rfl⟩
   | cons h t ih =>
    rename_i Y yv _ _
    intro V hV
    rw [List.foldlM_cons] at hV
    cases Y <;> simp only [Option.bind_eq_bind, Option.bind_none, reduceCtorEq] at hV
    rename_i k' b
    have hyv := (h.arg rfl).int_inv
    subst hyv
    by_cases hk : k = k'
    ·subst hk
     simp only [if_true, Option.bind_some] at hV
     obtain ⟨c, rfl, hc⟩ := ih _ V hV
     refine ⟨c, rfl, ?_⟩
     rw [List.foldlM_cons, Sem.run_bind]
     cases isMax
     ·simpa [Builtin.min2] using hc
     ·simpa [Builtin.max2] using hc
    ·simp only [hk, if_false, Option.bind_none, reduceCtorEq] at hV
  obtain ⟨b, rfl, hb⟩ := fold xs xvs a ht V he
  refine Does.pure h ?_ (.int k b) rfl
  cases isMax
  ·simpa [Builtin.min_] using hb
  ·simpa [Builtin.max_] using hb
end
end Go.Abs
