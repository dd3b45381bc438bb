import Derived.Test.YtheaccppdikjgaaGreatDoorK9
namespace Go.Abs
open Go
set_option linter.unusedVariables false
set_option linter.unusedSimpArgs false
structure ZI (P : Program) (t : TypeId) (zero : AVal) (n : Nat) : Prop where
 z : ∃ i z, P.info? t = some i ∧ i.zero = some z ∧ i.size = n ∧ z.cells.size = n ∧ zero.cells.length = n ∧
  ∀ j Y, zero.cells[j]? = some Y → (∀ G w, Rv G w Y (z.cells.getD j undef)) ∧ Y.plain = true ∧ (z.cells.getD j undef).oneCell' = true
inductive Vals (G : Gh) (w : World) : List AVal → List Value → Prop where
 | nil : Vals G w [] []
 | cons {V v Vs vs} (h : Rt G w V v) (t : Vals G w Vs vs) : Vals G w (V :: Vs) (v :: vs)
theorem Rt.arg {G w V v} (h : Rt G w V v) (ha : V.argOK = true) : Rv G w V v := by
 have hu : V.isU = false := by cases V <;> first | rfl | simpa [AVal.argOK] using ha
 exact (h.rt0 (fun vs e => by subst e; simp [AVal.argOK] at ha)).rv hu
theorem vals_of {E G env tm H w} : ∀ (Vs : List AVal) (vs : List Value) (pre : List (AVal × Value)), Vs.length = vs.length →
  St E G ⟨env, tm, pre ++ Vs.zip vs, H⟩ w → Vals G w Vs vs
 | [], [], _, _, _ => .nil
 | V :: Vs, v :: vs, pre, hl, h => by
  refine .cons (h.fly pre.length V v (by simp)) (vals_of Vs vs (pre ++ [(V, v)]) (by simpa using hl) (by simpa using h))
 | [], _ :: _, _, hl, _ => by simp at hl
 | _ :: _, [], _, hl, _ => by simp at hl
section
variable {P : Program}
theorem fillS_ok {G w sz} : ∀ (ix : List Nat) (vs : List AVal) (cv : List Value) (els els' : List AVal) (arr : Array Value), fillS sz els ix vs = some els' → Vals G w vs cv →
  Lay G w sz els arr → ∃ arr', Instr.fill (fun i => some (i * sz, sz)) arr (ix.zip cv) = some arr' ∧ Lay G w sz els' arr'
 | [], [], [], els, els', arr, h, _, hL => by simp only [fillS, Option.some.injEq] at h; subst h; exact ⟨arr, rfl, hL⟩
 | i :: ix, x :: vs, c :: cv, els, els', arr, h, hv, hL => by
  cases hv with
  | cons hx ht =>
   simp only [fillS] at h
   split at h
   ·rename_i hc
    obtain ⟨h1, h2, h3, h4⟩ := hc
    obtain ⟨hs, hL'⟩ := hL.put h2 h1 h3 (hx.arg h4)
    obtain ⟨arr', ha, hL''⟩ := fillS_ok ix vs cv _ els' _ h ht hL'
    refine ⟨arr', ?_, hL''⟩
    rw [List.zip_cons_cons]
    simp only [Instr.fill]
    rw [if_neg]
    ·exact ha
    ·have : (i + 1) * sz ≤ els.length * sz := Nat.mul_le_mul_right _ (by omega)
     rw [Nat.add_mul] at this
     have hsz := hL.size
     simp only [Bool.or_eq_true, decide_eq_true_eq, bne_iff_ne, ne_eq, not_or, Nat.not_lt, hs]
     exact ⟨by simp, by omega⟩
   ·cases h
 | [], _ :: _, cv, _, _, _, h, _, _ => by simp [fillS] at h
 | _ :: _, [], cv, _, _, _, h, _, _ => by simp [fillS] at h
 | [], [], _ :: _, _, _, _, _, hv, _ => by cases hv
 | _ :: _, _ :: _, [], _, _, _, _, hv, _ => by cases hv
theorem lay_zeros {G w} {zero : AVal} {n sz : Nat} {z : Value} (hs : z.cells.size = sz) (hl : zero.cells.length = sz)
  (hz : ∀ j Y, zero.cells[j]? = some Y → (∀ G w, Rv G w Y (z.cells.getD j undef)) ∧ Y.plain = true ∧ (z.cells.getD j undef).oneCell' = true) :
  Lay G w sz (List.replicate n zero) ((Array.range (n * sz)).map (fun k => z.cells[k % z.cells.size]!)) := by
 refine ⟨by simp, fun X hX => by rw [(List.mem_replicate.1 hX).2]; exact hl, fun i X j Y hX hY => ?_⟩
 rw [List.getElem?_replicate] at hX
 split at hX
 ·rename_i hi
  simp only [Option.some.injEq] at hX; subst hX
  have hj : j < sz := by rw [← hl]; exact (List.getElem?_eq_some_iff.1 hY).1
  have hb : i * sz + j < n * sz := by
   have : (i + 1) * sz ≤ n * sz := Nat.mul_le_mul_right _ (by omega)
   rw [Nat.add_mul] at this; omega
  have e : ((Array.range (n * sz)).map (fun k => z.cells[k % z.cells.size]!)).getD (i * sz + j) undef = z.cells.getD j undef := by
   have hm : (i * sz + j) % sz = j := by rw [Nat.mul_comm, Nat.mul_add_mod]; exact Nat.mod_eq_of_lt hj
   simp only [Array.getD_eq_getD_getElem?, Array.getElem?_map]
   rw [Array.getElem?_range, if_pos hb]
   simp only [Option.map_some, Option.getD_some, hs, hm]
   simp [hs, hj]
  rw [e]
  exact ⟨(hz j Y hY).1 G w, (hz j Y hY).2.2⟩
 ·cases hX
theorem buildSlice_ok {E G env tm H w} (fl : Fl) {t e : TypeId} {agg : Bool} {sz len : Nat} {zero : AVal} (hu : P.underlying t = some (.slice e)) (ti : TI P e agg sz) (hz : len ≠ 0 → ZI P e zero sz) (hpos : 0 < sz) (hle : len * sz ≤ 2 ^ 24)
  (ix : List Nat) (vs : List AVal) (cv : List Value) (hl : vs.length = cv.length) {els : List AVal} (hf : fillS sz (List.replicate len zero) ix vs = some els) (h : St E G ⟨env, tm, vs.zip cv, H⟩ w) :
  Does P E env tm (Instr.buildSlice t len (ix.zip cv).toArray) w (.list sz els fl) H := by
 have hv := vals_of vs cv [] hl (by simpa using h)
 have hels : els.length = len := by
  have : ∀ (ix : List Nat) (vs els els' : List AVal), fillS sz els ix vs = some els' → els'.length = els.length := by
   intro ix
   induction ix with
   | nil => intro vs els els' h; cases vs <;> simp [fillS] at h; rw [h]
   | cons i ix ih =>
    intro vs els els' h
    cases vs <;> simp only [fillS] at h
    ·cases h
    ·split at h
     ·rw [ih _ _ _ h]; simp
     ·cases h
  rw [this _ _ _ _ hf]; simp
 have hle' : ¬ (2 ^ 24 < len * sz) := by omega
 obtain ⟨arr, hrun, hL⟩ : ∃ arr, (Instr.buildSlice t len (ix.zip cv).toArray).run P w = .ok (.slice (some (at_ w.heap.size 0)) len len) (w.alloc (.cells arr e)) ∧ Lay G w sz els arr := by
  by_cases h0 : len = 0
  ·subst h0
   obtain ⟨arr, hfill, hL⟩ := fillS_ok ix vs cv _ els #[] hf hv ⟨by simp, by simp, by intro i X j Y hX; simp at hX⟩
   refine ⟨arr, ?_, hL⟩
   simp [Instr.buildSlice, run_underlying hu, ti.sizeOf, newRow, hfill]
   have hr0 : Array.range 0 = #[] := by apply Array.ext'; simp
   rw [hr0, show (#[] : Array Nat).map (fun _ => (default : Value)) = #[] from by simp, hfill]
   rfl
  ·obtain ⟨i, z, hi, hiz, hs, hzs, hzl, hzc⟩ := (hz h0).z
   have hne : ¬ (len * sz = 0) := by simp only [Nat.mul_eq_zero]; omega
   obtain ⟨arr, hfill, hL⟩ := fillS_ok ix vs cv _ els _ hf hv (lay_zeros (G := G) (w := w) (n := len) hzs hzl hzc)
   refine ⟨arr, ?_, hL⟩
   have hsz0 : ¬ sz = 0 := by omega
   have hle'' : ¬ (16777216 < len * sz) := by omega
   simp [Instr.buildSlice, run_underlying hu, ti.sizeOf, zeroValue, typeInfo, hi, hiz, newRow, h0, hsz0, hle'', hfill]
   intro h00; exact absurd h00 hne
 obtain ⟨G', hG⟩ := h.newData (w' := w.alloc (.cells arr e)) arr e (0, 0) rfl (.ofPush rfl rfl rfl rfl) sz els fl len len (fun k => arr.getD k undef) hels (Nat.le_refl _) (fun _ => rfl) hL.hz
  (fun i X j Y hX hY => (hL.v i X j Y hX hY).1) (fun k hk => by
   have : k < arr.size := by rw [hL.size, hels]; exact hk
   simp [this]) (fun k hk => hL.one k (by rw [hels]; exact hk)) (by rw [hL.size, hels]; exact Nat.le_refl _) (.inl rfl)
 exact ⟨_, _, G', hrun, hG⟩
theorem alloc_ok {E G env tm fly H w} {t : TypeId} {agg : Bool} {cs : List AVal} {n : Nat} {zero : AVal} (hz : ZI P t zero n) (hcs : zero.cells = cs) (h : St E G ⟨env, tm, fly, H⟩ w) :
  Does P E env tm (Instr.alloc t true (.tuple #[])) w (.ptr H.length 0) (H ++ [.cells cs]) := by
 obtain ⟨i, z, hi, hiz, hs, hzs, hzl, hzc⟩ := hz.z
 rw [hcs] at hzl hzc
 obtain ⟨G', hG⟩ := h.newBox z.cells t cs (by omega) (fun j Y hY => Rt0.ofRv ((hzc j Y hY).1 G w)) (fun j Y a hY ho => by
  have := ownC_plain (hzc j Y hY).2.1 (z.cells.getD j undef) 0
  cases Y <;> simp_all [ownC, own0])
 refine ⟨_, _, G', ?_, hG⟩
 simp [Instr.alloc, zeroValue, typeInfo, hi, hiz, newVar, newRow]
theorem box_ok {E G env tm H w} {t : TypeId} {x : AVal} {xv : Value} (hk : x.known = true) (h : St E G ⟨env, tm, [(x, xv)], H⟩ w) :
  Does P E env tm (Instr.box t xv) w (.ptr H.length 0) (H ++ [.cells x.flat]) := by
 have hx0 := h.fly 0 x xv rfl
 have hxt : ∀ us, x ≠ .tuple us := fun us e => by subst e; simp [AVal.known, AVal.one] at hk
 obtain ⟨hl, hc⟩ := flat_cells (hx0.rt0 hxt) hk
 obtain ⟨G', hG⟩ := h.newBox xv.cells t x.flat (by omega) (fun j Y hY => (hc j Y hY).1) (fun j Y a hY ho => by
  obtain ⟨h1, h2⟩ := (hc j Y hY).2.1 a ho
  refine ⟨h1, ?_⟩
  simp only [ownP, List.getElem?_cons_zero]
  cases x <;> first | exact absurd rfl (hxt _) | exact h2)
 refine ⟨_, _, G', ?_, hG⟩
 simp [Instr.box, newVar, newRow]
theorem mkslice_ok {E G env tm fly H w} {t e : TypeId} {agg : Bool} {sz bytes : Nat} {zero : AVal} {i : TypeInfo} (hu : P.underlying t = some (.slice e)) (hi : P.info? e = some i) (hib : i.bytes = bytes) (hz : ZI P e zero sz)
  {l c : Int} (h0 : 0 ≤ l) (h1 : l ≤ c) (hb : c * bytes ≤ (maxBytes : Nat)) (hbp : 0 < bytes) (h : St E G ⟨env, tm, fly, H⟩ w) :
  Does P E env tm (Instr.makeSlice t (.int .i64 l) (.int .i64 c)) w (.list sz (List.replicate l.toNat zero) (if l = c then .full else .ro)) H := by
 obtain ⟨i', z, hi', hiz, hs, hzs, hzl, hzc⟩ := hz.z
 rw [hi] at hi'; cases hi'
 subst hib
 have hcb : c ≤ c * (i.bytes : Int) := by
  have := Int.mul_le_mul_of_nonneg_left (show (1 : Int) ≤ (i.bytes : Int) by omega) (show 0 ≤ c by omega)
  simpa using this
 have hmx : c * (i.bytes : Int) ≤ 140737488355328 := hb
 have hrun := run_make (P := P) w t e i z hu hi hiz .i64 .i64 l c h0 h1 (by rw [Int.mul_comm]; omega) (by omega)
 have hL := lay_zeros (G := G) (w := w) (n := c.toNat) hzs hzl hzc
 rw [hs] at hrun
 have hmc : madeCells z.cells (c.toNat * sz) = (Array.range (c.toNat * sz)).map (fun k => z.cells[k % z.cells.size]!) := by
  rfl
 rw [hmc] at hrun
 have hll : l.toNat ≤ c.toNat := by omega
 obtain ⟨G', hG⟩ := h.newData (w' := w.alloc (.cells ((Array.range (c.toNat * sz)).map (fun k => z.cells[k % z.cells.size]!)) e)) _ e (0, 0) rfl (.ofPush rfl rfl rfl rfl) sz (List.replicate l.toNat zero) (if l = c then .full else .ro) l.toNat c.toNat
  (fun k => ((Array.range (c.toNat * sz)).map (fun k => z.cells[k % z.cells.size]!)).getD k undef) (by simp) hll (fun hf => by
   split at hf
   ·omega
   ·cases hf) (fun X hX => by rw [(List.mem_replicate.1 hX).2]; exact hzl)
  (fun i X j Y hX hY => (hL.v i X j Y (by
   rw [List.getElem?_replicate] at hX ⊢
   split at hX
   ·rw [if_pos (by omega)]; exact hX
   ·cases hX) hY).1) (fun k hk => by
   have : k < c.toNat * sz := Nat.lt_of_lt_of_le hk (Nat.mul_le_mul_right _ hll)
   simp [this]) (fun k hk => hL.one k (by
    rw [List.length_replicate]; exact Nat.lt_of_lt_of_le hk (Nat.mul_le_mul_right _ hll))) (by simp) (.inl rfl)
 exact ⟨_, _, G', hrun, hG⟩
end
end Go.Abs
