import Derived.Test.YtheaccppdikjgaaGreatDoorK11
namespace Go.Abs
open Go
set_option linter.unusedVariables false
set_option linter.unusedSimpArgs false
theorem overwrite_get {cs : List AVal} {off : Nat} {ys : List AVal} (h : off + ys.length ≤ cs.length) (k : Nat) :
  (overwrite cs off ys)[k]? = if off ≤ k ∧ k < off + ys.length then ys[k - off]? else cs[k]? := by
 unfold overwrite
 rcases Nat.lt_or_ge k off with h1 | h1
 ·rw [if_neg (by omega), List.append_assoc, List.getElem?_append_left (by simp; omega), List.getElem?_take, if_pos h1]
 ·rcases Nat.lt_or_ge k (off + ys.length) with h2 | h2
  ·rw [if_pos ⟨h1, h2⟩, List.getElem?_append_left (by simp; omega), List.getElem?_append_right (by simp; omega)]
   congr 1; simp; omega
  ·rw [if_neg (by omega), List.getElem?_append_right (by simp; omega), List.getElem?_drop]
   congr 1; simp; omega
theorem overwrite_length {cs : List AVal} {off : Nat} {ys : List AVal} (h : off + ys.length ≤ cs.length) : (overwrite cs off ys).length = cs.length := by
 simp [overwrite]; omega
theorem ite_some {α : Type} {c : Prop} [Decidable c] {x : Option α} {y : α} (h : (if c then x else none) = some y) : c ∧ x = some y := by
 by_cases hc : c
 ·rw [if_pos hc] at h; exact ⟨hc, h⟩
 ·rw [if_neg hc] at h; cases h
section
variable {P : Program}
theorem store_run {t : TypeId} {agg : Bool} {n : Nat} (ti : TI P t agg n) {w : World} {b o : Nat} {vv : Value} (hn : vv.cells.size = n) (h1 : ∀ u ∈ vv.cells.toList, u.oneCell' = true)
  {c : Array Value} {e : TypeId} {fr : Nat × Nat} (hb : w.heap[b]? = some (.cells c e fr)) (ho : o + n ≤ c.size) (hf : ∀ x, o ≤ x → x < o + n → w.frozen? (at_ b x) = false) :
  (Instr.storeAt t (.pointer (some (at_ b o))) vv).run P w = .ok () (w.setCells b o vv.cells.toList) := by
 have hl : vv.cells.toList.length = n := by simpa using hn
 have := run_storeCells_cells (P := P) b o vv.cells.toList 0 w (fun j hj => by
   rw [show (⟨b, o + 0 + j, none⟩ : Addr) = at_ b (o + j) from by simp, cell_cells hb]
   have : o + j < c.size := by omega
   simp [this]) (fun j hj => by simpa using hf (o + j) (by omega) (by omega)) h1
 simp only [Nat.add_zero] at this
 simp [Instr.storeAt, Instr.sureAddr, storeVar, ti.sizeOf, hn, this]
theorem known_of_one {v : AVal} (h : v.flat.all AVal.one = true) : v.known = true := by
 cases v <;> first | rfl | simpa [AVal.flat, AVal.known] using h
theorem known_tuple {v : AVal} (h : v.known = true) : ∀ us, v ≠ .tuple us := fun us e => by subst e; simp [AVal.known, AVal.one] at h
set_option maxHeartbeats 4000000 in
theorem store_ok {E G env tm H w p pv v vv V H'} {t : TypeId} {agg : Bool} {n : Nat} (ti : TI P t agg n) (h : St E G ⟨env, tm, [(p, pv), (v, vv)], H⟩ w)
  (he : evStore n p v H = some (V, H')) : ∃ w', (Instr.storeAt t pv vv).run P w = .ok () w' ∧ V = .tuple [] ∧ St E G ⟨env, tm, [], H'⟩ w' := by
 unfold evStore at he
 obtain ⟨⟨hn, hpos, hone⟩, he2⟩ := ite_some he
 replace he := he2; clear he2
 have hk := known_of_one hone
 have hvt := known_tuple hk
 have hp := h.fly 0 p pv rfl
 have hv := h.fly 1 v vv rfl
 obtain ⟨hfl, hfc⟩ := flat_cells (hv.rt0 hvt) hk
 have hvs : vv.cells.size = n := by omega
 have hv1 : ∀ u ∈ vv.cells.toList, u.oneCell' = true := by
  intro u hu
  obtain ⟨j, hj⟩ := List.mem_iff_getElem?.1 hu
  have hjl : j < v.flat.length := by have := (List.getElem?_eq_some_iff.1 hj).1; simp at this; omega
  have hY := List.getElem?_eq_getElem hjl
  have := (hfc j _ hY).2.2 (List.all_eq_true.1 hone _ (List.mem_of_getElem? hY))
  have e : vv.cells.getD j undef = u := by
   rw [Array.getElem?_toList] at hj
   simp [Array.getD_eq_getD_getElem?, hj]
  rwa [e] at this
 have hownv : ∀ a, own0 v vv = some a → ownP G ⟨env, tm, [(p, pv), (v, vv)], H⟩ w (.fly 1 0) = some a := by
  intro a ha
  simp only [ownP, List.getElem?_cons_succ, List.getElem?_cons_zero]
  cases v <;> first | exact absurd rfl (hvt _) | exact ha
 split at he
 ·-- a box's cells
  rename_i id off
  obtain ⟨rfl⟩ : pv = .pointer (some (at_ (G.μ id) off)) := by cases (show Rv G w (.ptr id off) pv from hp); rfl
  cases hH : H[id]? with
  | none => simp [hH] at he
  | some B =>
  cases B with
  | arr => simp [hH] at he
  | map => simp [hH] at he
  | iter => simp [hH] at he
  | dead => simp [hH] at he
  | cells cs =>
  simp only [hH] at he
  obtain ⟨hle, he2⟩ := ite_some he
  replace he := he2; clear he2
  simp only [Option.some.injEq, Prod.mk.injEq] at he
  obtain ⟨rfl, rfl⟩ := he
  have hidl : id < H.length := (List.getElem?_eq_some_iff.1 hH).1
  have hidn : id < G.n := by have := h.n; simp only at this; omega
  have hbo := own_box_cells (G := G) (S := ⟨env, tm, [(.ptr id off, .pointer (some (at_ (G.μ id) off))), (v, vv)], H⟩) (w := w) hH
  have hok := h.ok _ _ hbo
  obtain ⟨c, te, fr, hbc, hcs⟩ : ∃ c te fr, w.heap[G.μ id]? = some (.cells c te fr) ∧ cs.length ≤ c.size := by
   rcases hok.cells with h0 | h0
   ·simp only at h0; omega
   ·exact h0
  have hfz : ∀ x, x < cs.length → w.frozen? (at_ (G.μ id) x) = false := fun x hx => hok.fz x (Nat.zero_le _) hx
  have hrun := store_run ti hvs hv1 hbc (o := off) (by omega) (fun x h1 h2 => hfz x (by omega))
  have hvl : vv.cells.toList.length = n := by simpa using hvs
  obtain ⟨c', hb1, hb2, hb3⟩ := setCells_heap_eq vv.cells.toList off w c hbc
  refine ⟨_, hrun, rfl, ?_⟩
  let w' := w.setCells (G.μ id) off vv.cells.toList
  have hne : ∀ b, b ≠ G.μ id → w'.heap[b]? = w.heap[b]? := fun b hb => setCells_heap_ne hb _ _ _
  have hnoD : ∀ o, ¬ G.D (G.μ id) o := fun o => hok.D o (Nat.zero_le _)
  have ge : GE G w G w' := ⟨Nat.le_refl _, fun _ _ h => h, fun _ _ => rfl, fun _ _ => rfl, fun _ _ => rfl, fun b o hd =>
   cell_of_heap (hne b (fun e => hnoD o (e ▸ hd))), setCells_still _ _ _ _⟩
  -- what is owned elsewhere lies elsewhere
  have away : ∀ q a, q ≠ .box id → ownP G ⟨env, tm, [(.ptr id off, .pointer (some (at_ (G.μ id) off))), (v, vv)], H⟩ w q = some a → w'.heap[a.1]? = w.heap[a.1]? := by
   intro q a hq ha
   exact hne _ (fun e => h.dis q (.box id) a _ hq ha hbo e)
  have hvcell : ∀ j, j < n → w'.cell? (at_ (G.μ id) (off + j)) = some (vv.cells.getD j undef) := by
   intro j hj
   rw [cell_cells hb1, hb3, if_pos ⟨by omega, by omega, by omega⟩, Nat.add_sub_cancel_left]
   simp [show j < vv.cells.size by omega]
  have hocell : ∀ x, ¬ (off ≤ x ∧ x < off + n) → w'.cell? (at_ (G.μ id) x) = w.cell? (at_ (G.μ id) x) := by
   intro x hx
   rw [cell_cells hb1, cell_cells hbc, hb3, if_neg]
   rintro ⟨h1, h2, _⟩; exact hx ⟨h1, by omega⟩
  have hov : ∀ x, (overwrite cs off v.flat)[x]? = if off ≤ x ∧ x < off + n then v.flat[x - off]? else cs[x]? := by
   intro x; rw [overwrite_get (by omega)]; rw [hn]
  have hol : (overwrite cs off v.flat).length = cs.length := overwrite_length (by omega)
  have hset : ∀ id', (H.set id (Box.cells (overwrite cs off v.flat)))[id']? = if id = id' then some (Box.cells (overwrite cs off v.flat)) else H[id']? := by
   intro id'; rw [List.getElem?_set]; split <;> simp_all
  have μne : ∀ id' B, id' ≠ id → H[id']? = some B → (∀ sz xs, B ≠ .arr sz xs) → B ≠ .dead → w'.heap[G.μ id']? = w.heap[G.μ id']? := by
   intro id' B hi hB h1 h2
   cases B with
   | cells cs' => exact away (.box id') _ (by simp [hi]) (own_box_cells hB)
   | map es => exact away (.box id') _ (by simp [hi]) (own_box_map hB)
   | iter s p => exact away (.box id') _ (by simp [hi]) (own_box_iter hB)
   | arr sz xs => exact absurd rfl (h1 _ _)
   | dead => exact absurd rfl h2
  -- where it comes from
  let π : Pos → Pos := fun q => match q with
   | .cell id' x => if id' = id ∧ off ≤ x ∧ x < off + n then .fly 1 0 else .cell id' x
   | q => q
  have cellin : ∀ x a, off ≤ x → x < off + n → ownP G ⟨env, tm, [], H.set id (Box.cells (overwrite cs off v.flat))⟩ w' (.cell id x) = some a → x = off ∧ own0 v vv = some a := by
   intro x a h1 h2 ha
   simp only [ownP, hset, if_true, hov, if_pos (show off ≤ x ∧ x < off + n from ⟨h1, h2⟩)] at ha
   split at ha
   ·rename_i Y hY
    have hcv : cellv w' (G.μ id) x = vv.cells.getD (x - off) undef := by
     unfold cellv
     have := hvcell (x - off) (by omega)
     rw [show off + (x - off) = x by omega] at this
     rw [this]; rfl
    rw [hcv] at ha
    obtain ⟨h3, h4⟩ := (hfc _ Y hY).2.1 a ha
    exact ⟨by omega, h4⟩
   ·cases ha
  have carry : ∀ q a, ownP G ⟨env, tm, [], H.set id (Box.cells (overwrite cs off v.flat))⟩ w' q = some a →
    ownP G ⟨env, tm, [(.ptr id off, .pointer (some (at_ (G.μ id) off))), (v, vv)], H⟩ w (π q) = some a := by
   intro q a ha
   cases q with
   | slot => exact ha
   | fly k i => simp [ownP] at ha
   | cell id' x =>
    by_cases hin : id' = id ∧ off ≤ x ∧ x < off + n
    ·obtain ⟨rfl, h1, h2⟩ := hin
     obtain ⟨rfl, h3⟩ := cellin x a h1 h2 ha
     simp only [π, true_and, h1, h2, and_self, if_true]
     exact hownv a h3
    ·simp only [π, hin, if_false]
     by_cases hi : id' = id
     ·subst hi
      have hx : ¬ (off ≤ x ∧ x < off + n) := fun hh => hin ⟨rfl, hh⟩
      simp only [ownP, hset, if_true, hov, hx, if_false] at ha
      simp only [ownP, hH]
      have : cellv w' (G.μ id') x = cellv w (G.μ id') x := by unfold cellv; rw [hocell x hx]
      rwa [this] at ha
     ·simp only [ownP, hset, show ¬ id = id' from fun e => hi e.symm, if_false] at ha ⊢
      cases hB : H[id']? with
      | none => simp [hB] at ha
      | some B =>
       cases B with
       | cells cs' =>
        simp only [hB] at ha ⊢
        rwa [cellv_of_heap (μne id' _ hi hB (by simp) (by simp))] at ha
       | _ => simp [hB] at ha
   | box id' =>
    simp only [π]
    by_cases hi : id = id'
    ·subst hi
     simp only [ownP, hset, if_true, hol] at ha
     simp only [ownP, hH]; exact ha
    ·simp only [ownP, hset, hi, if_false] at ha ⊢
     exact ha
  refine h.next (S' := ⟨env, tm, [], H.set id (Box.cells (overwrite cs off v.flat))⟩) ge (by simpa using h.n) (Nat.le_refl _) (fun b o hd => by rw [setCells_size]; exact h.Db b o hd)
   (by rw [setCells_size]; exact Nat.le_refl _) ?_ (fun b o hd => .inl hd) ?_ ?_ ?_ π (.slot 0 0) ?_ ?_
  ·intro b hb
   by_cases hbb : b = G.μ id
   ·exact .inr ⟨_, _, hbo, hbb.symm⟩
   ·exact .inl (hne b hbb)
  ·intro u
   exact (h.slot u).stay ge (fun i a ha => away (.slot u i) a (by simp) ha)
  ·intro k X x hk; simp at hk
  ·intro id' B hB
   rw [hset] at hB
   by_cases hi : id = id'
   ·subst hi
    simp only [if_true, Option.some.injEq] at hB; subst hB
    intro x Y hY
    rw [hov] at hY
    by_cases hin : off ≤ x ∧ x < off + n
    ·rw [if_pos hin] at hY
     obtain ⟨h1, h2, h3⟩ := hfc _ Y hY
     have := hvcell (x - off) (by omega)
     rw [show off + (x - off) = x by omega] at this
     refine ⟨_, this, h1.stay ge (fun a ha => ?_)⟩
     obtain ⟨_, h4⟩ := h2 a ha
     exact away (.fly 1 0) a (by simp) (hownv a h4)
    ·rw [if_neg hin] at hY
     obtain ⟨u, hu, hr⟩ := h.box id _ hH x Y hY
     have hcv : cellv w (G.μ id) x = u := by simp [cellv, hu]
     exact ⟨u, by rw [hocell x hin]; exact hu, hr.stay ge (fun a ha => away (.cell id x) a (by simp) (by simp only [ownP, hH, hY, hcv]; exact ha))⟩
   ·simp only [hi, if_false] at hB
    have hi' : id' ≠ id := fun e => hi e.symm
    have hidl' : id' < G.n := by
     have := (List.getElem?_eq_some_iff.1 hB).1
     have hn := h.n; simp only at hn; omega
    refine (h.box id' B hB).stay ge hidl' (fun h1 h2 => μne id' B hi' hB h1 h2) ?_ ?_
    ·intro cs' x Y a hBc hY ha
     subst hBc
     exact away (.cell id' x) a (by simp) (by simp only [ownP, hB, hY]; exact ha)
    ·intro sz xs a hBc ha
     subst hBc
     exact away (.box id') a (by simp [hi']) (by simp only [ownP, hB]; exact ha)
  ·intro q a ha
   have ha' := carry q a ha
   refine ⟨?_, .inr ⟨a, ha', rfl⟩⟩
   have hok' := h.ok _ _ ha'
   by_cases hqb : π q = .box id
   ·rw [hqb, hbo] at ha'
    simp only [Option.some.injEq] at ha'; subst ha'
    refine ⟨by rw [setCells_size]; exact hok.lt, .inr ⟨c', te, fr, hb1, by show cs.length ≤ _; omega⟩, ?_, hok.D⟩
    ·intro hc0 c2 e2 fr2 hc2
     rw [show (w.setCells (G.μ id) off vv.cells.toList).heap[G.μ id]? = _ from hb1] at hc2
     simp only [Option.some.injEq, Obj.cells.injEq] at hc2
     obtain ⟨rfl, _, rfl⟩ := hc2
     rw [hb2]; exact hok.frozen hc0 c te fr hbc
   ·exact hok'.stay (by rw [setCells_size]; exact Nat.le_refl _) (away _ a hqb ha') hok'.D
  ·intro q r a b hq hr hqr
   cases q with
   | fly => simp [ownP] at hq
   | cell id1 x =>
    cases r with
    | cell id2 y =>
     simp only [π] at hqr
     by_cases h1 : id1 = id ∧ off ≤ x ∧ x < off + n <;> by_cases h2 : id2 = id ∧ off ≤ y ∧ y < off + n <;> simp only [h1, h2, if_true, if_false] at hqr
     ·obtain ⟨rfl, h3, h4⟩ := h1
      obtain ⟨rfl, h5, h6⟩ := h2
      rw [(cellin x a h3 h4 hq).1, (cellin y b h5 h6 hr).1]
     ·simp at hqr
     ·simp at hqr
     ·exact hqr
    | fly => simp [ownP] at hr
    | slot => simp only [π] at hqr; split at hqr <;> cases hqr
    | box => simp only [π] at hqr; split at hqr <;> cases hqr
   | slot => cases r with
    | cell id2 y => simp only [π] at hqr; split at hqr <;> cases hqr
    | _ => exact hqr
   | box => cases r with
    | cell id2 y => simp only [π] at hqr; split at hqr <;> cases hqr
    | _ => exact hqr
 ·-- an element's cells
  rename_i id i j
  cases hH : H[id]? with
  | none => simp [hH] at he
  | some B =>
  cases B with
  | cells => simp [hH] at he
  | map => simp [hH] at he
  | iter => simp [hH] at he
  | dead => simp [hH] at he
  | arr sz xs =>
  simp only [hH] at he
  cases hX : xs[i]? with
  | none => simp [hX] at he
  | some X =>
  simp only [hX] at he
  obtain ⟨⟨hle, hva⟩, he2⟩ := ite_some he
  replace he := he2; clear he2
  simp only [Option.some.injEq, Prod.mk.injEq] at he
  obtain ⟨rfl, rfl⟩ := he
  have hidl : id < H.length := (List.getElem?_eq_some_iff.1 hH).1
  have hil : i < xs.length := (List.getElem?_eq_some_iff.1 hX).1
  obtain ⟨hsz, hru⟩ := h.box id _ hH
  cases (show Rv G w (.eptr id i j) pv from hp) with
  | eptr _ _ _ b o len cap hlt hs =>
  rcases hru with ⟨rfl, _⟩ | ⟨b', o', len', cap', f, hsl, g1, g2, g3, g4, g5, g6⟩
  ·simp at hX
  rw [hs] at hsl; cases hsl
  rw [hsz] at h ⊢
  have hXsz : X.cells.length = sz := g3 X (List.mem_of_getElem? hX)
  have hrow : i * sz + sz ≤ len * sz := by
   have : (i + 1) * sz ≤ len * sz := Nat.mul_le_mul_right _ (by omega)
   rw [Nat.add_mul] at this; omega
  have hlc : len * sz ≤ cap * sz := Nat.mul_le_mul_right _ g2
  have hbo : ownP G ⟨env, tm, [(.eptr id i j, .pointer (some (at_ b (o + i * sz + j)))), (v, vv)], H⟩ w (.box id) = some (b, o, o + cap * sz) := by
   simp only [ownP, hH, own0, hs, show 0 < cap by omega, if_true]
  have hok := h.ok _ _ hbo
  obtain ⟨c, te, fr, hbc, hcs⟩ : ∃ c te fr, w.heap[b]? = some (.cells c te fr) ∧ o + cap * sz ≤ c.size := by
   rcases hok.cells with h0 | h0
   ·simp only at h0; omega
   ·exact h0
  have hfz : ∀ x, o ≤ x → x < o + cap * sz → w.frozen? (at_ b x) = false := fun x h1 h2 => hok.fz x h1 h2
  have hrun := store_run ti hvs hv1 hbc (o := o + i * sz + j) (by omega) (fun x h1 h2 => hfz x (by omega) (by omega))
  have hvl : vv.cells.toList.length = n := by simpa using hvs
  obtain ⟨c', hb1, hb2, hb3⟩ := setCells_heap_eq vv.cells.toList (o + i * sz + j) w c hbc
  refine ⟨_, hrun, rfl, ?_⟩
  let w' := w.setCells b (o + i * sz + j) vv.cells.toList
  have hne : ∀ x, x ≠ b → w'.heap[x]? = w.heap[x]? := fun x hx => setCells_heap_ne hx _ _ _
  have ge : GE G w G w' := ⟨Nat.le_refl _, fun _ _ h => h, fun _ _ => rfl, fun _ _ => rfl, fun _ _ => rfl, fun x y hd => by
   by_cases hxb : x = b
   ·subst hxb
    rw [cell_cells hb1, cell_cells hbc, hb3, if_neg]
    rintro ⟨h1, _, _⟩
    exact hok.D y (by show o ≤ y; omega) hd
   ·exact cell_of_heap (hne x hxb), setCells_still _ _ _ _⟩
  have away : ∀ q a, q ≠ .box id → ownP G ⟨env, tm, [(.eptr id i j, .pointer (some (at_ b (o + i * sz + j)))), (v, vv)], H⟩ w q = some a → w'.heap[a.1]? = w.heap[a.1]? := by
   intro q a hq ha
   exact hne _ (fun e => h.dis q (.box id) a _ hq ha hbo e)
  let ys := v.flat.map AVal.strip
  have hysl : ys.length = n := by simp [ys, hn]
  let X' := X.withCells (overwrite X.cells j ys)
  have hX'c : X'.cells = overwrite X.cells j ys := by
   show (X.withCells (overwrite X.cells j ys)).cells = _
   by_cases ha : ∃ cs, X = .agg cs
   ·obtain ⟨cs, rfl⟩ := ha; rfl
   ·have hXc : X.cells = [X] := by cases X <;> first | rfl | exact absurd ⟨_, rfl⟩ ha
    have hjn : j = 0 ∧ n = 1 := by rw [hXc] at hle; simp at hle; omega
    obtain ⟨rfl, hn1⟩ := hjn
    obtain ⟨y, hy⟩ : ∃ y, ys = [y] := List.length_eq_one_iff.1 (by omega)
    have hw : X.withCells (overwrite X.cells 0 ys) = y := by
     rw [hXc, hy]
     cases X <;> first | rfl | exact absurd ⟨_, rfl⟩ ha
    rw [hw, hXc, hy]
    have hyf : ∃ z, v.flat = [z] ∧ z.strip = y := by
     obtain ⟨z, hz⟩ := List.length_eq_one_iff.1 (show v.flat.length = 1 by omega)
     refine ⟨z, hz, ?_⟩
     have : ys = [z.strip] := by show v.flat.map AVal.strip = _; rw [hz]; rfl
     rw [hy] at this; exact (List.cons.inj this).1.symm
    obtain ⟨z, hz, rfl⟩ := hyf
    have hz1 : z.one = true := by rw [hz] at hone; simpa using hone
    show z.strip.cells = [z.strip]
    cases z <;> first | rfl | simp [AVal.one] at hz1
  have hX's : X'.cells.length = sz := by rw [hX'c, overwrite_length (by omega)]; exact hXsz
  have hX'g : ∀ q, X'.cells[q]? = if j ≤ q ∧ q < j + n then ys[q - j]? else X.cells[q]? := by
   intro q; rw [hX'c, overwrite_get (by omega), hysl]
  have hset : ∀ id', (H.set id (Box.arr sz (xs.set i X')))[id']? = if id = id' then some (Box.arr sz (xs.set i X')) else H[id']? := by
   intro id'; rw [List.getElem?_set]; split <;> simp_all
  let f' : Nat → Value := fun k => if i * sz + j ≤ k ∧ k < i * sz + j + n then vv.cells.getD (k - (i * sz + j)) undef else f k
  have hcell' : ∀ k, k < len * sz → w'.cell? (at_ b (o + k)) = some (f' k) := by
   intro k hk
   rw [cell_cells hb1, hb3]
   by_cases hin : i * sz + j ≤ k ∧ k < i * sz + j + n
   ·rw [if_pos ⟨by omega, by omega, by omega⟩]
    simp only [f', hin, and_self, if_true]
    rw [show o + k - (o + i * sz + j) = k - (i * sz + j) by omega]
    simp [show k - (i * sz + j) < vv.cells.size by omega]
   ·rw [if_neg (by omega)]
    simp only [f', hin, if_false]
    have := g5 k hk
    rwa [cell_cells hbc] at this
  have μne : ∀ id' B, id' ≠ id → H[id']? = some B → (∀ sz xs, B ≠ .arr sz xs) → B ≠ .dead → w'.heap[G.μ id']? = w.heap[G.μ id']? := by
   intro id' B hi hB h1 h2
   cases B with
   | cells cs' => exact away (.box id') _ (by simp [hi]) (own_box_cells hB)
   | map es => exact away (.box id') _ (by simp [hi]) (own_box_map hB)
   | iter s p => exact away (.box id') _ (by simp [hi]) (own_box_iter hB)
   | arr sz xs => exact absurd rfl (h1 _ _)
   | dead => exact absurd rfl h2
  have carry : ∀ q a, ownP G ⟨env, tm, [], H.set id (Box.arr sz (xs.set i X'))⟩ w' q = some a →
    ownP G ⟨env, tm, [(.eptr id i j, .pointer (some (at_ b (o + i * sz + j)))), (v, vv)], H⟩ w q = some a := by
   intro q a ha
   cases q with
   | slot => exact ha
   | fly k i => simp [ownP] at ha
   | cell id' x =>
    simp only [ownP, hset] at ha ⊢
    by_cases hi : id = id'
    ·simp only [hi, if_true] at ha; cases ha
    ·simp only [hi, if_false] at ha
     cases hB : H[id']? with
     | none => simp [hB] at ha
     | some B =>
      cases B with
      | cells cs' =>
       simp only [hB] at ha ⊢
       rwa [cellv_of_heap (μne id' _ (fun e => hi e.symm) hB (by simp) (by simp))] at ha
      | _ => simp [hB] at ha
   | box id' =>
    simp only [ownP, hset] at ha ⊢
    by_cases hi : id = id'
    ·subst hi; simp only [if_true] at ha; simp only [hH]; simpa only [own0] using ha
    ·simp only [hi, if_false] at ha; exact ha
  refine h.next (S' := ⟨env, tm, [], H.set id (Box.arr sz (xs.set i X'))⟩) ge (by simpa using h.n) (Nat.le_refl _) (fun b o hd => by rw [setCells_size]; exact h.Db b o hd)
   (by rw [setCells_size]; exact Nat.le_refl _) ?_ (fun b o hd => .inl hd) ?_ ?_ ?_ (fun q => q) (.slot 0 0) ?_ (fun _ _ _ _ _ _ e => e)
  ·intro x hx
   by_cases hbb : x = b
   ·exact .inr ⟨_, _, hbo, hbb.symm⟩
   ·exact .inl (hne x hbb)
  ·intro u
   exact (h.slot u).stay ge (fun i a ha => away (.slot u i) a (by simp) ha)
  ·intro k X x hk; simp at hk
  ·intro id' B hB
   rw [hset] at hB
   by_cases hi : id = id'
   ·subst hi
    simp only [if_true, Option.some.injEq] at hB; subst hB
    refine ⟨hsz, .inr ⟨b, o, len, cap, f', hs, by simpa using g1, g2, fun Y hY => ?_, fun q Y r Z hY hZ => ?_, hcell', fun k hk => ?_⟩⟩
    ·rcases List.mem_or_eq_of_mem_set hY with hY | rfl
     ·exact g3 Y hY
     ·exact hX's
    ·have hYs : Y.cells.length = sz := by
      rcases List.mem_or_eq_of_mem_set (List.mem_of_getElem? hY) with hY | rfl
      ·exact g3 Y hY
      ·exact hX's
     have hr : r < sz := by rw [← hYs]; exact (List.getElem?_eq_some_iff.1 hZ).1
     rw [List.getElem?_set] at hY
     by_cases hq : i = q
     ·subst hq
      simp only [if_true, hil, Option.some.injEq] at hY; subst hY
      rw [hX'g] at hZ
      by_cases hin : j ≤ r ∧ r < j + n
      ·rw [if_pos hin] at hZ
       simp only [ys, List.getElem?_map, Option.map_eq_some_iff] at hZ
       obtain ⟨z, hz, rfl⟩ := hZ
       obtain ⟨h1, h2, h3⟩ := hfc _ z hz
       simp only [f', show i * sz + j ≤ i * sz + r ∧ i * sz + r < i * sz + j + n by omega, and_self, if_true]
       rw [show i * sz + r - (i * sz + j) = r - j by omega]
       have hzu : z.isU = false := by
        by_cases ha : ∃ cs, v = .agg cs
        ·obtain ⟨cs, rfl⟩ := ha
         simp only [AVal.flat, List.getElem?_map, Option.map_eq_some_iff] at hz
         obtain ⟨y, _, rfl⟩ := hz
         exact isU_share0 y
        ·have hf : v.flat = [v] := by cases v <;> first | rfl | exact absurd ⟨_, rfl⟩ ha
         rw [hf] at hz
         have : z = v := by
          cases hrj : r - j with
          | zero => rw [hrj] at hz; simpa using hz.symm
          | succ q => rw [hrj] at hz; simp at hz
         subst this
         cases z <;> first | rfl | simpa [AVal.argOK] using hva
       exact ((h1.rv hzu).strip).stay ge
      ·rw [if_neg hin] at hZ
       simp only [f', show ¬ (i * sz + j ≤ i * sz + r ∧ i * sz + r < i * sz + j + n) by omega, if_false]
       exact (g4 i X r Z hX hZ).stay ge
     ·simp only [hq, if_false] at hY
      have hnot : ¬ (i * sz + j ≤ q * sz + r ∧ q * sz + r < i * sz + j + n) := by
       rintro ⟨q1, q2⟩
       rcases Nat.lt_or_gt_of_ne hq with hlt | hgt
       ·have : (i + 1) * sz ≤ q * sz := Nat.mul_le_mul_right _ hlt
        rw [Nat.add_mul] at this; omega
       ·have : (q + 1) * sz ≤ i * sz := Nat.mul_le_mul_right _ hgt
        rw [Nat.add_mul] at this; omega
      simp only [f', hnot, if_false]
      exact (g4 q Y r Z hY hZ).stay ge
    ·simp only [f']
     split
     ·rename_i hin
      have hk' : k - (i * sz + j) < vv.cells.size := by omega
      have : vv.cells.getD (k - (i * sz + j)) undef = vv.cells[k - (i * sz + j)] := by simp [hk']
      rw [this]; exact hv1 _ (by simp)
     ·exact g6 k hk
   ·simp only [hi, if_false] at hB
    have hi' : id' ≠ id := fun e => hi e.symm
    have hidl' : id' < G.n := by
     have := (List.getElem?_eq_some_iff.1 hB).1
     have hn := h.n; simp only at hn; omega
    refine (h.box id' B hB).stay ge hidl' (fun h1 h2 => μne id' B hi' hB h1 h2) ?_ ?_
    ·intro cs' x Y a hBc hY ha
     subst hBc
     exact away (.cell id' x) a (by simp) (by simp only [ownP, hB, hY]; exact ha)
    ·intro sz xs a hBc ha
     subst hBc
     exact away (.box id') a (by simp [hi']) (by simp only [ownP, hB]; exact ha)
  ·intro q a ha
   have ha' := carry q a ha
   refine ⟨?_, .inr ⟨a, ha', rfl⟩⟩
   have hok' := h.ok _ _ ha'
   by_cases hqb : q = .box id
   ·rw [hqb, hbo] at ha'
    simp only [Option.some.injEq] at ha'; subst ha'
    refine ⟨by rw [setCells_size]; exact hok.lt, .inr ⟨c', te, fr, hb1, by show o + cap * sz ≤ _; omega⟩, ?_, hok.D⟩
    ·intro hc0 c2 e2 fr2 hc2
     rw [show (w.setCells b (o + i * sz + j) vv.cells.toList).heap[b]? = _ from hb1] at hc2
     simp only [Option.some.injEq, Obj.cells.injEq] at hc2
     obtain ⟨rfl, _, rfl⟩ := hc2
     rw [hb2]; exact hok.frozen hc0 c te fr hbc
   ·exact hok'.stay (by rw [setCells_size]; exact Nat.le_refl _) (away _ a hqb ha') hok'.D
 ·cases he
end
end Go.Abs
namespace Go.Abs
open Go
set_option linter.unusedVariables false
set_option linter.unusedSimpArgs false
section
variable {P : Program}
theorem zeroCells_get (z : Array Value) (n k : Nat) (hz : 0 < z.size) (hk : k < n * z.size) : (Builtin.zeroCells z n).toList[k]? = some (z.getD (k % z.size) undef) := by
 have hm : k % z.size < z.size := Nat.mod_lt _ hz
 simp [Builtin.zeroCells, hk, hm]
theorem zeroCells_len (z : Array Value) (n : Nat) : (Builtin.zeroCells z n).toList.length = n * z.size := by simp [Builtin.zeroCells]
set_option maxHeartbeats 4000000 in
theorem clear_ok {E G env tm H w} {t e ty : TypeId} {sz : Nat} {zero : AVal} (hu : P.underlying t = some (.slice e)) (hz : ZI P e zero sz) (hsp : 0 < sz)
  {id lo : Nat} {xs : List AVal} {xv : Value} (hH : H[id]? = some (.arr sz xs)) (h : St E G ⟨env, tm, [(.lcut id lo, xv)], H⟩ w) :
  ∃ w', (Builtin.clear_ #[t] ty #[xv]).run P w = .ok (.tuple #[]) w' ∧ St E G ⟨env, tm, [], H.set id (.arr sz (xs.take lo ++ List.replicate (xs.length - lo) zero))⟩ w' := by
 obtain ⟨zi, z, hzi, hzz, hzs, hzc, hzl, hzv⟩ := hz.z
 have hidl : id < H.length := (List.getElem?_eq_some_iff.1 hH).1
 obtain ⟨hsz, hru⟩ := h.box id _ hH
 cases (show Rv G w (.lcut id lo) xv from h.fly 0 _ xv rfl) with
 | lcut _ _ b o len cap hlt hs hlo =>
 rcases hru with ⟨rfl, hsl0⟩ | ⟨b', o', len', cap', f, hsl, g1, g2, g3, g4, g5, g6⟩
 ·rw [hs] at hsl0; cases hsl0
 rw [hs] at hsl; cases hsl
 rw [hsz] at h ⊢
 let vals := (Builtin.zeroCells z.cells (len - lo)).toList
 have hvl : vals.length = (len - lo) * sz := by show (Builtin.zeroCells z.cells (len - lo)).toList.length = _; rw [zeroCells_len, hzc]
 have hrow : lo * sz + (len - lo) * sz = len * sz := by rw [← Nat.add_mul]; congr 1; omega
 have hlc : len * sz ≤ cap * sz := Nat.mul_le_mul_right _ g2
 have hlsz : lo * sz + sz ≤ len * sz := by
  have : (lo + 1) * sz ≤ len * sz := Nat.mul_le_mul_right _ (by omega)
  rw [Nat.add_mul] at this; omega
 have hbo : ownP G ⟨env, tm, [(.lcut id lo, .slice (some (at_ b (o + lo * sz))) (len - lo) (cap - lo))], H⟩ w (.box id) = some (b, o, o + cap * sz) := by
  simp only [ownP, hH, own0, hs, show 0 < cap by omega, if_true]
 have hok := h.ok _ _ hbo
 obtain ⟨c, te, fr, hbc, hcs⟩ : ∃ c te fr, w.heap[b]? = some (.cells c te fr) ∧ o + cap * sz ≤ c.size := by
  rcases hok.cells with h0 | h0
  ·simp only at h0; omega
  ·exact h0
 have hfz : ∀ x, o ≤ x → x < o + cap * sz → w.frozen? (at_ b x) = false := fun x h1 h2 => hok.fz x h1 h2
 have hv1 : ∀ u ∈ vals, u.oneCell' = true := by
  intro u hu'
  obtain ⟨k, hk⟩ := List.mem_iff_getElem?.1 hu'
  have hkl : k < vals.length := (List.getElem?_eq_some_iff.1 hk).1
  rw [hvl] at hkl
  have := zeroCells_get z.cells (len - lo) k (by omega) (by rw [hzc]; exact hkl)
  rw [show (Builtin.zeroCells z.cells (len - lo)).toList = vals from rfl, hk] at this
  simp only [Option.some.injEq] at this
  have hm : k % z.cells.size < zero.cells.length := by rw [hzc, hzl]; exact Nat.mod_lt _ hsp
  rw [this]
  exact (hzv _ _ (List.getElem?_eq_getElem hm)).2.2
 have hst := run_storeCells_cells (P := P) b (o + lo * sz) vals 0 w (fun j hj => by
   rw [show (⟨b, o + lo * sz + 0 + j, none⟩ : Addr) = at_ b (o + lo * sz + j) from by simp, cell_cells hbc]
   have : o + lo * sz + j < c.size := by omega
   simp [this]) (fun j hj => by simpa using hfz (o + lo * sz + j) (by omega) (by omega)) hv1
 simp only [Nat.add_zero] at hst
 have hrun : (Builtin.clear_ #[t] ty #[.slice (some (at_ b (o + lo * sz))) (len - lo) (cap - lo)]).run P w = .ok (.tuple #[]) (w.setCells b (o + lo * sz) vals) := by
  obtain ⟨m, hm⟩ : ∃ m, len - lo = m + 1 := ⟨len - lo - 1, by omega⟩
  have hzr : ∀ w, (zeroValue e).run P w = .ok z w := fun w => by simp [zeroValue, typeInfo, hzi, hzz]
  have hst' : (storeCells (at_ b (o + lo * sz)) (Builtin.zeroCells z.cells (m + 1)).toList).run P w = .ok () (w.setCells b (o + lo * sz) vals) := by
   rw [← hm]; exact hst
  rw [hm]
  simp [Builtin.clear_, run_underlying hu, hzr, hst']
 obtain ⟨c', hb1, hb2, hb3⟩ := setCells_heap_eq vals (o + lo * sz) w c hbc
 refine ⟨_, hrun, ?_⟩
 let w' := w.setCells b (o + lo * sz) vals
 have hne : ∀ x, x ≠ b → w'.heap[x]? = w.heap[x]? := fun x hx => setCells_heap_ne hx _ _ _
 have ge : GE G w G w' := ⟨Nat.le_refl _, fun _ _ h => h, fun _ _ => rfl, fun _ _ => rfl, fun _ _ => rfl, fun x y hd => by
  by_cases hxb : x = b
  ·subst hxb
   rw [cell_cells hb1, cell_cells hbc, hb3, if_neg]
   rintro ⟨h1, _, _⟩
   exact hok.D y (by show o ≤ y; omega) hd
  ·exact cell_of_heap (hne x hxb), setCells_still _ _ _ _⟩
 have away : ∀ q a, q ≠ .box id → ownP G ⟨env, tm, [(.lcut id lo, .slice (some (at_ b (o + lo * sz))) (len - lo) (cap - lo))], H⟩ w q = some a → w'.heap[a.1]? = w.heap[a.1]? := by
  intro q a hq ha
  exact hne _ (fun e => h.dis q (.box id) a _ hq ha hbo e)
 let xs' := xs.take lo ++ List.replicate (xs.length - lo) zero
 have hxl : xs'.length = len := by simp [xs', g1]; omega
 have hset : ∀ id', (H.set id (Box.arr sz xs'))[id']? = if id = id' then some (Box.arr sz xs') else H[id']? := by
  intro id'; rw [List.getElem?_set]; split <;> simp_all
 have hxg : ∀ q X, xs'[q]? = some X → (q < lo ∧ xs[q]? = some X) ∨ (lo ≤ q ∧ q < len ∧ X = zero) := by
  intro q X hq
  have hql : q < xs'.length := (List.getElem?_eq_some_iff.1 hq).1
  simp only [xs'] at hq
  by_cases hc : q < lo
  ·left
   rw [List.getElem?_append_left (by rw [List.length_take]; omega), List.getElem?_take, if_pos hc] at hq
   exact ⟨hc, hq⟩
  ·right
   rw [List.getElem?_append_right (by rw [List.length_take]; omega), List.getElem?_replicate] at hq
   split at hq
   ·simp only [Option.some.injEq] at hq; exact ⟨by omega, by omega, hq.symm⟩
   ·cases hq
 let f' : Nat → Value := fun k => if lo * sz ≤ k then z.cells.getD (k % sz) undef else f k
 have hcell' : ∀ k, k < len * sz → w'.cell? (at_ b (o + k)) = some (f' k) := by
  intro k hk
  rw [cell_cells hb1, hb3]
  by_cases hin : lo * sz ≤ k
  ·rw [if_pos ⟨by omega, by omega, by omega⟩]
   simp only [f', hin, if_true]
   rw [show o + k - (o + lo * sz) = k - lo * sz by omega]
   have := zeroCells_get z.cells (len - lo) (k - lo * sz) (by omega) (by rw [hzc]; omega)
   rw [show vals = (Builtin.zeroCells z.cells (len - lo)).toList from rfl, this, hzc]
   congr 2
   have e : k = (k - lo * sz) + lo * sz := by omega
   conv => rhs; rw [e]
   rw [Nat.add_mul_mod_self_right]
  ·rw [if_neg (by omega)]
   simp only [f', hin, if_false]
   have := g5 k hk
   rwa [cell_cells hbc] at this
 have μne : ∀ id' B, id' ≠ id → H[id']? = some B → (∀ sz xs, B ≠ .arr sz xs) → B ≠ .dead → w'.heap[G.μ id']? = w.heap[G.μ id']? := by
  intro id' B hi hB h1 h2
  cases B with
  | cells cs' => exact away (.box id') _ (by simp [hi]) (own_box_cells hB)
  | map es => exact away (.box id') _ (by simp [hi]) (own_box_map hB)
  | iter s p => exact away (.box id') _ (by simp [hi]) (own_box_iter hB)
  | arr sz xs => exact absurd rfl (h1 _ _)
  | dead => exact absurd rfl h2
 have carry : ∀ q a, ownP G ⟨env, tm, [], H.set id (Box.arr sz xs')⟩ w' q = some a →
   ownP G ⟨env, tm, [(.lcut id lo, .slice (some (at_ b (o + lo * sz))) (len - lo) (cap - lo))], H⟩ w q = some a := by
  intro q a ha
  cases q with
  | slot => exact ha
  | fly k i => simp [ownP] at ha
  | cell id' x =>
   simp only [ownP, hset] at ha ⊢
   by_cases hi : id = id'
   ·simp only [hi, if_true] at ha; cases ha
   ·simp only [hi, if_false] at ha
    cases hB : H[id']? with
    | none => simp [hB] at ha
    | some B =>
     cases B with
     | cells cs' =>
      simp only [hB] at ha ⊢
      rwa [cellv_of_heap (μne id' _ (fun e => hi e.symm) hB (by simp) (by simp))] at ha
     | _ => simp [hB] at ha
  | box id' =>
   simp only [ownP, hset] at ha ⊢
   by_cases hi : id = id'
   ·subst hi; simp only [if_true] at ha; simp only [hH]; simpa only [own0] using ha
   ·simp only [hi, if_false] at ha; exact ha
 refine h.next (S' := ⟨env, tm, [], H.set id (Box.arr sz xs')⟩) ge (by simpa using h.n) (Nat.le_refl _) (fun b o hd => by rw [setCells_size]; exact h.Db b o hd)
  (by rw [setCells_size]; exact Nat.le_refl _) ?_ (fun b o hd => .inl hd) ?_ ?_ ?_ (fun q => q) (.slot 0 0) ?_ (fun _ _ _ _ _ _ e => e)
 ·intro x hx
  by_cases hbb : x = b
  ·exact .inr ⟨_, _, hbo, hbb.symm⟩
  ·exact .inl (hne x hbb)
 ·intro u
  exact (h.slot u).stay ge (fun i a ha => away (.slot u i) a (by simp) ha)
 ·intro k X x hk; simp at hk
 ·intro id' B hB
  rw [hset] at hB
  by_cases hi : id = id'
  ·subst hi
   simp only [if_true, Option.some.injEq] at hB; subst hB
   refine ⟨hsz, .inr ⟨b, o, len, cap, f', hs, hxl, g2, fun Y hY => ?_, fun q Y r Z hY hZ => ?_, hcell', fun k hk => ?_⟩⟩
   ·obtain ⟨q, hq⟩ := List.mem_iff_getElem?.1 hY
    rcases hxg q Y hq with ⟨_, hx⟩ | ⟨_, _, rfl⟩
    ·exact g3 Y (List.mem_of_getElem? hx)
    ·exact hzl
   ·rcases hxg q Y hY with ⟨hq, hx⟩ | ⟨hq, hq2, rfl⟩
    ·have hYs := g3 Y (List.mem_of_getElem? hx)
     have hr : r < sz := by rw [← hYs]; exact (List.getElem?_eq_some_iff.1 hZ).1
     have hqq : q * sz + sz ≤ lo * sz := by
      have : (q + 1) * sz ≤ lo * sz := Nat.mul_le_mul_right _ hq
      rw [Nat.add_mul] at this; omega
     simp only [f', show ¬ lo * sz ≤ q * sz + r by omega, if_false]
     exact (g4 q Y r Z hx hZ).stay ge
    ·have hr : r < sz := by rw [← hzl]; exact (List.getElem?_eq_some_iff.1 hZ).1
     have hqq : lo * sz ≤ q * sz := Nat.mul_le_mul_right _ hq
     simp only [f', show lo * sz ≤ q * sz + r by omega, if_true]
     rw [show q * sz + r = r + q * sz by omega, Nat.add_mul_mod_self_right, Nat.mod_eq_of_lt hr]
     exact (hzv r Z hZ).1 _ _
   ·simp only [f']
    split
    ·have hm : k % sz < zero.cells.length := by rw [hzl]; exact Nat.mod_lt _ hsp
     exact (hzv _ _ (List.getElem?_eq_getElem hm)).2.2
    ·exact g6 k hk
  ·simp only [hi, if_false] at hB
   have hi' : id' ≠ id := fun e => hi e.symm
   have hidl' : id' < G.n := by
    have := (List.getElem?_eq_some_iff.1 hB).1
    have hn := h.n; simp only at hn; omega
   refine (h.box id' B hB).stay ge hidl' (fun h1 h2 => μne id' B hi' hB h1 h2) ?_ ?_
   ·intro cs' x Y a hBc hY ha
    subst hBc
    exact away (.cell id' x) a (by simp) (by simp only [ownP, hB, hY]; exact ha)
   ·intro sz xs a hBc ha
    subst hBc
    exact away (.box id') a (by simp [hi']) (by simp only [ownP, hB]; exact ha)
 ·intro q a ha
  have ha' := carry q a ha
  refine ⟨?_, .inr ⟨a, ha', rfl⟩⟩
  have hok' := h.ok _ _ ha'
  by_cases hqb : q = .box id
  ·rw [hqb, hbo] at ha'
   simp only [Option.some.injEq] at ha'; subst ha'
   refine ⟨by rw [setCells_size]; exact hok.lt, .inr ⟨c', te, fr, hb1, by show o + cap * sz ≤ _; omega⟩, ?_, hok.D⟩
   ·intro hc0 c2 e2 fr2 hc2
    rw [show (w.setCells b (o + lo * sz) vals).heap[b]? = _ from hb1] at hc2
    simp only [Option.some.injEq, Obj.cells.injEq] at hc2
    obtain ⟨rfl, _, rfl⟩ := hc2
    rw [hb2]; exact hok.frozen hc0 c te fr hbc
  ·exact hok'.stay (by rw [setCells_size]; exact Nat.le_refl _) (away _ a hqb ha') hok'.D
theorem clear_does {E G env tm H w} {t e ty : TypeId} {sz : Nat} {zero : AVal} (hu : P.underlying t = some (.slice e)) (hz : ZI P e zero sz) (hsp : 0 < sz)
  {id lo : Nat} {xs : List AVal} {xv : Value} (hH : H[id]? = some (.arr sz xs)) (h : St E G ⟨env, tm, [(.lcut id lo, xv)], H⟩ w) :
  Does P E env tm (Builtin.clear_ #[t] ty #[xv]) w (.tuple []) (H.set id (.arr sz (xs.take lo ++ List.replicate (xs.length - lo) zero))) := by
 obtain ⟨w', h1, h3⟩ := clear_ok (ty := ty) hu hz hsp hH h
 refine ⟨.tuple #[], w', G, h1, h3.shuffle rfl h3.slot ?_ (fun p => p) ?_ (fun _ _ _ _ _ _ e => e)⟩
 ·intro k V v hk'
  cases k with
  | zero => simp at hk'; obtain ⟨rfl, rfl⟩ := hk'; exact ⟨#[], rfl, rfl, fun i X hX => by simp at hX⟩
  | succ k => simp at hk'
 ·intro p b hp
  cases p with
  | fly k i =>
   cases k with
   | zero => simp [ownP, ownC] at hp
   | succ k => simp [ownP] at hp
  | _ => exact hp
end
end Go.Abs
