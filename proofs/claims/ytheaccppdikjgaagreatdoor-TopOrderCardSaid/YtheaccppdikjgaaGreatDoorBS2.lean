import Derived.Test.YtheaccppdikjgaaGreatDoorBS1
set_option linter.unusedVariables false
set_option linter.unusedSimpArgs false
namespace Go.Abs
open Go Go.RowKit
abbrev prE (p : Pr) : AVal × AVal := (.int .i64 p.id, p.V)
abbrev mapB (M : List Pr) : Box := .map (M.map prE)
abbrev tblB (j : Nat) : Box := .cells [.map (some j)]
def idxM (id : Int) (M : List Pr) : Option Nat := M.findIdx? fun p => p.id == id
def getM (id : Int) (M : List Pr) : Option Pr := (idxM id M).bind fun i => M[i]?
def setM (M : List Pr) (x : Pr) : List Pr := match idxM x.id M with | some i => M.set i x | none => M ++ [x]
theorem findK_m (id : Int) (M : List Pr) : findK id (M.map prE) = idxM id M := by
 unfold findK idxM
 rw [List.findIdx?_map]
 rfl
theorem all_m (M : List Pr) : ((M.map prE).all fun p => keyOK .i64 p.1) = true := by
 rw [List.all_eq_true]
 intro p hp
 obtain ⟨q, _, rfl⟩ := List.mem_map.1 hp
 simp [keyOK]
abbrev zPr : AVal := .agg [.int .i64 0, .int .i64 0, .list 3 [] .full, .int .i64 0]
theorem getM_some {id : Int} {M : List Pr} {i : Nat} (h : idxM id M = some i) : ∃ p, M[i]? = some p ∧ getM id M = some p := by
 have h' := h
 unfold idxM at h'
 rw [List.findIdx?_eq_some_iff_getElem] at h'
 obtain ⟨hi, _⟩ := h'
 exact ⟨M[i], List.getElem?_eq_getElem hi, by unfold getM; rw [h]; simp [hi]⟩
theorem look_m (id : Int) (M : List Pr) (j : Nat) (H : Heap) (hj : H[j]? = some (mapB M)) :
  evLookup .i64 zPr true (.map (some j)) (.int .i64 id) H = some (.tuple [((getM id M).getD zeroPr).V, .bool (getM id M).isSome]) := by
 simp only [evLookup, hj]
 rw [if_pos ⟨trivial, all_m M⟩, findK_m]
 unfold lookA
 cases h : idxM id M with
 | none =>
  have : getM id M = none := by unfold getM; rw [h]; rfl
  rw [this]
  rfl
 | some i =>
  obtain ⟨p, h1, h2⟩ := getM_some h
  rw [h2]
  have : (M.map prE)[i]? = some (prE p) := by rw [List.getElem?_map, h1]; rfl
  simp only [this]
  rfl
theorem set_m (x : Pr) (M : List Pr) (j : Nat) (H : Heap) (hj : H[j]? = some (mapB M)) :
  evMapSet .i64 (.map (some j)) (.int .i64 x.id) x.V H = some (.tuple [], H.set j (mapB (setM M x))) := by
 simp only [evMapSet, hj]
 rw [if_pos ⟨trivial, all_m M, rfl⟩, findK_m]
 unfold setM
 cases h : idxM x.id M with
 | none =>
  simp only [setA]
  rw [show mapB (M ++ [x]) = .map (M.map prE ++ [prE x]) by simp [mapB]]
  rfl
 | some i =>
  simp only [setA]
  rw [show mapB (M.set i x) = .map ((M.map prE).set i (prE x)) by simp [mapB, List.map_set]]
  rfl
def stepM (M : List Pr) (b : Ba) : List Pr := if rightE b ≠ 0 ∨ b.prod < 0 then M else setM M (applyP ((getM b.prod M).getD zeroPr) (getM b.prod M).isSome b)
def stepD (M : List Pr) (b : Ba) : Option La :=
 if rightE b ≠ 0 ∨ b.prod < 0 then none
 else match getM b.prod M with
  | some p => if b.mark = 2 ∧ p.open_ ≥ 0 then some (b.prod, p.open_, b.base) else none
  | none => none
theorem applyP_id (p : Pr) (k : Bool) (b : Ba) : (applyP p k b).id = b.prod := by
 unfold applyP; split <;> rfl
theorem idxM_mem {id : Int} {M : List Pr} {i : Nat} (h : idxM id M = some i) : ∃ p, M[i]? = some p ∧ p.id = id := by
 unfold idxM at h
 rw [List.findIdx?_eq_some_iff_getElem] at h
 obtain ⟨hi, h1, _⟩ := h
 exact ⟨M[i], List.getElem?_eq_getElem hi, by simpa using h1⟩
theorem getM_find (id : Int) (M : List Pr) : getM id M = M.find? (fun p => p.id == id) := by
 unfold getM idxM
 induction M with
 | nil => rfl
 | cons p M ih =>
  rw [List.findIdx?_cons, List.find?_cons]
  cases h : p.id == id with
  | true => simp
  | false =>
   simp only [Bool.false_eq_true, if_false]
   rw [← ih]
   cases List.findIdx? (fun p => p.id == id) M <;> simp
theorem getM_set (id : Int) (M : List Pr) (x : Pr) : getM id (setM M x) = if id = x.id then some x else getM id M := by
 unfold setM
 cases h : idxM x.id M with
 | none =>
  simp only
  rw [getM_find, getM_find, List.find?_append]
  have hno : M.find? (fun p => p.id == x.id) = none := by rw [← getM_find]; unfold getM; rw [h]; rfl
  by_cases hid : id = x.id
  ·subst hid; rw [if_pos rfl, hno]; simp
  ·rw [if_neg hid]
   have : [x].find? (fun p => p.id == id) = none := by simp; exact fun e => hid e.symm
   rw [this]; cases M.find? (fun p => p.id == id) <;> rfl
 | some i =>
  simp only
  unfold idxM at h
  rw [List.findIdx?_eq_some_iff_getElem] at h
  obtain ⟨hi, h1, h2⟩ := h
  rw [getM_find, getM_find]
  induction M generalizing i with
  | nil => simp at hi
  | cons p M ih =>
   cases i with
   | zero =>
    simp only [List.set_cons_zero, List.find?_cons]
    simp only [List.getElem_cons_zero, beq_iff_eq] at h1
    by_cases hid : id = x.id
    ·subst hid; simp
    ·rw [if_neg hid]
     have e1 : (x.id == id) = false := by simp; exact fun e => hid e.symm
     have e2 : (p.id == id) = false := by simp; rw [h1]; exact fun e => hid e.symm
     rw [e1, e2]
   | succ i =>
    simp only [List.set_cons_succ, List.find?_cons]
    have h0 := h2 0 (by omega)
    simp only [List.getElem_cons_zero, Bool.not_eq_true] at h0
    have ih' := ih i (by simpa using hi) (by simpa using h1) (fun j hj => by simpa using h2 (j + 1) (by omega))
    by_cases hid : id = x.id
    ·subst hid
     rw [h0, if_pos rfl]; rw [if_pos rfl] at ih'; exact ih'
    ·rw [if_neg hid] at ih' ⊢
     rw [ih']
theorem flatB_m (M : List Pr) : Box.flatB (.map (M.map prE)) = true := by
 simp only [Box.flatB, List.all_eq_true, Bool.and_eq_true]
 intro p hp
 obtain ⟨q, _, rfl⟩ := List.mem_map.1 hp
 exact ⟨rfl, by show AVal.under 0 (.agg q.cs) = true; simp only [AVal.under]; exact under_pr 0 q⟩
theorem getM_mem {id : Int} {M : List Pr} {p : Pr} (h : getM id M = some p) : p ∈ M := by
 rw [getM_find] at h; exact List.mem_of_find?_eq_some h
theorem right_prod {b : Ba} (h : rightE b = 0) : -1 ≤ b.prod := by
 have key : noneB b = true ∨ namedB b = true := by
  unfold rightE at h
  split at h
  ·cases h
  split at h
  ·unfold dataE at h
   cases hn : noneB b with
   | true => exact .inl rfl
   | false =>
    cases hm : namedB b with
    | true => exact .inr rfl
    | false => simp [hn, hm] at h
  ·unfold markE at h
   cases hm : namedB b with
   | true => exact .inr rfl
   | false => simp [hm] at h
 rcases key with h1 | h1
 ·unfold noneB at h1
  simp at h1; omega
 ·unfold namedB at h1
  simp at h1; omega
set_option maxHeartbeats 2000000 in
theorem tbl_apply_spec (M : List Pr) (hM : ∀ p ∈ M, p.last.length ≤ 1000) (b : Ba) (hb : BOK b) (hr : b.recs.length ≤ 1000) (i j : Nat) (H : Heap) (hi : Old H i (tblB j)) (hj : Old H j (mapB M)) :
  W n_table_Table_Apply [.ptr i 0, b.V] H = some (.tuple [laV (optLa (stepD M b)), .bool (stepD M b).isSome], H.set j (mapB (stepM M b))) := by
 have tr := fun H => right_spec b hb H
 by_cases hc : rightE b ≠ 0 ∨ b.prod < 0
 ·rw [show stepD M b = none by unfold stepD; rw [if_pos hc], show stepM M b = M by unfold stepM; rw [if_pos hc], hj.same]
  by_cases c1 : rightE b = 0
  ·have c2 : b.prod = -1 := by
    have h2 : b.prod < 0 := by rcases hc with h | h; exact absurd c1 h; exact h
    have h3 := right_prod c1
    omega
   rw [c1] at tr
   unfold Ba.V Ba.cs at *
   refine W_fn rfl rfl ?_
   simp only [go_sem, c_table_Table_Apply, tr, eq_true c2, simprocAttr]
   rfl
  ·unfold Ba.V Ba.cs at *
   refine W_fn rfl rfl ?_
   simp only [go_sem, c_table_Table_Apply, tr, c1, simprocAttr]
   rfl
 ·have c1 : rightE b = 0 := by omega
  have c2 : ¬ b.prod = -1 := by omega
  rw [c1] at tr
  rw [show stepM M b = setM M (applyP ((getM b.prod M).getD zeroPr) (getM b.prod M).isSome b) by unfold stepM; rw [if_neg hc]]
  have hq : ((getM b.prod M).getD zeroPr).last.length ≤ 1000 := by
   cases h : getM b.prod M with
   | none => simp [zeroPr]
   | some p => exact hM p (getM_mem h)
  have hd : stepD M b = if (getM b.prod M).isSome = true ∧ b.mark = 2 ∧ ((getM b.prod M).getD zeroPr).open_ ≥ 0 then some (b.prod, ((getM b.prod M).getD zeroPr).open_, b.base) else none := by
   unfold stepD
   rw [if_neg hc]
   cases h : getM b.prod M with
   | none => simp
   | some p => simp
  rw [hd]
  have lk := fun N => look_m b.prod M j (hx H N) (hj.get N)
  generalize (getM b.prod M).getD zeroPr = q at *
  generalize (getM b.prod M).isSome = known at *
  have hxid := applyP_id q known b
  have tp := fun H => papply_spec q known b hq hr H
  have sm : ∀ N, evMapSet .i64 (.map (some j)) (.int .i64 b.prod) (applyP q known b).V (hx H N) = some (.tuple [], hx (H.set j (mapB (setM M (applyP q known b)))) N) := fun N => by
   have := set_m (applyP q known b) M j (hx H N) (hj.get N)
   rw [hxid, hj.set] at this
   exact this
  generalize applyP q known b = x at *
  have fm := flatB_m (setM M x)
  generalize setM M x = M2 at *
  have gi := hi.get
  unfold Pr.V Pr.cs at *
  unfold Ba.V Ba.cs at *
  refine W_fnS rfl rfl ?_
  cases known with
  | false =>
   rw [if_neg (by simp)]
   by_cases c3 : b.mark = 2
   ·simp only [go_sem, c_table_Table_Apply, tr, c2, gi, lk, tp, sm, eq_true c3, fm, simprocAttr]
    rfl
   ·simp only [go_sem, c_table_Table_Apply, tr, c2, gi, lk, tp, sm, c3, fm, simprocAttr]
    rfl
  | true =>
   by_cases c3 : b.mark = 2
   ·by_cases c4 : q.open_ ≥ 0
    ·rw [if_pos ⟨rfl, c3, c4⟩]
     have c5 : ¬ q.open_ < 0 := by omega
     simp only [go_sem, c_table_Table_Apply, tr, c2, gi, lk, tp, sm, eq_true c3, c5, fm, simprocAttr]
     rfl
    ·rw [if_neg (fun h => c4 h.2.2)]
     have c5 : q.open_ < 0 := by omega
     simp only [go_sem, c_table_Table_Apply, tr, c2, gi, lk, tp, sm, eq_true c3, c5, fm, simprocAttr]
     rfl
   ·rw [if_neg (fun h => c3 h.2.1)]
    simp only [go_sem, c_table_Table_Apply, tr, c2, gi, lk, tp, sm, c3, fm, simprocAttr]
    rfl
structure Fi where
 n : List UInt8
 b : List Int
 z : Int
abbrev fiE (x : Fi) : AVal × AVal := (.str x.n, .agg [.list 1 (ints .u8 x.b) .ro, .int .i64 x.z])
structure Fs where
 E : List Fi
 d : Int
abbrev fmB (E : List Fi) : Box := .map (E.map fiE)
abbrev fsB (j : Nat) (d : Int) : Box := .cells [.map (some j), .int .i64 (-1), .int .i64 d]
def idxF (n : List UInt8) (E : List Fi) : Option Nat := E.findIdx? fun x => x.n == n
def getF (n : List UInt8) (E : List Fi) : Option Fi := (idxF n E).bind fun i => E[i]?
def setF (E : List Fi) (x : Fi) : List Fi := match idxF x.n E with | some i => E.set i x | none => E ++ [x]
theorem same_str (a b : List UInt8) : AVal.same (.str a) (.str b) = (a == b) := by
 by_cases h : a = b <;> simp [AVal.same, h]
theorem findG_f (n : List UInt8) (E : List Fi) : findG (.str n) (E.map fiE) = idxF n E := by
 unfold findG idxF
 rw [List.findIdx?_map]
 congr 1
 funext x
 exact same_str _ _
theorem all_f (E : List Fi) : ((E.map fiE).all fun p => keyG .str p.1) = true := by
 rw [List.all_eq_true]
 intro p hp
 obtain ⟨q, _, rfl⟩ := List.mem_map.1 hp
 rfl
theorem getF_some {n : List UInt8} {E : List Fi} {i : Nat} (h : idxF n E = some i) : ∃ p, E[i]? = some p ∧ getF n E = some p := by
 have h' := h
 unfold idxF at h'
 rw [List.findIdx?_eq_some_iff_getElem] at h'
 obtain ⟨hi, _⟩ := h'
 exact ⟨E[i], List.getElem?_eq_getElem hi, by unfold getF; rw [h]; simp [hi]⟩
def zFi : Fi := ⟨[], [], 0⟩
theorem look_f (n : List UInt8) (E : List Fi) (j : Nat) (H : Heap) (hj : H[j]? = some (fmB E)) :
  evLookupG .str (.agg [.list 1 [] .full, .int .i64 0]) true (.map (some j)) (.str n) H = some (.tuple [.agg [.list 1 (ints .u8 ((getF n E).getD zFi).b) .ro, .int .i64 ((getF n E).getD zFi).z], .bool (getF n E).isSome]) := by
 simp only [evLookupG, hj]
 rw [if_pos ⟨rfl, all_f E⟩, findG_f]
 unfold lookA
 cases h : idxF n E with
 | none =>
  have : getF n E = none := by unfold getF; rw [h]; rfl
  rw [this]
  rfl
 | some i =>
  obtain ⟨p, h1, h2⟩ := getF_some h
  rw [h2]
  have : (E.map fiE)[i]? = some (fiE p) := by rw [List.getElem?_map, h1]; rfl
  simp only [this]
  rfl
theorem set_f (x : Fi) (fl : Fl) (hf : fl = .own ∨ fl = .ro ∨ fl = .full) (E : List Fi) (j : Nat) (H : Heap) (hj : H[j]? = some (fmB E)) :
  evMapSetG .str (.map (some j)) (.str x.n) (.agg [.list 1 (ints .u8 x.b) .ro, .int .i64 x.z]) H = some (.tuple [], H.set j (fmB (setF E x))) := by
 simp only [evMapSetG, hj]
 rw [if_pos ⟨rfl, all_f E, rfl⟩, findG_f]
 unfold setF
 cases h : idxF x.n E with
 | none =>
  simp only [setA]
  rw [show fmB (E ++ [x]) = .map (E.map fiE ++ [fiE x]) by simp [fmB]]
  rfl
 | some i =>
  simp only [setA]
  rw [show fmB (E.set i x) = .map ((E.map fiE).set i (fiE x)) by simp [fmB, List.map_set]]
  rfl
theorem flatB_f (E : List Fi) : Box.flatB (.map (E.map fiE)) = true := by
 simp only [Box.flatB, List.all_eq_true, Bool.and_eq_true]
 intro p hp
 obtain ⟨q, _, rfl⟩ := List.mem_map.1 hp
 refine ⟨rfl, ?_⟩
 simp only [AVal.under, AVal.underL, under_ints, Bool.and_self, Bool.and_true]
theorem getF_find (n : List UInt8) (E : List Fi) : getF n E = E.find? (fun p => p.n == n) := by
 unfold getF idxF
 induction E with
 | nil => rfl
 | cons p E ih =>
  rw [List.findIdx?_cons, List.find?_cons]
  cases h : p.n == n with
  | true => simp
  | false =>
   simp only [Bool.false_eq_true, if_false]
   rw [← ih]
   cases List.findIdx? (fun p => p.n == n) E <;> simp
theorem getF_mem {n : List UInt8} {E : List Fi} {x : Fi} (h : getF n E = some x) : x ∈ E ∧ x.n = n := by
 rw [getF_find] at h
 exact ⟨List.mem_of_find?_eq_some h, by simpa using List.find?_some h⟩
theorem setF_mem {E : List Fi} {x y : Fi} (h : y ∈ setF E x) : y ∈ E ∨ y = x := by
 unfold setF at h
 split at h
 ·exact List.mem_or_eq_of_mem_set h
 ·rcases List.mem_append.1 h with h | h
  ·exact .inl h
  ·exact .inr (List.mem_singleton.1 h)
theorem setF_len (E : List Fi) (x : Fi) : (setF E x).length = if (getF x.n E).isSome then E.length else E.length + 1 := by
 unfold setF
 cases h : idxF x.n E with
 | none =>
  have : getF x.n E = none := by unfold getF; rw [h]; rfl
  rw [this]; simp
 | some i =>
  obtain ⟨p, h1, h2⟩ := getF_some h
  rw [h2]; simp
def fsH (H : Heap) (i j : Nat) (x : Fs) : Heap := (H.set j (fmB x.E)).set i (fsB j x.d)
structure HasFs (H : Heap) (i j : Nat) (x : Fs) : Prop where
 gi : H[i]? = some (fsB j x.d)
 gj : H[j]? = some (fmB x.E)
 ne : i ≠ j
theorem hx_len' (H N : Heap) : (hx H N).length = H.length + N.length := by simp [hx]
theorem set_same' {H : Heap} {i : Nat} {B : Box} (h : H[i]? = some B) : H.set i B = H := by
 obtain ⟨hl, h⟩ := List.getElem?_eq_some_iff.1 h
 subst h
 exact List.set_getElem_self hl
theorem HasFs.self {H i j x} (h : HasFs H i j x) : fsH H i j x = H := by
 unfold fsH
 rw [set_same' h.gj, set_same' h.gi]
theorem trimOK_of (n : Nat) : ∀ (H H' : Heap), H.length ≤ H'.length → (∀ (k : Nat) B, k < H.length → H'[k]? = some B → H[k]? = some B ∨ B.under n = true) → trimOK n H H' = true
 | [], _, _, _ => by unfold trimOK; rfl
 | B :: H, [], h, _ => by simp at h
 | B :: H, B' :: H', h, hk => by
  simp only [trimOK, Bool.and_eq_true, Bool.or_eq_true]
  refine ⟨?_, trimOK_of n H H' (by simpa using h) (fun k C hl hC => ?_)⟩
  ·rcases hk 0 B' (by simp) rfl with h | h
   ·simp only [List.getElem?_cons_zero, Option.some.injEq] at h
    subst h; exact .inl (Box.same_refl _)
   ·exact .inr h
  ·have := hk (k + 1) C (by simpa using hl) (by simpa using hC)
   simpa using this
theorem trim_to (H H' L : Heap) (v : AVal) (hl : H'.length = H.length) (hv : v.under 0 = true) (h : ∀ (k : Nat) B, H'[k]? = some B → H[k]? = some B ∨ B.under H.length = true) :
  trim false (hx H []) v (hx H' L) = some (v, H') := by
 have h1 := under_mono v (Nat.zero_le H.length) hv
 rw [hx_nil]
 unfold hx trim
 rw [if_neg (by decide)]
 cases L with
 | nil => rw [if_pos (by simp [hl])]; simp
 | cons C L =>
  have h2 : trimOK H.length H (H' ++ C :: L) = true := trimOK_of _ _ _ (by simp [hl]) (fun k B hk hB => by
   rw [List.getElem?_append_left (by omega)] at hB
   exact h k B hB)
  rw [if_neg (by simp [hl]), h1, h2, if_pos (by decide), ← hl]
  simp
theorem does_spec (i j : Nat) (d : Int) (h0 : 0 ≤ d) (h1 : d ≤ 1000000000) (H : Heap) (hi : Old H i (fsB j d)) (hj : j < H.length) :
  W n_files_FS_does [.ptr i 0] H = some (.bool true, H.set i (fsB j (d + 1))) := by
 have gi := hi.get
 have gi' := hi.get'
 have gs := hi.set
 have w1 : IntKind.i64.wrap (d + 1) = d + 1 := wrap_id (by unfold I64; omega)
 have tr : ∀ L, trim false (hx H []) (.bool true) (hx (H.set i (fsB j (d + 1))) L) = some (.bool true, H.set i (fsB j (d + 1))) := fun L => by
  refine trim_to H _ L _ (by simp) rfl (fun k B hB => ?_)
  rw [List.getElem?_set] at hB
  split at hB
  ·split at hB
   ·simp only [Option.some.injEq] at hB; subst hB
    exact .inr (by simp [Box.under, AVal.underL, AVal.under, hj])
   ·cases hB
  ·exact .inl hB
 unfold fsB at *
 refine W_fnS rfl rfl ?_
 simp only [go_sem, c_files_FS_does, gi, gi', gs, w1, Int.reduceGT, Int.reduceEq, tr, simprocAttr]
 first | done | rfl
structure FsOK (x : Fs) : Prop where
 d0 : 0 ≤ x.d
 d1 : x.d ≤ 100000
 n : x.E.length ≤ 64
 b : ∀ f ∈ x.E, f.b.length ≤ 100000000 ∧ (∀ c ∈ f.b, 0 ≤ c ∧ c < 256) ∧ I64 f.z
theorem fsB_under {j d n} (h : j < n) : (fsB j d).under n = true := by simp [Box.under, AVal.underL, AVal.under, h]
theorem fmB_under (E : List Fi) (n : Nat) : (fmB E).under n = true := Box.flatB_under (flatB_f E) n
theorem HasFs.lt {H i j x} (h : HasFs H i j x) : i < H.length ∧ j < H.length :=
 ⟨(List.getElem?_eq_some_iff.1 h.gi).1, (List.getElem?_eq_some_iff.1 h.gj).1⟩
theorem HasFs.trim {H i j x} (h : HasFs H i j x) (x' : Fs) (v : AVal) (hv : v.under 0 = true) (L : Heap) :
  trim false (hx H []) v (hx ((H.set i (fsB j x'.d)).set j (fmB x'.E)) L) = some (v, (H.set i (fsB j x'.d)).set j (fmB x'.E)) := by
 refine trim_to H _ L _ (by simp) hv (fun k B hB => ?_)
 rw [List.getElem?_set] at hB
 split at hB
 ·split at hB
  ·simp only [Option.some.injEq] at hB; subst hB
   exact .inr (fmB_under _ _)
  ·cases hB
 ·rw [List.getElem?_set] at hB
  split at hB
  ·split at hB
   ·simp only [Option.some.injEq] at hB; subst hB
    exact .inr (fsB_under h.lt.2)
   ·cases hB
  ·exact .inl hB
theorem fsH_comm {H : Heap} {i j : Nat} (h : i ≠ j) (x : Fs) : (H.set i (fsB j x.d)).set j (fmB x.E) = fsH H i j x := by
 unfold fsH
 rw [List.set_comm _ _ h]
def zOld (n : List UInt8) (E : List Fi) : Fi := (getF n E).getD zFi
theorem zOld_ok {x : Fs} (h : FsOK x) (n : List UInt8) : (zOld n x.E).b.length ≤ 100000000 ∧ (∀ c ∈ (zOld n x.E).b, 0 ≤ c ∧ c < 256) ∧ I64 (zOld n x.E).z := by
 unfold zOld
 cases hg : getF n x.E with
 | none => exact ⟨by simp [zFi], by simp [zFi], by simp [zFi, I64]⟩
 | some f => exact h.b f (getF_mem hg).1
def appF (x : Fs) (n : List UInt8) (b : List Int) : Fs := ⟨setF x.E ⟨n, (zOld n x.E).b ++ b, (zOld n x.E).z⟩, x.d + 1⟩
theorem fapp_spec (x : Fs) (hx' : FsOK x) (n : List UInt8) (hn : ∀ H, W n_name_Right [.str n] H = some (.bool true, H)) (b : List Int) (hb0 : 0 < b.length) (hb : b.length ≤ 100000) (hbb : ∀ c ∈ b, 0 ≤ c ∧ c < 256)
  (hroom : (getF n x.E).isSome = true ∨ x.E.length < 64) (i j : Nat) (H : Heap) (h : HasFs H i j x) :
  W n_files_FS_Append [.ptr i 0, .str n, .list 1 (ints .u8 b) .ro] H = some (.int .i64 0, fsH H i j (appF x n b)) := by
 have hi : Old H i (fsB j x.d) := ⟨h.gi⟩
 have hj : Old H j (fmB x.E) := ⟨h.gj⟩
 have gi := hi.get
 have gj := hj.get
 have lk : ∀ N, evLookupG .str (.agg [.list 1 [] .full, .int .i64 0]) true (.map (some j)) (.str n) (hx H N) = some (.tuple [.agg [.list 1 (ints .u8 (zOld n x.E).b) .ro, .int .i64 (zOld n x.E).z], .bool (getF n x.E).isSome]) := fun N => look_f n x.E j (hx H N) (gj N)
 have td : ∀ N, W n_files_FS_does [.ptr i 0] (hx H N) = some (.bool true, hx (H.set i (fsB j (x.d + 1))) N) := fun N => by
  rw [← hi.set]
  exact does_spec i j x.d hx'.d0 (by have := hx'.d1; omega) (hx H N) ⟨gi N⟩ (by rw [hx_len']; have := h.lt.2; omega)
 have gi1 := hi.get'
 have gj1 : ∀ N, (hx (H.set i (fsB j (x.d + 1))) N)[j]? = some (fmB x.E) := (Old.mk (i := j) (by rw [List.getElem?_set_ne h.ne]; exact h.gj)).get
 have hz := zOld_ok hx' n
 have sj := fun N => set_f ⟨n, (zOld n x.E).b ++ b, (zOld n x.E).z⟩ .ro (.inr (.inl rfl)) x.E j _ (gj1 N)
 have sj1 : ∀ N B, (hx (H.set i (fsB j (x.d + 1))) N).set j B = hx ((H.set i (fsB j (x.d + 1))).set j B) N := (Old.mk (i := j) (B := fmB x.E) (by rw [List.getElem?_set_ne h.ne]; exact h.gj)).set
 simp only [sj1] at sj
 have tr := fun L => h.trim (appF x n b) (.int .i64 0) rfl L
 rw [← fsH_comm h.ne]
 have tc : ∀ H, W n_slices_Concat_byte_byte_ [.list 1 [bytes (zOld n x.E).b .ro, bytes b .ro] .ro] H = some (bytes ((zOld n x.E).b ++ b) .own, H) := fun H => by
  have := concat_spec [(zOld n x.E).b, b] (by simp [total]; omega) (by simp [total]; omega) (by simp) H
  simpa [rowsOf] using this
 unfold appF at tr ⊢
 simp only at tr
 have hl : (x.E.map fiE).length = x.E.length := List.length_map _
 generalize setF x.E ⟨n, (zOld n x.E).b ++ b, (zOld n x.E).z⟩ = E2 at *
 obtain ⟨Q, hQ⟩ : ∃ Q, (zOld n x.E).b = Q := ⟨_, rfl⟩
 obtain ⟨z, hzz⟩ : ∃ z, (zOld n x.E).z = z := ⟨_, rfl⟩
 rw [hQ] at *
 rw [hzz] at *
 clear hz
 have f2 : ∀ a c : AVal, fillS 1 [.list 1 [] .full, .list 1 [] .full] [0, 1] [.list 1 (ints .u8 Q) .ro, .list 1 (ints .u8 b) .ro] = some [.list 1 (ints .u8 Q) .ro, .list 1 (ints .u8 b) .ro] := fun a c => rfl
 cases hs : (getF n x.E).isSome with
 | true =>
  rw [hs] at lk
  unfold fsB fmB at *
  refine W_fnS rfl rfl ?_
  simp only [go_sem, c_files_FS_Append, gi, gj, gi1, gj1, lk, hn, td, tc, f2, sj, tr, simprocAttr]
  first | done | rfl
 | false =>
  rw [hs] at lk hroom
  have c1 : ¬ ((x.E.length : Int) ≥ 64) := by
   rcases hroom with h | h
   ·cases h
   ·omega
  unfold fsB fmB at *
  refine W_fnS rfl rfl ?_
  simp only [go_sem, c_files_FS_Append, gi, gj, gi1, gj1, lk, hn, hl, c1, td, tc, f2, sj, tr, simprocAttr]
  first | done | rfl
theorem tbl_new_spec (H : Heap) : W n_table_New [] H = some (.ptr (pt H 1) 0, hx H [.map [], .cells [.map (some (pt H 0))]]) := by
 refine W_fnS rfl rfl ?_
 have f1 : ∀ k, fillN [AVal.map none] [(0, 1)] [AVal.map (some k)] = some [AVal.map (some k)] := fun k => rfl
 simp only [go_sem, c_table_New, f1, hx_len, hx_app, simprocAttr]
 first | done | rfl
structure MK (M : List Pr) : Prop where
 last : ∀ p ∈ M, p.last.length ≤ 5
theorem setM_mem {M : List Pr} {x p : Pr} (h : p ∈ setM M x) : p ∈ M ∨ p = x := by
 unfold setM at h
 split at h
 ·rcases List.mem_or_eq_of_mem_set h with h | h
  ·exact .inl h
  ·exact .inr h
 ·simp only [List.mem_append, List.mem_singleton] at h; exact h
theorem MK.next {M} (h : MK M) (b : Ba) : MK (stepM M b) := by
 unfold stepM
 split
 ·exact h
 ·refine ⟨fun p hp => ?_⟩
  rcases setM_mem hp with hp | rfl
  ·exact h.last p hp
  ·refine apply_last _ _ _ ?_
   cases hg : getM b.prod M with
   | none => simp [zeroPr]
   | some q => exact h.last q (getM_mem hg)
abbrev rwB (l : List La) (fl : Fl) : Box := .cells [.list 3 (l.map laV) fl]
abbrev RF (l : List La) (fl : Fl) : Prop := fl = .uniq ∨ (fl = .full ∧ l = [])
theorem thC {l : List La} {fl : Fl} (hf : RF l fl) {i : Nat} {H : Heap} (hi : Old H i (rwB l fl)) (e : Env) (N : Heap) (h0 : Env.get e 0 = .ptr i 0) :
  agh (.thawC 0 0) e (hx H N) = some (e, hx (H.set i (.cells [.lbox (pt H N.length)])) (N ++ [.arr 3 (l.map laV)])) := by
 have g := hi.get N
 have s := hi.set N
 have hl : (hx H N).length = pt H N.length := hx_len H N
 rcases hf with rfl | ⟨rfl, rfl⟩
 ·simp only [agh, h0, g, Nat.add_zero, List.getElem?_cons_zero, List.set_cons_zero, s, hl, hx_app]
 ·simp only [agh, h0, g, Nat.add_zero, List.getElem?_cons_zero, List.set_cons_zero, s, hl, hx_app, List.map_nil]
theorem bkC0 {H : Heap} {i : Nat} {B : Box} (hi : Old H i B) (Xs : List AVal) (e : Env) (N : Heap) (h0 : Env.get e 0 = .ptr i 0) :
  agh (.backC 0 0) e (hx (H.set i (.cells [.lbox (pt H 0)])) (.arr 3 Xs :: N)) = some (e, hx (H.set i (.cells [.list 3 Xs .uniq])) (.dead :: N)) := by
 have g := hi.get' (.arr 3 Xs :: N) (.cells [.lbox (pt H 0)])
 have s := fun B' => hi.set' (.arr 3 Xs :: N) (.cells [.lbox (pt H 0)]) B'
 have g2 : (hx (H.set i (.cells [.lbox (pt H 0)])) (.arr 3 Xs :: N))[pt H 0]? = some (.arr 3 Xs) := by rw [hx_getS]; rfl
 simp only [agh, h0, g, Nat.add_zero, List.getElem?_cons_zero, List.set_cons_zero, g2, s, hx_setS]
theorem bkC1 {H : Heap} {i : Nat} {B : Box} (hi : Old H i B) (Xs : List AVal) (e : Env) (C : Box) (N : Heap) (h0 : Env.get e 0 = .ptr i 0) :
  agh (.backC 0 0) e (hx (H.set i (.cells [.lbox (pt H 1)])) (C :: .arr 3 Xs :: N)) = some (e, hx (H.set i (.cells [.list 3 Xs .uniq])) (C :: .dead :: N)) := by
 have g := hi.get' (C :: .arr 3 Xs :: N) (.cells [.lbox (pt H 1)])
 have s := fun B' => hi.set' (C :: .arr 3 Xs :: N) (.cells [.lbox (pt H 1)]) B'
 have g2 : (hx (H.set i (.cells [.lbox (pt H 1)])) (C :: .arr 3 Xs :: N))[pt H 1]? = some (.arr 3 Xs) := by rw [hx_getS]; rfl
 simp only [agh, h0, g, Nat.add_zero, List.getElem?_cons_zero, List.set_cons_zero, g2, s, hx_setS, List.set_cons_succ]
theorem apV (sz bytes xs ys) : evAppend sz bytes true (.list sz xs .uniq) ys = gd (decide ((xs.length + ys.length) * bytes ≤ maxBytes)) (some (.list sz (xs ++ ys) .uniq)) := by
 unfold gd; by_cases h : (xs.length + ys.length) * bytes ≤ maxBytes <;> simp [evAppend, h]
theorem abnew_spec (H : Heap) : W n_aborts_New [] H = some (.ptr (pt H 0) 0, hx H [.cells [.list 3 [] .full]]) := by
 refine W_fnS rfl rfl ?_
 simp only [go_sem, c_aborts_New, simprocAttr]
 first | done | rfl
def abOK (l : List La) (d : La) : Bool :=
 decide (¬ d.1 < 0) && (decide (¬ d.2.1 < 0) && (decide (¬ d.2.2 ≤ d.2.1) && (decide (¬ d.2.2 > 1099511627776) && (match l.getLast? with | none => true | some q => decide (¬ d.2.2 ≤ q.2.2)))))
def abL (l : List La) (d : La) : List La := if abOK l d = true then l ++ [d] else l
theorem abL_len {l d} : (abL l d).length ≤ l.length + 1 := by unfold abL; split <;> simp
def abPre (d : La) : Bool := decide (d.1 < 0) || (decide (d.2.1 < 0) || (decide (d.2.2 ≤ d.2.1) || decide (d.2.2 > 1099511627776)))
def abF (d : La) (fl : Fl) : Fl := if abPre d = true then fl else .uniq
theorem abPre_no {l d} (h : abPre d = true) : abOK l d = false := by
 unfold abPre at h
 simp only [Bool.or_eq_true, decide_eq_true_eq] at h
 unfold abOK
 rcases h with h | h | h | h <;> simp [h]
theorem abF_ok {l d fl} (h : RF l fl) : RF (abL l d) (abF d fl) := by
 unfold abF
 split
 ·rename_i hp
  unfold abL
  rw [abPre_no hp, if_neg (by decide)]
  exact h
 ·exact .inl rfl
theorem abadd_spec (l : List La) (hn : l.length ≤ 1099511627776) (fl : Fl) (hfl : RF l fl) (d : La) (i : Nat) (H : Heap) (hi : Old H i (rwB l fl)) :
  W n_aborts_Row_Add [.ptr i 0, laV d] H = some (.bool (abOK l d), H.set i (rwB (abL l d) (abF d fl))) := by
 have hthC := thC hfl hi
 have hbk := bkC1 hi (l.map laV)
 have gs := hi.set
 have gi' := hi.get'
 have gs' := hi.set'
 have u := fun n => under_la n l
 obtain ⟨d1, d2, d3⟩ := d
 have hpre : abPre (d1, d2, d3) = true → W n_aborts_Row_Add [.ptr i 0, laV (d1, d2, d3)] H = some (.bool false, H) → W n_aborts_Row_Add [.ptr i 0, laV (d1, d2, d3)] H = some (.bool (abOK l (d1, d2, d3)), H.set i (rwB (abL l (d1, d2, d3)) (abF (d1, d2, d3) fl))) := by
  intro h0 h1
  unfold abL abF
  rw [h0, abPre_no h0, if_neg (by decide), if_pos rfl, hi.same]; exact h1
 by_cases c1 : d1 < 0
 ·refine hpre (by simp [abPre, c1]) ?_
  unfold laV
  refine W_fn rfl rfl ?_
  simp only [go_sem, c_aborts_Row_Add, c1, simprocAttr]
 by_cases c2 : d2 < 0
 ·refine hpre (by simp [abPre, c2]) ?_
  unfold laV
  refine W_fn rfl rfl ?_
  simp only [go_sem, c_aborts_Row_Add, c1, c2, simprocAttr]
 by_cases c3 : d3 ≤ d2
 ·refine hpre (by simp [abPre, c3]) ?_
  unfold laV
  refine W_fn rfl rfl ?_
  simp only [go_sem, c_aborts_Row_Add, c1, c2, c3, simprocAttr]
 by_cases c4 : d3 > 1099511627776
 ·refine hpre (by simp [abPre, c4]) ?_
  unfold laV
  refine W_fn rfl rfl ?_
  simp only [go_sem, c_aborts_Row_Add, c1, c2, c3, c4, simprocAttr]
 have hF : abF (d1, d2, d3) fl = .uniq := by unfold abF; rw [if_neg (by simp [abPre]; omega)]
 have b1 : (l.length + 1) * 24 ≤ maxBytes := by simp only [maxBytes]; omega
 have b0 : (0 + 1) * 24 ≤ maxBytes := by decide
 rw [hF]
 rcases List.eq_nil_or_concat l with h0 | ⟨l', q, h0⟩
 ·have hk : abOK l (d1, d2, d3) = true := by simp [abOK, h0, c1, c2, c3, c4]
  unfold abL
  rw [hk, if_pos rfl]
  have hpos : ¬ ((0 : Int) > 0) := by decide
  subst h0
  simp only [List.map_nil] at hthC hbk
  show W n_aborts_Row_Add [.ptr i 0, .agg [.int .i64 d1, .int .i64 d2, .int .i64 d3]] H = _
  refine W_fnS rfl rfl ?_
  simp only [go_sem, c_aborts_Row_Add, hthC, hbk, gs, gi', gs', pt_set, hx_getS, hx_setS, c1, c2, c3, c4, hpos, List.length_nil, Int.natCast_zero, List.nil_append, List.map_nil, List.map_cons, b0, apV, simprocAttr]
  rfl
 ·rw [List.concat_eq_append] at h0
  have hln : l.length = l'.length + 1 := by rw [h0]; simp
  have hpos : (l.length : Int) > 0 := by omega
  have w1 : IntKind.i64.wrap ((l.length : Int) - 1) = ((l'.length : Nat) : Int) := by rw [wrap_id (by unfold I64; omega)]; omega
  have e0 : (0 : Int) ≤ ((l'.length : Nat) : Int) := by omega
  have e2 : ((l'.length : Nat) : Int) < (l.length : Int) := by omega
  have e7 : ((l'.length : Nat) : Int).toNat = l'.length := by omega
  have e1 : (l.map laV)[l'.length]? = some (.agg [.int .i64 q.1, .int .i64 q.2.1, .int .i64 q.2.2]) := by rw [h0]; simp [laV]
  by_cases c5 : d3 ≤ q.2.2
  ·have hk : abOK l (d1, d2, d3) = false := by simp [abOK, h0, c5]
   unfold abL
   rw [hk, if_neg (by decide)]
   show W n_aborts_Row_Add [.ptr i 0, .agg [.int .i64 d1, .int .i64 d2, .int .i64 d3]] H = _
   refine W_fnS rfl rfl ?_
   simp only [go_sem, c_aborts_Row_Add, hthC, hbk, gs, gi', gs', pt_set, hx_getS, hx_setS, c1, c2, c3, c4, List.length_map, hpos, w1, e0, e2, e7, e1, c5, u, simprocAttr]
   first | done | rfl
  ·have hk : abOK l (d1, d2, d3) = true := by simp [abOK, h0, c1, c2, c3, c4, c5]
   unfold abL
   rw [hk, if_pos rfl]
   have a1 : l.map laV ++ [.agg [.int .i64 d1, .int .i64 d2, .int .i64 d3]] = (l ++ [(d1, d2, d3)]).map laV := by simp [laV]
   have u2 := fun n => under_la n (l ++ [(d1, d2, d3)])
   generalize l ++ [(d1, d2, d3)] = l2 at *
   show W n_aborts_Row_Add [.ptr i 0, .agg [.int .i64 d1, .int .i64 d2, .int .i64 d3]] H = _
   refine W_fnS rfl rfl ?_
   simp only [go_sem, c_aborts_Row_Add, hthC, hbk, gs, gi', gs', pt_set, hx_getS, hx_setS, c1, c2, c3, c4, List.length_map, hpos, w1, e0, e2, e7, e1, c5, b1, apV, a1, u, u2, simprocAttr]
   first | done | rfl
def abOf : List Ba → List Pr → List La → List La
 | [], _, l => l
 | b :: bs, M, l => abOf bs (stepM M b) (match stepD M b with | some d => abL l d | none => l)
set_option maxHeartbeats 1000000 in
theorem abof_loop (A : List Ba) (hA : ∀ b ∈ A, BOK b) (hR : ∀ b ∈ A, b.recs.length ≤ 1000) (hn : A.length ≤ 1000) (H : Heap) (r : List Ba) : ∀ (q : List Ba) (M : List Pr) (l : List La) (fl : Fl) (N : Heap), A = q ++ r → MK M → l.length ≤ q.length → RF l fl →
  ∃ N' fl', loopA W loopW (.ghost (.kill k_aborts_Of_0) l_aborts_Of_0) [(3, .ptr (pt H 0) 0), (4, .ptr (pt H 2) 0), (11, .list 7 (A.map Ba.V) .ro), (12, .int .i64 (A.length : Nat)), (13, .int .i64 (q.length : Nat))] (hx H (rwB l fl :: mapB M :: tblB (pt H 1) :: N)) =
   some (.exit 0, [(3, .ptr (pt H 0) 0)], hx H (rwB (abOf r M l) fl' :: N')) ∧ RF (abOf r M l) fl' ∧ (abOf r M l).length ≤ A.length := by
 induction r with
 | nil =>
  intro q M l fl N hq hM hl hfl
  rw [List.append_nil] at hq
  subst hq
  refine ⟨mapB M :: tblB (pt H 1) :: N, fl, ?_, hfl, hl⟩
  have h1 : ¬ ((A.length : Int) < (A.length : Int)) := by omega
  rw [show abOf [] M l = l from rfl]
  refine loop_step l_aborts_Of_0.eq_1 k_aborts_Of_0.eq_1 (by kernel_rfl) ?_
  simp only [go_sem, h1, simprocAttr]
 | cons b r ih =>
  intro q M l fl N hq hM hl hfl
  have hlen : q.length < A.length := by rw [hq]; simp
  have h1 : ((q.length : Int) < (A.length : Int)) := by omega
  have e0 : (0 : Int) ≤ (q.length : Int) := by omega
  have e7 : ((q.length : Nat) : Int).toNat = q.length := by omega
  have e1 : (A.map Ba.V)[q.length]? = some (.agg [.int .i64 b.base, .int .i64 b.prod, .int .i64 b.epoch, .int .i64 b.seq, .bool b.txn, .int .i64 b.mark, .list 2 (b.recs.map rcV) .ro]) := by rw [hq]; simp [Ba.V, Ba.cs]
  have e6 : IntKind.i64.wrap ((q.length : Int) + 1) = ((q.length + 1 : Nat) : Int) := by rw [wrap_id (by unfold I64; omega)]; omega
  have hbo := hA b (by rw [hq]; simp)
  have hbr := hR b (by rw [hq]; simp)
  have ta := fun N => tbl_apply_spec M (fun p hp => by have := hM.last p hp; omega) b hbo hbr (pt H 2) (pt H 1) (hx H (rwB l fl :: mapB M :: tblB (pt H 1) :: N)) ⟨by rw [hx_get]; rfl⟩ ⟨by rw [hx_get]; rfl⟩
  simp only [hx_set, List.set_cons_succ, List.set_cons_zero] at ta
  have n1 : ∀ x : Box, (N ++ [x])[N.length]? = some x := fun x => by simp
  have n2 : ∀ x z : Box, (N ++ [x]).set N.length z = N ++ [z] := fun x z => by simp
  have hab : abOf (b :: r) M l = abOf r (stepM M b) (match stepD M b with | some d => abL l d | none => l) := rfl
  rw [hab]
  cases hd : stepD M b with
  | none =>
   simp only
   obtain ⟨N', fl', h2, h3, h4⟩ := ih (q ++ [b]) (stepM M b) l fl (N ++ [.cells b.cs, .cells [.int .i64 0, .int .i64 0, .int .i64 0]]) (by rw [hq]; simp) (hM.next b) (by simp; omega) hfl
   refine ⟨N', fl', ?_, h3, h4⟩
   rw [hd] at ta
   simp only [List.length_append, List.length_cons, List.length_nil, Nat.zero_add] at h2
   simp only [optLa, Option.isSome_none, laV] at ta
   generalize stepM M b = M2 at *
   unfold Ba.V Ba.cs at *
   refine loop_step l_aborts_Of_0.eq_1 k_aborts_Of_0.eq_1 (by kernel_rfl) ?_
   simp only [go_sem, h1, e0, e7, e1, ta, n1, n2, e6, List.length_append, simprocAttr]
   exact h2
  | some d =>
   simp only
   obtain ⟨N', fl', h2, h3, h4⟩ := ih (q ++ [b]) (stepM M b) (abL l d) (abF d fl) (N ++ [.cells b.cs, .cells [.int .i64 d.1, .int .i64 d.2.1, .int .i64 d.2.2]]) (by rw [hq]; simp) (hM.next b) (by have := @abL_len l d; simp; omega) (abF_ok hfl)
   refine ⟨N', fl', ?_, h3, h4⟩
   rw [hd] at ta
   simp only [List.length_append, List.length_cons, List.length_nil, Nat.zero_add] at h2
   have tb := fun M2 N => abadd_spec l (by omega) fl hfl d (pt H 0) (hx H (rwB l fl :: M2 :: N)) ⟨by rw [hx_get]; rfl⟩
   simp only [hx_set, List.set_cons_zero, laV] at tb
   simp only [optLa, Option.isSome_some, laV] at ta
   generalize stepM M b = M2 at *
   generalize abL l d = l2 at *
   generalize abF d fl = f2 at *
   generalize abOK l d = ok at *
   unfold Ba.V Ba.cs at *
   refine loop_step l_aborts_Of_0.eq_1 k_aborts_Of_0.eq_1 (by kernel_rfl) ?_
   simp only [go_sem, h1, e0, e7, e1, ta, tb, n1, n2, e6, List.length_append, simprocAttr]
   exact h2
theorem abof_spec (A : List Ba) (hA : ∀ b ∈ A, BOK b) (hR : ∀ b ∈ A, b.recs.length ≤ 1000) (hn : A.length ≤ 1000) (H : Heap) :
  ∃ N fl, W n_aborts_Of [.list 7 (A.map Ba.V) .ro] H = some (.ptr (pt H 0) 0, hx H (rwB (abOf A [] []) fl :: N)) ∧ RF (abOf A [] []) fl ∧ (abOf A [] []).length ≤ A.length := by
 obtain ⟨N, fl, h, h3, h4⟩ := abof_loop A hA hR hn H A [] [] [] .full [] rfl ⟨by simp⟩ (by simp) (.inr ⟨rfl, rfl⟩)
 refine ⟨N, fl, W_fnS rfl rfl ?_, h3, h4⟩
 have g0 : ((([] : List Ba).length : Nat) : Int) = 0 := rfl
 rw [g0] at h
 have ta := abnew_spec (hx H [])
 have tn := fun L => tbl_new_spec (hx H L)
 simp only [rwB, mapB, List.map_nil] at h
 generalize abOf A [] [] = R at *
 simp only [go_sem, c_aborts_Of, List.length_map, ta, tn, h, simprocAttr]
 first | done | rfl
def inR (lo hi : Int) (d : La) : Bool := decide (mx d.2.1 lo ≤ d.2.2) && decide (mx d.2.1 lo < hi)
theorem within_loop (l : List La) (hn : l.length ≤ 100000) (lo hi : Int) (i : Nat) (H : Heap) (r : List La) : ∀ (p out : List La) (fl : Fl) (N : Heap), l = p ++ r → out.length ≤ p.length → (fl = .own ∨ (fl = .full ∧ out = [])) →
  ∃ N' fl', loopA W loopW (.ghost (.kill k_aborts_Row_Within_0) l_aborts_Row_Within_0) [(0, .ptr i 0), (1, .int .i64 lo), (2, .int .i64 hi), (7, .list 3 (out.map laV) fl), (13, .lbox (pt H 0)), (14, .int .i64 (l.length : Nat)), (15, .int .i64 (p.length : Nat))] (hx H (.arr 3 (l.map laV) :: N)) =
   some (.exit 0, [(0, .ptr i 0), (7, .list 3 ((out ++ r.filter (inR lo hi)).map laV) fl')], hx H (.arr 3 (l.map laV) :: N')) ∧ (fl' = .own ∨ (fl' = .full ∧ out ++ r.filter (inR lo hi) = [])) := by
 induction r with
 | nil =>
  intro p out fl N hp ho hfl
  rw [List.append_nil] at hp
  subst hp
  rw [List.filter_nil, List.append_nil]
  refine ⟨N, fl, ?_, hfl⟩
  have h1 : ¬ ((l.length : Int) < (l.length : Int)) := by omega
  refine loop_step l_aborts_Row_Within_0.eq_1 k_aborts_Row_Within_0.eq_1 (by kernel_rfl) ?_
  simp only [go_sem, h1, simprocAttr]
 | cons d r ih =>
  intro p out fl N hp ho hfl
  have hlen : l.length = p.length + (r.length + 1) := by rw [hp]; simp
  have h1 : ((p.length : Int) < (l.length : Int)) := by omega
  have e0 : (0 : Int) ≤ (p.length : Int) := by omega
  have e7 : ((p.length : Nat) : Int).toNat = p.length := by omega
  have e1 : (l.map laV)[p.length]? = some (.agg [.int .i64 d.1, .int .i64 d.2.1, .int .i64 d.2.2]) := by rw [hp]; simp [laV]
  have e6 : IntKind.i64.wrap ((p.length : Int) + 1) = ((p.length + 1 : Nat) : Int) := by rw [wrap_id (by unfold I64; omega)]; omega
  have n1 : ∀ x : Box, (N ++ [x])[N.length]? = some x := fun x => by simp
  have n2 : ∀ x z : Box, (N ++ [x]).set N.length z = N ++ [z] := fun x z => by simp
  have bb : (out.length + 1) * 24 ≤ maxBytes := by simp only [maxBytes]; omega
  have b0 : (0 + 1) * 24 ≤ maxBytes := by decide
  have e8 : out.map laV ++ [.agg [.int .i64 d.1, .int .i64 d.2.1, .int .i64 d.2.2]] = (out ++ [d]).map laV := by simp [laV]
  rw [List.filter_cons]
  by_cases c1 : mx d.2.1 lo ≤ d.2.2
  ·by_cases c2 : mx d.2.1 lo < hi
   ·have hk : inR lo hi d = true := by simp [inR, c1, c2]
    rw [hk, if_pos rfl]
    obtain ⟨N', fl', h2, h3⟩ := ih (p ++ [d]) (out ++ [d]) .own (N ++ [.cells [.int .i64 d.1, .int .i64 d.2.1, .int .i64 d.2.2]]) (by rw [hp]; simp) (by simp; omega) (.inl rfl)
    rw [List.append_assoc, List.cons_append, List.nil_append] at h2 h3
    simp only [List.length_append, List.length_cons, List.length_nil, Nat.zero_add] at h2
    refine ⟨N', fl', ?_, h3⟩
    refine loop_step l_aborts_Row_Within_0.eq_1 k_aborts_Row_Within_0.eq_1 (by kernel_rfl) ?_
    rcases hfl with rfl | ⟨rfl, rfl⟩
    ·simp only [go_sem, h1, e0, e7, e1, n1, n2, c1, c2, List.length_map, apO, bb, e8, e6, simprocAttr]
     exact h2
    ·simp only [List.map_nil, List.nil_append] at *
     simp only [go_sem, h1, e0, e7, e1, n1, n2, c1, c2, List.length_map, List.length_nil, apF, b0, List.nil_append, e6, simprocAttr]
     rw [e8]
     exact h2
   ·have hk : inR lo hi d = false := by simp [inR, c2]
    rw [hk, if_neg (by decide)]
    obtain ⟨N', fl', h2, h3⟩ := ih (p ++ [d]) out fl (N ++ [.cells [.int .i64 d.1, .int .i64 d.2.1, .int .i64 d.2.2]]) (by rw [hp]; simp) (by simp; omega) hfl
    simp only [List.length_append, List.length_cons, List.length_nil, Nat.zero_add] at h2
    refine ⟨N', fl', ?_, h3⟩
    refine loop_step l_aborts_Row_Within_0.eq_1 k_aborts_Row_Within_0.eq_1 (by kernel_rfl) ?_
    simp only [go_sem, h1, e0, e7, e1, n1, n2, c1, c2, List.length_map, e6, simprocAttr]
    exact h2
  ·have hk : inR lo hi d = false := by simp [inR, c1]
   rw [hk, if_neg (by decide)]
   obtain ⟨N', fl', h2, h3⟩ := ih (p ++ [d]) out fl (N ++ [.cells [.int .i64 d.1, .int .i64 d.2.1, .int .i64 d.2.2]]) (by rw [hp]; simp) (by simp; omega) hfl
   simp only [List.length_append, List.length_cons, List.length_nil, Nat.zero_add] at h2
   refine ⟨N', fl', ?_, h3⟩
   refine loop_step l_aborts_Row_Within_0.eq_1 k_aborts_Row_Within_0.eq_1 (by kernel_rfl) ?_
   simp only [go_sem, h1, e0, e7, e1, n1, n2, c1, List.length_map, e6, simprocAttr]
   exact h2
theorem abwithin_spec (l : List La) (hn : l.length ≤ 100000) (fl : Fl) (hfl : RF l fl) (lo hi : Int) (i : Nat) (H : Heap) (hi' : Old H i (rwB l fl)) :
  ∃ f, W n_aborts_Row_Within [.ptr i 0, .int .i64 lo, .int .i64 hi] H = some (.list 3 ((l.filter (inR lo hi)).map laV) f, H.set i (rwB l .uniq)) ∧ (f = .own ∨ (f = .full ∧ l.filter (inR lo hi) = [])) := by
 have hth := thC hfl hi'
 have hbk := bkC0 hi' (l.map laV)
 have gi' := hi'.get'
 obtain ⟨N, f, h, hf⟩ := within_loop l hn lo hi i (H.set i (.cells [.lbox (pt H 0)])) l [] [] .full [] rfl (by simp) (.inr ⟨rfl, rfl⟩)
 simp only [List.length_nil, Int.natCast_zero, List.map_nil, List.nil_append, pt_set] at h hf
 have u := fun n => under_la n l
 refine ⟨f, ?_, hf⟩
 generalize l.filter (inR lo hi) = R at *
 refine W_fnS rfl rfl ?_
 rcases hf with rfl | ⟨rfl, rfl⟩
 ·have u2 := fun n => under_la n R
  simp only [go_sem, c_aborts_Row_Within, hth, hbk, gi', pt_set, hx_getS, hx_setS, List.length_map, h, u, u2, simprocAttr]
  first | done | rfl
 ·simp only [List.map_nil] at h ⊢
  simp only [go_sem, c_aborts_Row_Within, hth, hbk, gi', pt_set, hx_getS, hx_setS, List.length_map, h, u, simprocAttr]
  first | done | rfl
def foldM : List Ba → List Pr → List Pr
 | [], M => M
 | b :: l, M => foldM l (stepM M b)
theorem foldM_ok : ∀ (A : List Ba) (M : List Pr), MK M → MK (foldM A M)
 | [], _, h => h
 | b :: A, M, h => foldM_ok A _ (h.next b)
theorem tfold_loop (A : List Ba) (hA : ∀ b ∈ A, BOK b) (hR : ∀ b ∈ A, b.recs.length ≤ 1000) (hn : A.length ≤ 1000) (H : Heap) (r : List Ba) : ∀ (q : List Ba) (M : List Pr) (N : Heap), A = q ++ r → MK M →
  ∃ N', loopA W loopW (.ghost (.kill k_table_Fold_0) l_table_Fold_0) [(3, .ptr (pt H 1) 0), (7, .list 7 (A.map Ba.V) .ro), (8, .int .i64 (A.length : Nat)), (9, .int .i64 (q.length : Nat))] (hx H (mapB M :: tblB (pt H 0) :: N)) =
   some (.exit 0, [(3, .ptr (pt H 1) 0)], hx H (mapB (foldM r M) :: tblB (pt H 0) :: N')) := by
 induction r with
 | nil =>
  intro q M N hq hM
  rw [List.append_nil] at hq
  subst hq
  refine ⟨N, ?_⟩
  have h1 : ¬ ((A.length : Int) < (A.length : Int)) := by omega
  rw [show foldM [] M = M from rfl]
  refine loop_step l_table_Fold_0.eq_1 k_table_Fold_0.eq_1 (by kernel_rfl) ?_
  simp only [go_sem, h1, simprocAttr]
 | cons b r ih =>
  intro q M N hq hM
  have hlen : q.length < A.length := by rw [hq]; simp
  have h1 : ((q.length : Int) < (A.length : Int)) := by omega
  have e0 : (0 : Int) ≤ (q.length : Int) := by omega
  have e7 : ((q.length : Nat) : Int).toNat = q.length := by omega
  have e1 : (A.map Ba.V)[q.length]? = some (.agg [.int .i64 b.base, .int .i64 b.prod, .int .i64 b.epoch, .int .i64 b.seq, .bool b.txn, .int .i64 b.mark, .list 2 (b.recs.map rcV) .ro]) := by rw [hq]; simp [Ba.V, Ba.cs]
  have e6 : IntKind.i64.wrap ((q.length : Int) + 1) = ((q.length + 1 : Nat) : Int) := by rw [wrap_id (by unfold I64; omega)]; omega
  have hbo := hA b (by rw [hq]; simp)
  have hbr := hR b (by rw [hq]; simp)
  have ta := fun N => tbl_apply_spec M (fun p hp => by have := hM.last p hp; omega) b hbo hbr (pt H 1) (pt H 0) (hx H (mapB M :: tblB (pt H 0) :: N)) ⟨by rw [hx_get]; rfl⟩ ⟨by rw [hx_get]; rfl⟩
  simp only [hx_set, List.set_cons_zero] at ta
  have n1 : ∀ x x' : Box, (N ++ [x])[N.length]? = some x := fun x x' => by simp
  have n2 : ∀ x z : Box, (N ++ [x]).set N.length z = N ++ [z] := fun x z => by simp
  obtain ⟨N', h2⟩ := ih (q ++ [b]) (stepM M b) (N ++ [.cells b.cs]) (by rw [hq]; simp) (hM.next b)
  refine ⟨N', ?_⟩
  rw [show foldM (b :: r) M = foldM r (stepM M b) from rfl]
  simp only [List.length_append, List.length_cons, List.length_nil, Nat.zero_add] at h2
  generalize stepM M b = M2 at *
  generalize stepD M b = D at *
  unfold Ba.V Ba.cs at *
  unfold laV at ta
  refine loop_step l_table_Fold_0.eq_1 k_table_Fold_0.eq_1 (by kernel_rfl) ?_
  simp only [go_sem, h1, e0, e7, e1, ta, n1, n2, e6, simprocAttr]
  exact h2
theorem tfold_spec (A : List Ba) (hA : ∀ b ∈ A, BOK b) (hR : ∀ b ∈ A, b.recs.length ≤ 1000) (hn : A.length ≤ 1000) (H : Heap) :
  ∃ N, W n_table_Fold [.list 7 (A.map Ba.V) .ro] H = some (.ptr (pt H 1) 0, hx H (mapB (foldM A []) :: tblB (pt H 0) :: N)) := by
 obtain ⟨N, h⟩ := tfold_loop A hA hR hn H A [] [] [] rfl ⟨by simp⟩
 have g0 : ((([] : List Ba).length : Nat) : Int) = 0 := rfl
 rw [g0] at h
 refine ⟨N, W_fnS rfl rfl ?_⟩
 have tn := tbl_new_spec (hx H [])
 have h' : loopA W loopW (.ghost (.kill k_table_Fold_0) l_table_Fold_0) [(3, .ptr (pt H 1) 0), (7, .list 7 (A.map Ba.V) .ro), (8, .int .i64 (A.length : Nat)), (9, .int .i64 0)] (hx H [.map [], .cells [.map (some (pt H 0))]]) = _ := h
 simp only [go_sem, c_table_Fold, List.length_map, tn, h', simprocAttr]
 first | done | rfl
def openI : MInfo := ⟨11, 12, 13, 15, 14, [0, 7, 8, 9, 10, 11, 13, 14, 15, 16, 17, 18, 19, 20, 21, 22, 23, 24, 25, 26, 27, 28, 29, 30, 31], [12, 14], [⟨(some 8), none, .move, [.tmp 0 false]⟩,
  ⟨(some 9), none, .nilCheck, [.tmp 8 false]⟩,
  ⟨(some 10), none, .addOff 0, [.tmp 9 false]⟩,
  ⟨(some 11), none, .load false 1 false, [.tmp 10 false]⟩], [⟨(some 14), none, .move, [.proj 13 0 false]⟩], [⟨(some 16), none, .move, [.proj 15 1 false]⟩,
  ⟨(some 7), none, .alloc [.int .i64 0, .int .i64 0, .list 3 [] .full, .int .i64 0], []⟩,
  ⟨none, none, .store 4, [.tmp 7 false, .tmp 16 false]⟩]⟩
def openS (s : Int × Bool) (p : Pr) : Int × Bool := if p.open_ ≥ 0 ∧ (s.2 = false ∨ p.open_ < s.1) then (p.open_, true) else s
theorem openS_comm (s : Int × Bool) (x y : Pr) : openS (openS s x) y = openS (openS s y) x := by
 obtain ⟨l, b⟩ := s
 unfold openS
 cases b <;> by_cases h1 : x.open_ ≥ 0 <;> by_cases h2 : y.open_ ≥ 0 <;> simp [h1, h2]
 ·by_cases h3 : y.open_ < x.open_ <;> by_cases h4 : x.open_ < y.open_ <;> simp [h3, h4] <;> omega
 ·by_cases h3 : x.open_ < l <;> by_cases h4 : y.open_ < l <;> simp [h3, h4] <;> (try split) <;> (try split) <;> (try simp) <;> omega
def openM (M : List Pr) : Int × Bool := M.foldl openS (-1, false)
abbrev openE (H : Heap) (s : Int × Bool) : Env := [(4, .int .i64 s.1), (5, .bool s.2), (12, .ptr (pt H 0) 0)]
set_option maxHeartbeats 2000000 in
theorem open_mstep (M : List Pr) (j : Nat) (H : Heap) (hj : Old H j (mapB M)) (q : Pr) (s : Int × Bool) (e : Env) (he : e.dels openI.kA = openE H s) :
  mstep W (fun e H => aexec W loopW l_table_Table_Open_0 e H) openI (pt H 0) j (M.map prE) (prE q) e (hx H [.dead]) = some (openE H (openS s q), hx H [.dead]) := by
 obtain ⟨l, b⟩ := s
 have hs := hj.set [.dead] .dead
 unfold mstep
 rw [he, hs]
 have c1 : (isIter (openE H (l, b)) openI.it (pt H 0) && (prE q).1.argOK && (prE q).2.argOK) = true := by
  simp [isIter, openE, openI, Env.get, AVal.argOK, AVal.isU, Pr.V]
 rw [if_pos c1]
 have hst : (prE q).1.strip = .int .i64 q.id := rfl
 have hst1 : (prE q).2.strip = q.V := rfl
 rw [hst, hst1]
 have a1 : aops W openI.r2 ((openE H (l, b)).put openI.nx (.tuple [.bool true, .int .i64 q.id, q.V])) (hx (H.set j .dead) [.dead]) =
   some ([(4, .int .i64 l), (5, .bool b), (12, .ptr (pt H 0) 0), (13, .tuple [.bool true, .int .i64 q.id, q.V]), (14, .bool true)], hx (H.set j .dead) [.dead]) := rfl
 rw [a1, Option.bind_some]
 have c2 : (isB [(4, .int .i64 l), (5, .bool b), (12, .ptr (pt H 0) 0), (13, .tuple [.bool true, .int .i64 q.id, q.V]), (14, .bool true)] openI.ok true && isIter [(4, .int .i64 l), (5, .bool b), (12, .ptr (pt H 0) 0), (13, .tuple [.bool true, .int .i64 q.id, q.V]), (14, .bool true)] openI.it (pt H 0)) = true := by
  simp [isB, isIter, openI, Env.get]
 simp only
 rw [if_pos c2]
 have hp0 : pt H 1 = pt (H.set j .dead) 1 := (pt_set _ _ _ _).symm
 have a2 : aops W openI.r3 (Env.put [(4, .int .i64 l), (5, .bool b), (12, .ptr (pt H 0) 0), (13, .tuple [.bool true, .int .i64 q.id, q.V]), (14, .bool true)] openI.en (.tuple [.int .i64 q.id, q.V])) (hx (H.set j .dead) [.dead]) =
   some ([(4, .int .i64 l), (5, .bool b), (7, .ptr (pt H 1) 0), (12, .ptr (pt H 0) 0), (13, .tuple [.bool true, .int .i64 q.id, q.V]), (14, .bool true), (15, .tuple [.int .i64 q.id, q.V]), (16, q.V)], hx (H.set j .dead) [.dead, .cells q.cs]) := by
  rw [hp0]
  unfold Pr.V Pr.cs openI
  simp only [go_sem, simprocAttr]
  done
 rw [a2, Option.bind_some]
 have a3 : ∃ e3, aexec W loopW l_table_Table_Open_0 [(4, .int .i64 l), (5, .bool b), (7, .ptr (pt H 1) 0), (12, .ptr (pt H 0) 0), (13, .tuple [.bool true, .int .i64 q.id, q.V]), (14, .bool true), (15, .tuple [.int .i64 q.id, q.V]), (16, q.V)] (hx (H.set j .dead) [.dead, .cells q.cs]) =
   some (.normal, e3, hx (H.set j .dead) [.dead, .cells q.cs]) ∧ e3.dels openI.kA = openE H (openS (l, b) q) := by
  rw [hp0]
  unfold Pr.V Pr.cs openS
  by_cases d1 : q.open_ ≥ 0
  ·cases b with
   | false =>
    rw [if_pos ⟨d1, .inl rfl⟩]
    refine ⟨?_, ?_, ?_⟩
    rotate_left
    ·simp only [go_sem, l_table_Table_Open_0.eq_1, d1, simprocAttr]
     rfl
    ·simp only [go_sem, openI, simprocAttr]
   | true =>
    by_cases d2 : q.open_ < l
    ·rw [if_pos ⟨d1, .inr d2⟩]
     refine ⟨?_, ?_, ?_⟩
     rotate_left
     ·simp only [go_sem, l_table_Table_Open_0.eq_1, d1, d2, simprocAttr]
      rfl
     ·simp only [go_sem, openI, simprocAttr]
    ·rw [if_neg (fun h => by rcases h.2 with h | h; cases h; exact d2 h)]
     refine ⟨?_, ?_, ?_⟩
     rotate_left
     ·simp only [go_sem, l_table_Table_Open_0.eq_1, d1, d2, simprocAttr]
      rfl
     ·simp only [go_sem, openI, simprocAttr]
  ·rw [if_neg (fun h => d1 h.1)]
   refine ⟨?_, ?_, ?_⟩
   rotate_left
   ·simp only [go_sem, l_table_Table_Open_0.eq_1, d1, simprocAttr]
    rfl
   ·simp only [go_sem, openI, simprocAttr]
 obtain ⟨e3, a3, a4⟩ := a3
 simp only
 rw [a3, Option.bind_some]
 unfold mback
 simp only
 have c3 : (decide ((hx H [.dead]).length ≤ (hx (H.set j .dead) [.dead, .cells q.cs]).length) && ((e3.dels openI.kA).all fun p => p.2.under (hx H [.dead]).length) && trimOK (hx H [.dead]).length ((hx H [.dead]).set j .dead) (hx (H.set j .dead) [.dead, .cells q.cs]) && isDead (hx (H.set j .dead) [.dead, .cells q.cs]) j) = true := by
  have l1 : (hx H [.dead]).length = pt H 1 := hx_len H _
  have l2 : (hx (H.set j .dead) [.dead, .cells q.cs]).length = pt H 2 := by rw [hx_len]; exact pt_set _ _ _ _
  have l3 : decide (pt H 1 ≤ pt H 2) = true := by unfold pt; simp
  have l4 : ((openE H (openS (l, b) q)).all fun p => p.2.under (pt H 1)) = true := by
   have : pt H 0 < pt H 1 := by unfold pt; omega
   simp [openE, AVal.under, this]
  have l5 : trimOK (pt H 1) (hx (H.set j .dead) [.dead]) (hx (H.set j .dead) [.dead, .cells q.cs]) = true := by
   have := trimOK_app (pt H 1) (hx (H.set j .dead) [.dead]) [.cells q.cs]
   rwa [hx_app] at this
  have l6 : isDead (hx (H.set j .dead) [.dead, .cells q.cs]) j = true := by unfold isDead; rw [hj.get']
  rw [a4, hs, l1, l2, l3, l4, l5, l6]
  rfl
 rw [if_pos c3, a4]
 have l7 : ((hx (H.set j .dead) [.dead, .cells q.cs]).take (hx H [.dead]).length).set j (.map (M.map prE)) = hx H [.dead] := by
  have : (hx (H.set j .dead) [.dead, .cells q.cs]).take (hx H [.dead]).length = hx (H.set j .dead) [.dead] := by
   rw [show (hx H [.dead]).length = (hx (H.set j .dead) [.dead]).length by rw [hx_len, hx_len, pt_set]]
   rw [show hx (H.set j .dead) [.dead, .cells q.cs] = hx (H.set j .dead) [.dead] ++ [.cells q.cs] by rw [hx_app]; rfl]
   exact List.take_left
  rw [this, hj.set', hj.same]
 rw [l7]
theorem perm_foldl {f : Int × Bool → Pr → Int × Bool} (hc : ∀ s x y, f (f s x) y = f (f s y) x) {l l' : List Pr} (h : l.Perm l') : ∀ s, l.foldl f s = l'.foldl f s := by
 induction h with
 | nil => intro s; rfl
 | cons x _ ih => intro s; exact ih _
 | swap x y l => intro s; simp only [List.foldl_cons]; rw [hc]
 | trans _ _ h1 h2 => intro s; rw [h1, h2]
theorem range_fm (M : List Pr) : (List.range M.length).filterMap (fun i => M[i]?) = M := by
 induction M with
 | nil => rfl
 | cons a M ih =>
  rw [List.length_cons, List.range_succ_eq_map, List.filterMap_cons]
  simp only [List.getElem?_cons_zero, List.filterMap_map]
  congr 1
theorem open_mfold (M : List Pr) (j : Nat) (H : Heap) (hj : Old H j (mapB M)) (path : List Nat) : ∀ (s : Int × Bool) (e : Env), (∀ i ∈ path, i < M.length) → e.dels openI.kA = openE H s →
  path ≠ [] → mfold (mstep W (fun e H => aexec W loopW l_table_Table_Open_0 e H) openI (pt H 0) j (M.map prE)) (M.map prE) path e (hx H [.dead]) =
   some (openE H ((path.filterMap fun i => M[i]?).foldl openS s), hx H [.dead]) := by
 have hd : ∀ s, (openE H s).dels openI.kA = openE H s := fun s => by simp only [go_sem, openI, simprocAttr]
 have hm := open_mstep M j H hj
 generalize mstep W (fun e H => aexec W loopW l_table_Table_Open_0 e H) openI (pt H 0) j (M.map prE) = st at *
 induction path with
 | nil => intro s e _ _ h; exact absurd rfl h
 | cons i path ih =>
  intro s e hb he _
  have hi := hb i List.mem_cons_self
  have h1 : (M.map prE)[i]? = some (prE M[i]) := by rw [List.getElem?_map, List.getElem?_eq_getElem hi]; rfl
  have h2 : M[i]? = some M[i] := List.getElem?_eq_getElem hi
  unfold mfold
  rw [h1, Option.bind_some, hm M[i] s e he, Option.bind_some]
  simp only [List.filterMap_cons, h2, List.foldl_cons]
  by_cases hp : path = []
  ·subst hp
   simp only [mfold, List.filterMap_nil, List.foldl_nil]
  ·exact ih (openS s M[i]) _ (fun x hx => hb x (List.mem_cons_of_mem _ hx)) (hd _) hp
theorem open_mrun (M : List Pr) (hM : M ≠ []) (j : Nat) (H : Heap) (hj : Old H j (mapB M)) (e : Env) (he : e.dels openI.kA = openE H (-1, false)) :
  mrun (mstep W (fun e H => aexec W loopW l_table_Table_Open_0 e H) openI (pt H 0) j (M.map prE)) (M.map prE) e (hx H [.dead]) = some (openE H (openM M), hx H [.dead]) := by
 refine mrun_of (fun p hp => ?_) (fun p hp => perms_perm _ _ hp)
 rw [List.length_map] at hp
 have hb : ∀ i ∈ p, i < M.length := fun i hi => List.mem_range.1 (hp.mem_iff.1 hi)
 have hne : p ≠ [] := by
  intro h; subst h
  have := hp.length_eq
  simp at this
  exact hM (List.eq_nil_of_length_eq_zero this.symm)
 rw [open_mfold M j H hj p (-1, false) e hb he hne]
 have hpm : (p.filterMap fun i => M[i]?).Perm M := by
  have := hp.filterMap (fun i => M[i]?)
  rwa [range_fm] at this
 rw [perm_foldl openS_comm hpm]
 rfl
theorem open_mloop (M : List Pr) (i j : Nat) (H : Heap) (hi : Old H i (tblB j)) (hj : Old H j (mapB M)) :
  mloopA W (fun e H => aexec W loopW l_table_Table_Open_0 e H) openI [(0, .ptr i 0), (4, .int .i64 (-1)), (5, .bool false)] (hx H []) =
   some ([(4, .int .i64 (openM M).1), (5, .bool (openM M).2), (13, .tuple [.bool false])], hx H [.dead]) := by
 have gi := hi.get
 unfold mloopA
 have a1 : aops W openI.pre [(0, .ptr i 0), (4, .int .i64 (-1)), (5, .bool false)] (hx H []) =
   some ([(0, .ptr i 0), (4, .int .i64 (-1)), (5, .bool false), (8, .ptr i 0), (9, .ptr i 0), (10, .ptr i 0), (11, .map (some j))], hx H []) := by
  unfold openI
  simp only [go_sem, gi, simprocAttr]
 rw [a1, Option.bind_some]
 have a2 : Env.get [(0, .ptr i 0), (4, .int .i64 (-1)), (5, .bool false), (8, .ptr i 0), (9, .ptr i 0), (10, .ptr i 0), (11, .map (some j))] openI.mt = .map (some j) := rfl
 simp only [a2, hj.get []]
 have l1 : (hx H []).length = pt H 0 := hx_len H _
 have l2 : hx H [] ++ [Box.dead] = hx H [.dead] := hx_app H [] [.dead]
 rw [l1, l2]
 have hd : (Env.put [(0, .ptr i 0), (4, .int .i64 (-1)), (5, .bool false), (8, .ptr i 0), (9, .ptr i 0), (10, .ptr i 0), (11, .map (some j))] openI.it (.ptr (pt H 0) 0)).dels openI.kA = openE H (-1, false) := by
  unfold openI
  simp only [go_sem, simprocAttr]
 generalize Env.put [(0, .ptr i 0), (4, .int .i64 (-1)), (5, .bool false), (8, .ptr i 0), (9, .ptr i 0), (10, .ptr i 0), (11, .map (some j))] openI.it (.ptr (pt H 0) 0) = e at *
 have hl : ∀ e' : Env, ∀ s, e'.dels openI.kA = openE H s → mlast W openI (pt H 0) e' (hx H [.dead]) = some ([(4, .int .i64 s.1), (5, .bool s.2), (13, .tuple [.bool false])], hx H [.dead]) := by
  intro e' s he'
  unfold mlast
  rw [he']
  have c1 : isIter (openE H s) openI.it (pt H 0) = true := by simp [isIter, openE, openI, Env.get]
  rw [if_pos c1]
  have a3 : aops W openI.r2 ((openE H s).put openI.nx (.tuple [.bool false])) (hx H [.dead]) = some ([(4, .int .i64 s.1), (5, .bool s.2), (12, .ptr (pt H 0) 0), (13, .tuple [.bool false]), (14, .bool false)], hx H [.dead]) := by
   unfold openI openE
   simp only [go_sem, simprocAttr]
  rw [a3, Option.bind_some]
  have c2 : isB [(4, .int .i64 s.1), (5, .bool s.2), (12, .ptr (pt H 0) 0), (13, .tuple [.bool false]), (14, .bool false)] openI.ok false = true := by simp [isB, openI, Env.get]
  simp only
  rw [if_pos c2]
  unfold openI
  simp only [go_sem, simprocAttr]
 by_cases hM : M = []
 ·subst hM
  have : mrun (mstep W (fun e H => aexec W loopW l_table_Table_Open_0 e H) openI (pt H 0) j (([] : List Pr).map prE)) (([] : List Pr).map prE) e (hx H [.dead]) = some (e, hx H [.dead]) := by
   refine mrun_of (fun p hp => ?_) (fun p hp => perms_perm _ _ hp)
   have : p = [] := List.eq_nil_of_length_eq_zero (by rw [hp.length_eq]; rfl)
   subst this
   rfl
  rw [this, Option.bind_some]
  exact hl e (-1, false) hd
 ·rw [open_mrun M hM j H hj e hd, Option.bind_some]
  exact hl _ _ (by simp only [go_sem, openI, simprocAttr])
theorem x_mloop (c : CallF) (l) (I x e H) : aexec c l (.mloop I x) e H = (mloopA c (fun e H => aexec c l x e H) I e H).map fun q => (.normal, q.1, q.2) := rfl
theorem topen_spec (M : List Pr) (i j : Nat) (H : Heap) (hi : Old H i (tblB j)) (hj : Old H j (mapB M)) :
  W n_table_Table_Open [.ptr i 0] H = some (.tuple [.int .i64 (openM M).1, .bool (openM M).2], H) := by
 have h := open_mloop M i j H hi hj
 generalize openM M = s at *
 unfold openI at h
 refine W_fn rfl rfl ?_
 simp only [go_sem, c_table_Table_Open, x_mloop, h, Option.map_some, simprocAttr]
theorem fread_spec (x : Fs) (hx' : FsOK x) (n : List UInt8) (i j : Nat) (H : Heap) (h : HasFs H i j x) :
  W n_files_FS_Read [.ptr i 0, .str n] H = some (.tuple [.list 1 (ints .u8 (zOld n x.E).b) .own, .bool (getF n x.E).isSome], H) := by
 have gi := (Old.mk h.gi).get
 have gj := (Old.mk h.gj).get
 have lk : ∀ N, evLookupG .str (.agg [.list 1 [] .full, .int .i64 0]) true (.map (some j)) (.str n) (hx H N) = some (.tuple [.agg [.list 1 (ints .u8 (zOld n x.E).b) .ro, .int .i64 (zOld n x.E).z], .bool (getF n x.E).isSome]) := fun N => look_f n x.E j (hx H N) (gj N)
 have hz := zOld_ok hx' n
 have tc := fun H => W_slices_Clone_byte_byte_ (ints .u8 (zOld n x.E).b) H (by simp only [List.length_map, maxBytes]; omega)
 generalize (getF n x.E).isSome = q at *
 generalize zOld n x.E = o at *
 obtain ⟨on, ob, oz⟩ := o
 simp only at *
 unfold fsB at *
 refine W_fn rfl rfl ?_
 simp only [go_sem, c_files_FS_Read, gi, lk, tc, under_ints, reduceCtorEq, ↓reduceIte, Nat.reduceAdd, Nat.reduceEqDiff, Nat.reduceLT, Int.reduceLE, Nat.reduceSub, Nat.reduceLeDiff, Nat.reduceMul, Int.reduceToNat, Int.reduceLT, Int.reduceEq, Int.reduceNeg, Nat.reduceBEq, Nat.reduceBNe]
 first | done | rfl
theorem crc0_spec (H : Heap) : W n_crc_Check [.list 1 [] .ro] H = some (.tuple [.list 1 [] .full, .bool false], H) := by
 refine W_fn rfl rfl ?_
 simp only [go_sem, c_crc_Check, List.length_nil, Int.natCast_zero, Int.reduceLT, reduceCtorEq, ↓reduceIte, Nat.reduceAdd, Nat.reduceEqDiff, Nat.reduceLT, Int.reduceLE, Nat.reduceSub, Nat.reduceLeDiff, Nat.reduceMul, Int.reduceToNat, Int.reduceLT, Int.reduceEq, Int.reduceNeg, Nat.reduceBEq, Nat.reduceBNe]
 first | done | rfl
theorem back0_spec (H : Heap) : W n_varint_Back [.list 1 [] .ro] H = some (.tuple [.int .i64 0, .bool false], H) := by
 refine W_fn rfl rfl ?_
 simp only [go_sem, c_varint_Back, List.length_nil, Int.natCast_zero, Int.reduceLT, reduceCtorEq, ↓reduceIte, Nat.reduceAdd, Nat.reduceEqDiff, Nat.reduceLT, Int.reduceLE, Nat.reduceSub, Nat.reduceLeDiff, Nat.reduceMul, Int.reduceToNat, Int.reduceLT, Int.reduceEq, Int.reduceNeg, Nat.reduceBEq, Nat.reduceBNe]
 first | done | rfl
theorem start0_spec (x : Fs) (hx' : FsOK x) (hn : getF [115, 116, 97, 114, 116] x.E = none) (i j : Nat) (H : Heap) (h : HasFs H i j x) : W n_place_Start [.ptr i 0] H = some (.tuple [.int .i64 0, .bool false], H) := by
 have t : ∀ N, W n_files_FS_Read [.ptr i 0, .str [115, 116, 97, 114, 116]] (hx H N) = some (.tuple [.list 1 [] .own, .bool false], hx H N) := fun N => by
  have := fread_spec x hx' [115, 116, 97, 114, 116] i j (hx H N) ⟨(Old.mk h.gi).get N, (Old.mk h.gj).get N, h.ne⟩
  unfold zOld at this
  rw [hn] at this
  exact this
 have t2 := crc0_spec
 have t3 := back0_spec
 refine W_fn rfl rfl ?_
 simp only [go_sem, c_place_Start, t, t2, t3, reduceCtorEq, ↓reduceIte, Nat.reduceAdd, Nat.reduceEqDiff, Nat.reduceLT, Int.reduceLE, Nat.reduceSub, Nat.reduceLeDiff, Nat.reduceMul, Int.reduceToNat, Int.reduceLT, Int.reduceEq, Int.reduceNeg, Nat.reduceBEq, Nat.reduceBNe]
 first | done | rfl
theorem setclean0_spec (x : Fs) (hx' : FsOK x) (hn : getF [99, 108, 101, 97, 110] x.E = none) (i j : Nat) (H : Heap) (h : HasFs H i j x) : W n_place_SetClean [.ptr i 0, .bool false] H = some (.int .i64 0, H) := by
 have t : ∀ N, W n_files_FS_Read [.ptr i 0, .str [99, 108, 101, 97, 110]] (hx H N) = some (.tuple [.list 1 [] .own, .bool false], hx H N) := fun N => by
  have := fread_spec x hx' [99, 108, 101, 97, 110] i j (hx H N) ⟨(Old.mk h.gi).get N, (Old.mk h.gj).get N, h.ne⟩
  unfold zOld at this
  rw [hn] at this
  exact this
 refine W_fn rfl rfl ?_
 simp only [go_sem, c_place_SetClean, t, reduceCtorEq, ↓reduceIte, Nat.reduceAdd, Nat.reduceEqDiff, Nat.reduceLT, Int.reduceLE, Nat.reduceSub, Nat.reduceLeDiff, Nat.reduceMul, Int.reduceToNat, Int.reduceLT, Int.reduceEq, Int.reduceNeg, Nat.reduceBEq, Nat.reduceBNe]
 first | done | rfl
set_option maxRecDepth 20000 in
theorem len0_spec (H : Heap) : W n_math_bits_Len [.int .u64 0] H = some (.int .i64 0, H) := by
 have w1 : IntKind.u8.wrap 0 = 0 := by decide +kernel
 have t : ∀ H, W n_math_bits_Len64 [.int .u64 0] H = some (.int .i64 0, H) := fun H => by
  refine W_fn rfl rfl ?_
  simp only [go_sem, c_math_bits_Len64, Int.reduceGE, w1, reduceCtorEq, ↓reduceIte, Nat.reduceAdd, Nat.reduceEqDiff, Nat.reduceLT, Int.reduceLE, Nat.reduceSub, Nat.reduceLeDiff, Nat.reduceMul, Int.reduceToNat, Int.reduceLT, Int.reduceEq, Int.reduceNeg, Nat.reduceBEq, Nat.reduceBNe]
  first | done | rfl
 refine W_fn rfl rfl ?_
 simp only [go_sem, c_math_bits_Len, t, reduceCtorEq, ↓reduceIte, Nat.reduceAdd, Nat.reduceEqDiff, Nat.reduceLT, Int.reduceLE, Nat.reduceSub, Nat.reduceLeDiff, Nat.reduceMul, Int.reduceToNat, Int.reduceLT, Int.reduceEq, Int.reduceNeg, Nat.reduceBEq, Nat.reduceBNe]
theorem sort0_spec (f : Nat) (H : Heap) : W n_slices_SortFunc_string_string_ [.list 1 [] .ro, .fn f [] []] H = some (.tuple [], H) := by
 have t := len0_spec
 have w0 : IntKind.u64.wrap 0 = 0 := by decide +kernel
 have w1 : IntKind.i64.wrap (0 + 1) = 1 := by decide +kernel
 have w2 : IntKind.i64.wrap (0 - 0) = 0 := by decide +kernel
 have l1 : ∀ H, loopA W loopW (.ghost (.kill k_slices_insertionSortCmpFunc_string__1) l_slices_insertionSortCmpFunc_string__1) [(0, .list 1 [] .ro), (1, .int .i64 0), (2, .int .i64 0), (3, .fn f [] []), (8, .int .i64 1)] H = some (.exit 0, [], H) := fun H => by
  refine loop_step l_slices_insertionSortCmpFunc_string__1.eq_1 k_slices_insertionSortCmpFunc_string__1.eq_1 (by kernel_rfl) ?_
  simp only [go_sem, Int.reduceLT, reduceCtorEq, ↓reduceIte, Nat.reduceAdd, Nat.reduceEqDiff, Nat.reduceLT, Int.reduceLE, Nat.reduceSub, Nat.reduceLeDiff, Nat.reduceMul, Int.reduceToNat, Int.reduceLT, Int.reduceEq, Int.reduceNeg, Nat.reduceBEq, Nat.reduceBNe]
 have t1 : ∀ H, W n_slices_insertionSortCmpFunc_string_ [.list 1 [] .ro, .int .i64 0, .int .i64 0, .fn f [] []] H = some (.tuple [], H) := fun H => by
  refine W_fn rfl rfl ?_
  simp only [go_sem, c_slices_insertionSortCmpFunc_string_, w1, l1, reduceCtorEq, ↓reduceIte, Nat.reduceAdd, Nat.reduceEqDiff, Nat.reduceLT, Int.reduceLE, Nat.reduceSub, Nat.reduceLeDiff, Nat.reduceMul, Int.reduceToNat, Int.reduceLT, Int.reduceEq, Int.reduceNeg, Nat.reduceBEq, Nat.reduceBNe]
 have l2 : ∀ H, loopA W loopW (.ghost (.kill k_slices_pdqsortCmpFunc_string__0) l_slices_pdqsortCmpFunc_string__0) [(0, .list 1 [] .ro), (1, .int .i64 0), (2, .int .i64 0), (3, .int .i64 0), (4, .fn f [] []), (10, .bool true), (11, .bool true)] H = some (.ret, [], H) := fun H => by
  refine loop_step l_slices_pdqsortCmpFunc_string__0.eq_1 k_slices_pdqsortCmpFunc_string__0.eq_1 (by kernel_rfl) ?_
  simp only [go_sem, w2, Int.reduceLE, t1, reduceCtorEq, ↓reduceIte, Nat.reduceAdd, Nat.reduceEqDiff, Nat.reduceLT, Int.reduceLE, Nat.reduceSub, Nat.reduceLeDiff, Nat.reduceMul, Int.reduceToNat, Int.reduceLT, Int.reduceEq, Int.reduceNeg, Nat.reduceBEq, Nat.reduceBNe]
 have t2 : ∀ H, W n_slices_pdqsortCmpFunc_string_ [.list 1 [] .ro, .int .i64 0, .int .i64 0, .int .i64 0, .fn f [] []] H = some (.tuple [], H) := fun H => by
  refine W_fn rfl rfl ?_
  simp only [go_sem, c_slices_pdqsortCmpFunc_string_, l2, reduceCtorEq, ↓reduceIte, Nat.reduceAdd, Nat.reduceEqDiff, Nat.reduceLT, Int.reduceLE, Nat.reduceSub, Nat.reduceLeDiff, Nat.reduceMul, Int.reduceToNat, Int.reduceLT, Int.reduceEq, Int.reduceNeg, Nat.reduceBEq, Nat.reduceBNe]
 refine W_fn rfl rfl ?_
 simp only [go_sem, c_slices_SortFunc_string_string_, List.length_nil, Int.natCast_zero, w0, t, t2, reduceCtorEq, ↓reduceIte, Nat.reduceAdd, Nat.reduceEqDiff, Nat.reduceLT, Int.reduceLE, Nat.reduceSub, Nat.reduceLeDiff, Nat.reduceMul, Int.reduceToNat, Int.reduceLT, Int.reduceEq, Int.reduceNeg, Nat.reduceBEq, Nat.reduceBNe]
theorem isort0_spec (H : Heap) : W n_slices_Sort_int64_int64_ [.list 1 [] .ro] H = some (.tuple [], H) := by
 have t := len0_spec
 have w0 : IntKind.u64.wrap 0 = 0 := by decide +kernel
 have w1 : IntKind.i64.wrap (0 + 1) = 1 := by decide +kernel
 have w2 : IntKind.i64.wrap (0 - 0) = 0 := by decide +kernel
 have l1 : ∀ H, loopA W loopW (.ghost (.kill k_slices_insertionSortOrdered_int64__1) l_slices_insertionSortOrdered_int64__1) [(0, .list 1 [] .ro), (1, .int .i64 0), (2, .int .i64 0), (6, .int .i64 1)] H = some (.exit 0, [], H) := fun H => by
  refine loop_step l_slices_insertionSortOrdered_int64__1.eq_1 k_slices_insertionSortOrdered_int64__1.eq_1 (by kernel_rfl) ?_
  simp only [go_sem, Int.reduceLT, reduceCtorEq, ↓reduceIte, Nat.reduceAdd, Nat.reduceEqDiff, Nat.reduceLT, Int.reduceLE, Nat.reduceSub, Nat.reduceLeDiff, Nat.reduceMul, Int.reduceToNat, Int.reduceLT, Int.reduceEq, Int.reduceNeg, Nat.reduceBEq, Nat.reduceBNe]
 have t1 : ∀ H, W n_slices_insertionSortOrdered_int64_ [.list 1 [] .ro, .int .i64 0, .int .i64 0] H = some (.tuple [], H) := fun H => by
  refine W_fn rfl rfl ?_
  simp only [go_sem, c_slices_insertionSortOrdered_int64_, w1, l1, reduceCtorEq, ↓reduceIte, Nat.reduceAdd, Nat.reduceEqDiff, Nat.reduceLT, Int.reduceLE, Nat.reduceSub, Nat.reduceLeDiff, Nat.reduceMul, Int.reduceToNat, Int.reduceLT, Int.reduceEq, Int.reduceNeg, Nat.reduceBEq, Nat.reduceBNe]
 have l2 : ∀ H, loopA W loopW (.ghost (.kill k_slices_pdqsortOrdered_int64__0) l_slices_pdqsortOrdered_int64__0) [(0, .list 1 [] .ro), (1, .int .i64 0), (2, .int .i64 0), (3, .int .i64 0), (8, .bool true), (9, .bool true)] H = some (.ret, [], H) := fun H => by
  refine loop_step l_slices_pdqsortOrdered_int64__0.eq_1 k_slices_pdqsortOrdered_int64__0.eq_1 (by kernel_rfl) ?_
  simp only [go_sem, w2, Int.reduceLE, t1, reduceCtorEq, ↓reduceIte, Nat.reduceAdd, Nat.reduceEqDiff, Nat.reduceLT, Int.reduceLE, Nat.reduceSub, Nat.reduceLeDiff, Nat.reduceMul, Int.reduceToNat, Int.reduceLT, Int.reduceEq, Int.reduceNeg, Nat.reduceBEq, Nat.reduceBNe]
 have t2 : ∀ H, W n_slices_pdqsortOrdered_int64_ [.list 1 [] .ro, .int .i64 0, .int .i64 0, .int .i64 0] H = some (.tuple [], H) := fun H => by
  refine W_fn rfl rfl ?_
  simp only [go_sem, c_slices_pdqsortOrdered_int64_, l2, reduceCtorEq, ↓reduceIte, Nat.reduceAdd, Nat.reduceEqDiff, Nat.reduceLT, Int.reduceLE, Nat.reduceSub, Nat.reduceLeDiff, Nat.reduceMul, Int.reduceToNat, Int.reduceLT, Int.reduceEq, Int.reduceNeg, Nat.reduceBEq, Nat.reduceBNe]
 refine W_fn rfl rfl ?_
 simp only [go_sem, c_slices_Sort_int64_int64_, List.length_nil, Int.natCast_zero, w0, t, t2, reduceCtorEq, ↓reduceIte, Nat.reduceAdd, Nat.reduceEqDiff, Nat.reduceLT, Int.reduceLE, Nat.reduceSub, Nat.reduceLeDiff, Nat.reduceMul, Int.reduceToNat, Int.reduceLT, Int.reduceEq, Int.reduceNeg, Nat.reduceBEq, Nat.reduceBNe]
def listI : MInfo := ⟨8, 9, 10, 12, 11, [0, 4, 5, 6, 7, 8, 10, 11, 12, 13, 14, 15, 16, 17], [9, 11], [⟨some 5, none, .move, [.tmp 0 false]⟩, ⟨some 6, none, .nilCheck, [.tmp 5 false]⟩, ⟨some 7, none, .addOff 0, [.tmp 6 false]⟩, ⟨some 8, none, .load false 1 false, [.tmp 7 false]⟩], [⟨some 11, none, .move, [.proj 10 0 false]⟩], [⟨some 13, none, .move, [.proj 12 0 false]⟩, ⟨some 4, none, .move, [.tmp 13 false]⟩]⟩
theorem mrun_nil (step : MStep) (e : Env) (H : Heap) : mrun step [] e H = some (e, H) :=
 mrun_of (fun p hp => by
  have : p = [] := List.Perm.eq_nil hp
  subst this; rfl) (fun p hp => by
  simp [perms] at hp; subst hp; exact List.Perm.refl _)
theorem list0_mloop (d : Int) (i j : Nat) (H : Heap) (h : HasFs H i j ⟨[], d⟩) (run) :
  mloopA W run listI [(0, .ptr i 0), (3, .list 1 [] .full)] (hx H []) = some ([(3, .list 1 [] .full), (10, .tuple [.bool false])], hx H [.dead]) := by
 have gi := (Old.mk h.gi).get
 have gj := (Old.mk h.gj).get
 unfold mloopA
 have a1 : aops W listI.pre [(0, .ptr i 0), (3, .list 1 [] .full)] (hx H []) =
   some ([(0, .ptr i 0), (3, .list 1 [] .full), (5, .ptr i 0), (6, .ptr i 0), (7, .ptr i 0), (8, .map (some j))], hx H []) := by
  unfold listI
  unfold fsB at gi
  simp only [go_sem, gi, reduceCtorEq, ↓reduceIte, Nat.reduceAdd, Nat.reduceEqDiff, Nat.reduceLT, Int.reduceLE, Nat.reduceSub, Nat.reduceLeDiff, Nat.reduceMul, Int.reduceToNat, Int.reduceLT, Int.reduceEq, Int.reduceNeg, Nat.reduceBEq, Nat.reduceBNe]
 rw [a1, Option.bind_some]
 have a2 : Env.get [(0, .ptr i 0), (3, .list 1 [] .full), (5, .ptr i 0), (6, .ptr i 0), (7, .ptr i 0), (8, .map (some j))] listI.mt = .map (some j) := rfl
 have gj0 : (hx H [])[j]? = some (.map []) := gj []
 rw [a2]
 simp only [gj0]
 rw [mrun_nil]
 simp only [Option.bind_some]
 have l1 : (hx H []).length = pt H 0 := hx_len H _
 have l2 : hx H [] ++ [Box.dead] = hx H [.dead] := hx_app H [] [.dead]
 rw [l1, l2]
 unfold mlast
 have e1 : (Env.put [(0, .ptr i 0), (3, .list 1 [] .full), (5, .ptr i 0), (6, .ptr i 0), (7, .ptr i 0), (8, .map (some j))] listI.it (.ptr (pt H 0) 0)).dels listI.kA = [(3, .list 1 [] .full), (9, .ptr (pt H 0) 0)] := by
  unfold listI
  simp only [go_sem, reduceCtorEq, ↓reduceIte, Nat.reduceAdd, Nat.reduceEqDiff, Nat.reduceLT, Int.reduceLE, Nat.reduceSub, Nat.reduceLeDiff, Nat.reduceMul, Int.reduceToNat, Int.reduceLT, Int.reduceEq, Int.reduceNeg, Nat.reduceBEq, Nat.reduceBNe]
 rw [e1]
 have c1 : isIter [(3, .list 1 [] .full), (9, .ptr (pt H 0) 0)] listI.it (pt H 0) = true := by simp [isIter, listI, Env.get]
 rw [if_pos c1]
 have a3 : aops W listI.r2 (Env.put [(3, .list 1 [] .full), (9, .ptr (pt H 0) 0)] listI.nx (.tuple [.bool false])) (hx H [.dead]) = some ([(3, .list 1 [] .full), (9, .ptr (pt H 0) 0), (10, .tuple [.bool false]), (11, .bool false)], hx H [.dead]) := by
  unfold listI
  simp only [go_sem, reduceCtorEq, ↓reduceIte, Nat.reduceAdd, Nat.reduceEqDiff, Nat.reduceLT, Int.reduceLE, Nat.reduceSub, Nat.reduceLeDiff, Nat.reduceMul, Int.reduceToNat, Int.reduceLT, Int.reduceEq, Int.reduceNeg, Nat.reduceBEq, Nat.reduceBNe]
 rw [a3, Option.bind_some]
 have c2 : isB [(3, .list 1 [] .full), (9, .ptr (pt H 0) 0), (10, .tuple [.bool false]), (11, .bool false)] listI.ok false = true := by simp [isB, listI, Env.get]
 rw [if_pos c2]
 unfold listI
 simp only [go_sem, reduceCtorEq, ↓reduceIte, Nat.reduceAdd, Nat.reduceEqDiff, Nat.reduceLT, Int.reduceLE, Nat.reduceSub, Nat.reduceLeDiff, Nat.reduceMul, Int.reduceToNat, Int.reduceLT, Int.reduceEq, Int.reduceNeg, Nat.reduceBEq, Nat.reduceBNe]
theorem list0_spec (d : Int) (i j : Nat) (H : Heap) (h : HasFs H i j ⟨[], d⟩) : W n_files_FS_List [.ptr i 0] H = some (.list 1 [] .full, H) := by
 have t := fun run => list0_mloop d i j H h run
 unfold listI at t
 have t2 := sort0_spec
 refine W_fn rfl rfl ?_
 simp only [go_sem, c_files_FS_List, x_mloop, t, Option.map_some, t2, reduceCtorEq, ↓reduceIte, Nat.reduceAdd, Nat.reduceEqDiff, Nat.reduceLT, Int.reduceLE, Nat.reduceSub, Nat.reduceLeDiff, Nat.reduceMul, Int.reduceToNat, Int.reduceLT, Int.reduceEq, Int.reduceNeg, Nat.reduceBEq, Nat.reduceBNe]
theorem count_spec (b : Ba) (H : Heap) : W n_batch_Count [b.V] H = some (.int .i64 (if b.mark = 0 then (b.recs.length : Int) else 1), H) := by
 refine W_fn rfl rfl ?_
 unfold Ba.V Ba.cs
 by_cases c : b.mark = 0
 ·rw [if_pos c]; simp only [go_sem, c_batch_Count, c, List.length_map, simprocAttr]
 ·rw [if_neg c]; simp only [go_sem, c_batch_Count, c, simprocAttr]
def endB (b : Ba) : Int := b.base + countE b
theorem send_spec (b : Ba) (hb : Fit b) (H : Heap) : W n_segment_End [b.V] H = some (.int .i64 (endB b), H) := by
 have t : ∀ H, W n_batch_Count [b.V] H = some (.int .i64 (countE b), H) := fun H => count_spec b H
 have h1 := hb.base
 have h2 := hb.count
 have w : IntKind.i64.wrap (b.base + countE b) = endB b := wrap_id (by unfold I64; omega)
 unfold Ba.V Ba.cs at *
 refine W_fn rfl rfl ?_
 simp only [go_sem, c_segment_End, t, w, simprocAttr]
theorem next_spec9 (l : List Ba) (hl : ∀ b ∈ l, Fit b) (hn : l.length ≤ 1000000) (base : Int) (H : Heap) : W n_segment_Next [.list 7 (l.map Ba.V) .ro, .int .i64 base] H = some (.int .i64 (endE base l), H) := by
 rcases List.eq_nil_or_concat l with rfl | ⟨l', x, h⟩
 ·rw [show endE base [] = base from rfl]
  refine W_fn0 rfl rfl ?_
  simp only [go_sem, trim_same, c_segment_Next, List.map_nil, List.length_nil, Int.natCast_zero, simprocAttr]
 ·rw [List.concat_eq_append] at h
  have hx := hl x (by rw [h]; simp)
  have t := fun H => send_spec x hx H
  have e : endE base l = endB x := by unfold endE endB; rw [h]; simp
  have hln : l.length = l'.length + 1 := by rw [h]; simp
  have h1 : ¬ ((l.length : Int) = 0) := by omega
  have w1 : IntKind.i64.wrap ((l.length : Int) - 1) = ((l'.length : Nat) : Int) := by rw [wrap_id (by unfold I64; omega)]; omega
  have e0 : (0 : Int) ≤ ((l'.length : Nat) : Int) := by omega
  have e7 : ((l'.length : Nat) : Int).toNat = l'.length := by omega
  have e1 : (l.map Ba.V)[l'.length]? = some (.agg [.int .i64 x.base, .int .i64 x.prod, .int .i64 x.epoch, .int .i64 x.seq, .bool x.txn, .int .i64 x.mark, .list 2 (x.recs.map rcV) .ro]) := by rw [h]; simp [Ba.V, Ba.cs]
  rw [e]
  unfold Ba.V Ba.cs at t
  refine W_fn0 rfl rfl ?_
  simp only [go_sem, trim_same, c_segment_Next, List.length_map, h1, w1, e0, e7, e1, t, simprocAttr]
theorem fend_spec (l : List Ba) (hl : ∀ b ∈ l, Fit b) (hn : l.length ≤ 1000000) (base : Int) (H : Heap) : W n_fold_End [.int .i64 base, .list 7 (l.map Ba.V) .ro] H = some (.int .i64 (endE base l), H) := by
 have t := fun H => next_spec9 l hl hn base H
 refine W_fn0 rfl rfl ?_
 simp only [go_sem, trim_same, c_fold_End, t, simprocAttr]
abbrev Gt := Int × Int × Rc
def gV (g : Gt) : AVal := .agg [.int .i64 g.1, .int .i64 g.2.1, .str g.2.2.1, .str g.2.2.2]
theorem under_g (n : Nat) (l : List Gt) : AVal.underL n (l.map gV) = true := uL_map n gV (fun _ => rfl) l
theorem clip_got (xs : List AVal) (fl : Fl) (hf : fl = .ro ∨ fl = .own ∨ fl = .full ∨ fl = .uniq) (H : Heap) : W n_slices_Clip_api_Got_api_Got_ [.list 4 xs fl] H = some (.list 4 xs .full, H) := by
 have f1 : ∀ (e : Env) (H : Heap) (fl : Fl), Env.get e 0 = .list 4 xs fl → fl ≠ .uniq → agh (.freeze 0) e H = some (e, H) := fun e H fl h hn => by
  cases fl <;> first | exact absurd rfl hn | simp only [agh, h]
 have f2 : ∀ (e : Env) (H : Heap), Env.get e 0 = .list 4 xs .uniq → agh (.freeze 0) e H = some (e.put 0 (.list 4 xs .own), H) := fun e H h => by simp only [agh, h]
 have f3 : ∀ H, agh (.freeze 0) [(0, .list 4 xs .ro)] H = some ([(0, .list 4 xs .ro)], H) := fun H => f1 _ H .ro rfl (by simp)
 have f4 : ∀ H, agh (.freeze 0) [(0, .list 4 xs .own)] H = some ([(0, .list 4 xs .own)], H) := fun H => f1 _ H .own rfl (by simp)
 have f5 : ∀ H, agh (.freeze 0) [(0, .list 4 xs .full)] H = some ([(0, .list 4 xs .full)], H) := fun H => f1 _ H .full rfl (by simp)
 have f6 : ∀ H, agh (.freeze 0) [(0, .list 4 xs .uniq)] H = some ([(0, .list 4 xs .own)], H) := fun H => f2 _ H rfl
 refine W_fn0 rfl rfl ?_
 rcases hf with rfl | rfl | rfl | rfl <;> simp only [go_sem, trim_same, c_slices_Clip_api_Got_api_Got_, f3, f4, f5, f6, sl_clip, simprocAttr]
def recsF (b : Ba) (lo hi : Int) : Int → List Rc → List Gt
 | _, [] => []
 | i, r :: rs => if b.base + i ≥ lo ∧ b.base + i < hi then (b.base + i, b.prod, r) :: recsF b lo hi (i + 1) rs else recsF b lo hi (i + 1) rs
def recB (b : Ba) (lo hi : Int) : List Gt := if b.mark = 0 then recsF b lo hi 0 b.recs else []
def recordsL (lo hi : Int) : List Ba → List Gt
 | [] => []
 | b :: L => recB b lo hi ++ recordsL lo hi L
theorem recsF_len (b lo hi) : ∀ (rs : List Rc) (i : Int), (recsF b lo hi i rs).length ≤ rs.length
 | [], _ => by simp [recsF]
 | r :: rs, i => by
  unfold recsF
  have := recsF_len b lo hi rs (i + 1)
  split <;> simp <;> omega
theorem frecs_loop (b : Ba) (hb : Fit b) (lo hi : Int) (X : AVal) (n m : Int) (k : Nat) (H : Heap) (r : List Rc) : ∀ (p : List Rc) (out : List Gt) (fl : Fl) (N : Heap), b.recs = p ++ r → out.length ≤ 100000 + p.length →
  N[k]? = some (.cells b.cs) → (fl = .own ∨ (fl = .full ∧ out = [])) →
  ∃ N' fl', loopA W loopW (.ghost (.kill k_fold_Records_0) l_fold_Records_0) [(2, .int .i64 lo), (3, .int .i64 hi), (9, .list 4 (out.map gV) fl), (11, .ptr (pt H k) 0), (15, X), (16, .int .i64 n), (17, .int .i64 m), (25, .list 2 (b.recs.map rcV) .ro), (26, .int .i64 (b.recs.length : Nat)), (27, .int .i64 (p.length : Nat))] (hx H N) =
   some (.exit 2, [(2, .int .i64 lo), (3, .int .i64 hi), (9, .list 4 ((out ++ recsF b lo hi (p.length : Nat) r).map gV) fl'), (15, X), (16, .int .i64 n), (17, .int .i64 m)], hx H N') ∧ (fl' = .own ∨ (fl' = .full ∧ out ++ recsF b lo hi (p.length : Nat) r = [])) := by
 induction r with
 | nil =>
  intro p out fl N hp ho hk hfl
  rw [List.append_nil] at hp
  refine ⟨N, fl, ?_, ?_⟩
  ·have h1 : ¬ ((p.length : Int) < (p.length : Int)) := by omega
   rw [hp]
   rw [show recsF b lo hi (p.length : Nat) [] = [] from rfl, List.append_nil]
   refine loop_step l_fold_Records_0.eq_1 k_fold_Records_0.eq_1 (by kernel_rfl) ?_
   simp only [go_sem, h1, simprocAttr]
  ·rw [show recsF b lo hi (p.length : Nat) [] = [] from rfl, List.append_nil]; exact hfl
 | cons a r ih =>
  intro p out fl N hp ho hk hfl
  have hsm := (rightE_small hb.right).1
  have hbase := hb.base
  have hlen : b.recs.length = p.length + (r.length + 1) := by rw [hp]; simp
  have h1 : ((p.length : Int) < (b.recs.length : Int)) := by omega
  have e0 : (0 : Int) ≤ (p.length : Int) := by omega
  have e7 : ((p.length : Nat) : Int).toNat = p.length := by omega
  have e1 : (b.recs.map rcV)[p.length]? = some (.agg [.str a.1, .str a.2]) := by rw [hp]; simp [rcV]
  have e6 : IntKind.i64.wrap ((p.length : Int) + 1) = ((p.length + 1 : Nat) : Int) := by rw [wrap_id (by unfold I64; omega)]; omega
  have w1 : IntKind.i64.wrap (b.base + (p.length : Int)) = b.base + (p.length : Int) := wrap_id (by unfold I64; omega)
  have n0 : k < N.length := (List.getElem?_eq_some_iff.1 hk).1
  have n3 : (N ++ [.cells [.str a.1, .str a.2]])[k]? = some (.cells [.int .i64 b.base, .int .i64 b.prod, .int .i64 b.epoch, .int .i64 b.seq, .bool b.txn, .int .i64 b.mark, .list 2 (b.recs.map rcV) .ro]) := by rw [List.getElem?_append_left n0, hk]; rfl
  have n1 : ∀ x : Box, (N ++ [x])[N.length]? = some x := fun x => by simp
  have n2 : ∀ x z : Box, (N ++ [x]).set N.length z = N ++ [z] := fun x z => by simp
  have key : ∀ out' fl', (out' = if b.base + (p.length : Int) ≥ lo ∧ b.base + (p.length : Int) < hi then out ++ [(b.base + (p.length : Int), b.prod, a)] else out) → (fl' = .own ∨ (fl' = .full ∧ out' = [])) →
    ∃ N' fl'', loopA W loopW (.ghost (.kill k_fold_Records_0) l_fold_Records_0) [(2, .int .i64 lo), (3, .int .i64 hi), (9, .list 4 (out'.map gV) fl'), (11, .ptr (pt H k) 0), (15, X), (16, .int .i64 n), (17, .int .i64 m), (25, .list 2 (b.recs.map rcV) .ro), (26, .int .i64 (b.recs.length : Nat)), (27, .int .i64 (p.length + 1 : Nat))] (hx H (N ++ [.cells [.str a.1, .str a.2]])) =
   some (.exit 2, [(2, .int .i64 lo), (3, .int .i64 hi), (9, .list 4 ((out ++ recsF b lo hi (p.length : Nat) (a :: r)).map gV) fl''), (15, X), (16, .int .i64 n), (17, .int .i64 m)], hx H N') ∧ (fl'' = .own ∨ (fl'' = .full ∧ out ++ recsF b lo hi (p.length : Nat) (a :: r) = [])) := by
   intro out' fl' ho' hfl'
   have hl' : out'.length ≤ 100000 + (p ++ [a]).length := by
    rw [ho']; split <;> simp <;> omega
   have h3 : (N ++ [Box.cells [.str a.1, .str a.2]])[k]? = some (.cells b.cs) := by rw [List.getElem?_append_left n0, hk]
   obtain ⟨N', fl'', h, hh⟩ := ih (p ++ [a]) out' fl' (N ++ [.cells [.str a.1, .str a.2]]) (by rw [hp]; simp) hl' h3 hfl'
   have e : out' ++ recsF b lo hi ((p ++ [a]).length : Nat) r = out ++ recsF b lo hi (p.length : Nat) (a :: r) := by
    rw [ho']
    simp only [List.length_append, List.length_cons, List.length_nil, Nat.zero_add, Int.natCast_add, Int.cast_ofNat_Int]
    rw [show recsF b lo hi (p.length : Nat) (a :: r) = if b.base + (p.length : Int) ≥ lo ∧ b.base + (p.length : Int) < hi then (b.base + (p.length : Int), b.prod, a) :: recsF b lo hi ((p.length : Int) + 1) r else recsF b lo hi ((p.length : Int) + 1) r from rfl]
    split <;> simp
   rw [e] at h hh
   simp only [List.length_append, List.length_cons, List.length_nil, Nat.zero_add] at h
   exact ⟨N', fl'', h, hh⟩
  by_cases c1 : b.base + (p.length : Int) ≥ lo
  ·by_cases c2 : b.base + (p.length : Int) < hi
   ·obtain ⟨N', fl'', h, hh⟩ := key (out ++ [(b.base + (p.length : Int), b.prod, a)]) .own (by rw [if_pos ⟨c1, c2⟩]) (.inl rfl)
    refine ⟨N', fl'', ?_, hh⟩
    have bb : (out.length + 1) * 48 ≤ maxBytes := by simp only [maxBytes]; omega
    have b0 : (0 + 1) * 48 ≤ maxBytes := by decide
    have e8 : out.map gV ++ [.agg [.int .i64 (b.base + (p.length : Int)), .int .i64 b.prod, .str a.1, .str a.2]] = (out ++ [(b.base + (p.length : Int), b.prod, a)]).map gV := by simp [gV]
    generalize recsF b lo hi (p.length : Nat) (a :: r) = R at *
    refine loop_step l_fold_Records_0.eq_1 k_fold_Records_0.eq_1 (by kernel_rfl) ?_
    rcases hfl with rfl | ⟨rfl, rfl⟩
    ·simp only [go_sem, h1, e0, e7, e1, n1, n2, n3, w1, c1, c2, List.length_map, apO, bb, e8, e6, simprocAttr]
     exact h
    ·simp only [List.map_nil, List.nil_append] at *
     simp only [go_sem, h1, e0, e7, e1, n1, n2, n3, w1, c1, c2, List.length_map, apF, List.length_nil, b0, List.nil_append, e6, simprocAttr]
     rw [e8]
     exact h
   ·obtain ⟨N', fl'', h, hh⟩ := key out fl (by rw [if_neg (fun h => c2 h.2)]) hfl
    refine ⟨N', fl'', ?_, hh⟩
    generalize recsF b lo hi (p.length : Nat) (a :: r) = R at *
    refine loop_step l_fold_Records_0.eq_1 k_fold_Records_0.eq_1 (by kernel_rfl) ?_
    simp only [go_sem, h1, e0, e7, e1, n1, n2, n3, w1, c1, c2, e6, simprocAttr]
    exact h
  ·obtain ⟨N', fl'', h, hh⟩ := key out fl (by rw [if_neg (fun h => c1 h.1)]) hfl
   refine ⟨N', fl'', ?_, hh⟩
   generalize recsF b lo hi (p.length : Nat) (a :: r) = R at *
   refine loop_step l_fold_Records_0.eq_1 k_fold_Records_0.eq_1 (by kernel_rfl) ?_
   simp only [go_sem, h1, e0, e7, e1, n1, n2, n3, w1, c1, e6, simprocAttr]
   exact h
theorem recB_len (b : Ba) (hb : Fit b) (lo hi : Int) : (recB b lo hi).length ≤ 16 := by
 have := (rightE_small hb.right).1
 have := recsF_len b lo hi b.recs 0
 unfold recB
 split
 ·omega
 ·simp
set_option maxHeartbeats 1000000 in
theorem records_loop (L : List Ba) (hL : ∀ b ∈ L, Fit b) (hn : L.length ≤ 1000) (lo hi : Int) (H : Heap) (r : List Ba) : ∀ (p : List Ba) (out : List Gt) (fl : Fl) (N : Heap), L = p ++ r → out.length ≤ 16 * p.length → (fl = .own ∨ (fl = .full ∧ out = [])) →
  ∃ N' fl', loopA W loopW (.ghost (.kill k_fold_Records_1) l_fold_Records_1) [(2, .int .i64 lo), (3, .int .i64 hi), (9, .list 4 (out.map gV) fl), (15, .list 7 (L.map Ba.V) .ro), (16, .int .i64 (L.length : Nat)), (17, .int .i64 (p.length : Nat))] (hx H N) =
   some (.exit 0, [(9, .list 4 ((out ++ recordsL lo hi r).map gV) fl')], hx H N') ∧ (fl' = .own ∨ (fl' = .full ∧ out ++ recordsL lo hi r = [])) := by
 induction r with
 | nil =>
  intro p out fl N hp ho hfl
  rw [List.append_nil] at hp
  subst hp
  rw [show recordsL lo hi [] = [] from rfl, List.append_nil]
  refine ⟨N, fl, ?_, hfl⟩
  have h1 : ¬ ((L.length : Int) < (L.length : Int)) := by omega
  refine loop_step l_fold_Records_1.eq_1 k_fold_Records_1.eq_1 (by kernel_rfl) ?_
  simp only [go_sem, h1, simprocAttr]
 | cons b r ih =>
  intro p out fl N hp ho hfl
  have hb := hL b (by rw [hp]; simp)
  have hlen : L.length = p.length + (r.length + 1) := by rw [hp]; simp
  have h1 : ((p.length : Int) < (L.length : Int)) := by omega
  have e0 : (0 : Int) ≤ (p.length : Int) := by omega
  have e7 : ((p.length : Nat) : Int).toNat = p.length := by omega
  have e1 : (L.map Ba.V)[p.length]? = some (.agg [.int .i64 b.base, .int .i64 b.prod, .int .i64 b.epoch, .int .i64 b.seq, .bool b.txn, .int .i64 b.mark, .list 2 (b.recs.map rcV) .ro]) := by rw [hp]; simp [Ba.V, Ba.cs]
  have e6 : IntKind.i64.wrap ((p.length : Int) + 1) = ((p.length + 1 : Nat) : Int) := by rw [wrap_id (by unfold I64; omega)]; omega
  have n1 : ∀ x : Box, (N ++ [x])[N.length]? = some x := fun x => by simp
  have n2 : ∀ x z : Box, (N ++ [x]).set N.length z = N ++ [z] := fun x z => by simp
  by_cases c : b.mark = 0
  ·obtain ⟨N1, fl1, h2, hf1⟩ := frecs_loop b hb lo hi (.list 7 (L.map Ba.V) .ro) (L.length : Nat) (p.length : Nat) N.length H b.recs [] out fl (N ++ [.cells b.cs]) rfl (by omega) (by simp) hfl
   have er : recsF b lo hi (([] : List Rc).length : Nat) b.recs = recB b lo hi := by unfold recB; rw [if_pos c]; rfl
   rw [er] at h2 hf1
   have hrl := recB_len b hb lo hi
   obtain ⟨N', fl', h3, hf'⟩ := ih (p ++ [b]) (out ++ recB b lo hi) fl1 N1 (by rw [hp]; simp) (by simp; omega) hf1
   rw [List.append_assoc, show recB b lo hi ++ recordsL lo hi r = recordsL lo hi (b :: r) from rfl] at h3 hf'
   simp only [List.length_append, List.length_cons, List.length_nil, Nat.zero_add] at h3
   refine ⟨N', fl', ?_, hf'⟩
   generalize recordsL lo hi (b :: r) = R at *
   generalize recB b lo hi = R1 at *
   have c' : ¬ b.mark ≠ 0 := by omega
   simp only [List.length_nil, Int.natCast_zero] at h2
   unfold Ba.cs at *
   refine loop_step l_fold_Records_1.eq_1 k_fold_Records_1.eq_1 (by kernel_rfl) ?_
   simp only [go_sem, h1, e0, e7, e1, n1, n2, eq_true c, List.length_map, h2, e6, simprocAttr]
   exact h3
  ·have er : recB b lo hi = [] := by unfold recB; rw [if_neg c]
   obtain ⟨N', fl', h3, hf'⟩ := ih (p ++ [b]) out fl (N ++ [.cells b.cs]) (by rw [hp]; simp) (by simp; omega) hfl
   rw [show recordsL lo hi r = recordsL lo hi (b :: r) by rw [show recordsL lo hi (b :: r) = recB b lo hi ++ recordsL lo hi r from rfl, er]; rfl] at h3 hf'
   simp only [List.length_append, List.length_cons, List.length_nil, Nat.zero_add] at h3
   refine ⟨N', fl', ?_, hf'⟩
   generalize recordsL lo hi (b :: r) = R at *
   unfold Ba.cs at *
   refine loop_step l_fold_Records_1.eq_1 k_fold_Records_1.eq_1 (by kernel_rfl) ?_
   simp only [go_sem, h1, e0, e7, e1, n1, n2, c, e6, simprocAttr]
   exact h3
theorem records_spec (L : List Ba) (hL : ∀ b ∈ L, Fit b) (hn : L.length ≤ 1000) (st lo hi : Int) (H : Heap) :
  W n_fold_Records [.int .i64 st, .list 7 (L.map Ba.V) .ro, .int .i64 lo, .int .i64 hi] H = some (.list 4 ((recordsL lo hi L).map gV) .full, H) := by
 obtain ⟨N, fl, h, hf⟩ := records_loop L hL hn lo hi H L [] [] .full [] rfl (by simp) (.inr ⟨rfl, rfl⟩)
 simp only [List.length_nil, Int.natCast_zero, List.map_nil, List.nil_append] at h hf
 have tc := fun H => clip_got ((recordsL lo hi L).map gV) fl (by rcases hf with rfl | ⟨rfl, _⟩ <;> simp) H
 generalize recordsL lo hi L = R at *
 refine W_fn rfl rfl ?_
 rcases hf with rfl | ⟨rfl, rfl⟩
 ·simp only [go_sem, c_fold_Records, List.length_map, h, tc, under_g, simprocAttr]
 ·simp only [List.map_nil] at h tc ⊢
  simp only [go_sem, c_fold_Records, List.length_map, h, tc, simprocAttr]
  first | done | rfl
abbrev Opn := Int → Int
def stepO (O : Opn) (b : Ba) : Opn := fun id => if id = b.prod ∧ 0 ≤ b.prod then (if b.mark ≠ 0 then -1 else if b.txn = true ∧ O id < 0 then b.base else O id) else O id
def foldO (L : List Ba) (O : Opn) : Opn := L.foldl stepO O
structure Rep (M : List Pr) (O : Opn) : Prop where
 nd : (M.map Pr.id).Nodup
 val : ∀ p ∈ M, p.open_ = O p.id
 neg : ∀ id, (∀ p ∈ M, p.id ≠ id) → O id = -1
theorem applyP_open (p : Pr) (k : Bool) (b : Ba) : (applyP p k b).open_ = if b.mark ≠ 0 then -1 else if b.txn = true ∧ openP p k < 0 then b.base else openP p k := by
 unfold applyP; split <;> rfl
theorem Rep.open {M O} (h : Rep M O) (b : Ba) : openP ((M.find? fun p => p.id == b.prod).getD zeroPr) (M.find? fun p => p.id == b.prod).isSome = O b.prod := by
 cases hf : M.find? fun p => p.id == b.prod with
 | none =>
  have : O b.prod = -1 := h.neg _ (fun p hp e => by
   have := List.find?_eq_none.1 hf p hp
   simp [e] at this)
  rw [this]; rfl
 | some p =>
  have h1 := List.mem_of_find?_eq_some hf
  have h2 := List.find?_some hf
  have h3 : p.id = b.prod := by simpa using h2
  show p.open_ = _
  rw [h.val p h1, h3]
theorem Rep.put {M M' O} (h : Rep M O) (b : Ba) (hp : 0 ≤ b.prod) (x : Pr) (hx : x.id = b.prod) (ho : x.open_ = stepO O b b.prod) (hnd : (M'.map Pr.id).Nodup)
  (h1 : ∀ p ∈ M', p = x ∨ (p ∈ M ∧ p.id ≠ b.prod)) (h2 : x ∈ M') (h3 : ∀ p ∈ M, p.id ≠ b.prod → p ∈ M') : Rep M' (stepO O b) where
 nd := hnd
 val := fun p hp' => by
  rcases h1 p hp' with rfl | ⟨h4, h5⟩
  ·rw [hx, ho]
  ·rw [h.val p h4]; unfold stepO; rw [if_neg (fun h => h5 h.1)]
 neg := fun id hid => by
  have hne : id ≠ b.prod := fun e => hid x h2 (by rw [hx, e])
  unfold stepO
  rw [if_neg (fun h => hne h.1)]
  refine h.neg id (fun p hp' e => ?_)
  exact hid p (h3 p hp' (by rw [e]; exact hne)) e
theorem stepO_neg (O : Opn) (b : Ba) (h : b.prod < 0) : stepO O b = O := by
 funext id; unfold stepO; rw [if_neg (by omega)]
theorem nodup_find : ∀ {M : List Pr} {q : Pr}, (M.map Pr.id).Nodup → q ∈ M → M.find? (fun p => p.id == q.id) = some q
 | [], _, _, h => by cases h
 | a :: X, q, hnd, hq => by
  rw [List.find?_cons]
  rw [List.map_cons, List.nodup_cons] at hnd
  rcases List.mem_cons.1 hq with rfl | hq'
  ·simp
  ·have : (a.id == q.id) = false := by
    simp only [beq_eq_false_iff_ne]
    intro e
    exact hnd.1 (e ▸ List.mem_map_of_mem (f := Pr.id) hq')
   rw [this]; exact nodup_find hnd.2 hq'
theorem setM_ids (M : List Pr) (x : Pr) : (setM M x).map Pr.id = if (M.find? fun p => p.id == x.id).isSome then M.map Pr.id else M.map Pr.id ++ [x.id] := by
 rw [← getM_find]
 unfold setM getM
 cases h : idxM x.id M with
 | none => simp
 | some i =>
  obtain ⟨p, h1, h2⟩ := idxM_mem h
  simp only [Option.bind_some, h1, Option.isSome_some, if_true]
  rw [List.map_set]
  refine List.ext_getElem? fun k => ?_
  rw [List.getElem?_set]
  split
  ·rename_i e
   subst e
   split
   ·rw [List.getElem?_map, h1, Option.map_some, h2]
   ·rename_i h3
    rw [List.length_map] at h3
    exact absurd (List.getElem?_eq_some_iff.1 h1).1 h3
  ·rfl
theorem Rep.stepM {M O} (h : Rep M O) (b : Ba) (hr : rightE b = 0) : Rep (stepM M b) (stepO O b) := by
 unfold Go.Abs.stepM
 by_cases hp : b.prod < 0
 ·rw [if_pos (.inr hp), stepO_neg O b hp]; exact h
 ·rw [if_neg (by omega)]
  rw [getM_find]
  have ho := h.open b
  have hx := applyP_id ((M.find? fun p => p.id == b.prod).getD zeroPr) (M.find? fun p => p.id == b.prod).isSome b
  have hxo := applyP_open ((M.find? fun p => p.id == b.prod).getD zeroPr) (M.find? fun p => p.id == b.prod).isSome b
  rw [ho] at hxo
  generalize applyP ((M.find? fun p => p.id == b.prod).getD zeroPr) (M.find? fun p => p.id == b.prod).isSome b = x at *
  have hids := setM_ids M x
  rw [hx] at hids
  have hnd : ((setM M x).map Pr.id).Nodup := by
   rw [hids]
   split
   ·exact h.nd
   ·rename_i hn
    rw [List.nodup_append]
    refine ⟨h.nd, by simp, fun a ha c hc e => ?_⟩
    simp only [List.mem_singleton] at hc
    subst hc; subst e
    obtain ⟨p, hp1, hp2⟩ := List.mem_map.1 ha
    apply hn
    rw [List.find?_isSome]
    exact ⟨p, hp1, by simp [hp2]⟩
  have hmem : ∀ q, q ∈ setM M x ↔ getM q.id (setM M x) = some q := fun q => ⟨fun hq => by rw [getM_find]; exact nodup_find hnd hq, fun hq => getM_mem hq⟩
  have hmemM : ∀ q, q ∈ M → getM q.id M = some q := fun q hq => by rw [getM_find]; exact nodup_find h.nd hq
  refine h.put b (by omega) x hx ?_ hnd ?_ ?_ ?_
  ·rw [hxo]; exact (if_pos (⟨rfl, by omega⟩ : b.prod = b.prod ∧ 0 ≤ b.prod)).symm
  ·intro p hp'
   rw [hmem, getM_set] at hp'
   split at hp'
   ·simp only [Option.some.injEq] at hp'; exact .inl hp'.symm
   ·rename_i e
    exact .inr ⟨getM_mem hp', by rw [← hx]; exact e⟩
  ·rw [hmem, getM_set, if_pos rfl]
  ·intro p hp' hne
   rw [hmem, getM_set, if_neg (by rw [hx]; exact hne)]
   exact hmemM p hp'
abbrev Srt (L : List Pr) : Prop := L.Pairwise (fun p q => p.id < q.id)
theorem Srt.nd {L : List Pr} (h : Srt L) : (L.map Pr.id).Nodup := by
 rw [List.Nodup, List.pairwise_map]
 exact h.imp (fun h => by omega)
theorem below_take (id : Int) : ∀ (L : List Pr), ∀ p ∈ L.take (belowN id L), p.id < id
 | [], p, h => by simp [belowN] at h
 | a :: L, p, h => by
  unfold belowN at h
  split at h
  ·rename_i c
   rw [List.take_succ_cons, List.mem_cons] at h
   rcases h with rfl | h
   ·exact c
   ·exact below_take id L p h
  ·simp at h
theorem below_drop (id : Int) : ∀ (L : List Pr), Srt L → ∀ p ∈ L.drop (belowN id L), id ≤ p.id
 | [], _, p, h => by simp at h
 | a :: L, hs, p, h => by
  unfold belowN at h
  have hs' := List.pairwise_cons.1 hs
  split at h
  ·rw [List.drop_succ_cons] at h
   exact below_drop id L hs'.2 p h
  ·rename_i c
   rw [List.drop_zero, List.mem_cons] at h
   rcases h with rfl | h
   ·omega
   ·have := hs'.1 p h; omega
theorem atP_find (id : Int) (L : List Pr) (hs : Srt L) : atP id L = L.find? (fun p => p.id == id) := by
 have h1 := below_take id L
 have h2 := below_drop id L hs
 have h3 : L.find? (fun p => p.id == id) = (L.drop (belowN id L)).find? (fun p => p.id == id) := by
  conv => lhs; rw [← List.take_append_drop (belowN id L) L]
  rw [List.find?_append]
  have : (L.take (belowN id L)).find? (fun p => p.id == id) = none := by
   rw [List.find?_eq_none]
   intro p hp; have := h1 p hp; simp; omega
  rw [this]; rfl
 rw [h3]
 unfold atP
 have hs2 : Srt (L.drop (belowN id L)) := hs.sublist (List.drop_sublist _ _)
 have h4 : L[belowN id L]? = (L.drop (belowN id L))[0]? := by rw [List.getElem?_drop]; rfl
 rw [h4]
 generalize L.drop (belowN id L) = D at *
 cases D with
 | nil => rfl
 | cons a D =>
  simp only [List.getElem?_cons_zero, List.find?_cons]
  by_cases e : a.id = id
  ·simp [e]
  ·have e' : (a.id == id) = false := by simpa using e
   rw [if_neg e, e']
   have ha := h2 a List.mem_cons_self
   have : D.find? (fun p => p.id == id) = none := by
    rw [List.find?_eq_none]
    intro p hp
    have := (List.pairwise_cons.1 hs2).1 p hp
    simp; omega
   rw [this]
theorem Srt.tabL {L : List Pr} (hs : Srt L) (b : Ba) (hr : rightE b = 0) {O : Opn} (h : Rep L O) : Srt (tabL L b) ∧ Rep (tabL L b) (stepO O b) := by
 unfold Go.Abs.tabL
 by_cases hp : b.prod < 0
 ·rw [if_pos (.inr hp), stepO_neg O b hp]; exact ⟨hs, h⟩
 ·rw [if_neg (by omega)]
  have ho := h.open b
  have hx := applyP_id ((L.find? fun p => p.id == b.prod).getD zeroPr) (L.find? fun p => p.id == b.prod).isSome b
  have hxo := applyP_open ((L.find? fun p => p.id == b.prod).getD zeroPr) (L.find? fun p => p.id == b.prod).isSome b
  rw [ho] at hxo
  have hxo' : (applyP ((L.find? fun p => p.id == b.prod).getD zeroPr) (L.find? fun p => p.id == b.prod).isSome b).open_ = stepO O b b.prod := by
   rw [hxo]; exact (if_pos (⟨rfl, by omega⟩ : b.prod = b.prod ∧ 0 ≤ b.prod)).symm
  have hat := atP_find b.prod L hs
  rw [← hat] at hx hxo'
  cases hf : atP b.prod L with
  | some p =>
   rw [hf] at hx hxo'
   simp only
   have hx : (applyP p true b).id = b.prod := hx
   have hxo' : (applyP p true b).open_ = stepO O b b.prod := hxo'
   generalize applyP p true b = x at *
   obtain ⟨hp1, hp2⟩ := atP_mem hf
   have hp3 : p.id = b.prod := by
    rw [hat] at hf
    simpa using List.find?_some hf
   have hi : belowN b.prod L < L.length := (List.getElem?_eq_some_iff.1 hp2).1
   have hids : (L.set (belowN b.prod L) x).map Pr.id = L.map Pr.id := by
    rw [List.map_set]
    refine List.ext_getElem? fun k => ?_
    rw [List.getElem?_set]
    split
    ·rename_i e
     subst e
     rw [if_pos (by rw [List.length_map]; exact hi), List.getElem?_map, hp2, Option.map_some, hp3, hx]
    ·rfl
   have hsx : Srt (L.set (belowN b.prod L) x) := by
    have h1 : (L.map Pr.id).Pairwise (· < ·) := List.pairwise_map.2 hs
    rw [← hids] at h1
    exact List.pairwise_map.1 h1
   refine ⟨hsx, h.put b (by omega) x hx hxo' hsx.nd ?_ (List.mem_iff_getElem?.2 ⟨_, by rw [List.getElem?_set, if_pos rfl, if_pos hi]⟩) ?_⟩
   ·intro q hq
    rcases List.mem_or_eq_of_mem_set hq with h1 | rfl
    ·by_cases e : q.id = b.prod
     ·have := nodup_find hsx.nd hq
      have h2 := nodup_find hsx.nd (List.mem_iff_getElem?.2 ⟨_, by rw [List.getElem?_set, if_pos rfl, if_pos hi]⟩ : x ∈ L.set (belowN b.prod L) x)
      rw [show x.id = q.id by rw [hx, e], this] at h2
      simp only [Option.some.injEq] at h2
      exact .inl h2
     ·exact .inr ⟨h1, e⟩
    ·exact .inl rfl
   ·intro q hq hne
    obtain ⟨k, hk⟩ := List.mem_iff_getElem?.1 hq
    refine List.mem_iff_getElem?.2 ⟨k, ?_⟩
    rw [List.getElem?_set]
    by_cases e : belowN b.prod L = k
    ·subst e
     rw [hp2] at hk
     simp only [Option.some.injEq] at hk
     exact absurd (hk ▸ hp3) hne
    ·rw [if_neg e]; exact hk
  | none =>
   rw [hf] at hx hxo'
   simp only
   have hx : (applyP zeroPr false b).id = b.prod := hx
   have hxo' : (applyP zeroPr false b).open_ = stepO O b b.prod := hxo'
   generalize applyP zeroPr false b = x at *
   have hno : ∀ p ∈ L, p.id ≠ b.prod := by
    rw [hat, List.find?_eq_none] at hf
    intro p hp e
    exact hf p hp (by simp [e])
   have h1 := below_take b.prod L
   have h2 := below_drop b.prod L hs
   have hL := List.take_append_drop (belowN b.prod L) L
   have hs1 : Srt (L.take (belowN b.prod L)) := hs.sublist (List.take_sublist _ _)
   have hs2 : Srt (L.drop (belowN b.prod L)) := hs.sublist (List.drop_sublist _ _)
   have hm : ∀ q, q ∈ L ↔ q ∈ L.take (belowN b.prod L) ∨ q ∈ L.drop (belowN b.prod L) := fun q => by
    conv => lhs; rw [← hL]
    exact List.mem_append
   have hm1 : ∀ q ∈ L.drop (belowN b.prod L), b.prod < q.id := fun q hq => by
    have a1 := h2 q hq
    have a2 := hno q ((hm q).2 (.inr hq))
    omega
   generalize L.take (belowN b.prod L) = A at *
   generalize L.drop (belowN b.prod L) = B at *
   have hsx : Srt (A ++ [x] ++ B) := by
    rw [List.append_assoc]
    refine List.pairwise_append.2 ⟨hs1, List.pairwise_append.2 ⟨by simp, hs2, ?_⟩, ?_⟩
    ·intro p hp q hq
     simp only [List.mem_singleton] at hp
     rw [hp, hx]; exact hm1 q hq
    ·intro p hp q hq
     rw [List.mem_append, List.mem_singleton] at hq
     have := h1 p hp
     rcases hq with rfl | hq
     ·rw [hx]; exact this
     ·have := hm1 q hq; omega
   refine ⟨hsx, h.put b (by omega) x hx hxo' hsx.nd ?_ (by simp) ?_⟩
   ·intro q hq
    simp only [List.mem_append, List.mem_singleton] at hq
    rcases hq with (hq | rfl) | hq
    ·exact .inr ⟨(hm q).2 (.inl hq), hno q ((hm q).2 (.inl hq))⟩
    ·exact .inl rfl
    ·exact .inr ⟨(hm q).2 (.inr hq), hno q ((hm q).2 (.inr hq))⟩
   ·intro q hq _
    simp only [List.mem_append, List.mem_singleton]
    rcases (hm q).1 hq with h | h
    ·exact .inl (.inl h)
    ·exact .inr h
def stableE (start : Int) (L : List Ba) : Int := if (openM (foldM L [])).2 = true then (openM (foldM L [])).1 else endE start L
theorem stable_spec (L : List Ba) (hL : ∀ b ∈ L, Fit b) (hn : L.length ≤ 1000) (start : Int) (H : Heap) :
  W n_fold_Stable [.int .i64 start, .list 7 (L.map Ba.V) .ro] H = some (.int .i64 (stableE start L), H) := by
 obtain ⟨N, t1⟩ := tfold_spec L (fun b hb => (hL b hb).ok) (fun b hb => by have := (rightE_small (hL b hb).right).1; omega) hn (hx H [])
 have t2 := fun N' => topen_spec (foldM L []) (pt H 1) (pt H 0) (hx H (mapB (foldM L []) :: tblB (pt H 0) :: N')) ⟨by rw [hx_get]; rfl⟩ ⟨by rw [hx_get]; rfl⟩
 have t3 := fun H => fend_spec L hL (by omega) start H
 unfold stableE
 have p1 : pt (hx H []) 1 = pt H 1 := by rw [pt_hx]; rfl
 have p0 : pt (hx H []) 0 = pt H 0 := by rw [pt_hx]; rfl
 rw [p1, p0, hx_hx, List.nil_append] at t1
 generalize openM (foldM L []) = s at *
 generalize mapB (foldM L []) = B at *
 obtain ⟨a, b⟩ := s
 refine W_fn rfl rfl ?_
 cases b with
 | true =>
  simp only [go_sem, c_fold_Stable, t1, t2, simprocAttr]
 | false =>
  simp only [go_sem, c_fold_Stable, t1, t2, t3, simprocAttr]
end Go.Abs
