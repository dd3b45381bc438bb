import Derived.Test.YtheaccppdikjgaaGreatDoorKC
namespace Go.Abs
open Go Go.RowKit
set_option linter.unusedVariables false
set_option linter.unusedSimpArgs false
def hx (H L : Heap) : Heap := H ++ L
def pt (H : Heap) (k : Nat) : Nat := H.length + k
theorem hx_nil (H : Heap) : hx H [] = H := List.append_nil H
theorem hx_get (H L : Heap) (k : Nat) : (hx H L)[pt H k]? = L[k]? := by
 unfold hx pt; rw [List.getElem?_append_right (by omega)]; congr 1; omega
theorem hx_set (H L : Heap) (k : Nat) (B : Box) : (hx H L).set (pt H k) B = hx H (L.set k B) := by
 unfold hx pt; rw [List.set_append_right _ _ (by omega)]; congr 2; omega
theorem hx_app (H L M : Heap) : hx H L ++ M = hx H (L ++ M) := by unfold hx; rw [List.append_assoc]
theorem hx_len (H L : Heap) : (hx H L).length = pt H L.length := by unfold hx pt; rw [List.length_append]
theorem h_alloc (c : CallF) (cs H L) : ev c (.alloc cs) [] (hx H L) = some (.ptr (pt H L.length) 0, hx H (L ++ [.cells cs])) := by
 rw [e_alloc, hx_len, hx_app]
theorem h_box (c : CallF) (x H L) : ev c .box [x] (hx H L) = if x.known = true then some (.ptr (pt H L.length) 0, hx H (L ++ [.cells x.flat])) else none := by
 rw [e_box, hx_len, hx_app]
def gd {α : Type} (b : Bool) (x : Option α) : Option α := if b = true then x else none
theorem gd_T {α : Type} (x : Option α) : gd true x = x := rfl
def ld1 : Option AVal → Option AVal
 | some v => if v.hasU = true then none else some v.share
 | none => none
def stripN : Nat → List AVal → Option (List AVal)
 | 0, _ => some []
 | n + 1, c :: cs => if c.hasU = true then none else (stripN n cs).bind fun l => some (c.strip :: l)
 | _ + 1, [] => none
theorem stripN_eq : ∀ (n : Nat) (cs : List AVal), stripN n cs = if n ≤ cs.length ∧ (cs.take n).all (fun c => !c.hasU) = true then some ((cs.take n).map AVal.strip) else none
 | 0, cs => by simp [stripN]
 | n + 1, [] => by simp [stripN]
 | n + 1, c :: cs => by
  rw [stripN, stripN_eq n cs]
  cases h : c.hasU
  ·rw [if_neg (by decide)]
   by_cases h1 : n ≤ cs.length ∧ (cs.take n).all (fun c => !c.hasU) = true
   ·rw [if_pos h1, if_pos ⟨by simp [h1.1], by rw [List.take_succ_cons, List.all_cons, h, h1.2]; rfl⟩]; rfl
   ·rw [if_neg h1, if_neg]
    ·rfl
    ·rintro ⟨h2, h3⟩
     rw [List.take_succ_cons, List.all_cons, Bool.and_eq_true] at h3
     exact h1 ⟨by simpa using h2, h3.2⟩
  ·rw [if_pos rfl, if_neg]
   rintro ⟨h2, h3⟩
   rw [List.take_succ_cons, List.all_cons, h] at h3
   cases h3
theorem ldC_A (n cs) : ldCells true n cs = (stripN n cs).bind fun l => some (.agg l) := by
 rw [stripN_eq]; unfold ldCells; simp only [if_true]
 by_cases h : n ≤ cs.length ∧ (cs.take n).all (fun c => !c.hasU) = true
 ·rw [if_pos h, if_pos h]; rfl
 ·rw [if_neg h, if_neg h]; rfl
theorem ldC_1 (cs : List AVal) (off : Nat) : ldCells false 1 (cs.drop off) = ld1 cs[off]? := by
 unfold ldCells
 cases h : cs[off]? with
 | none =>
  have h1 : cs.length ≤ off := List.getElem?_eq_none_iff.1 h
  rw [List.drop_eq_nil_of_le h1]; rfl
 | some v =>
  obtain ⟨h1, h2⟩ := List.getElem?_eq_some_iff.1 h
  rw [List.drop_eq_getElem_cons h1, h2]
  simp only [ld1, List.take_succ_cons, List.take_zero, List.all_cons, List.all_nil, Bool.and_true, List.length_cons, List.head?_cons, Option.map_some]
  cases v.hasU <;> simp
def ldG (agg : Bool) (n : Nat) (tk : Bool) (off i : Nat) (H : Heap) : Option Box → Option (AVal × Heap)
 | some (.cells cs) => if tk = true then (if agg = true then none else if n = 1 then (cs[off]?).bind fun V => some (V, H.set i (.cells (cs.set off V.demote))) else none) else valA H (ldCells agg n (cs.drop off))
 | _ => none
theorem h_load (agg n tk off i H) : evLoad agg n tk (.ptr i off) H = ldG agg n tk off i H H[i]? := by
 unfold evLoad
 cases h : H[i]? with
 | none => simp only [h]; rfl
 | some B =>
  cases B <;> simp only [h] <;> try rfl
  rename_i cs
  cases tk
  ·simp only [ldG, Bool.false_eq_true, if_false]
   cases ldCells agg n (cs.drop off) <;> rfl
  ·simp only [ldG, if_true]
   cases agg
   ·simp only [Bool.false_eq_true, if_false]
    split
    ·cases cs[off]? <;> rfl
    ·rfl
   ·rfl
theorem h_ldF (off i H cs) : ldG false 1 false off i H (some (.cells cs)) = valA H (ld1 cs[off]?) := by
 simp only [ldG, Bool.false_eq_true, if_false, ldC_1]
theorem h_ldT (off i H cs) : ldG false 1 true off i H (some (.cells cs)) = (cs[off]?).bind fun V => some (V, H.set i (.cells (cs.set off V.demote))) := rfl
theorem h_ldA (n off i H cs) : ldG true n false off i H (some (.cells cs)) = (stripN n (cs.drop off)).bind fun l => some (.agg l, H) := by
 simp only [ldG, Bool.false_eq_true, if_false, ldC_A]
 cases stripN n (cs.drop off) <;> rfl
theorem ld1_some (v) : ld1 (some v) = if v.hasU = true then none else some v.share := rfl
theorem sN_0 (cs) : stripN 0 cs = some [] := by cases cs <;> rfl
theorem sN_s (n c cs) : stripN (n + 1) (c :: cs) = if c.hasU = true then none else (stripN n cs).bind fun l => some (c.strip :: l) := rfl
theorem e_fieldF (c : CallF) (off cs H) : ev c (.field false off 1) [.agg cs] H = valA H (ld1 cs[off]?) := by rw [e_field, ldC_1]
theorem e_fieldA (c : CallF) (off n cs H) : ev c (.field true off n) [.agg cs] H = (stripN n (cs.drop off)).bind fun l => some (.agg l, H) := by
 rw [e_field, ldC_A]; cases stripN n (cs.drop off) <;> rfl
theorem r_ldF (cs H) : evLoad false 1 false (.rptr cs) H = valA H (ld1 cs[0]?) := by
 have h := ldC_1 cs 0
 rw [List.drop_zero] at h
 show Option.map _ (ldCells false 1 cs) = _
 rw [h]
 cases ld1 cs[0]? <;> rfl
theorem r_ldA (n cs H) : evLoad true n false (.rptr cs) H = (stripN n cs).bind fun l => some (.agg l, H) := by
 show Option.map _ (ldCells true n cs) = _
 rw [ldC_A]; cases stripN n cs <;> rfl
def AVal.allOne : List AVal → Bool
 | [] => true
 | v :: vs => v.one && AVal.allOne vs
theorem allOne_eq : ∀ l : List AVal, l.all AVal.one = AVal.allOne l
 | [] => rfl
 | v :: vs => by rw [List.all_cons, allOne_eq vs]; rfl
def stG (n off i : Nat) (ys : List AVal) (H : Heap) : Option Box → Option (AVal × Heap)
 | some (.cells cs) => if off + n ≤ cs.length then some (.tuple [], H.set i (.cells (overwrite cs off ys))) else none
 | _ => none
theorem flat_one (v : AVal) (h : v.one = true) : v.flat = [v] := by cases v <;> first | rfl | cases h
theorem one_share (v : AVal) (h : v.one = true) : v.strip.one = true := by cases v <;> first | rfl | cases h
theorem h_st1_ (off v i H) (h : v.one = true) : evStore 1 (.ptr i off) v H = stG 1 off i [v] H H[i]? := by
 unfold evStore
 rw [flat_one v h, if_pos ⟨rfl, by decide, by simp [h]⟩]
 cases hB : H[i]? with
 | none => simp only [hB]; rfl
 | some B => cases B <;> simp only [hB] <;> rfl
theorem h_stA_ (n off vs i H) (h : vs.length = n) (h0 : 0 < n) (h1 : AVal.allOne (vs.map AVal.share0) = true) : evStore n (.ptr i off) (.agg vs) H = stG n off i (vs.map AVal.share0) H H[i]? := by
 unfold evStore
 rw [show AVal.flat (.agg vs) = vs.map AVal.share0 from rfl, if_pos ⟨by rw [List.length_map]; exact h, h0, by rw [allOne_eq]; exact h1⟩]
 cases hB : H[i]? with
 | none => simp only [hB]; rfl
 | some B => cases B <;> simp only [hB] <;> rfl
def st1X (off : Nat) (v : AVal) (i : Nat) (H : Heap) : Bool → Option (AVal × Heap)
 | true => stG 1 off i [v] H H[i]?
 | false => evStore 1 (.ptr i off) v H
theorem h_st1 (off v i H) : evStore 1 (.ptr i off) v H = st1X off v i H v.one := by
 cases h : v.one with
 | true => exact h_st1_ off v i H h
 | false => rfl
theorem h_st1T (off v i H) : st1X off v i H true = stG 1 off i [v] H H[i]? := rfl
def stB (n off i : Nat) (ys : List AVal) (H : Heap) : Option Box → Option (AVal × Heap)
 | some (.cells cs) => gd (decide (off + n ≤ cs.length)) (some (.tuple [], H.set i (.cells (overwrite cs off ys))))
 | _ => none
theorem stB_eq (n off i ys H B) : stB n off i ys H B = stG n off i ys H B := by
 cases B with
 | none => rfl
 | some B =>
  cases B <;> first | rfl | skip
  rename_i cs
  simp only [stB, stG, gd, decide_eq_true_eq]
def stAX (n off : Nat) (vs : List AVal) (i : Nat) (H : Heap) : Bool → Option (AVal × Heap)
 | true => stB n off i (vs.map AVal.share0) H H[i]?
 | false => evStore n (.ptr i off) (.agg vs) H
theorem h_stA (n off vs i H) : evStore n (.ptr i off) (.agg vs) H = stAX n off vs i H (vs.length == n && (n != 0 && AVal.allOne (vs.map AVal.share0))) := by
 cases h : (vs.length == n && (n != 0 && AVal.allOne (vs.map AVal.share0))) with
 | false => rfl
 | true =>
  simp only [Bool.and_eq_true, beq_iff_eq, bne_iff_ne, ne_eq] at h
  show _ = stB n off i (vs.map AVal.share0) H H[i]?
  rw [stB_eq]
  exact h_stA_ n off vs i H h.1 (by omega) h.2.2
theorem h_stAT (n off vs i H) : stAX n off vs i H true = stB n off i (vs.map AVal.share0) H H[i]? := rfl
theorem stB_c (n off i ys H cs) : stB n off i ys H (some (.cells cs)) = gd (decide (off + n ≤ cs.length)) (some (.tuple [], H.set i (.cells (overwrite cs off ys)))) := rfl
theorem ow_0 (cs ys : List AVal) : overwrite cs 0 ys = ys ++ cs.drop ys.length := by simp [overwrite]
theorem ow_s (c : AVal) (cs : List AVal) (n : Nat) (ys : List AVal) : overwrite (c :: cs) (n + 1) ys = c :: overwrite cs n ys := by
 simp [overwrite, Nat.add_right_comm]
def setO (cs : List AVal) (off : Nat) (v : AVal) : Option (List AVal) := if off < cs.length then some (cs.set off v) else none
theorem ow_1 (cs : List AVal) (off v) (h : off + 1 ≤ cs.length) : overwrite cs off [v] = cs.set off v := by
 unfold overwrite
 induction cs generalizing off with
 | nil => simp at h
 | cons c cs ih =>
  cases off with
  | zero => simp
  | succ off =>
   have := ih off (by simpa using h)
   simpa using this
theorem h_st1' (off v i H cs) : stG 1 off i [v] H (some (.cells cs)) = (setO cs off v).bind fun cs => some (.tuple [], H.set i (.cells cs)) := by
 unfold setO
 show (if off + 1 ≤ cs.length then _ else _) = _
 by_cases h : off + 1 ≤ cs.length
 ·rw [if_pos h, if_pos (by omega), ow_1 cs off v h]; rfl
 ·rw [if_neg h, if_neg (by omega)]; rfl
theorem sO_0 (c cs v) : setO (c :: cs) 0 v = some (v :: cs) := rfl
theorem sO_s (c cs n v) : setO (c :: cs) (n + 1) v = (setO cs n v).bind fun l => some (c :: l) := by
 unfold setO
 by_cases h : n < cs.length
 ·rw [if_pos h, if_pos (by simp; omega)]; rfl
 ·rw [if_neg h, if_neg (by simp; omega)]; rfl
theorem hx_hx (H L M : Heap) : hx (hx H L) M = hx H (L ++ M) := by unfold hx; rw [List.append_assoc]
theorem hx_old {H : Heap} {i : Nat} {B : Box} (h : H[i]? = some B) (L : Heap) : (hx H L)[i]? = some B := by
 unfold hx; rw [List.getElem?_append_left (List.getElem?_eq_some_iff.1 h).1]; exact h
theorem hx_olds {H : Heap} {i : Nat} {B : Box} (h : H[i]? = some B) (L : Heap) (B' : Box) : (hx H L).set i B' = hx (H.set i B') L := by
 unfold hx; rw [List.set_append_left _ _ (List.getElem?_eq_some_iff.1 h).1]
theorem hx_oldt {H : Heap} {i : Nat} {B : Box} (h : H[i]? = some B) (B' : Box) : (H.set i B')[i]? = some B' := by
 rw [List.getElem?_set_self (List.getElem?_eq_some_iff.1 h).1]
theorem one_int (k n) : AVal.one (.int k n) = true := rfl
theorem one_bool (b) : AVal.one (.bool b) = true := rfl
theorem one_str (s) : AVal.one (.str s) = true := rfl
theorem one_list (sz xs fl) : AVal.one (.list sz xs fl) = true := rfl
theorem one_ptr (i o) : AVal.one (.ptr i o) = true := rfl
theorem one_nilp : AVal.one .nilp = true := rfl
theorem one_fn (f a b) : AVal.one (.fn f a b) = true := rfl
theorem one_nilfn : AVal.one .nilfn = true := rfl
theorem one_iface (t v) : AVal.one (.iface t v) = true := rfl
theorem one_niliface : AVal.one .niliface = true := rfl
theorem kn_agg (cs) : AVal.known (.agg cs) = true := rfl
theorem kn_int (k n) : AVal.known (.int k n) = true := rfl
theorem kn_bool (b) : AVal.known (.bool b) = true := rfl
theorem kn_str (s) : AVal.known (.str s) = true := rfl
theorem kn_list (sz xs fl) : AVal.known (.list sz xs fl) = true := rfl
theorem kn_ptr (i o) : AVal.known (.ptr i o) = true := rfl
theorem kn_fn (f a b) : AVal.known (.fn f a b) = true := rfl
theorem fl_agg (cs) : AVal.flat (.agg cs) = cs.map AVal.share0 := rfl
theorem fl_int (k n) : AVal.flat (.int k n) = [.int k n] := rfl
theorem fl_bool (b) : AVal.flat (.bool b) = [.bool b] := rfl
theorem fl_str (s) : AVal.flat (.str s) = [.str s] := rfl
theorem fl_list (sz xs fl) : AVal.flat (.list sz xs fl) = [.list sz xs fl] := rfl
theorem fl_ptr (i o) : AVal.flat (.ptr i o) = [.ptr i o] := rfl
theorem fl_fn (f a b) : AVal.flat (.fn f a b) = [.fn f a b] := rfl
theorem aO_nil : AVal.allOne [] = true := rfl
theorem aO_cons (v vs) : AVal.allOne (v :: vs) = (v.one && AVal.allOne vs) := rfl
def fillN (cs : List AVal) : List (Nat × Nat) → List AVal → Option (List AVal)
 | [], [] => some cs
 | (off, n) :: ps, x :: xs => if x.known = true then (if x.argOK = true then (if x.strip.cells.length = n then (if off + n ≤ cs.length then fillN (overwrite cs off x.strip.cells) ps xs else none) else none) else none) else none
 | _, _ => none
theorem fillA_N : ∀ (ps : List (Nat × Nat)) (xs cs : List AVal), fillA cs ps xs = fillN cs ps xs
 | [], [], cs => rfl
 | [], _ :: _, cs => rfl
 | _ :: _, [], cs => rfl
 | (off, n) :: ps, x :: xs, cs => by
  rw [fillA, fillN, fillA_N ps xs]
  by_cases h1 : x.known = true <;> by_cases h2 : x.argOK = true <;> by_cases h3 : x.strip.cells.length = n <;> by_cases h4 : off + n ≤ cs.length <;> simp [h1, h2, h3, h4]
theorem e_build' (c : CallF) (z ps xs H) : ev c (.build z ps) xs H = (fillN z ps xs).bind fun cs => some (.agg cs, H) := by rw [e_build, fillA_N]
theorem e_buildF (c : CallF) (z ps xs H) : ev c (.buildF z ps) xs H = (fillAF z ps xs).bind fun cs => some (.agg cs, H) := by
 simp only [ev, Option.map_eq_bind]; rfl
theorem fF_nil (cs) : fillAF cs [] [] = some cs := rfl
theorem fF_int (cs off ps xs k n) : fillAF cs ((off, 1) :: ps) (.int k n :: xs) = gd (decide (off + 1 ≤ cs.length)) (fillAF (overwrite cs off [.int k n]) ps xs) := by
 simp [fillAF, gd, AVal.stripF, AVal.strip, AVal.cells, AVal.known, AVal.one, AVal.argOK, AVal.isU]
theorem fF_bool (cs off ps xs b) : fillAF cs ((off, 1) :: ps) (.bool b :: xs) = gd (decide (off + 1 ≤ cs.length)) (fillAF (overwrite cs off [.bool b]) ps xs) := by
 simp [fillAF, gd, AVal.stripF, AVal.strip, AVal.cells, AVal.known, AVal.one, AVal.argOK, AVal.isU]
theorem fF_ptr (cs off ps xs b o) : fillAF cs ((off, 1) :: ps) (.ptr b o :: xs) = gd (decide (off + 1 ≤ cs.length)) (fillAF (overwrite cs off [.ptr b o]) ps xs) := by
 simp [fillAF, gd, AVal.stripF, AVal.strip, AVal.cells, AVal.known, AVal.one, AVal.argOK, AVal.isU]
theorem fF_full (cs off ps xs sz l) : fillAF cs ((off, 1) :: ps) (.list sz l .full :: xs) = gd (decide (off + 1 ≤ cs.length)) (fillAF (overwrite cs off [.list sz l .full]) ps xs) := by
 simp [fillAF, gd, AVal.stripF, AVal.cells, AVal.known, AVal.one, AVal.argOK, AVal.isU]
theorem fF_A (cs off n ps vs xs) : fillAF cs ((off, n) :: ps) (.agg vs :: xs) = gd (vs.length == n) (gd (decide (off + n ≤ cs.length)) (fillAF (overwrite cs off (vs.map AVal.strip1F)) ps xs)) := by
 by_cases h1 : vs.length = n <;> by_cases h2 : off + n ≤ cs.length <;> simp [fillAF, gd, AVal.stripF, AVal.cells, AVal.known, AVal.argOK, AVal.isU, h1, h2]
theorem fN_nil (cs) : fillN cs [] [] = some cs := rfl
theorem fN_1 (cs off ps x xs) (h : x.one = true) (h2 : x.argOK = true) : fillN cs ((off, 1) :: ps) (x :: xs) = (setO cs off x.strip).bind fun cs => fillN cs ps xs := by
 have hs := one_share x h
 have hc : x.strip.cells = [x.strip] := by cases x <;> first | rfl | cases h
 rw [fillN, if_pos (by unfold AVal.known; split <;> simp_all), if_pos h2, hc, if_pos (show [x.strip].length = 1 from rfl)]
 unfold setO
 by_cases h4 : off + 1 ≤ cs.length
 ·rw [if_pos h4, if_pos (by omega), ow_1 cs off _ h4]; rfl
 ·rw [if_neg h4, if_neg (by omega)]; rfl
theorem fN_int (cs off ps xs k n) : fillN cs ((off, 1) :: ps) (.int k n :: xs) = (setO cs off (.int k n)).bind fun cs => fillN cs ps xs := fN_1 _ _ _ _ _ rfl rfl
theorem fN_bool (cs off ps xs b) : fillN cs ((off, 1) :: ps) (.bool b :: xs) = (setO cs off (.bool b)).bind fun cs => fillN cs ps xs := fN_1 _ _ _ _ _ rfl rfl
theorem fN_str (cs off ps xs b) : fillN cs ((off, 1) :: ps) (.str b :: xs) = (setO cs off (.str b)).bind fun cs => fillN cs ps xs := fN_1 _ _ _ _ _ rfl rfl
theorem fN_ptr (cs off ps xs b o) : fillN cs ((off, 1) :: ps) (.ptr b o :: xs) = (setO cs off (.ptr b o)).bind fun cs => fillN cs ps xs := fN_1 _ _ _ _ _ rfl rfl
theorem fN_nilp (cs off ps xs) : fillN cs ((off, 1) :: ps) (.nilp :: xs) = (setO cs off .nilp).bind fun cs => fillN cs ps xs := fN_1 _ _ _ _ _ rfl rfl
theorem fN_fn (cs off ps xs f a b) : fillN cs ((off, 1) :: ps) (.fn f a b :: xs) = (setO cs off (.fn f a b)).bind fun cs => fillN cs ps xs := fN_1 _ _ _ _ _ rfl rfl
theorem fN_nilfn (cs off ps xs) : fillN cs ((off, 1) :: ps) (.nilfn :: xs) = (setO cs off .nilfn).bind fun cs => fillN cs ps xs := fN_1 _ _ _ _ _ rfl rfl
theorem fN_iface (cs off ps xs t v) : fillN cs ((off, 1) :: ps) (.iface t v :: xs) = (setO cs off (.iface t v)).bind fun cs => fillN cs ps xs := fN_1 _ _ _ _ _ rfl rfl
theorem fN_niliface (cs off ps xs) : fillN cs ((off, 1) :: ps) (.niliface :: xs) = (setO cs off .niliface).bind fun cs => fillN cs ps xs := fN_1 _ _ _ _ _ rfl rfl
theorem fN_lro (cs off ps xs sz l) : fillN cs ((off, 1) :: ps) (.list sz l .ro :: xs) = (setO cs off (.list sz l .ro)).bind fun cs => fillN cs ps xs := fN_1 _ _ _ _ _ rfl rfl
theorem fN_lown (cs off ps xs sz l) : fillN cs ((off, 1) :: ps) (.list sz l .own :: xs) = (setO cs off (.list sz l .ro)).bind fun cs => fillN cs ps xs := fN_1 _ _ _ _ _ rfl rfl
theorem fN_lfull (cs off ps xs sz l) : fillN cs ((off, 1) :: ps) (.list sz l .full :: xs) = (setO cs off (.list sz l .ro)).bind fun cs => fillN cs ps xs := fN_1 _ _ _ _ _ rfl rfl
theorem fN_A (cs off n ps vs xs) : fillN cs ((off, n) :: ps) (.agg vs :: xs) = gd (vs.length == n) (gd (decide (off + n ≤ cs.length)) (fillN (overwrite cs off (vs.map AVal.strip1)) ps xs)) := by
 rw [fillN, if_pos (show (AVal.agg vs).known = true from rfl), if_pos (show (AVal.agg vs).argOK = true from rfl), show (AVal.agg vs).strip.cells = vs.map AVal.strip1 from rfl, List.length_map]
 unfold gd
 by_cases h : vs.length = n <;> by_cases h' : off + n ≤ cs.length <;> simp [h, h']
theorem fS_nil (sz els) : fillS sz els [] [] = some els := rfl
theorem fS_cons (sz els i ix x xs) : fillS sz els (i :: ix) (x :: xs) = gd (x.strip.cells.length == sz) (gd (decide (i < els.length)) (gd (AVal.allOne x.strip.cells) (gd x.argOK (fillS sz (els.set i x.strip) ix xs)))) := by
 rw [fillS, allOne_eq]
 unfold gd
 by_cases h1 : x.strip.cells.length = sz <;> by_cases h2 : i < els.length <;> by_cases h3 : AVal.allOne x.strip.cells = true <;> by_cases h4 : x.argOK = true <;> simp [h1, h2, h3, h4]
mutual
theorem under_mono (v : AVal) {m n : Nat} (hmn : m ≤ n) : v.under m = true → v.under n = true := by
 cases v with
 | ptr id o => simp only [AVal.under, decide_eq_true_eq]; omega
 | eptr id i j => simp only [AVal.under, decide_eq_true_eq]; omega
 | lbox id => simp only [AVal.under, decide_eq_true_eq]; omega
 | lcut id lo => simp only [AVal.under, decide_eq_true_eq]; omega
 | map id =>
  cases id with
  | none => intro _; rfl
  | some id => simp only [AVal.under, decide_eq_true_eq]; omega
 | rptr cs => simp only [AVal.under]; exact underL_mono cs hmn
 | list sz xs fl => simp only [AVal.under]; exact underL_mono xs hmn
 | agg cs => simp only [AVal.under]; exact underL_mono cs hmn
 | tuple vs => simp only [AVal.under]; exact underL_mono vs hmn
 | fn f a b =>
  simp only [AVal.under, Bool.and_eq_true]
  exact fun h => ⟨underL_mono a hmn h.1, underL_mono b hmn h.2⟩
 | iface t v => simp only [AVal.under]; exact under_mono v hmn
 | meth t v => simp only [AVal.under]; exact under_mono v hmn
 | _ => intro _; rfl
theorem underL_mono (l : List AVal) {m n : Nat} (hmn : m ≤ n) : AVal.underL m l = true → AVal.underL n l = true := by
 cases l with
 | nil => intro _; rfl
 | cons v vs =>
  simp only [AVal.underL, Bool.and_eq_true]
  exact fun h => ⟨under_mono v hmn h.1, underL_mono vs hmn h.2⟩
end
def trimX (H L : Heap) (v : AVal) : Bool → Option (AVal × Heap)
 | true => some (v, hx H [])
 | false => trim false (hx H []) v (hx H L)
theorem h_trim (H L v) : trim false (hx H []) v (hx H L) = trimX H L v (L.isEmpty || v.under 0) := by
 cases h : (L.isEmpty || v.under 0) with
 | false => rfl
 | true =>
  show _ = some (v, hx H [])
  rw [Bool.or_eq_true] at h
  rcases h with h | h
  ·rw [List.isEmpty_iff] at h; subst h; exact trim_same false _ v
  ·rw [hx_nil]; unfold hx
   exact trim_app H L v (under_mono v (Nat.zero_le _) h)
theorem h_trimK (H H' v) : trim true H v H' = some (v, H') := rfl
theorem h_trimT (H L v) : trimX H L v true = some (v, hx H []) := rfl
theorem u_int (n k a) : AVal.under n (.int k a) = true := rfl
theorem u_bool (n b) : AVal.under n (.bool b) = true := rfl
theorem u_str (n s) : AVal.under n (.str s) = true := rfl
theorem u_list (n sz xs fl) : AVal.under n (.list sz xs fl) = AVal.underL n xs := rfl
theorem u_agg (n xs) : AVal.under n (.agg xs) = AVal.underL n xs := rfl
theorem u_tuple (n xs) : AVal.under n (.tuple xs) = AVal.underL n xs := rfl
theorem uL_nil (n) : AVal.underL n [] = true := rfl
theorem uL_cons (n v vs) : AVal.underL n (v :: vs) = (v.under n && AVal.underL n vs) := rfl
theorem uL_app (n) : ∀ (a b : List AVal), AVal.underL n (a ++ b) = (AVal.underL n a && AVal.underL n b)
 | [], b => rfl
 | v :: a, b => by rw [List.cons_append, uL_cons, uL_cons, uL_app n a b, Bool.and_assoc]
theorem uL_all (n) : ∀ (l : List AVal), (∀ v ∈ l, v.under n = true) → AVal.underL n l = true
 | [], _ => rfl
 | v :: l, h => by rw [uL_cons, h v (by simp), uL_all n l fun w hw => h w (List.mem_cons_of_mem _ hw)]; rfl
theorem uL_map {α : Type} (n) (f : α → AVal) (h : ∀ a, (f a).under n = true) (l : List α) : AVal.underL n (l.map f) = true :=
 uL_all n _ fun v hv => by obtain ⟨a, _, rfl⟩ := List.mem_map.1 hv; exact h a
theorem W_fnH {tbl ext} {f : Nat} {fn : AFunc} (hx' : ext f = none) (ht : tbl f = some fn) {args v} {H : Heap} (h : runFn (callW tbl ext) loopW fn args (hx H []) = some (v, hx H [])) : callW tbl ext f args H = some (v, H) := by
 rw [hx_nil] at h; exact callW_fn hx' ht h
theorem cond_ite (c : CallF) (l a b e H) (t : Bool) : condA c l a b e H (some (.bool t)) = if t = true then aexec c l a e H else aexec c l b e H := by cases t <;> rfl
def mx (a b : Int) : Int := if a < b then b else a
theorem mm_mx (k a b) : evMm true [.int k a, .int k b] = some (.int k (mx a b)) := mm_max k a b
theorem apO (sz bytes u xs ys) : evAppend sz bytes u (.list sz xs .own) ys = gd (decide ((xs.length + ys.length) * bytes ≤ maxBytes)) (some (.list sz (xs ++ ys) .own)) := by
 unfold gd; by_cases h : (xs.length + ys.length) * bytes ≤ maxBytes <;> simp [evAppend, h]
theorem apF (sz bytes xs ys) : evAppend sz bytes false (.list sz xs .full) ys = gd (decide ((xs.length + ys.length) * bytes ≤ maxBytes)) (some (.list sz (xs ++ ys) .own)) := by
 unfold gd; by_cases h : (xs.length + ys.length) * bytes ≤ maxBytes <;> simp [evAppend, h]
theorem slL (sz xs k) (l : Int) : evSlice sz true false false (.list sz xs .ro) [.int k l] = gd (decide (0 ≤ l)) (gd (decide (l ≤ (xs.length : Int))) (some (.list sz (xs.drop l.toNat) .ro))) := by
 unfold gd
 by_cases h0 : 0 ≤ l
 ·by_cases h1 : l ≤ (xs.length : Int)
  ·rw [sl_lo sz xs k l h0 h1]; simp [h0, h1]
  ·simp [h0, h1, evSlice, bounds, natOf]
 ·simp [h0, evSlice, bounds, natOf]
theorem slH (sz xs fl k) (h : Int) (hf : fl ≠ .uniq) : evSlice sz false true false (.list sz xs fl) [.int k h] = gd (decide (0 ≤ h)) (gd (decide (h ≤ (xs.length : Int))) (some (.list sz (xs.take h.toNat) .ro))) := by
 unfold gd
 by_cases h0 : 0 ≤ h
 ·by_cases h1 : h ≤ (xs.length : Int)
  ·rw [sl_hi sz xs fl k h hf h0 h1]; simp [h0, h1]
  ·simp [h0, h1, evSlice, bounds, natOf]
 ·simp [h0, evSlice, bounds, natOf]
theorem slM (sz xs fl k k') (l h : Int) (hf : fl ≠ .uniq) : evSlice sz true true false (.list sz xs fl) [.int k l, .int k' h] = gd (decide (0 ≤ l)) (gd (decide (l ≤ h)) (gd (decide (h ≤ (xs.length : Int))) (some (.list sz ((xs.take h.toNat).drop l.toNat) .ro)))) := by
 unfold gd
 by_cases h0 : 0 ≤ l
 ·by_cases h2 : l ≤ h
  ·by_cases h1 : h ≤ (xs.length : Int)
   ·rw [sl_mid sz xs fl k k' l h hf h0 h2 h1]; simp [h0, h1, h2]
   ·simp [h0, h1, h2, evSlice, bounds, natOf]
  ·have hb : bounds xs.length true true false [.int k l, .int k' h] = none := by
    simp only [bounds, natOf]
    by_cases h1 : 0 ≤ h ∧ h ≤ (xs.length : Int)
    ·rw [if_pos h1, Option.bind_some, if_neg (by omega)]; rfl
    ·rw [if_neg h1]; rfl
   simp [h0, h2, evSlice, hb]
 ·simp [h0, evSlice, bounds, natOf]
theorem mx_0 {α : Type} (M N : List α) : (M ++ N)[M.length]? = N[0]? := by rw [List.getElem?_append_right (Nat.le_refl _), Nat.sub_self]
theorem mx_k {α : Type} (M N : List α) (k : Nat) : (M ++ N)[M.length + k]? = N[k]? := by rw [List.getElem?_append_right (by omega)]; congr 1; omega
theorem mx_s0 {α : Type} (M N : List α) (v : α) : (M ++ N).set M.length v = M ++ N.set 0 v := by rw [List.set_append_right _ _ (Nat.le_refl _), Nat.sub_self]
theorem mx_sk {α : Type} (M N : List α) (k : Nat) (v : α) : (M ++ N).set (M.length + k) v = M ++ N.set k v := by rw [List.set_append_right _ _ (by omega)]; congr 2; omega
theorem pt_hx (H L : Heap) (k : Nat) : pt (hx H L) k = pt H (L.length + k) := by unfold pt hx; rw [List.length_append]; omega
theorem q_cellP (agg n e H rs id off) : cellQ agg n e H rs (.ptr id off) = (evLoad agg n false (.ptr id off) H).bind fun p => consV p.1 (getRes e H rs) := rfl
attribute [go_sem] e_buildF fF_nil fF_int fF_bool fF_ptr fF_full fF_A pt_hx mx_0 mx_k mx_s0 mx_sk mm_mx q_cellP gd_T h_alloc h_box h_load h_ldF h_ldT h_ldA ld1_some sN_0 sN_s e_fieldF e_fieldA r_ldF r_ldA h_st1 h_st1T h_stA h_stAT h_st1' stB_c ow_0 ow_s sO_0 sO_s e_build' fN_nil fN_int fN_bool fN_str fN_ptr fN_nilp fN_fn fN_nilfn fN_iface fN_niliface fN_lro fN_lown fN_lfull fN_A fS_nil fS_cons
 h_trim h_trimT h_trimK List.isEmpty_nil List.isEmpty_cons u_int u_bool u_str u_list u_agg u_tuple uL_nil uL_cons uL_app hx_get hx_set hx_hx
 one_int one_bool one_str one_list one_ptr one_nilp one_fn one_nilfn one_iface one_niliface kn_agg kn_int kn_bool kn_str kn_list kn_ptr kn_fn fl_agg fl_int fl_bool fl_str fl_list fl_ptr fl_fn aO_nil aO_cons
attribute [go_sem] List.getElem?_cons_zero List.getElem?_cons_succ List.set_cons_zero List.set_cons_succ List.cons_append List.nil_append List.append_assoc List.length_cons List.length_nil List.drop_zero List.drop_succ_cons List.drop_nil List.append_nil List.replicate_succ List.replicate_zero AVal.strip1 AVal.cells addO
end Go.Abs
