import Derived.Test.YtheaccppdikjgaaGreatDoorK38
namespace Go.Abs
open Go Go.RowKit
set_option linter.unusedVariables false
set_option linter.unusedSimpArgs false
def besideSem (sem : List AVal → Heap → Option (AVal × Heap)) : List AVal → Heap → Option (AVal × Heap)
 | [], H => match sem [] [] with
  | some (v, []) => if v.scalar then some (v, H) else none
  | _ => none
 | _, _ => none
theorem beside_ok {P : Program} {f : FuncId} {sem} (hf : FnOK P f sem) : FnOK P f (besideSem sem) := by
 intro G H args argv w V H' hl h hs
 match args, argv, hl with
 | _ :: _, _, _ => simp [besideSem] at hs
 | [], [], _ =>
 simp only [List.zip_nil_left] at h ⊢
 have hs' : (match sem [] [] with
  | some (v, []) => if v.scalar then some (v, H) else none
  | _ => none) = some (V, H') := hs
 cases hu : sem [] [] with
 | none => rw [hu] at hs'; cases hs'
 | some r =>
 obtain ⟨u, Hu⟩ := r
 cases Hu with
 | cons _ _ => rw [hu] at hs'; cases hs'
 | nil =>
  rw [hu] at hs'
  obtain ⟨hsc, e⟩ := ite_some hs'
  simp only [Option.some.injEq, Prod.mk.injEq] at e
  obtain ⟨rfl, rfl⟩ := e
  have h0 := h
  have hb := h0.beside (fun _ => .any) (fun _ => .inl rfl)
  obtain ⟨h1, h2⟩ := hf (G.cut 0) [] [] [] w u [] rfl hb hu
  refine ⟨h1, h2.mono ?_⟩
  rintro e w1 ⟨v, G1, rfl, h3⟩
  have h4 := h0.besideBack (fun _ => rfl) (fun _ => .any) (fun _ => .inl rfl) h3 (fun _ => .any) (fun _ => undef) (fun _ => .inr (.inr rfl))
  have hr : Rt G1 w1 u v := h3.fly 0 _ _ rfl
  have hru : Rv G1 w1 u v := hr.arg (by cases u <;> first | rfl | (simp [AVal.scalar] at hsc))
  have h5 := h4.add (hru.scalar hsc) (by cases u <;> first | rfl | (simp [AVal.scalar] at hsc))
  exact ⟨v, G, rfl, h5⟩
end Go.Abs
namespace Go.Abs
open Go Go.RowKit
attribute [go_sem] not_true_eq_false not_false_eq_true decide_true decide_false ne_eq Bool.false_eq_true s_shl s_shr Bool.not_false Bool.not_true Bool.and_self Bool.true_and Bool.and_true Bool.and_false Bool.false_and Bool.true_or Bool.or_true and_self and_true true_and and_false false_and or_true true_or or_false false_or Int.cast_ofNat_Int beq_self_eq_true List.take_zero List.take_succ_cons List.take_nil
end Go.Abs
namespace Go.Abs
open Go Go.RowKit
set_option linter.unusedVariables false
set_option linter.unusedSimpArgs false
section
variable {c : CallF}
def lenB (H : Heap) : Option Box → Option (AVal × Heap)
 | some (.arr _ xs) => some (.int .i64 xs.length, H)
 | _ => none
theorem e_lenB (id H) : ev c (.len false) [.lbox id] H = lenB H H[id]? := by
 cases h : H[id]? with
 | none => simp [ev, h, lenB]
 | some B => cases B <;> simp [ev, h, lenB]
theorem lenB_s (H s xs) : lenB H (some (.arr s xs)) = some (.int .i64 xs.length, H) := rfl
def ixB (sz id : Nat) (i : Int) (H : Heap) : Option Box → Option (AVal × Heap)
 | some (.arr sz' xs) => gd (sz' == sz) (gd (decide (0 ≤ i)) (gd (decide (i < (xs.length : Int))) (some (.eptr id i.toNat 0, H))))
 | _ => none
theorem e_ixB (sz id k i H) : ev c (.ixAddr sz) [.lbox id, .int k i] H = ixB sz id i H H[id]? := by
 cases h : H[id]? with
 | none => simp [ev, h, ixB]
 | some B =>
  cases B with
  | arr s xs =>
   simp only [ev, h, ixB, gd]
   by_cases h1 : s = sz <;> by_cases h2 : 0 ≤ i <;> by_cases h3 : i < (xs.length : Int) <;> simp [h1, h2, h3]
  | _ => simp [ev, h, ixB]
theorem ixB_s (sz id i H xs) : ixB sz id i H (some (.arr sz xs)) = gd (decide (0 ≤ i)) (gd (decide (i < (xs.length : Int))) (some (.eptr id i.toNat 0, H))) := by
 simp [ixB, gd]
def ldE (agg : Bool) (n i j : Nat) (H : Heap) : Option Box → Option (AVal × Heap)
 | some (.arr _ xs) => (xs[i]?).bind fun X => (ldCells agg n (X.cells.drop j)).map (·, H)
 | _ => none
theorem e_ldE (agg n id i j H) : evLoad agg n false (.eptr id i j) H = ldE agg n i j H H[id]? := by
 unfold evLoad
 cases h : H[id]? with
 | none => simp [h, ldE]
 | some B => cases B <;> simp [h, ldE]
theorem ldE_F (i j H s xs) : ldE false 1 i j H (some (.arr s xs)) = (xs[i]?).bind fun X => valA H (ld1 X.cells[j]?) := by
 show (xs[i]?).bind _ = _
 cases xs[i]? with
 | none => rfl
 | some X =>
  show (ldCells false 1 (X.cells.drop j)).map _ = valA H (ld1 X.cells[j]?)
  rw [ldC_1]
  cases ld1 X.cells[j]? <;> rfl
theorem ldE_A (n i j H s xs) : ldE true n i j H (some (.arr s xs)) = (xs[i]?).bind fun X => (stripN n (X.cells.drop j)).bind fun l => some (.agg l, H) := by
 show (xs[i]?).bind _ = _
 cases xs[i]? with
 | none => rfl
 | some X =>
  show (ldCells true n (X.cells.drop j)).map _ = _
  rw [ldC_A]
  show _ = (stripN n (X.cells.drop j)).bind _
  cases stripN n (X.cells.drop j) <;> rfl
def stE (n id i : Nat) (ys : List AVal) (H : Heap) : Option Box → Option (AVal × Heap)
 | some (.arr sz xs) => (xs[i]?).bind fun X => gd (decide (n ≤ X.cells.length)) (some (.tuple [], H.set id (.arr sz (xs.set i (X.withCells (overwrite X.cells 0 (ys.map AVal.strip)))))))
 | _ => none
def stEX (n id i : Nat) (vs : List AVal) (H : Heap) : Bool → Option (AVal × Heap)
 | true => stE n id i (vs.map AVal.share0) H H[id]?
 | false => evStore n (.eptr id i 0) (.agg vs) H
theorem e_stE (n id i vs H) : evStore n (.eptr id i 0) (.agg vs) H = stEX n id i vs H (vs.length == n && (n != 0 && AVal.allOne (vs.map AVal.share0))) := by
 cases h : (vs.length == n && (n != 0 && AVal.allOne (vs.map AVal.share0))) with
 | false => rfl
 | true =>
  simp only [Bool.and_eq_true, beq_iff_eq, bne_iff_ne, ne_eq] at h
  obtain ⟨h1, h2, h3⟩ := h
  show _ = stE n id i (vs.map AVal.share0) H H[id]?
  unfold evStore
  rw [show AVal.flat (.agg vs) = vs.map AVal.share0 from rfl, if_pos ⟨by rw [List.length_map]; exact h1, by omega, by rw [allOne_eq]; exact h3⟩]
  cases hB : H[id]? with
  | none => simp only [hB]; rfl
  | some B =>
   cases B with
   | arr s xs =>
    simp only [hB, stE]
    cases hX : xs[i]? with
    | none => rfl
    | some X =>
     simp only [Option.bind_some, Nat.zero_add]
     unfold gd
     by_cases hc : n ≤ X.cells.length
     ·simp [hc, AVal.argOK, AVal.isU]
     ·simp [hc]
   | _ => simp only [hB]; rfl
theorem stEX_T (n id i vs H) : stEX n id i vs H true = stE n id i (vs.map AVal.share0) H H[id]? := rfl
theorem stE_s (n id i ys H sz xs) : stE n id i ys H (some (.arr sz xs)) = (xs[i]?).bind fun X => gd (decide (n ≤ X.cells.length)) (some (.tuple [], H.set id (.arr sz (xs.set i (X.withCells (overwrite X.cells 0 (ys.map AVal.strip))))))) := rfl
theorem wc_agg (cs ds : List AVal) : AVal.withCells (.agg cs) ds = .agg ds := rfl
def lsB (sz id : Nat) (l : Int) (H : Heap) : Option Box → Option (AVal × Heap)
 | some (.arr sz' xs) => gd (sz' == sz) (gd (decide (0 ≤ l)) (gd (decide (l < (xs.length : Int))) (some (.lcut id l.toNat, H))))
 | _ => none
theorem e_lsB (sz id k l H) : ev c (.lslice sz) [.lbox id, .int k l] H = lsB sz id l H H[id]? := by
 cases h : H[id]? with
 | none => simp [ev, h, lsB]
 | some B =>
  cases B with
  | arr s xs =>
   simp only [ev, h, lsB, gd, natOf]
   by_cases h1 : s = sz <;> by_cases h2 : 0 ≤ l <;> by_cases h3 : l < (xs.length : Int)
   ·have h4 : l ≤ (xs.length : Int) := by omega
    have h5 : l.toNat < xs.length := by omega
    simp [h1, h2, h3, h4, h5]
   ·by_cases h4 : l ≤ (xs.length : Int)
    ·have h5 : ¬ l.toNat < xs.length := by omega
     simp [h1, h2, h3, h4, h5]
    ·simp [h1, h2, h3, h4]
   all_goals simp [h1, h2, h3]
  | _ => simp [ev, h, lsB]
theorem lsB_s (sz id l H xs) : lsB sz id l H (some (.arr sz xs)) = gd (decide (0 ≤ l)) (gd (decide (l < (xs.length : Int))) (some (.lcut id l.toNat, H))) := by
 simp [lsB, gd]
def clB (sz id lo : Nat) (z : AVal) (H : Heap) : Option Box → Option (AVal × Heap)
 | some (.arr sz' xs) => gd (sz' == sz) (gd (decide (lo ≤ xs.length)) (some (.tuple [], H.set id (.arr sz (xs.take lo ++ List.replicate (xs.length - lo) z)))))
 | _ => none
theorem e_clB (sz id lo z H) : ev c (.clear sz z) [.lcut id lo] H = clB sz id lo z H H[id]? := by
 cases h : H[id]? with
 | none => simp [ev, h, clB]
 | some B =>
  cases B with
  | arr s xs =>
   simp only [ev, h, clB, gd]
   by_cases h1 : s = sz <;> by_cases h2 : lo ≤ xs.length <;> simp [h1, h2]
  | _ => simp [ev, h, clB]
theorem clB_s (sz id lo z H xs) : clB sz id lo z H (some (.arr sz xs)) = gd (decide (lo ≤ xs.length)) (some (.tuple [], H.set id (.arr sz (xs.take lo ++ List.replicate (xs.length - lo) z)))) := by
 simp [clB, gd]
theorem one_lbox (i) : AVal.one (.lbox i) = true := rfl
theorem one_eptr (a b d) : AVal.one (.eptr a b d) = true := rfl
theorem one_lcut (a b) : AVal.one (.lcut a b) = true := rfl
theorem kn_lbox (i) : AVal.known (.lbox i) = true := rfl
theorem fl_lbox (i) : AVal.flat (.lbox i) = [.lbox i] := rfl
theorem u_lbox (n i) : AVal.under n (.lbox i) = decide (i < n) := rfl
end
attribute [go_sem] e_lenB lenB_s e_ixB ixB_s e_ldE ldE_F ldE_A e_stE stEX_T stE_s wc_agg e_lsB lsB_s e_clB clB_s one_lbox one_eptr one_lcut kn_lbox fl_lbox u_lbox
end Go.Abs
