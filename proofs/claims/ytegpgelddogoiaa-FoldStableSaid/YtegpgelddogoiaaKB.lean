import Derived.Test.YtegpgelddogoiaaK38
namespace Go.Abs
open Go Go.RowKit
set_option linter.unusedVariables false
set_option linter.unusedSimpArgs false

/-! ## A function of no arguments that answers a plain value: beside -/

def besideSem (sem : List AVal → Heap → Option (AVal × Heap)) : List AVal → Heap → Option (AVal × Heap)
 | [], H => match sem [] [] with
  | some (v, []) => if v.scalar then some (v, H) else none
  | _ => none
 | _, _ => none

theorem beside_ok {P : Program} {f : FuncId} {sem} (hf : FnOK P f sem) : FnOK P f (besideSem sem) := by
 intro G H args argv w V H' hl h hs
 match args, argv, hl with
 | _ :: _, _, _ => simp [besideSem] at hs
 | [], [], _ =>
 simp only [List.zip_nil_left] at h ⊢
 have hs' : (match sem [] [] with
  | some (v, []) => if v.scalar then some (v, H) else none
  | _ => none) = some (V, H') := hs
 cases hu : sem [] [] with
 | none => rw [hu] at hs'; cases hs'
 | some r =>
 obtain ⟨u, Hu⟩ := r
 cases Hu with
 | cons _ _ => rw [hu] at hs'; cases hs'
 | nil =>
  rw [hu] at hs'
  obtain ⟨hsc, e⟩ := ite_some hs'
  simp only [Option.some.injEq, Prod.mk.injEq] at e
  obtain ⟨rfl, rfl⟩ := e
  have h0 := h
  have hb := h0.beside (fun _ => .any) (fun _ => .inl rfl)
  obtain ⟨h1, h2⟩ := hf (G.cut 0) [] [] [] w u [] rfl hb hu
  refine ⟨h1, h2.mono ?_⟩
  rintro e w1 ⟨v, G1, rfl, h3⟩
  have h4 := h0.besideBack (fun _ => rfl) (fun _ => .any) (fun _ => .inl rfl) h3 (fun _ => .any) (fun _ => undef) (fun _ => .inr (.inr rfl))
  have hr : Rt G1 w1 u v := h3.fly 0 _ _ rfl
  have hru : Rv G1 w1 u v := hr.arg (by cases u <;> first | rfl | (simp [AVal.scalar] at hsc))
  have h5 := h4.add (hru.scalar hsc) (by cases u <;> first | rfl | (simp [AVal.scalar] at hsc))
  exact ⟨v, G, rfl, h5⟩
end Go.Abs

namespace Go.Abs
open Go Go.RowKit
attribute [go_sem] not_true_eq_false not_false_eq_true decide_true decide_false ne_eq Bool.false_eq_true s_shl s_shr Bool.not_false Bool.not_true Bool.and_self Bool.true_and Bool.and_true Bool.and_false Bool.false_and Bool.true_or Bool.or_true and_self and_true true_and and_false false_and or_true true_or or_false false_or Int.cast_ofNat_Int beq_self_eq_true List.take_zero List.take_succ_cons List.take_nil
end Go.Abs

