/- For any input IndexNumbers answers true: by a verified reader of the program's own code, and what it computes; no condition. -/
import Derived.Test.YtfkaoonfgpeboaaRows
import Derived.Test.YtfkaoonfgpeboaaBS6
import Derived.WalkKit
import Derived.ProofKit
import Derived.OpenShut
import Derived.ShutString
import Derived.ChangeOld
import Derived.Below
import Derived.SizedLaws
namespace Go.Proofs.Ytfkaoonfgpeboaa.indexNumbers
open Go.ChangeShapes Go.WideShapes Go.ChangeAt Go.RowKit
open Go.ChangeMaps (open_string shut_string)
set_option linter.unusedVariables false
theorem codes_ok : Go.Abs.codes.all (fun p => Go.Abs.chkFn Try.prog p.1 p.2) = true := by kernel_rfl
theorem clone_chk0 : Go.Abs.chkClone Try.prog Go.Abs.n_slices_Clone_byte_byte_ 1 1 (.int .u8 0) = true := by kernel_rfl
theorem tbl_ok (f : FuncId) (fn : Go.Abs.AFunc) (h : Go.Abs.tbl f = some fn) : Go.Abs.chkFn Try.prog f fn = true := by
  unfold Go.Abs.tbl at h
  obtain ⟨p, hp, rfl⟩ := Option.map_eq_some_iff.1 h
  have h1 := List.find?_some hp
  have h2 := List.mem_of_find?_eq_some hp
  have h3 := List.all_eq_true.1 codes_ok p h2
  have h4 : p.1 = f := by simpa using h1
  rw [← h4]; exact h3
theorem ext_ok (f : FuncId) (s) (h : Go.Abs.ext f = some s) : Go.Abs.FnOK Try.prog f s := by
  unfold Go.Abs.ext at h
  split at h
  · rename_i hf
    cases h
    subst hf
    exact Go.Abs.clone_ok clone_chk0
  · cases h
theorem own : ownKnob Try.prog.godebug = none := by kernel_rfl
theorem laidOut : laidOutB Try.prog = true := by kernel_rfl
set_option maxRecDepth 100000 in
theorem lifted (os : Os) (started : os.Started) (H : Type) (enc : TypeId × Value → H) :
    ReturnsInHanded {} Try.checked os 3 .any (Rows.indexNumbersSpec.pre6 enc Try.prog Try.f3 Rows.indexNumbersRow.domain false) (Rows.indexNumbersSpec.post enc Try.prog Try.f3 false true false false) := by
  refine returnsInHanded_of_change_sized (C := Try.checked) own started (by kernel_rfl) Try.func3
    (ChangeSpec.witness6 (enc := enc) (C := Try.checked) false ⟨#[], #[], []⟩ 8 (by kernel_rfl) (by kernel_rfl) (by kernel_rfl) (by kernel_rfl)) ?_
  intro W base args ds gs before hval0 hW hcnd hsz0 _
  have hsz : (DataW.weightsEach Try.prog (Try.f3.params.toList ++ Rows.indexNumbersSpec.plain.varTypes Try.prog) (ds ++ gs)).all (· ≤ reachBytes) = true := hsz0
  have hval : ∀ (j : Nat) t v, Try.f3.params[j]? = some t → args[j]? = some v → Value.okWide Try.prog W .any base t v := hval0
  have hW' := hW
  obtain ⟨p, q, hA0, hV, rfl, hfz, hnd⟩ := hW
  have hA : DataW.TrodAll enc Try.prog W 0 (fun _ => true) true Try.f3.params.toList args.toList ds p := hA0
  rw [Try.params3] at hA hval hsz
  obtain ⟨rfl, rfl, rfl⟩ := trodAll_none hA
  obtain ⟨rfl, rfl⟩ := trodVars_none hV
  clear hA0 hval0
  have walk := Go.Abs.law_walk (w := W) (Go.Abs.callW_ok (Checked.mixed Try.checked) tbl_ok ext_ok 3) (args := []) (argv := []) rfl (Go.Abs.st_nil) (Go.Abs.inumbers_spec )
  refine walk.mono fun e W' ⟨he, bel⟩ => ?_
  subst he
  exact ⟨_, rfl, _, _, _, [], _, [], hW', trodAll_mk1 (shut_bool Try.underlying4 _), trodAll_mk0, rfl, bel.frame _, fun h => by cases h⟩
theorem over : Rows.indexNumbersRow.holds Try.pinned (OpenSpec.ofChange Rows.indexNumbersSpec) :=
  OpenClaim.holds_of_wide 3 Try.f3 rfl rfl rfl rfl rfl rfl rfl ⟨rfl, rfl, rfl, rfl, rfl⟩ rfl rfl rfl rfl rfl (by kernel_rfl) Try.func3 (by kernel_rfl)
    (of_decide_eq_true (by kernel_rfl)) (by unfold Func.isWrapper; first | (rw [if_pos (by decide +kernel)]; kernel_rfl) | (rw [if_neg (by decide +kernel)]; exact ⟨rfl, rfl⟩))
    (fun os started H enc _ => lifted os started H enc)
theorem proved : Rows.IndexNumbersSaid := over
#print axioms proved
end Go.Proofs.Ytfkaoonfgpeboaa.indexNumbers
namespace Go.Proofs.Ytfkaoonfgpeboaa
/-- The row, under a short name, for the claim. -/
theorem indexNumbers_holds : Rows.IndexNumbersSaid := indexNumbers.proved
end Go.Proofs.Ytfkaoonfgpeboaa
