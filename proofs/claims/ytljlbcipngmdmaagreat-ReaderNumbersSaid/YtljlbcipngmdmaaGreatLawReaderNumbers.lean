/- For any input ReaderNumbers answers true: by a verified reader of the program's own code, and what it computes; no condition. -/
import Derived.Test.YtljlbcipngmdmaaGreatRows
import Derived.Test.YtljlbcipngmdmaaGreatBS7
import Derived.WalkKit
import Derived.ProofKit
import Derived.OpenShut
import Derived.ShutString
import Derived.ChangeOld
import Derived.Below
import Derived.SizedLaws
namespace Go.Proofs.YtljlbcipngmdmaaGreat.readerNumbers
open Go.ChangeShapes Go.WideShapes Go.ChangeAt Go.RowKit
open Go.ChangeMaps (open_string shut_string)
set_option linter.unusedVariables false
theorem codes_ok : Go.Abs.codes.all (fun p => Go.Abs.chkFn Tryz.prog p.1 p.2) = true := by kernel_rfl
theorem clone_chk0 : Go.Abs.chkClone Tryz.prog Go.Abs.n_slices_Clone_byte_byte_ 1 1 (.int .u8 0) = true := by kernel_rfl
theorem clone_chk1 : Go.Abs.chkClone Tryz.prog Go.Abs.n_slices_Clone_3_int64_3_int64_ 3 24 (.agg [.int .i64 0, .int .i64 0, .int .i64 0]) = true := by kernel_rfl
theorem clone_chk2 : Go.Abs.chkClone Tryz.prog Go.Abs.n_slices_Clone_api_Got_api_Got_ 4 48 (.agg [.int .i64 0, .int .i64 0, .str [], .str []]) true = true := by kernel_rfl
theorem clone_chk3 : Go.Abs.chkClone Tryz.prog Go.Abs.n_slices_Clone_api_Rec_api_Rec_ 2 32 (.agg [.str [], .str []]) = true := by kernel_rfl
theorem tbl_ok (f : FuncId) (fn : Go.Abs.AFunc) (h : Go.Abs.tbl f = some fn) : Go.Abs.chkFn Tryz.prog f fn = true := by
  unfold Go.Abs.tbl at h
  obtain ⟨p, hp, rfl⟩ := Option.map_eq_some_iff.1 h
  have h1 := List.find?_some hp
  have h2 := List.mem_of_find?_eq_some hp
  have h3 := List.all_eq_true.1 codes_ok p h2
  have h4 : p.1 = f := by simpa using h1
  rw [← h4]; exact h3
theorem ext0_ok (f : FuncId) (s) (h : Go.Abs.ext0 f = some s) : Go.Abs.FnOK Tryz.prog f s := by
  unfold Go.Abs.ext0 at h
  split at h
  · rename_i hf
    cases h
    subst hf
    exact Go.Abs.clone_ok clone_chk0
  · split at h
    · rename_i hf
      cases h
      subst hf
      exact Go.Abs.clone_ok clone_chk1
    · split at h
      · rename_i hf
        cases h
        subst hf
        exact Go.Abs.clone_ok clone_chk2
      · split at h
        · rename_i hf
          cases h
          subst hf
          exact Go.Abs.clone_ok clone_chk3
        · cases h
theorem ext1_ok (f : FuncId) (s) (h : Go.Abs.ext1 f = some s) : Go.Abs.FnOK Tryz.prog f s := by
  unfold Go.Abs.ext1 at h
  split at h
  · rename_i hf
    cases h
    subst hf
    exact Go.Abs.clone_ok clone_chk0
  · split at h
    · rename_i hf
      cases h
      subst hf
      exact Go.Abs.clone_ok clone_chk1
    · split at h
      · rename_i hf
        cases h
        subst hf
        exact Go.Abs.clone_ok clone_chk2
      · split at h
        · rename_i hf
          cases h
          subst hf
          exact Go.Abs.clone_ok clone_chk3
        · split at h
          · rename_i hf
            cases h
            subst hf
            exact fun G H args argv w V H' hl h hs => Go.Abs.callW_ok (Checked.mixed Tryz.checked) tbl_ok ext0_ok Go.Abs.n_crc_Of G H args argv w V H' hl h (Go.Abs.crcSem_le hs)
          · split at h
            · rename_i hf
              cases h
              subst hf
              exact fun G H args argv w V H' hl h hs => Go.Abs.callW_ok (Checked.mixed Tryz.checked) tbl_ok ext0_ok Go.Abs.n_ref1_Crc G H args argv w V H' hl h (Go.Abs.refCrc_le hs)
            · cases h
theorem ext_ok (f : FuncId) (s) (h : Go.Abs.ext f = some s) : Go.Abs.FnOK Tryz.prog f s := by
  unfold Go.Abs.ext at h
  split at h
  · rename_i hf
    cases h
    subst hf
    exact Go.Abs.clone_ok clone_chk0
  · split at h
    · rename_i hf
      cases h
      subst hf
      exact Go.Abs.clone_ok clone_chk1
    · split at h
      · rename_i hf
        cases h
        subst hf
        exact Go.Abs.clone_ok clone_chk2
      · split at h
        · rename_i hf
          cases h
          subst hf
          exact Go.Abs.clone_ok clone_chk3
        · split at h
          · rename_i hf
            cases h
            subst hf
            exact fun G H args argv w V H' hl h hs => Go.Abs.callW_ok (Checked.mixed Tryz.checked) tbl_ok ext0_ok Go.Abs.n_crc_Of G H args argv w V H' hl h (Go.Abs.crcSem_le hs)
          · split at h
            · rename_i hf
              cases h
              subst hf
              exact fun G H args argv w V H' hl h hs => Go.Abs.callW_ok (Checked.mixed Tryz.checked) tbl_ok ext0_ok Go.Abs.n_ref1_Crc G H args argv w V H' hl h (Go.Abs.refCrc_le hs)
            · split at h
              · rename_i hf
                cases h
                subst hf
                exact Go.Abs.beside_ok (Go.Abs.callW_ok (Checked.mixed Tryz.checked) tbl_ok ext1_ok Go.Abs.n_law20_known)
              · cases h
theorem own : ownKnob Tryz.prog.godebug = none := by kernel_rfl
theorem laidOut : laidOutB Tryz.prog = true := by kernel_rfl
set_option maxRecDepth 100000 in
theorem lifted (os : Os) (started : os.Started) (H : Type) (enc : TypeId × Value → H) :
    ReturnsInHanded {} Tryz.checked os 3 .any (Rows.readerNumbersSpec.pre6 enc Tryz.prog Tryz.f3 Rows.readerNumbersRow.domain false) (Rows.readerNumbersSpec.post enc Tryz.prog Tryz.f3 false true false false) := by
  refine returnsInHanded_of_change_sized (C := Tryz.checked) own started (by kernel_rfl) Tryz.func3
    (ChangeSpec.witness6 (enc := enc) (C := Tryz.checked) false ⟨#[], #[], []⟩ 8 (by kernel_rfl) (by kernel_rfl) (by kernel_rfl) (by kernel_rfl)) ?_
  intro W base args ds gs before hval0 hW hcnd hsz0 _
  have hsz : (DataW.weightsEach Tryz.prog (Tryz.f3.params.toList ++ Rows.readerNumbersSpec.plain.varTypes Tryz.prog) (ds ++ gs)).all (· ≤ reachBytes) = true := hsz0
  have hval : ∀ (j : Nat) t v, Tryz.f3.params[j]? = some t → args[j]? = some v → Value.okWide Tryz.prog W .any base t v := hval0
  have hW' := hW
  obtain ⟨p, q, hA0, hV, rfl, hfz, hnd⟩ := hW
  have hA : DataW.TrodAll enc Tryz.prog W 0 (fun _ => true) true Tryz.f3.params.toList args.toList ds p := hA0
  rw [Tryz.params3] at hA hval hsz
  obtain ⟨rfl, rfl, rfl⟩ := trodAll_none hA
  obtain ⟨rfl, rfl⟩ := trodVars_none hV
  clear hA0 hval0
  have walk := Go.Abs.law_walk (w := W) (Go.Abs.callW_ok (Checked.mixed Tryz.checked) tbl_ok ext_ok 3) (args := []) (argv := []) rfl (Go.Abs.st_nil) (Go.Abs.rnumbers_spec )
  refine walk.mono fun e W' ⟨he, bel⟩ => ?_
  subst he
  exact ⟨_, rfl, _, _, _, [], _, [], hW', trodAll_mk1 (shut_bool Tryz.underlying4 _), trodAll_mk0, rfl, bel.frame _, fun h => by cases h⟩
theorem over : Rows.readerNumbersRow.holds Tryz.pinned (OpenSpec.ofChange Rows.readerNumbersSpec) :=
  OpenClaim.holds_of_wide 3 Tryz.f3 rfl rfl rfl rfl rfl rfl rfl ⟨rfl, rfl, rfl, rfl, rfl⟩ rfl rfl rfl rfl rfl (by kernel_rfl) Tryz.func3 (by kernel_rfl)
    (of_decide_eq_true (by kernel_rfl)) (by unfold Func.isWrapper; first | (rw [if_pos (by decide +kernel)]; kernel_rfl) | (rw [if_neg (by decide +kernel)]; exact ⟨rfl, rfl⟩))
    (fun os started H enc _ => lifted os started H enc)
theorem proved : Rows.ReaderNumbersSaid := over
#print axioms proved
end Go.Proofs.YtljlbcipngmdmaaGreat.readerNumbers
namespace Go.Proofs.YtljlbcipngmdmaaGreat
/-- The row, under a short name, for the claim. -/
theorem readerNumbers_holds : Rows.ReaderNumbersSaid := readerNumbers.proved
end Go.Proofs.YtljlbcipngmdmaaGreat
