/- For any input CheckSeqs answers true: by a verified reader of the program's own code, and what it computes; no condition. -/
import Derived.Test.YtljlbcipngmdmaaRows
import Derived.Test.YtljlbcipngmdmaaBS7
import Derived.WalkKit
import Derived.ProofKit
import Derived.OpenShut
import Derived.ShutString
import Derived.ChangeOld
import Derived.Below
import Derived.SizedLaws
namespace Go.Proofs.Ytljlbcipngmdmaa.checkSeqs
open Go.ChangeShapes Go.WideShapes Go.ChangeAt Go.RowKit
open Go.ChangeMaps (open_string shut_string)
set_option linter.unusedVariables false
theorem codes_ok : Go.Abs.codes.all (fun p => Go.Abs.chkFn Try.prog p.1 p.2) = true := by kernel_rfl
theorem clone_chk0 : Go.Abs.chkClone Try.prog Go.Abs.n_slices_Clone_byte_byte_ 1 1 (.int .u8 0) = true := by kernel_rfl
theorem clone_chk1 : Go.Abs.chkClone Try.prog Go.Abs.n_slices_Clone_3_int64_3_int64_ 3 24 (.agg [.int .i64 0, .int .i64 0, .int .i64 0]) = true := by kernel_rfl
theorem tbl_ok (f : FuncId) (fn : Go.Abs.AFunc) (h : Go.Abs.tbl f = some fn) : Go.Abs.chkFn Try.prog f fn = true := by
  unfold Go.Abs.tbl at h
  obtain ⟨p, hp, rfl⟩ := Option.map_eq_some_iff.1 h
  have h1 := List.find?_some hp
  have h2 := List.mem_of_find?_eq_some hp
  have h3 := List.all_eq_true.1 codes_ok p h2
  have h4 : p.1 = f := by simpa using h1
  rw [← h4]; exact h3
theorem ext0_ok (f : FuncId) (s) (h : Go.Abs.ext0 f = some s) : Go.Abs.FnOK Try.prog f s := by
  unfold Go.Abs.ext0 at h
  split at h
  · rename_i hf
    cases h
    subst hf
    exact Go.Abs.clone_ok clone_chk0
  · split at h
    · rename_i hf
      cases h
      subst hf
      exact Go.Abs.clone_ok clone_chk1
    · cases h
theorem ext1_ok (f : FuncId) (s) (h : Go.Abs.ext1 f = some s) : Go.Abs.FnOK Try.prog f s := by
  unfold Go.Abs.ext1 at h
  split at h
  · rename_i hf
    cases h
    subst hf
    exact Go.Abs.clone_ok clone_chk0
  · split at h
    · rename_i hf
      cases h
      subst hf
      exact Go.Abs.clone_ok clone_chk1
    · split at h
      · rename_i hf
        cases h
        subst hf
        exact fun G H args argv w V H' hl h hs => Go.Abs.callW_ok (Checked.mixed Try.checked) tbl_ok ext0_ok Go.Abs.n_crc_Of G H args argv w V H' hl h (Go.Abs.crcSem_le hs)
      · split at h
        · rename_i hf
          cases h
          subst hf
          exact fun G H args argv w V H' hl h hs => Go.Abs.callW_ok (Checked.mixed Try.checked) tbl_ok ext0_ok Go.Abs.n_ref1_Crc G H args argv w V H' hl h (Go.Abs.refCrc_le hs)
        · cases h
theorem ext_ok (f : FuncId) (s) (h : Go.Abs.ext f = some s) : Go.Abs.FnOK Try.prog f s := by
  unfold Go.Abs.ext at h
  split at h
  · rename_i hf
    cases h
    subst hf
    exact Go.Abs.clone_ok clone_chk0
  · split at h
    · rename_i hf
      cases h
      subst hf
      exact Go.Abs.clone_ok clone_chk1
    · split at h
      · rename_i hf
        cases h
        subst hf
        exact fun G H args argv w V H' hl h hs => Go.Abs.callW_ok (Checked.mixed Try.checked) tbl_ok ext0_ok Go.Abs.n_crc_Of G H args argv w V H' hl h (Go.Abs.crcSem_le hs)
      · split at h
        · rename_i hf
          cases h
          subst hf
          exact fun G H args argv w V H' hl h hs => Go.Abs.callW_ok (Checked.mixed Try.checked) tbl_ok ext0_ok Go.Abs.n_ref1_Crc G H args argv w V H' hl h (Go.Abs.refCrc_le hs)
        · split at h
          · rename_i hf
            cases h
            subst hf
            exact Go.Abs.beside_ok (Go.Abs.callW_ok (Checked.mixed Try.checked) tbl_ok ext1_ok Go.Abs.n_law23_known)
          · cases h
theorem own : ownKnob Try.prog.godebug = none := by kernel_rfl
theorem laidOut : laidOutB Try.prog = true := by kernel_rfl
set_option maxRecDepth 100000 in
theorem lifted (os : Os) (started : os.Started) (H : Type) (enc : TypeId × Value → H) :
    ReturnsInHanded {} Try.checked os 3 .any (Rows.checkSeqsSpec.pre6 enc Try.prog Try.f3 Rows.checkSeqsRow.domain false) (Rows.checkSeqsSpec.post enc Try.prog Try.f3 false true false false) := by
  refine returnsInHanded_of_change_sized (C := Try.checked) own started (by kernel_rfl) Try.func3
    (ChangeSpec.witness6 (enc := enc) (C := Try.checked) false ⟨#[], #[.slice none 0 0], []⟩ 8 (by kernel_rfl) (by kernel_rfl) (by kernel_rfl) (by kernel_rfl)) ?_
  intro W base args ds gs before hval0 hW hcnd hsz0 _
  have hsz : (DataW.weightsEach Try.prog (Try.f3.params.toList ++ Rows.checkSeqsSpec.plain.varTypes Try.prog) (ds ++ gs)).all (· ≤ reachBytes) = true := hsz0
  have hval : ∀ (j : Nat) t v, Try.f3.params[j]? = some t → args[j]? = some v → Value.okWide Try.prog W .any base t v := hval0
  have hW' := hW
  obtain ⟨p, q, hA0, hV, rfl, hfz, hnd⟩ := hW
  have hA : DataW.TrodAll enc Try.prog W 0 (fun _ => true) true Try.f3.params.toList args.toList ds p := hA0
  rw [Try.params3] at hA hval hsz
  obtain ⟨v0, vs0, d0, ds0, p0, q0, hargs, rfl, rfl, h0, r0⟩ := trodAll_cons hA
  obtain ⟨rfl, rfl, rfl⟩ := trodAll_nil r0
  obtain rfl : args = #[v0] := by cases args; simp_all
  obtain ⟨rfl, rfl⟩ := trodVars_none hV
  obtain ⟨a0, len0, cap0, rfl⟩ := okWide_slice Try.underlying22 (hval 0 22 v0 rfl rfl)
  have k0 := h0
  have lt0 : ∀ x ∈ p0, x.block < W.heap.size := by obtain ⟨m, hm⟩ := k0; exact DataW.trod_lt m _ _ _ hm
  have y0 : len0 * 8 ≤ 140737488351232 := Go.Abs.sized_row hsz (j := 0) (t := 22) rfl rfl Try.underlying22 Try.underlying3 (by kernel_rfl) (by kernel_rfl) h0
  obtain ⟨l0, s0, n0, w0⟩ := Go.Abs.open_row Try.underlying22 Try.underlying3 (by kernel_rfl) (hval 0 22 (.slice a0 len0 cap0) rfl rfl) h0
  clear hA0 hval0
  have walk := Go.Abs.law_walk (w := W) (Go.Abs.callW_ok (Checked.mixed Try.checked) tbl_ok ext_ok 3) (args := [.list 1 (Go.Abs.ints .i64 l0) .ro]) (argv := [.slice a0 len0 cap0]) rfl (Go.Abs.st_cons (s0) (Go.Abs.st_nil)) (Go.Abs.cs_spec l0 (fun x hx => Go.Abs.wf_i64 (w0 x hx)) (by rw [n0]; exact y0))
  refine walk.mono fun e W' ⟨he, bel⟩ => ?_
  subst he
  exact ⟨_, rfl, _, _, _, [], _, [], hW', trodAll_mk1 (shut_bool Try.underlying4 _), (trodAll_cons_mk (Below.trod laidOut (by kernel_rfl) (of_decide_eq_true (by kernel_rfl)) k0 bel lt0) trodAll_mk0), rfl, bel.frame _, fun h => by cases h⟩
theorem over : Rows.checkSeqsRow.holds Try.pinned (OpenSpec.ofChange Rows.checkSeqsSpec) :=
  OpenClaim.holds_of_wide 3 Try.f3 rfl rfl rfl rfl rfl rfl rfl ⟨rfl, rfl, rfl, rfl, rfl⟩ rfl rfl rfl rfl rfl (by kernel_rfl) Try.func3 (by kernel_rfl)
    (of_decide_eq_true (by kernel_rfl)) (by unfold Func.isWrapper; first | (rw [if_pos (by decide +kernel)]; kernel_rfl) | (rw [if_neg (by decide +kernel)]; exact ⟨rfl, rfl⟩))
    (fun os started H enc _ => lifted os started H enc)
theorem proved : Rows.CheckSeqsSaid := over
#print axioms proved
end Go.Proofs.Ytljlbcipngmdmaa.checkSeqs
namespace Go.Proofs.Ytljlbcipngmdmaa
/-- The row, under a short name, for the claim. -/
theorem checkSeqs_holds : Rows.CheckSeqsSaid := checkSeqs.proved
end Go.Proofs.Ytljlbcipngmdmaa
