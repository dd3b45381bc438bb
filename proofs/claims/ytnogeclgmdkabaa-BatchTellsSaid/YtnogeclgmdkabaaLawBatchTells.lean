/- For any input BatchTells answers true: by a verified reader of the program's own code, and what it computes; no condition. -/
import Derived.Test.YtnogeclgmdkabaaRows
import Derived.Test.YtnogeclgmdkabaaBS4
import Derived.WalkKit
import Derived.ProofKit
import Derived.OpenShut
import Derived.ShutString
import Derived.ChangeOld
import Derived.Below
import Derived.SizedLaws
namespace Go.Proofs.Ytnogeclgmdkabaa.batchTells
open Go.ChangeShapes Go.WideShapes Go.ChangeAt Go.RowKit
open Go.ChangeMaps (open_string shut_string)
set_option linter.unusedVariables false
theorem codes_ok : Go.Abs.codes.all (fun p => Go.Abs.chkFn Try.prog p.1 p.2) = true := by kernel_rfl
theorem clone_chk0 : Go.Abs.chkClone Try.prog Go.Abs.n_slices_Clone_byte_byte_ 1 1 (.int .u8 0) = true := by kernel_rfl
theorem tbl_ok (f : FuncId) (fn : Go.Abs.AFunc) (h : Go.Abs.tbl f = some fn) : Go.Abs.chkFn Try.prog f fn = true := by
  unfold Go.Abs.tbl at h
  obtain ⟨p, hp, rfl⟩ := Option.map_eq_some_iff.1 h
  have h1 := List.find?_some hp
  have h2 := List.mem_of_find?_eq_some hp
  have h3 := List.all_eq_true.1 codes_ok p h2
  have h4 : p.1 = f := by simpa using h1
  rw [← h4]; exact h3
theorem ext0_ok (f : FuncId) (s) (h : Go.Abs.ext0 f = some s) : Go.Abs.FnOK Try.prog f s := by
  unfold Go.Abs.ext0 at h
  split at h
  · rename_i hf
    cases h
    subst hf
    exact Go.Abs.clone_ok clone_chk0
  · cases h
theorem ext1_ok (f : FuncId) (s) (h : Go.Abs.ext1 f = some s) : Go.Abs.FnOK Try.prog f s := by
  unfold Go.Abs.ext1 at h
  split at h
  · rename_i hf
    cases h
    subst hf
    exact Go.Abs.clone_ok clone_chk0
  · split at h
    · rename_i hf
      cases h
      subst hf
      exact fun G H args argv w V H' hl h hs => Go.Abs.callW_ok (Checked.mixed Try.checked) tbl_ok ext0_ok Go.Abs.n_crc_Of G H args argv w V H' hl h (Go.Abs.crcSem_le hs)
    · split at h
      · rename_i hf
        cases h
        subst hf
        exact fun G H args argv w V H' hl h hs => Go.Abs.callW_ok (Checked.mixed Try.checked) tbl_ok ext0_ok Go.Abs.n_ref1_Crc G H args argv w V H' hl h (Go.Abs.refCrc_le hs)
      · cases h
theorem ext_ok (f : FuncId) (s) (h : Go.Abs.ext f = some s) : Go.Abs.FnOK Try.prog f s := by
  unfold Go.Abs.ext at h
  split at h
  · rename_i hf
    cases h
    subst hf
    exact Go.Abs.clone_ok clone_chk0
  · split at h
    · rename_i hf
      cases h
      subst hf
      exact fun G H args argv w V H' hl h hs => Go.Abs.callW_ok (Checked.mixed Try.checked) tbl_ok ext0_ok Go.Abs.n_crc_Of G H args argv w V H' hl h (Go.Abs.crcSem_le hs)
    · split at h
      · rename_i hf
        cases h
        subst hf
        exact fun G H args argv w V H' hl h hs => Go.Abs.callW_ok (Checked.mixed Try.checked) tbl_ok ext0_ok Go.Abs.n_ref1_Crc G H args argv w V H' hl h (Go.Abs.refCrc_le hs)
      · split at h
        · rename_i hf
          cases h
          subst hf
          exact Go.Abs.beside_ok (Go.Abs.callW_ok (Checked.mixed Try.checked) tbl_ok ext1_ok Go.Abs.n_law6_known)
        · cases h
theorem own : ownKnob Try.prog.godebug = none := by kernel_rfl
theorem laidOut : laidOutB Try.prog = true := by kernel_rfl
set_option maxRecDepth 100000 in
theorem lifted (os : Os) (started : os.Started) (H : Type) (enc : TypeId × Value → H) :
    ReturnsInHanded {} Try.checked os 3 .any (Rows.batchTellsSpec.pre6 enc Try.prog Try.f3 Rows.batchTellsRow.domain false) (Rows.batchTellsSpec.post enc Try.prog Try.f3 false true false false) := by
  refine returnsInHanded_of_change_sized (C := Try.checked) own started (by kernel_rfl) Try.func3
    (ChangeSpec.witness6 (enc := enc) (C := Try.checked) false ⟨#[], #[.slice none 0 0, .int .i64 0, .int .i64 0, .agg #[.int .i64 0, .int .i64 0, .int .i64 0, .int .i64 0, .bool false, .int .i64 0, .slice none 0 0], .slice none 0 0, .int .i64 0, .int .u8 0], []⟩ 8 (by kernel_rfl) (by kernel_rfl) (by kernel_rfl) (by kernel_rfl)) ?_
  intro W base args ds gs before hval0 hW hcnd hsz0 _
  have hsz : (DataW.weightsEach Try.prog (Try.f3.params.toList ++ Rows.batchTellsSpec.plain.varTypes Try.prog) (ds ++ gs)).all (· ≤ reachBytes) = true := hsz0
  have hval : ∀ (j : Nat) t v, Try.f3.params[j]? = some t → args[j]? = some v → Value.okWide Try.prog W .any base t v := hval0
  have hW' := hW
  obtain ⟨p, q, hA0, hV, rfl, hfz, hnd⟩ := hW
  have hA : DataW.TrodAll enc Try.prog W 0 (fun _ => true) true Try.f3.params.toList args.toList ds p := hA0
  rw [Try.params3] at hA hval hsz
  obtain ⟨v0, vs0, d0, ds0, p0, q0, hargs, rfl, rfl, h0, r0⟩ := trodAll_cons hA
  obtain ⟨v1, vs1, d1, ds1, p1, q1, rfl, rfl, rfl, h1, r1⟩ := trodAll_cons r0
  obtain ⟨v2, vs2, d2, ds2, p2, q2, rfl, rfl, rfl, h2, r2⟩ := trodAll_cons r1
  obtain ⟨v3, vs3, d3, ds3, p3, q3, rfl, rfl, rfl, h3, r3⟩ := trodAll_cons r2
  obtain ⟨v4, vs4, d4, ds4, p4, q4, rfl, rfl, rfl, h4, r4⟩ := trodAll_cons r3
  obtain ⟨v5, vs5, d5, ds5, p5, q5, rfl, rfl, rfl, h5, r5⟩ := trodAll_cons r4
  obtain ⟨v6, vs6, d6, ds6, p6, q6, rfl, rfl, rfl, h6, r6⟩ := trodAll_cons r5
  obtain ⟨rfl, rfl, rfl⟩ := trodAll_nil r6
  obtain rfl : args = #[v0, v1, v2, v3, v4, v5, v6] := by cases args; simp_all
  obtain ⟨rfl, rfl⟩ := trodVars_none hV
  obtain ⟨a0, len0, cap0, rfl⟩ := okWide_slice Try.underlying22 (hval 0 22 v0 rfl rfl)
  have k0 := h0
  have lt0 : ∀ x ∈ p0, x.block < W.heap.size := by obtain ⟨m, hm⟩ := k0; exact DataW.trod_lt m _ _ _ hm
  have y0 : len0 * 8 ≤ 140737488351232 := Go.Abs.sized_row hsz (j := 0) (t := 22) rfl rfl Try.underlying22 Try.underlying3 (by kernel_rfl) (by kernel_rfl) h0
  obtain ⟨l0, s0, n0, w0⟩ := Go.Abs.open_row Try.underlying22 Try.underlying3 (by kernel_rfl) (hval 0 22 (.slice a0 len0 cap0) rfl rfl) h0
  obtain ⟨a1, rfl, rfl, rfl, w1⟩ := open_int Try.underlying3 (hval 1 3 v1 rfl rfl) h1
  obtain ⟨a2, rfl, rfl, rfl, w2⟩ := open_int Try.underlying2 (hval 2 2 v2 rfl rfl) h2
  have k3 := h3
  have lt3 : ∀ x ∈ p3, x.block < W.heap.size := by obtain ⟨m, hm⟩ := k3; exact DataW.trod_lt m _ _ _ hm
  obtain ⟨x30, x31, x32, x33, x34, x35, l3, s3, ⟨i30, i31, i32, i33, i35⟩, y3⟩ := Go.Abs.open_batch Try.underlying25 (by kernel_rfl) (by kernel_rfl) ⟨_, rfl, rfl, rfl⟩ ⟨_, rfl, rfl, rfl⟩ ⟨_, rfl, rfl, rfl⟩ ⟨_, rfl, rfl, rfl⟩ ⟨_, rfl, rfl, rfl⟩ ⟨_, rfl, rfl, rfl⟩ ⟨_, rfl, rfl, rfl⟩ (by kernel_rfl) (by kernel_rfl) (by kernel_rfl) (by kernel_rfl) (by kernel_rfl) (by kernel_rfl) (by kernel_rfl) Try.underlying2 Try.underlying2 Try.underlying3 Try.underlying2 Try.underlying4 Try.underlying3 Try.underlying23 (by kernel_rfl) (by kernel_rfl) (hval 3 25 v3 rfl rfl) h3
  obtain ⟨a4, len4, cap4, rfl⟩ := okWide_slice Try.underlying26 (hval 4 26 v4 rfl rfl)
  have k4 := h4
  have lt4 : ∀ x ∈ p4, x.block < W.heap.size := by obtain ⟨m, hm⟩ := k4; exact DataW.trod_lt m _ _ _ hm
  have y4 : len4 * 1 ≤ 140737488351232 := Go.Abs.sized_row hsz (j := 4) (t := 26) rfl rfl Try.underlying26 Try.underlying5 (by kernel_rfl) (by kernel_rfl) h4
  obtain ⟨l4, s4, n4, w4⟩ := Go.Abs.open_row Try.underlying26 Try.underlying5 (by kernel_rfl) (hval 4 26 (.slice a4 len4 cap4) rfl rfl) h4
  obtain ⟨a5, rfl, rfl, rfl, w5⟩ := open_int Try.underlying3 (hval 5 3 v5 rfl rfl) h5
  obtain ⟨a6, rfl, rfl, rfl, w6⟩ := open_int Try.underlying5 (hval 6 5 v6 rfl rfl) h6
  clear hA0 hval0
  have walk := Go.Abs.law_walk (w := W) (Go.Abs.callW_ok (Checked.mixed Try.checked) tbl_ok ext_ok 3) (args := [.list 1 (Go.Abs.ints .i64 l0) .ro, .int .i64 a1, .int .i64 a2, _, .list 1 (Go.Abs.ints .u8 l4) .ro, .int .i64 a5, .int .u8 a6]) (argv := [.slice a0 len0 cap0, .int .i64 a1, .int .i64 a2, v3, .slice a4 len4 cap4, .int .i64 a5, .int .u8 a6]) rfl (Go.Abs.st_cons (s0) (Go.Abs.st_cons (Go.Abs.st_int .i64 a1) (Go.Abs.st_cons (Go.Abs.st_int .i64 a2) (Go.Abs.st_cons (s3) (Go.Abs.st_cons (s4) (Go.Abs.st_cons (Go.Abs.st_int .i64 a5) (Go.Abs.st_cons (Go.Abs.st_int .u8 a6) (Go.Abs.st_nil)))))))) (Go.Abs.tells_spec l0 a1 a2 (⟨x30, x31, x32, x33, x34, x35, l3⟩ : Go.Abs.Ba) l4 a5 a6 (fun x hx => Go.Abs.wf_i64 (w0 x hx)) (by rw [n0]; exact y0) (Go.Abs.wf_i64 w1) (Go.Abs.wf_i64 w2) (Go.Abs.BOK.mk i30 i31 i32 i33 i35) y3 (fun x hx => Go.Abs.wf_u8 (w4 x hx)) (by rw [n4]; exact y4) (Go.Abs.wf_i64 w5) (Go.Abs.wf_u8 w6))
  refine walk.mono fun e W' ⟨he, bel⟩ => ?_
  subst he
  exact ⟨_, rfl, _, _, _, [], _, [], hW', trodAll_mk1 (shut_bool Try.underlying4 _), (trodAll_cons_mk (Below.trod laidOut (by kernel_rfl) (of_decide_eq_true (by kernel_rfl)) k0 bel lt0) (trodAll_cons_mk (shut_int Try.underlying3 w1) (trodAll_cons_mk (shut_int Try.underlying2 w2) (trodAll_cons_mk (Below.trod laidOut (by kernel_rfl) (of_decide_eq_true (by kernel_rfl)) k3 bel lt3) (trodAll_cons_mk (Below.trod laidOut (by kernel_rfl) (of_decide_eq_true (by kernel_rfl)) k4 bel lt4) (trodAll_cons_mk (shut_int Try.underlying3 w5) (trodAll_cons_mk (shut_int Try.underlying5 w6) trodAll_mk0))))))), rfl, bel.frame _, fun h => by cases h⟩
theorem over : Rows.batchTellsRow.holds Try.pinned (OpenSpec.ofChange Rows.batchTellsSpec) :=
  OpenClaim.holds_of_wide 3 Try.f3 rfl rfl rfl rfl rfl rfl rfl ⟨rfl, rfl, rfl, rfl, rfl⟩ rfl rfl rfl rfl rfl (by kernel_rfl) Try.func3 (by kernel_rfl)
    (of_decide_eq_true (by kernel_rfl)) (by unfold Func.isWrapper; first | (rw [if_pos (by decide +kernel)]; kernel_rfl) | (rw [if_neg (by decide +kernel)]; exact ⟨rfl, rfl⟩))
    (fun os started H enc _ => lifted os started H enc)
theorem proved : Rows.BatchTellsSaid := over
#print axioms proved
end Go.Proofs.Ytnogeclgmdkabaa.batchTells
namespace Go.Proofs.Ytnogeclgmdkabaa
/-- The row, under a short name, for the claim. -/
theorem batchTells_holds : Rows.BatchTellsSaid := batchTells.proved
end Go.Proofs.Ytnogeclgmdkabaa
