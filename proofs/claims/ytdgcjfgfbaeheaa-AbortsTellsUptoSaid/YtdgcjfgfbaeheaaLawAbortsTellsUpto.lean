/- For inputs whose bulk together is at most 1,048,576, AbortsTells answers true: by a verified reader of the program's own code, and what it computes. -/
import Derived.Test.YtdgcjfgfbaeheaaRows
import Derived.Test.YtdgcjfgfbaeheaaBS7
import Derived.JoinedCond
import Derived.Deep.CondSized
import Derived.WalkKit
import Derived.ProofKit
import Derived.OpenShut
import Derived.ShutString
import Derived.ChangeOld
import Derived.Below
import Derived.SizedLaws
namespace Go.Proofs.Ytdgcjfgfbaeheaa.abortsTells
open Go.ChangeShapes Go.WideShapes Go.ChangeAt Go.RowKit
open Go.ChangeMaps (open_string shut_string)
set_option linter.unusedVariables false
/-- A row's places count in its bulk. -/
theorem bulk_row {H : Type} {enc : TypeId × Value → H} {P : Program} {W : World} {base : Nat} {spare : Nat → Bool} {held : Bool} {t e : TypeId} {a : Option Addr} {len cap : Nat} {d : DataW H} {ps : List MemPlace}
    (hu : P.underlying t = some (.slice e)) (h : DataW.Trod enc P W base spare held t (.slice a len cap) d ps) : len ≤ Rows.uptoBulk d := by
  have hall : ∀ (l : List (DataW H)), l.length ≤ Rows.uptoBulkAll l := by
    intro l
    induction l with
    | nil => simp [Rows.uptoBulkAll]
    | cons x r ih => simp only [Rows.uptoBulkAll, List.length_cons]; have : 1 ≤ Rows.uptoBulk x := by { cases x with
      | lit l => cases l <;> simp [Rows.uptoBulk]
      | _ => simp [Rows.uptoBulk] }; omega
  rcases Go.Abs.row_data hu h with ⟨rfl, rfl⟩ | ⟨es, rs, rfl, rfl⟩
  · simp
  · have := hall es
    simp only [Rows.uptoBulk]; omega
theorem bulk_in {H : Type} : ∀ (l : List (DataW H)) (d : DataW H), d ∈ l → Rows.uptoBulk d ≤ Rows.uptoBulkAll l
  | x :: l, d, h => by
    rcases List.mem_cons.1 h with rfl | h
    · simp only [Rows.uptoBulkAll]; omega
    · have := bulk_in l d h; simp only [Rows.uptoBulkAll]; omega
theorem codes_ok : Go.Abs.codes.all (fun p => Go.Abs.chkFn Try.prog p.1 p.2) = true := by kernel_rfl
theorem clone_chk0 : Go.Abs.chkClone Try.prog Go.Abs.n_slices_Clone_byte_byte_ 1 1 (.int .u8 0) = true := by kernel_rfl
theorem clone_chk1 : Go.Abs.chkClone Try.prog Go.Abs.n_slices_Clone_3_int64_3_int64_ 3 24 (.agg [.int .i64 0, .int .i64 0, .int .i64 0]) = true := by kernel_rfl
theorem clone_chk2 : Go.Abs.chkClone Try.prog Go.Abs.n_slices_Clone_api_Dropped_api_Dropped_ 3 24 (.agg [.int .i64 0, .int .i64 0, .int .i64 0]) = true := by kernel_rfl
theorem tbl_ok (f : FuncId) (fn : Go.Abs.AFunc) (h : Go.Abs.tbl f = some fn) : Go.Abs.chkFn Try.prog f fn = true := by
  unfold Go.Abs.tbl at h
  obtain ⟨p, hp, rfl⟩ := Option.map_eq_some_iff.1 h
  have h1 := List.find?_some hp
  have h2 := List.mem_of_find?_eq_some hp
  have h3 := List.all_eq_true.1 codes_ok p h2
  have h4 : p.1 = f := by simpa using h1
  rw [← h4]; exact h3
theorem ext0_ok (f : FuncId) (s) (h : Go.Abs.ext0 f = some s) : Go.Abs.FnOK Try.prog f s := by
  unfold Go.Abs.ext0 at h
  split at h
  · rename_i hf
    cases h
    subst hf
    exact Go.Abs.clone_ok clone_chk0
  · split at h
    · rename_i hf
      cases h
      subst hf
      exact Go.Abs.clone_ok clone_chk1
    · split at h
      · rename_i hf
        cases h
        subst hf
        exact Go.Abs.clone_ok clone_chk2
      · cases h
theorem ext1_ok (f : FuncId) (s) (h : Go.Abs.ext1 f = some s) : Go.Abs.FnOK Try.prog f s := by
  unfold Go.Abs.ext1 at h
  split at h
  · rename_i hf
    cases h
    subst hf
    exact Go.Abs.clone_ok clone_chk0
  · split at h
    · rename_i hf
      cases h
      subst hf
      exact Go.Abs.clone_ok clone_chk1
    · split at h
      · rename_i hf
        cases h
        subst hf
        exact Go.Abs.clone_ok clone_chk2
      · split at h
        · rename_i hf
          cases h
          subst hf
          exact fun G H args argv w V H' hl h hs => Go.Abs.callW_ok (Checked.mixed Try.checked) tbl_ok ext0_ok Go.Abs.n_crc_Of G H args argv w V H' hl h (Go.Abs.crcSem_le hs)
        · split at h
          · rename_i hf
            cases h
            subst hf
            exact fun G H args argv w V H' hl h hs => Go.Abs.callW_ok (Checked.mixed Try.checked) tbl_ok ext0_ok Go.Abs.n_ref1_Crc G H args argv w V H' hl h (Go.Abs.refCrc_le hs)
          · cases h
theorem ext_ok (f : FuncId) (s) (h : Go.Abs.ext f = some s) : Go.Abs.FnOK Try.prog f s := by
  unfold Go.Abs.ext at h
  split at h
  · rename_i hf
    cases h
    subst hf
    exact Go.Abs.clone_ok clone_chk0
  · split at h
    · rename_i hf
      cases h
      subst hf
      exact Go.Abs.clone_ok clone_chk1
    · split at h
      · rename_i hf
        cases h
        subst hf
        exact Go.Abs.clone_ok clone_chk2
      · split at h
        · rename_i hf
          cases h
          subst hf
          exact fun G H args argv w V H' hl h hs => Go.Abs.callW_ok (Checked.mixed Try.checked) tbl_ok ext0_ok Go.Abs.n_crc_Of G H args argv w V H' hl h (Go.Abs.crcSem_le hs)
        · split at h
          · rename_i hf
            cases h
            subst hf
            exact fun G H args argv w V H' hl h hs => Go.Abs.callW_ok (Checked.mixed Try.checked) tbl_ok ext0_ok Go.Abs.n_ref1_Crc G H args argv w V H' hl h (Go.Abs.refCrc_le hs)
          · split at h
            · rename_i hf
              cases h
              subst hf
              exact Go.Abs.beside_ok (Go.Abs.callW_ok (Checked.mixed Try.checked) tbl_ok ext1_ok Go.Abs.n_law13_known)
            · cases h
theorem own : ownKnob Try.prog.godebug = none := by kernel_rfl
theorem laidOut : laidOutB Try.prog = true := by kernel_rfl
set_option maxRecDepth 100000 in
theorem lifted (os : Os) (started : os.Started) (H : Type) (enc : TypeId × Value → H) (F : Stop.Interp) :
    ReturnsInHanded {} Try.checked os 6 .any ((Rows.OpenSpec.upto Rows.abortsTellsSpec).pre6 enc Try.prog Try.f6 Rows.abortsTellsUptoRow.domain false) (((Rows.OpenSpec.upto Rows.abortsTellsSpec).at F).post enc Try.prog Try.f6 false true false false) := by
  refine returnsInHanded_of_cond_sized (C := Try.checked) (s := Rows.OpenSpec.upto Rows.abortsTellsSpec) (k := Rows.uptoSmall) rfl own started (by kernel_rfl) Try.func6
    (OpenSpec.witness (enc := enc) (C := Try.checked) (s := Rows.OpenSpec.upto Rows.abortsTellsSpec) (k := Rows.uptoSmall) rfl false ⟨#[], #[.slice none 0 0, .slice none 0 0, .int .i64 0, .int .i64 0, .slice none 0 0, .slice none 0 0], []⟩ 8 (by kernel_rfl) (by kernel_rfl) (by kernel_rfl)
      (x := ([.nil, .nil, .lit (.int .i64 0), .lit (.int .i64 0), .nil, .nil], [], [])) (by kernel_rfl) rfl (by kernel_rfl)) ?_
  intro W base args ds gs before hval0 hW hcnd hk0 hsz0 _
  have hk1 : Rows.uptoBulkAll (ds ++ gs) ≤ 1048576 := of_decide_eq_true hk0
  have hval : ∀ (j : Nat) t v, Try.f6.params[j]? = some t → args[j]? = some v → Value.okWide Try.prog W .any base t v := hval0
  have hW' := hW
  obtain ⟨p, q, hA0, hV, rfl, hfz, hnd⟩ := hW
  have hA : DataW.TrodAll enc Try.prog W 0 (fun _ => true) true Try.f6.params.toList args.toList ds p := hA0
  rw [Try.params6] at hA hval
  obtain ⟨v0, vs0, d0, ds0, p0, q0, hargs, rfl, rfl, h0, r0⟩ := trodAll_cons hA
  obtain ⟨v1, vs1, d1, ds1, p1, q1, rfl, rfl, rfl, h1, r1⟩ := trodAll_cons r0
  obtain ⟨v2, vs2, d2, ds2, p2, q2, rfl, rfl, rfl, h2, r2⟩ := trodAll_cons r1
  obtain ⟨v3, vs3, d3, ds3, p3, q3, rfl, rfl, rfl, h3, r3⟩ := trodAll_cons r2
  obtain ⟨v4, vs4, d4, ds4, p4, q4, rfl, rfl, rfl, h4, r4⟩ := trodAll_cons r3
  obtain ⟨v5, vs5, d5, ds5, p5, q5, rfl, rfl, rfl, h5, r5⟩ := trodAll_cons r4
  obtain ⟨rfl, rfl, rfl⟩ := trodAll_nil r5
  obtain rfl : args = #[v0, v1, v2, v3, v4, v5] := by cases args; simp_all
  obtain ⟨rfl, rfl⟩ := trodVars_none hV
  have hk2 := fun d hd => Nat.le_trans (bulk_in _ d hd) hk1
  obtain ⟨a0, len0, cap0, rfl⟩ := okWide_slice Try.underlying22 (hval 0 22 v0 rfl rfl)
  have k0 := h0
  have lt0 : ∀ x ∈ p0, x.block < W.heap.size := by obtain ⟨m, hm⟩ := k0; exact DataW.trod_lt m _ _ _ hm
  have y0 : len0 ≤ 1048576 := Nat.le_trans (bulk_row Try.underlying22 h0) (hk2 d0 (by simp))
  obtain ⟨l0, s0, n0, w0⟩ := Go.Abs.open_row Try.underlying22 Try.underlying3 (by kernel_rfl) (hval 0 22 (.slice a0 len0 cap0) rfl rfl) h0
  obtain ⟨a1, len1, cap1, rfl⟩ := okWide_slice Try.underlying48 (hval 1 48 v1 rfl rfl)
  have k1 := h1
  have lt1 : ∀ x ∈ p1, x.block < W.heap.size := by obtain ⟨m, hm⟩ := k1; exact DataW.trod_lt m _ _ _ hm
  have y1 : len1 ≤ 1048576 := Nat.le_trans (bulk_row Try.underlying48 h1) (hk2 d1 (by simp))
  obtain ⟨w1, s1, n1, u1⟩ := Go.Abs.open_rowsW (fts := [.int .i64, .int .i64, .int .i64, .int .i64, .int .i64]) Try.underlying48 (fun fuel cs x h G => Go.Abs.open_flatsN 2 50 _ (by kernel_rfl) fuel cs x h G) (by kernel_rfl) (hval 1 48 (.slice a1 len1 cap1) rfl rfl) h1
  obtain ⟨l1, e1, b1, f1⟩ := Go.Abs.asks_of13 w1 u1
  rw [e1] at s1
  obtain ⟨a2, rfl, rfl, rfl, w2⟩ := open_int Try.underlying2 (hval 2 2 v2 rfl rfl) h2
  obtain ⟨a3, rfl, rfl, rfl, w3⟩ := open_int Try.underlying2 (hval 3 2 v3 rfl rfl) h3
  obtain ⟨a4, len4, cap4, rfl⟩ := okWide_slice Try.underlying39 (hval 4 39 v4 rfl rfl)
  have k4 := h4
  have lt4 : ∀ x ∈ p4, x.block < W.heap.size := by obtain ⟨m, hm⟩ := k4; exact DataW.trod_lt m _ _ _ hm
  have y4 : len4 ≤ 1048576 := Nat.le_trans (bulk_row Try.underlying39 h4) (hk2 d4 (by simp))
  obtain ⟨l4, s4, n4, w4⟩ := Go.Abs.open_row Try.underlying39 Try.underlying5 (by kernel_rfl) (hval 4 39 (.slice a4 len4 cap4) rfl rfl) h4
  obtain ⟨a5, len5, cap5, rfl⟩ := okWide_slice Try.underlying58 (hval 5 58 v5 rfl rfl)
  have k5 := h5
  have lt5 : ∀ x ∈ p5, x.block < W.heap.size := by obtain ⟨m, hm⟩ := k5; exact DataW.trod_lt m _ _ _ hm
  have y5 : len5 ≤ 1048576 := Nat.le_trans (bulk_row Try.underlying58 h5) (hk2 d5 (by simp))
  obtain ⟨l5, s5, n5, w5⟩ := Go.Abs.open_row Try.underlying58 Try.underlying2 (by kernel_rfl) (hval 5 58 (.slice a5 len5 cap5) rfl rfl) h5
  clear hA0 hval0 hsz0
  have walk := Go.Abs.law_walk (w := W) (Go.Abs.callW_ok (Checked.mixed Try.checked) tbl_ok ext_ok 6) (args := [.list 1 (Go.Abs.ints .i64 l0) .ro, _, .int .i64 a2, .int .i64 a3, .list 1 (Go.Abs.ints .u8 l4) .ro, .list 1 (Go.Abs.ints .i64 l5) .ro]) (argv := [.slice a0 len0 cap0, .slice a1 len1 cap1, .int .i64 a2, .int .i64 a3, .slice a4 len4 cap4, .slice a5 len5 cap5]) rfl (Go.Abs.st_cons (s0) (Go.Abs.st_cons (s1) (Go.Abs.st_cons (Go.Abs.st_int .i64 a2) (Go.Abs.st_cons (Go.Abs.st_int .i64 a3) (Go.Abs.st_cons (s4) (Go.Abs.st_cons (s5) (Go.Abs.st_nil))))))) (Go.Abs.tells_spec l0 l1 a2 a3 l4 l5 (fun x hx => Go.Abs.wf_i64 (w0 x hx)) (by rw [n0]; omega) b1 (by rw [f1, n1]; omega) (Go.Abs.wf_i64 w2) (Go.Abs.wf_i64 w3) (fun x hx => Go.Abs.wf_u8 (w4 x hx)) (by rw [n4]; omega) (fun x hx => Go.Abs.wf_i64 (w5 x hx)) (by rw [n5]; omega))
  refine walk.mono fun e W' ⟨he, bel⟩ => ?_
  subst he
  exact ⟨_, rfl, _, _, _, [], _, [], hW', trodAll_mk1 (shut_bool Try.underlying4 _), (trodAll_cons_mk (Below.trod laidOut (by kernel_rfl) (of_decide_eq_true (by kernel_rfl)) k0 bel lt0) (trodAll_cons_mk (Below.trod laidOut (by kernel_rfl) (of_decide_eq_true (by kernel_rfl)) k1 bel lt1) (trodAll_cons_mk (shut_int Try.underlying2 w2) (trodAll_cons_mk (shut_int Try.underlying2 w3) (trodAll_cons_mk (Below.trod laidOut (by kernel_rfl) (of_decide_eq_true (by kernel_rfl)) k4 bel lt4) (trodAll_cons_mk (Below.trod laidOut (by kernel_rfl) (of_decide_eq_true (by kernel_rfl)) k5 bel lt5) trodAll_mk0)))))), rfl, bel.frame _, fun h => by cases h⟩
theorem proved : Rows.AbortsTellsUptoSaid :=
  OpenClaim.holds_of_cond 6 Try.f6 rfl rfl rfl rfl rfl rfl rfl ⟨rfl, rfl, rfl, rfl, rfl⟩ rfl rfl rfl rfl rfl (by kernel_rfl) Try.func6 (by kernel_rfl)
    (of_decide_eq_true (by kernel_rfl)) (by unfold Func.isWrapper; first | (rw [if_pos (by decide +kernel)]; kernel_rfl) | (rw [if_neg (by decide +kernel)]; exact ⟨rfl, rfl⟩))
    (fun os started H enc _ F => lifted os started H enc F)
#print axioms proved
end Go.Proofs.Ytdgcjfgfbaeheaa.abortsTells
namespace Go.Proofs.Ytdgcjfgfbaeheaa
/-- The row, under a short name, for the claim. -/
theorem abortsTellsUpto_holds : Rows.AbortsTellsUptoSaid := abortsTells.proved
end Go.Proofs.Ytdgcjfgfbaeheaa
