/- For inputs whose bulk together is at most 1,048,576, IndexPlays answers true: by a verified reader of the program's own code, and what it computes. -/
import Derived.Test.YtknclghaofmnhaaRows
import Derived.Test.YtknclghaofmnhaaIS
import Derived.JoinedCond
import Derived.Deep.CondSized
import Derived.WalkKit
import Derived.ProofKit
import Derived.OpenShut
import Derived.ShutString
import Derived.ChangeOld
import Derived.Below
import Derived.SizedLaws
namespace Go.Proofs.Ytknclghaofmnhaa.indexPlays
open Go.ChangeShapes Go.WideShapes Go.ChangeAt Go.RowKit
open Go.ChangeMaps (open_string shut_string)
set_option linter.unusedVariables false
/-- A row's places count in its bulk. -/
theorem bulk_row {H : Type} {enc : TypeId × Value → H} {P : Program} {W : World} {base : Nat} {spare : Nat → Bool} {held : Bool} {t e : TypeId} {a : Option Addr} {len cap : Nat} {d : DataW H} {ps : List MemPlace}
    (hu : P.underlying t = some (.slice e)) (h : DataW.Trod enc P W base spare held t (.slice a len cap) d ps) : len ≤ Rows.uptoBulk d := by
  have hall : ∀ (l : List (DataW H)), l.length ≤ Rows.uptoBulkAll l := by
    intro l
    induction l with
    | nil => simp [Rows.uptoBulkAll]
    | cons x r ih => simp only [Rows.uptoBulkAll, List.length_cons]; have : 1 ≤ Rows.uptoBulk x := by { cases x with
      | lit l => cases l <;> simp [Rows.uptoBulk]
      | _ => simp [Rows.uptoBulk] }; omega
  rcases Go.Abs.row_data hu h with ⟨rfl, rfl⟩ | ⟨es, rs, rfl, rfl⟩
  · simp
  · have := hall es
    simp only [Rows.uptoBulk]; omega
theorem bulk_in {H : Type} : ∀ (l : List (DataW H)) (d : DataW H), d ∈ l → Rows.uptoBulk d ≤ Rows.uptoBulkAll l
  | x :: l, d, h => by
    rcases List.mem_cons.1 h with rfl | h
    · simp only [Rows.uptoBulkAll]; omega
    · have := bulk_in l d h; simp only [Rows.uptoBulkAll]; omega
theorem codes_ok : Go.Abs.codes.all (fun p => Go.Abs.chkFn Try.prog p.1 p.2) = true := by kernel_rfl
theorem clone_chk0 : Go.Abs.chkClone Try.prog Go.Abs.n_slices_Clone_byte_byte_ 1 1 (.int .u8 0) = true := by kernel_rfl
theorem tbl_ok (f : FuncId) (fn : Go.Abs.AFunc) (h : Go.Abs.tbl f = some fn) : Go.Abs.chkFn Try.prog f fn = true := by
  unfold Go.Abs.tbl at h
  obtain ⟨p, hp, rfl⟩ := Option.map_eq_some_iff.1 h
  have h1 := List.find?_some hp
  have h2 := List.mem_of_find?_eq_some hp
  have h3 := List.all_eq_true.1 codes_ok p h2
  have h4 : p.1 = f := by simpa using h1
  rw [← h4]; exact h3
theorem ext_ok (f : FuncId) (s) (h : Go.Abs.ext f = some s) : Go.Abs.FnOK Try.prog f s := by
  unfold Go.Abs.ext at h
  split at h
  · rename_i hf
    cases h
    subst hf
    exact Go.Abs.clone_ok clone_chk0
  · cases h
theorem own : ownKnob Try.prog.godebug = none := by kernel_rfl
theorem laidOut : laidOutB Try.prog = true := by kernel_rfl
set_option maxRecDepth 100000 in
theorem lifted (os : Os) (started : os.Started) (H : Type) (enc : TypeId × Value → H) (F : Stop.Interp) :
    ReturnsInHanded {} Try.checked os 3 .any ((Rows.OpenSpec.upto Rows.indexPlaysSpec).pre6 enc Try.prog Try.f3 Rows.indexPlaysUptoRow.domain false) (((Rows.OpenSpec.upto Rows.indexPlaysSpec).at F).post enc Try.prog Try.f3 false true false false) := by
  refine returnsInHanded_of_cond_sized (C := Try.checked) (s := Rows.OpenSpec.upto Rows.indexPlaysSpec) (k := Rows.uptoSmall) rfl own started (by kernel_rfl) Try.func3
    (OpenSpec.witness (enc := enc) (C := Try.checked) (s := Rows.OpenSpec.upto Rows.indexPlaysSpec) (k := Rows.uptoSmall) rfl false ⟨#[], #[.int .i64 0, .int .i64 0, .slice none 0 0, .slice none 0 0], []⟩ 8 (by kernel_rfl) (by kernel_rfl) (by kernel_rfl)
      (x := ([.lit (.int .i64 0), .lit (.int .i64 0), .nil, .nil], [], [])) (by kernel_rfl) rfl (by kernel_rfl)) ?_
  intro W base args ds gs before hval0 hW hcnd hk0 hsz0 _
  have hk1 : Rows.uptoBulkAll (ds ++ gs) ≤ 1048576 := of_decide_eq_true hk0
  have hval : ∀ (j : Nat) t v, Try.f3.params[j]? = some t → args[j]? = some v → Value.okWide Try.prog W .any base t v := hval0
  have hW' := hW
  obtain ⟨p, q, hA0, hV, rfl, hfz, hnd⟩ := hW
  have hA : DataW.TrodAll enc Try.prog W 0 (fun _ => true) true Try.f3.params.toList args.toList ds p := hA0
  rw [Try.params3] at hA hval
  obtain ⟨v0, vs0, d0, ds0, p0, q0, hargs, rfl, rfl, h0, r0⟩ := trodAll_cons hA
  obtain ⟨v1, vs1, d1, ds1, p1, q1, rfl, rfl, rfl, h1, r1⟩ := trodAll_cons r0
  obtain ⟨v2, vs2, d2, ds2, p2, q2, rfl, rfl, rfl, h2, r2⟩ := trodAll_cons r1
  obtain ⟨v3, vs3, d3, ds3, p3, q3, rfl, rfl, rfl, h3, r3⟩ := trodAll_cons r2
  obtain ⟨rfl, rfl, rfl⟩ := trodAll_nil r3
  obtain rfl : args = #[v0, v1, v2, v3] := by cases args; simp_all
  obtain ⟨rfl, rfl⟩ := trodVars_none hV
  have hk2 := fun d hd => Nat.le_trans (bulk_in _ d hd) hk1
  obtain ⟨a0, rfl, rfl, rfl, w0⟩ := open_int Try.underlying2 (hval 0 2 v0 rfl rfl) h0
  obtain ⟨a1, rfl, rfl, rfl, w1⟩ := open_int Try.underlying3 (hval 1 3 v1 rfl rfl) h1
  obtain ⟨a2, len2, cap2, rfl⟩ := okWide_slice Try.underlying22 (hval 2 22 v2 rfl rfl)
  have k2 := h2
  have lt2 : ∀ x ∈ p2, x.block < W.heap.size := by obtain ⟨m, hm⟩ := k2; exact DataW.trod_lt m _ _ _ hm
  have y2 : len2 ≤ 1048576 := Nat.le_trans (bulk_row Try.underlying22 h2) (hk2 d2 (by simp))
  obtain ⟨w2, s2, n2, u2⟩ := Go.Abs.open_rows (fts := [.int .i64, .int .i64, .int .i64, .int .i64]) Try.underlying22 (by kernel_rfl) (by kernel_rfl) (hval 2 22 (.slice a2 len2 cap2) rfl rfl) h2
  obtain ⟨l2, e2, b2, f2⟩ := Go.Abs.asks_of w2 u2
  rw [e2] at s2
  obtain ⟨a3, len3, cap3, rfl⟩ := okWide_slice Try.underlying23 (hval 3 23 v3 rfl rfl)
  have k3 := h3
  have lt3 : ∀ x ∈ p3, x.block < W.heap.size := by obtain ⟨m, hm⟩ := k3; exact DataW.trod_lt m _ _ _ hm
  have y3 : len3 ≤ 1048576 := Nat.le_trans (bulk_row Try.underlying23 h3) (hk2 d3 (by simp))
  obtain ⟨l3, s3, n3, w3⟩ := Go.Abs.open_row Try.underlying23 Try.underlying3 (by kernel_rfl) (hval 3 23 (.slice a3 len3 cap3) rfl rfl) h3
  clear hA0 hval0 hsz0
  have walk := Go.Abs.law_walk (w := W) (Go.Abs.callW_ok (Checked.mixed Try.checked) tbl_ok ext_ok 3) (args := [.int .i64 a0, .int .i64 a1, _, .list 1 (Go.Abs.ints .i64 l3) .ro]) (argv := [.int .i64 a0, .int .i64 a1, .slice a2 len2 cap2, .slice a3 len3 cap3]) rfl (Go.Abs.st_cons (Go.Abs.st_int .i64 a0) (Go.Abs.st_cons (Go.Abs.st_int .i64 a1) (Go.Abs.st_cons (s2) (Go.Abs.st_cons (s3) (Go.Abs.st_nil))))) (Go.Abs.plays_spec a0 a1 l2 l3 (Go.Abs.wf_i64 w0) (Go.Abs.wf_i64 w1) b2 (by rw [f2, n2]; omega) (fun x hx => Go.Abs.wf_i64 (w3 x hx)) (by rw [n3]; omega))
  refine walk.mono fun e W' ⟨he, bel⟩ => ?_
  subst he
  exact ⟨_, rfl, _, _, _, [], _, [], hW', trodAll_mk1 (shut_bool Try.underlying4 _), (trodAll_cons_mk (shut_int Try.underlying2 w0) (trodAll_cons_mk (shut_int Try.underlying3 w1) (trodAll_cons_mk (Below.trod laidOut (by kernel_rfl) (of_decide_eq_true (by kernel_rfl)) k2 bel lt2) (trodAll_cons_mk (Below.trod laidOut (by kernel_rfl) (of_decide_eq_true (by kernel_rfl)) k3 bel lt3) trodAll_mk0)))), rfl, bel.frame _, fun h => by cases h⟩
theorem proved : Rows.IndexPlaysUptoSaid :=
  OpenClaim.holds_of_cond 3 Try.f3 rfl rfl rfl rfl rfl rfl rfl ⟨rfl, rfl, rfl, rfl, rfl⟩ rfl rfl rfl rfl rfl (by kernel_rfl) Try.func3 (by kernel_rfl)
    (of_decide_eq_true (by kernel_rfl)) (by unfold Func.isWrapper; first | (rw [if_pos (by decide +kernel)]; kernel_rfl) | (rw [if_neg (by decide +kernel)]; exact ⟨rfl, rfl⟩))
    (fun os started H enc _ F => lifted os started H enc F)
#print axioms proved
end Go.Proofs.Ytknclghaofmnhaa.indexPlays
namespace Go.Proofs.Ytknclghaofmnhaa
/-- The row, under a short name, for the claim. -/
theorem indexPlaysUpto_holds : Rows.IndexPlaysUptoSaid := indexPlays.proved
end Go.Proofs.Ytknclghaofmnhaa
