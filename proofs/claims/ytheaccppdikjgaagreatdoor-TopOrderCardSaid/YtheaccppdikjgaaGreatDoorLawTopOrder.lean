/- For any input TopOrder answers true: by a verified reader of the program's own code, and what it computes; no condition. -/
import Derived.Test.YtheaccppdikjgaaGreatDoorRows
import Derived.Test.YtheaccppdikjgaaGreatDoorCards
import Derived.Test.YtheaccppdikjgaaGreatDoorTie
import Derived.ChangeSame
import Derived.ChangeVars
import Derived.JoinedOf
import Derived.LaidLaws
import Derived.LaidHandle
import Derived.LaidMore
import Derived.Stop.Joined
import Derived.SevenTiedAt
import Derived.WalkKit
import Derived.ProofKit
import Derived.OpenShut
import Derived.ShutString
import Derived.ChangeOld
import Derived.Below
import Derived.SizedLaws
import Derived.Test.YtheaccppdikjgaaGreatDoorFacTopOrder
import Derived.Test.YtheaccppdikjgaaGreatDoorBS4
import Derived.Test.YtheaccppdikjgaaGreatDoorBC
import Derived.Lib.Strings
import Derived.Lib.Slices
import Derived.Lib.Walk
import Derived.Lib.Bytealg
import Derived.Test.YtheaccppdikjgaaGreatDoorKB
import Derived.Test.YtheaccppdikjgaaGreatDoorK38
import Derived.Test.YtheaccppdikjgaaGreatDoorN1
set_option linter.unusedVariables false
namespace Go.Abs.Cr
open Go Go.RowKit
set_option linter.unusedSimpArgs false

def stepN : Nat → Nat → Nat
  | 0, c => c
  | n + 1, c => stepN n (crcStep c)

theorem next_loop (d : Nat) : ∀ (i c : Nat) (H : Heap), i + d = 8 → c < 4294967296 →
    loopA W0 loopW (.ghost (.kill k_crc_Next_0) l_crc_Next_0) [(0, .int .u32 (c : Nat)), (10, .int .i64 (i : Nat))] H = some (.exit 0, [(0, .int .u32 (stepN d c : Nat))], H) := by
  induction d with
  | zero =>
    intro i c H hi hc
    have : i = 8 := by omega
    subst this
    refine loop_step l_crc_Next_0.eq_1 k_crc_Next_0.eq_1 (by kernel_rfl) ?_
    have h1 : ¬ (((8 : Nat) : Int) < 8) := by omega
    simp only [go_sem, h1, simprocAttr]
    rfl
  | succ d ih =>
    intro i c H hi hc
    have h1 : ((i : Int) < 8) := by omega
    have e1 := and32 c hc
    have e2 := shr32 c
    have hle : c &&& 1 ≤ 1 := Nat.and_le_right
    have e3 := mul32 (c &&& 1) hle
    have e4 := xor32 (c >>> 1) (2197175160 * (c &&& 1)) (by rw [Nat.shiftRight_eq_div_pow]; omega) (by omega)
    have e6 : IntKind.i64.wrap ((i : Int) + 1) = ((i + 1 : Nat) : Int) := by rw [wrap_id (by unfold I64; omega)]; omega
    have h2 := ih (i + 1) (crcStep c) H (by omega) (crcStep_lt hc)
    refine loop_step l_crc_Next_0.eq_1 k_crc_Next_0.eq_1 (by kernel_rfl) ?_
    simp only [go_sem, h1, e1, e2, e3, e4, e6, simprocAttr]
    exact h2

theorem next_spec0 (c b : Nat) (H : Heap) (hc : c < 4294967296) (hb : b < 256) : W0 n_crc_Next [.int .u32 (c : Nat), .int .u8 (b : Nat)] H = some (.int .u32 (crcNext c b : Nat), H) := by
  have h := next_loop 8 0 (c ^^^ b) H rfl (xor_lt32 hc (by omega))
  have e1 := wrap32 b (by omega)
  have e2 := xor32 c b hc (by omega)
  simp only [Int.natCast_zero] at h
  refine W0_fn rfl rfl ?_
  simp only [go_sem, trim_same, c_crc_Next, e1, e2, h, simprocAttr]
  rfl

theorem of_loop (l : List Int) (hb : ∀ x ∈ l, 0 ≤ x ∧ x < 256) (hl : l.length ≤ 140737488355328) (H : Heap) (r : List Int) : ∀ (p : List Int) (c : Nat), l = p ++ r → c < 4294967296 →
    loopA W0 loopW (.ghost (.kill k_crc_Of_0) l_crc_Of_0) [(3, .int .u32 (c : Nat)), (6, bytes l .ro), (7, .int .i64 (l.length : Nat)), (8, .int .i64 (p.length : Nat))] H =
      some (.exit 0, [(3, .int .u32 (((toN r).foldl crcNext c : Nat) : Int))], H) := by
  induction r with
  | nil =>
    intro p c hp hc
    have h1 : ¬ ((p.length : Int) < (l.length : Int)) := by rw [hp]; simp
    refine loop_step l_crc_Of_0.eq_1 k_crc_Of_0.eq_1 (by kernel_rfl) ?_
    simp only [go_sem, h1, simprocAttr]
    rfl
  | cons x r ih =>
    intro p c hp hc
    have hx := hb x (by rw [hp]; simp)
    have h1 : ((p.length : Int) < (l.length : Int)) := by rw [hp]; simp; omega
    have hlen : p.length < l.length := by omega
    obtain ⟨n, rfl⟩ : ∃ n : Nat, x = n := ⟨x.toNat, by omega⟩
    have e1 : (ints .u8 l)[p.length]? = some (.int .u8 (n : Int)) := by rw [hp]; simp
    have e6 : IntKind.i64.wrap ((p.length : Int) + 1) = ((p.length + 1 : Nat) : Int) := by rw [wrap_id (by unfold I64; omega)]; omega
    have h2 := ih (p ++ [(n : Int)]) (crcNext c n) (by rw [hp]; simp) (crcNext_lt hc (by omega))
    have e2 := next_spec0 c n H hc (by omega)
    have e0 : (0 : Int) ≤ (p.length : Int) := by omega
    have e7 : ((p.length : Nat) : Int).toNat = p.length := by omega
    simp only [List.length_append, List.length_cons, List.length_nil, Nat.zero_add] at h2
    refine loop_step l_crc_Of_0.eq_1 k_crc_Of_0.eq_1 (by kernel_rfl) ?_
    simp only [go_sem, h1, e0, e7, e1, e2, e6, simprocAttr]
    exact h2
theorem of_spec0 (l : List Int) (H : Heap) (hb : ∀ x ∈ l, 0 ≤ x ∧ x < 256) (hl : l.length ≤ 140737488355328) : W0 n_crc_Of [bytes l .ro] H = some (.int .u32 (crcN (toN l) : Nat), H) := by
  have h := of_loop l hb hl H l [] 4294967295 rfl (by decide)
  have hlt : (toN l).foldl crcNext 4294967295 < 4294967296 := crcFold_lt _ _ (by decide) (fun x hx => by
    obtain ⟨y, hy, rfl⟩ := List.mem_map.1 hx
    have := hb y hy
    omega)
  have e1 : bits .xor .u32 (if IntKind.u32.signed = true then -1 else IntKind.u32.max) (((toN l).foldl crcNext 4294967295 : Nat) : Int) = (crcN (toN l) : Nat) := by
    have := xor32 4294967295 ((toN l).foldl crcNext 4294967295) (by decide) hlt
    rw [Nat.xor_comm] at this
    exact this
  simp only [List.length_nil, Int.natCast_zero, Int.cast_ofNat_Int] at h
  refine W0_fn rfl rfl ?_
  simp only [go_sem, trim_same, c_crc_Of, List.length_map, h, e1, simprocAttr]

/-- What the sum's contract says is so. -/
theorem crcSem_le {args H r} (h : crcSem args H = some r) : W0 n_crc_Of args H = some r := by
  unfold crcSem at h
  split at h
  · rename_i xs
    obtain ⟨h1, h2⟩ := ite_some h
    obtain ⟨l, h3, rfl⟩ := Option.map_eq_some_iff.1 h2
    obtain ⟨zs, rfl, h4, rfl⟩ := nats8_inv h3
    exact of_spec0 zs _ h4 (by simpa [maxBytes] using h1)
  · cases h

end Go.Abs.Cr
namespace Go.Proofs.YtheaccppdikjgaaGreatDoor
open Go.RowKit
set_option linter.unusedVariables false
set_option maxHeartbeats 1000000 in
set_option maxRecDepth 100000 in
theorem idxByte (s : ByteArray) (c : Int) (w : World) :
    Calls Tryz.prog 264 #[.string s, .int .u8 c] w fun e w' => e = .returned (.int .i64 (Lib.indexByte s.data.toList c.toNat.toUInt8)) ∧ w' = w := by
  go_enter Tryz.func264, Tryz.ntmps264
  go_wp2
  rw [run_callFunc_extern Tryz.func279 (by kernel_rfl) (by kernel_rfl) (by kernel_rfl) (e := Extern.BytealgIndexByte.indexByte) (by kernel_rfl), Lib.run_indexByteString]
  simp only [Result.andThen]
  rw [Oper.upon_value]
  go_wp2
  go_ret
  exact ⟨rfl, rfl⟩
set_option maxHeartbeats 2000000 in
set_option maxRecDepth 100000 in
theorem idxOne (s : ByteArray) (c : UInt8) (w : World) :
    Calls Tryz.prog 236 #[.string s, .string ⟨#[c]⟩] w fun e w' => e = .returned (.int .i64 (Lib.indexByte s.data.toList c)) ∧ w' = w := by
  go_enter Tryz.func236, Tryz.ntmps236
  go_wp2_with (go_at_call 264; refine (idxByte _ _ _).mono ?_; rintro e w' ⟨rfl, rfl⟩)
  · have h : ([c] == s.toList) = true := by assumption
    go_ret
    refine ⟨?_, rfl⟩
    have e : s.data.toList = [c] := by rw [← Lib.toList_data]; exact (beq_iff_eq.1 h).symm
    rw [e]
    simp [Lib.indexByte]
  · go_ret
    exact ⟨rfl, rfl⟩
theorem idxEnter : Go.Abs.Enterable Tryz.prog 236 := ⟨_, Tryz.func236, by kernel_rfl, by kernel_rfl⟩
theorem codes_ok : Go.Abs.codes.all (fun p => Go.Abs.chkFn Tryz.prog p.1 p.2) = true := by kernel_rfl
theorem clone_chk0 : Go.Abs.chkClone Tryz.prog Go.Abs.n_slices_Clone_byte_byte_ 1 1 (.int .u8 0) = true := by kernel_rfl
theorem clone_chk1 : Go.Abs.chkClone Tryz.prog Go.Abs.n_slices_Clone_3_int64_3_int64_ 3 24 (.agg [.int .i64 0, .int .i64 0, .int .i64 0]) = true := by kernel_rfl
theorem clone_chk2 : Go.Abs.chkClone Tryz.prog Go.Abs.n_slices_Clone_api_Got_api_Got_ 4 48 (.agg [.int .i64 0, .int .i64 0, .str [], .str []]) true = true := by kernel_rfl
theorem clone_chk3 : Go.Abs.chkClone Tryz.prog Go.Abs.n_slices_Clone_api_Rec_api_Rec_ 2 32 (.agg [.str [], .str []]) = true := by kernel_rfl
theorem tbl_ok (f : FuncId) (fn : Go.Abs.AFunc) (h : Go.Abs.tbl f = some fn) : Go.Abs.chkFn Tryz.prog f fn = true := by
  unfold Go.Abs.tbl at h
  obtain ⟨p, hp, rfl⟩ := Option.map_eq_some_iff.1 h
  have h1 := List.find?_some hp
  have h2 := List.mem_of_find?_eq_some hp
  have h3 := List.all_eq_true.1 codes_ok p h2
  have h4 : p.1 = f := by simpa using h1
  rw [← h4]; exact h3
theorem ext0_ok (f : FuncId) (s) (h : Go.Abs.ext0 f = some s) : Go.Abs.FnOK Tryz.prog f s := by
  unfold Go.Abs.ext0 at h
  split at h
  · rename_i hf
    cases h
    subst hf
    exact Go.Abs.clone_ok clone_chk0
  · split at h
    · rename_i hf
      cases h
      subst hf
      exact Go.Abs.clone_ok clone_chk1
    · split at h
      · rename_i hf
        cases h
        subst hf
        exact Go.Abs.clone_ok clone_chk2
      · split at h
        · rename_i hf
          cases h
          subst hf
          exact Go.Abs.clone_ok clone_chk3
        · cases h
theorem ext_ok (f : FuncId) (s) (h : Go.Abs.ext f = some s) : Go.Abs.FnOK Tryz.prog f s := by
  unfold Go.Abs.ext at h
  split at h
  · rename_i hf
    cases h
    subst hf
    exact Go.Abs.clone_ok clone_chk0
  · split at h
    · rename_i hf
      cases h
      subst hf
      exact Go.Abs.clone_ok clone_chk1
    · split at h
      · rename_i hf
        cases h
        subst hf
        exact Go.Abs.clone_ok clone_chk2
      · split at h
        · rename_i hf
          cases h
          subst hf
          exact Go.Abs.clone_ok clone_chk3
        · split at h
          · rename_i hf
            cases h
            subst hf
            exact fun G H args argv w V H' hl h hs => Go.Abs.callW_ok (Checked.mixed Tryz.checked) tbl_ok ext0_ok Go.Abs.n_crc_Of G H args argv w V H' hl h (Go.Abs.Cr.crcSem_le hs)
          · split at h
            · rename_i hf
              cases h
              subst hf
              exact Go.Abs.idx_ok idxEnter idxOne
            · cases h
end Go.Proofs.YtheaccppdikjgaaGreatDoor
namespace Go.Proofs.YtheaccppdikjgaaGreatDoor.topOrder
open Go.ChangeShapes Go.WideShapes Go.ChangeAt Go.RowKit
open Go.ChangeMaps (open_string shut_string)
set_option linter.unusedVariables false
theorem own : ownKnob Tryz.prog.godebug = none := by kernel_rfl
theorem laidOut : laidOutB Tryz.prog = true := by kernel_rfl
/-- The heap that the door's own run leaves meets the condition. -/
theorem door_met (os : Os) (args : Array Value) : laidMetH Tryz.prog Rows.topOrderRow.laid ((World.doorLaid Tryz.prog 2000 os).forCall (fun _ _ => 0) ⟨#[], args, []⟩).memory :=
  laidMetH_of_parts3 (fuel := 8) (laidMet_of_run' 8 (by kernel_rfl) (by kernel_rfl)) (by kernel_rfl) (by kernel_rfl)
set_option maxRecDepth 100000 in
theorem wit (os : Os) (H : Type) (enc : TypeId × Value → H) : ∃ (w : World) (tape : Tape) (i : Input), w.os = os ∧ (w.forCall tape i).Shaped Tryz.checked.prog ∧ i.vars = [] ∧ Input.okWide Tryz.checked.prog (w.forCall tape i) .any w.heap.size 4 i ∧
      ((Rows.topOrderSpec.pre enc Tryz.checked.prog Tryz.f4 [] false (w.forCall tape i).memory i.args ∧ laidMetH Tryz.prog Rows.topOrderRow.laid (w.forCall tape i).memory) ∧ sizedMet enc Tryz.checked.prog Tryz.f4 (OpenSpec.ofChange Rows.topOrderSpec) false (w.forCall tape i).memory i.args) ∧ ({} : Assume).holds Tryz.checked.prog (lone (Frame.enter Tryz.checked.prog 4 i.args .normal) [] (w.forCall tape i)) :=
  ChangeSpec.witness_shaped (enc := enc) (C := Tryz.checked) (os := os) (X := fun w _ => laidMetH Tryz.prog Rows.topOrderRow.laid w) false (World.doorLaid Tryz.prog 2000 os) #[.int .i64 0, .slice none 0 0, .int .i64 0] 8 rfl (World.shaped_of_RefB (by kernel_rfl) (by kernel_rfl)) (by kernel_rfl) (by kernel_rfl) (by kernel_rfl) (door_met os _)
set_option maxRecDepth 100000 in
theorem lifted (os : Os) (started : os.Started) (H : Type) (enc : TypeId × Value → H) :
    ReturnsInHanded {} Tryz.checked os 4 .any (fun w args => (Rows.topOrderSpec.pre enc Tryz.prog Tryz.f4 [] false w args ∧ laidMetH Tryz.prog Rows.topOrderRow.laid w) ∧ sizedMet enc Tryz.prog Tryz.f4 (OpenSpec.ofChange Rows.topOrderSpec) false w args)
      (Rows.topOrderSpec.post enc Tryz.prog Tryz.f4 false true false false) := by
  refine returnsInHanded_of_change_and (C := Tryz.checked) (X := fun w _ => laidMetH Tryz.prog Rows.topOrderRow.laid w) (fun _ _ _ hh h => h.of_heap hh) own started (by kernel_rfl) Tryz.func4
    (wit os H enc) ?_
  intro W base args ds gs before hval0 hW hcnd hsz0 hL _
  have hsz : (DataW.weightsEach Tryz.prog (Tryz.f4.params.toList ++ Rows.topOrderSpec.plain.varTypes Tryz.prog) (ds ++ gs)).all (· ≤ reachBytes) = true := hsz0
  have hval : ∀ (j : Nat) t v, Tryz.f4.params[j]? = some t → args[j]? = some v → Value.okWide Tryz.prog W .any base t v := hval0
  have hW' := hW
  obtain ⟨p, q, hA0, hV, rfl, hfz, hnd⟩ := hW
  have hA : DataW.TrodAll enc Tryz.prog W 0 (fun _ => true) true Tryz.f4.params.toList args.toList ds p := hA0
  rw [Tryz.params4] at hA hval hsz
  obtain ⟨v0, vs0, d0, ds0, p0, q0, hargs, rfl, rfl, h0, r0⟩ := trodAll_cons hA
  obtain ⟨v1, vs1, d1, ds1, p1, q1, rfl, rfl, rfl, h1, r1⟩ := trodAll_cons r0
  obtain ⟨v2, vs2, d2, ds2, p2, q2, rfl, rfl, rfl, h2, r2⟩ := trodAll_cons r1
  obtain ⟨rfl, rfl, rfl⟩ := trodAll_nil r2
  obtain rfl : args = #[v0, v1, v2] := by cases args; simp_all
  obtain ⟨rfl, rfl⟩ := trodVars_none hV
  obtain ⟨a0, rfl, rfl, rfl, w0⟩ := open_int Tryz.underlying2 (hval 0 2 v0 rfl rfl) h0
  obtain ⟨a1, len1, cap1, rfl⟩ := okWide_slice Tryz.underlying37 (hval 1 37 v1 rfl rfl)
  have k1 := h1
  have lt1 : ∀ x ∈ p1, x.block < W.heap.size := by obtain ⟨m, hm⟩ := k1; exact DataW.trod_lt m _ _ _ hm
  have y1 : len1 * 8 ≤ 140737488351232 := Go.Abs.sized_row hsz (j := 1) (t := 37) rfl rfl Tryz.underlying37 Tryz.underlying3 (by kernel_rfl) (by kernel_rfl) h1
  obtain ⟨l1, s1, n1, w1⟩ := Go.Abs.open_row Tryz.underlying37 Tryz.underlying3 (by kernel_rfl) (hval 1 37 (.slice a1 len1 cap1) rfl rfl) h1
  obtain ⟨a2, rfl, rfl, rfl, w2⟩ := open_int Tryz.underlying3 (hval 2 3 v2 rfl rfl) h2
  clear hA0 hval0
  have walk := Go.Abs.law_walk (w := W) (Go.Abs.callW_ok (Checked.mixed Tryz.checked) tbl_ok ext_ok 4) (args := [.int .i64 a0, .list 1 (Go.Abs.ints .i64 l1) .ro, .int .i64 a2]) (argv := [.int .i64 a0, .slice a1 len1 cap1, .int .i64 a2]) rfl (Go.Abs.st_cons (Go.Abs.st_int .i64 a0) (Go.Abs.st_cons (s1) (Go.Abs.st_cons (Go.Abs.st_int .i64 a2) (Go.Abs.st_nil)))) (Go.Abs.TopOrder_spec a0 l1 a2 (Go.Abs.wf_i64 w0) (fun x hx => Go.Abs.wf_i64 (w1 x hx)) (by rw [n1]; exact y1) (Go.Abs.wf_i64 w2))
  refine walk.mono fun e W' ⟨he, bel⟩ => ?_
  subst he
  exact ⟨_, rfl, _, _, _, [], _, [], hW', trodAll_mk1 (shut_bool Tryz.underlying4 _), (trodAll_cons_mk (shut_int Tryz.underlying2 w0) (trodAll_cons_mk (Below.trod laidOut (by kernel_rfl) (of_decide_eq_true (by kernel_rfl)) k1 bel lt1) (trodAll_cons_mk (shut_int Tryz.underlying3 w2) trodAll_mk0))), rfl, bel.frame _, fun h => by cases h⟩
theorem over : Rows.topOrderRow.holds Tryz.pinned (OpenSpec.ofChange Rows.topOrderSpec) :=
  OpenClaim.holds_of_wide 4 Tryz.f4 rfl rfl rfl rfl rfl rfl rfl ⟨rfl, rfl, rfl, rfl, rfl⟩ rfl rfl rfl rfl rfl (by kernel_rfl) Tryz.func4 facts
    (of_decide_eq_true (by kernel_rfl)) (by unfold Func.isWrapper; first | (rw [if_pos (by decide +kernel)]; kernel_rfl) | (rw [if_neg (by decide +kernel)]; exact ⟨rfl, rfl⟩))
    (fun os started H enc _ => lifted os started H enc)
theorem proved : Rows.TopOrderSaid := over
theorem card : Rows.TopOrderCardSaid :=
  Claim7.holds_tied_plain_at .later [] [.data, .data, .data, .sentinel, .sentinel] true (true, "116a28e0d11c34d9b1e934a2b75e0bb9e6471032597df09f058fdb28052fb607") true
    proved (fun _ h => by cases h) (by kernel_rfl) (fun _ h => by cases h) topOrder_row_tie rfl ⟨rfl, rfl⟩ (by kernel_rfl) rfl
    (fun f fn hf hfn => by
      obtain rfl : f = 4 := Option.some.inj ((show Tryz.prog.funcNamed "bordereau/bordereautop.TopOrder" = some 4 by kernel_rfl).symm.trans hf) |>.symm
      obtain rfl : fn = Tryz.f4 := (Option.some.inj (Tryz.func4.symm.trans hfn)).symm
      exact ⟨by kernel_rfl, fun j t ht => by
        rw [Tryz.params4] at ht
        have hm0 := Array.mem_of_getElem? ht
        have hm : t ∈ [2, 37, 3] := by simpa using hm0
        have hall : ([2, 37, 3].all fun u => !Tryz.prog.wantsStandIn u) = true := by kernel_rfl
        exact (show Tryz.prog.wantsStandIn t = false by simpa using List.all_eq_true.1 hall t hm)⟩)
    (by kernel_rfl)
#print axioms card
end Go.Proofs.YtheaccppdikjgaaGreatDoor.topOrder
namespace Go.Proofs.YtheaccppdikjgaaGreatDoor
/-- The card, under a short name, for the claim. -/
theorem topOrderCard_holds : Rows.TopOrderCardSaid := topOrder.card
end Go.Proofs.YtheaccppdikjgaaGreatDoor
