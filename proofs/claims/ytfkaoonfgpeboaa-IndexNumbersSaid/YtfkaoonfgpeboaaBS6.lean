import Derived.Test.YtfkaoonfgpeboaaBS5
set_option linter.unusedVariables false
set_option linter.unusedSimpArgs false
namespace Go.Abs
open Go Go.RowKit
noncomputable def stC (m : Nat) : Nat → CallF
 | 0 => callN tbl ext m
 | _ + 1 => callW tbl ext
noncomputable def stL (m : Nat) : Nat → LoopF
 | 0 => iter m
 | _ + 1 => loopW
theorem exec_of (m : Nat) {x : ACode} {e : Env} {H : Heap} {r} (h : aexec (callN tbl ext m) (iter m) x e H = some r) : aexec W loopW x e H = some r := by
 have hc : CLim (stC m) (callW tbl ext) := fun f a H => ⟨fun n r h => by
  cases n with
  | zero => exact callW_of h
  | succ n => exact h, fun r h => ⟨1, h⟩⟩
 have hl : LLim (stL m) loopW := fun s S hs e H => ⟨fun n r h => by
  cases n with
  | zero => exact loopW_of ((iter_lim hs m e H).mono 0 r h)
  | succ n =>
   obtain ⟨k, hk⟩ := loopW_to h
   exact loopW_of ((iter_lim hs k e H).mono (n + 1) r hk), fun r h => by
  obtain ⟨k, hk⟩ := loopW_to h
  obtain ⟨n, hn⟩ := (iter_lim hs k e H).up r hk
  exact ⟨n + 1, loopW_of ((iter_lim hs k e H).mono n r hn)⟩⟩
 exact (aexec_lim hc hl x e H).mono 0 r h
def tl8 : ACode := match c_law8_IndexNumbers.body with
 | .seq _ (.ghost _ (.seq _ (.ghost _ t))) => t
 | x => x
def tlC : ACode := match tl8 with
 | .seq _ (.ghost _ (.seq _ (.ghost _ (.seq _ (.ghost _ (.seq _ (.ghost _ (.seq _ (.ghost _ t))))))))) => t
 | x => x
def ad5 : List Ad := [⟨7, 0, 10, true⟩, ⟨8, 10, 20, true⟩, ⟨9, 20, 30, true⟩, ⟨10, 30, 40, true⟩, ⟨11, 40, 50, true⟩]
def H5 : Heap := [.cells [.int .i64 7, .int .i64 1, .list 4 (ad5.map Ad.v) .uniq], .dead]
set_option maxRecDepth 100000 in
theorem tlC_ok : (aexec (callN tbl ext 200) (iter 200) tlC [(5, .ptr 0 0)] H5).map (fun r => (r.1, r.2.1)) = some (.ret, [(0, .bool true)]) := by kernel_rfl
def b5 : List Int := idxB 7 (ents ad5)
set_option maxRecDepth 100000 in
theorem rd0 : callN tbl ext 150 n_law8_reads [.int .i64 7, .int .i64 1, bytes (b5.take 0) .ro] H5 = some (.bool true, H5) := by kernel_rfl
set_option maxRecDepth 100000 in
theorem rd1 : callN tbl ext 150 n_law8_reads [.int .i64 7, .int .i64 1, bytes (b5.take 16) .ro] H5 = some (.bool true, H5) := by kernel_rfl
set_option maxRecDepth 100000 in
theorem rd2 : callN tbl ext 150 n_law8_reads [.int .i64 7, .int .i64 1, bytes (b5.take 32) .ro] H5 = some (.bool true, H5) := by kernel_rfl
set_option maxRecDepth 100000 in
theorem rd3 : callN tbl ext 150 n_law8_reads [.int .i64 7, .int .i64 1, bytes (b5.take 48) .ro] H5 = some (.bool true, H5) := by kernel_rfl
set_option maxRecDepth 100000 in
theorem rd4 : callN tbl ext 150 n_law8_reads [.int .i64 7, .int .i64 1, bytes (b5.take 64) .ro] H5 = some (.bool true, H5) := by kernel_rfl
set_option maxRecDepth 100000 in
theorem rd5 : callN tbl ext 150 n_law8_reads [.int .i64 7, .int .i64 1, bytes (b5.take 80) .ro] H5 = some (.bool true, H5) := by kernel_rfl
def tlA : ACode := match tl8 with
 | .seq a1 (.ghost g1 (.seq a2 (.ghost g2 (.seq a3 (.ghost g3 (.seq a4 (.ghost g4 _))))))) => .seq a1 (.ghost g1 (.seq a2 (.ghost g2 (.seq a3 (.ghost g3 (.seq a4 (.ghost g4 .skip)))))))
 | x => x
set_option maxRecDepth 100000 in
theorem tlA_ok : aexec (callN tbl ext 150) (iter 150) tlA [] [] = some (.normal, [(5, .ptr 0 0), (7, bytes b5 .full)], H5) := by kernel_rfl
theorem read_no (l : List Int) (hl : l.length ≤ 1000) (h : (l.length : Int).tmod 16 > 0) (H : Heap) :
  ∃ B, W n_index_Read [.int .i64 7, .int .i64 1, bytes l .ro] H = some (.tuple [.nilp, .bool false], hx H B) := by
 have hn : ∀ H, W n_index_New [.int .i64 7, .int .i64 1] H = some (.ptr (pt H 0) 0, hx H [Ix.B ⟨7, 1, []⟩ .uniq, .dead]) := by intro H; rw [new_spec]; rfl
 have n16 : ¬ ((16 : Int) = 0) := by decide
 refine ⟨[Ix.B ⟨7, 1, []⟩ .uniq, .dead], ?_⟩
 refine W_fnS rfl rfl ?_
 simp only [go_sem, c_index_Read, hn, List.length_map, n16, h, simprocAttr]
set_option maxHeartbeats 1000000 in
theorem reads_no (l : List Int) (hl : l.length ≤ 1000) (h : (l.length : Int).tmod 16 > 0) (H : Heap) :
  W n_law8_reads [.int .i64 7, .int .i64 1, bytes l .ro] H = some (.bool true, H) := by
 obtain ⟨B, hr⟩ := read_no l hl h (hx H [])
 rw [hx_hx, List.nil_append] at hr
 have n16 : ¬ ((16 : Int) = 0) := by decide
 have h2 : ¬ ((l.length : Int).tmod 16 = 0) := by omega
 refine W_fn rfl rfl ?_
 have g1 : ¬ ((7 : Int) > 1099511627776) := by decide
 have g3 : ¬ ((1 : Int) > 1073741824) := by decide
 simp only [go_sem, c_law8_reads, hr, List.length_map, n16, h2, g1, g3, simprocAttr]
theorem b5_len : b5.length = 80 := by rw [b5, idxB_len]; rfl
theorem reads_all (i : Nat) (hi : i ≤ 80) : W n_law8_reads [.int .i64 7, .int .i64 1, bytes (b5.take i) .ro] H5 = some (.bool true, H5) := by
 by_cases h : i % 16 = 0
 ·have : i = 0 ∨ i = 16 ∨ i = 32 ∨ i = 48 ∨ i = 64 ∨ i = 80 := by omega
  rcases this with rfl | rfl | rfl | rfl | rfl | rfl
  ·exact callW_of rd0
  ·exact callW_of rd1
  ·exact callW_of rd2
  ·exact callW_of rd3
  ·exact callW_of rd4
  ·exact callW_of rd5
 ·have hl : (b5.take i).length = i := by rw [List.length_take, b5_len]; omega
  refine reads_no _ (by omega) ?_ H5
  rw [hl, Int.tmod_eq_emod_of_nonneg (by omega)]; omega
theorem reads_loop (d : Nat) : ∀ (i : Nat), i + d = 81 →
  loopA W loopW (.ghost (.kill k_law8_IndexNumbers_3) l_law8_IndexNumbers_3) [(5, .ptr 0 0), (7, bytes b5 .full), (8, .int .i64 (i : Nat))] H5 = some (.exit 6, [(5, .ptr 0 0)], H5) := by
 have hb := b5_len
 have ra := reads_all
 have hm : (ints .u8 b5).length = 80 := by rw [List.length_map, hb]
 generalize b5 = B at *
 generalize H5 = H at *
 induction d with
 | zero =>
  intro i hi
  have : i = 81 := by omega
  subst this
  have c : ¬ (((81 : Nat) : Int) ≤ 80) := by omega
  have c2 : ((80 : Nat) : Int) = 80 := rfl
  refine loop_step l_law8_IndexNumbers_3.eq_1 k_law8_IndexNumbers_3.eq_1 (by kernel_rfl) ?_
  simp only [go_sem, c, c2, hm, simprocAttr]
 | succ d ih =>
  intro i hi
  have c : ((i : Nat) : Int) ≤ 80 := by omega
  have c2 : ((80 : Nat) : Int) = 80 := rfl
  have c0 : (0 : Int) ≤ ((i : Nat) : Int) := by omega
  have e7 : ((i : Nat) : Int).toNat = i := by omega
  have e6 : IntKind.i64.wrap ((i : Int) + 1) = ((i + 1 : Nat) : Int) := by rw [wrap_id (by unfold I64; omega)]; omega
  have d1 : (ints .u8 B).take i = ints .u8 (B.take i) := (List.map_take ..).symm
  have t := ra i (by omega)
  have h2 := ih (i + 1) (by omega)
  refine loop_step l_law8_IndexNumbers_3.eq_1 k_law8_IndexNumbers_3.eq_1 (by kernel_rfl) ?_
  simp only [go_sem, c, c2, c0, e7, hm, slH, d1, t, e6, simprocAttr]
  exact h2
theorem sq_normal {c : CallF} {l : LoopF} {a : ACode} {g : Ghost} {b : ACode} {e e' : Env} {H H' : Heap} (h : aexec c l (.seq a (.ghost g b)) e H = some (.normal, e', H')) :
  ∃ e1 H1 e2 H2, aexec c l a e H = some (.normal, e1, H1) ∧ agh g e1 H1 = some (e2, H2) ∧ aexec c l b e2 H2 = some (.normal, e', H') := by
 rw [x_seq] at h
 rcases hr : aexec c l a e H with _ | ⟨o, e1, H1⟩
 ·rw [hr] at h; cases h
 ·rw [hr] at h
  cases o with
  | normal =>
   rw [f_seqN, x_ghost] at h
   rcases hg : agh g e1 H1 with _ | ⟨e2, H2⟩
   ·rw [hg] at h; cases h
   ·rw [hg, f_gh] at h
    exact ⟨e1, H1, e2, H2, rfl, hg, h⟩
  | exit i => cases h
  | ret => cases h
theorem sq_of {c : CallF} {l : LoopF} {a : ACode} {g : Ghost} {b : ACode} {e e1 e2 : Env} {H H1 H2 : Heap} (h1 : aexec c l a e H = some (.normal, e1, H1)) (h2 : agh g e1 H1 = some (e2, H2)) :
  aexec c l (.seq a (.ghost g b)) e H = aexec c l b e2 H2 := by
 rw [x_seq, h1, f_seqN, x_ghost, h2, f_gh]
theorem sq4 {c : CallF} {l : LoopF} {a1 a2 a3 a4 : ACode} {g1 g2 g3 g4 : Ghost} {e e' : Env} {H H' : Heap} (k : ACode)
  (h : aexec c l (.seq a1 (.ghost g1 (.seq a2 (.ghost g2 (.seq a3 (.ghost g3 (.seq a4 (.ghost g4 .skip)))))))) e H = some (.normal, e', H')) :
  aexec c l (.seq a1 (.ghost g1 (.seq a2 (.ghost g2 (.seq a3 (.ghost g3 (.seq a4 (.ghost g4 k)))))))) e H = aexec c l k e' H' := by
 obtain ⟨_, _, _, _, x1, y1, h⟩ := sq_normal h
 obtain ⟨_, _, _, _, x2, y2, h⟩ := sq_normal h
 obtain ⟨_, _, _, _, x3, y3, h⟩ := sq_normal h
 obtain ⟨_, _, _, _, x4, y4, h⟩ := sq_normal h
 rw [sq_of x1 y1, sq_of x2 y2, sq_of x3 y3, sq_of x4 y4]
 rw [x_skip] at h
 cases h
 rfl
def pA : List ACode := match tl8 with
 | .seq a1 (.ghost g1 (.seq a2 (.ghost g2 (.seq a3 (.ghost g3 (.seq a4 (.ghost g4 k))))))) => [a1, a2, a3, a4, k]
 | x => [x]
def tlB : ACode := match tl8 with
 | .seq _ (.ghost _ (.seq _ (.ghost _ (.seq _ (.ghost _ (.seq _ (.ghost _ k))))))) => k
 | x => x
theorem tl8_run : aexec W loopW tl8 [] [] = aexec W loopW tlB [(5, .ptr 0 0), (7, bytes b5 .full)] H5 := by
 have h := exec_of 150 tlA_ok
 exact sq4 tlB h
theorem tlB_eq : tlB = .seq (.seq (ω [α 8 .move [ι 0]]) (.block 6 (.loop (.ghost (.kill k_law8_IndexNumbers_3) l_law8_IndexNumbers_3)))) (κ [(0,0),(7,8),(71,81)] tlC) := rfl
theorem body8 : c_law8_IndexNumbers.body = .seq (ω [α 0 .move [ν (.bool false)]]) (κ [(0,0)] (.seq (.seq (ω [α 1 .move [ι 1]]) (.block 0 (.loop (.ghost (.kill k_law8_IndexNumbers_1) l_law8_IndexNumbers_1)))) (κ [(0,4),(9,55)] tl8))) := rfl
theorem inumbers_spec : W n_law8_IndexNumbers [] [] = some (.bool true, []) := by
 obtain ⟨⟨o, e, H'⟩, h1, h2⟩ := Option.map_eq_some_iff.1 tlC_ok
 simp only [Prod.mk.injEq] at h2
 obtain ⟨rfl, rfl⟩ := h2
 have h3 := exec_of 200 h1
 have h4 := plays30_loop [] 29 1 (by omega) (by omega)
 simp only [Int.natCast_one] at h4
 have h5 := reads_loop 81 0 (by omega)
 simp only [Int.natCast_zero] at h5
 have h6 : aexec W loopW tlB [(5, .ptr 0 0), (7, bytes b5 .full)] H5 = some (.ret, [(0, .bool true)], H') := by
  rw [tlB_eq]
  generalize tlC = t at *
  generalize H5 = H at *
  generalize b5 = B at *
  simp only [go_sem, h5, simprocAttr]
  exact h3
 have h7 := tl8_run.trans h6
 have hb : aexec W loopW c_law8_IndexNumbers.body [] [] = some (.ret, [(0, .bool true)], H') := by
  rw [body8]
  generalize tl8 = t at *
  simp only [go_sem, h4, simprocAttr]
  exact h7
 refine W_fn0 rfl rfl ?_
 show runFn W loopW ⟨c_law8_IndexNumbers.nt, c_law8_IndexNumbers.keep, c_law8_IndexNumbers.body, c_law8_IndexNumbers.res⟩ [] [] = _
 rw [run_fn]
 show finA false [.tmp 0] [] (aexec W loopW c_law8_IndexNumbers.body [] []) = _
 rw [hb]
 show trim false [] (.bool true) H' = _
 unfold trim
 rw [if_neg (by decide)]
 by_cases hh : H'.length ≤ ([] : Heap).length
 ·rw [if_pos hh]
  have : H' = [] := List.length_eq_zero_iff.1 (Nat.le_zero.1 hh)
  rw [this]
 ·rw [if_neg hh]
  have ht : (AVal.under ([] : Heap).length (.bool true) && trimOK ([] : Heap).length [] H') = true := by cases H' <;> simp [AVal.under, trimOK]
  rw [if_pos ht]; rfl
end Go.Abs
