import Derived.Test.YtheaccppdikjgaaGreatDoorBS3
set_option linter.unusedVariables false
set_option linter.unusedSimpArgs false
namespace Go.Abs
open Go Go.RowKit
def withY (s : PS) (y : Lg) : PS := ⟨s.c, s.x, y, s.logs, s.lf, s.size, s.en, s.fd, s.cl⟩
def takeS (s : PS) (b : Ba) : PS := withY (putS s b) (takeY s.y b)
def addP (s : PS) (b : Ba) : Int × Int × PS :=
 if (mayF s.c.cap s.y (atE s.y b)).2.2 = 0 ∧ (mayF s.c.cap s.y (atE s.y b)).2.1 = false then ((mayF s.c.cap s.y (atE s.y b)).1, 0, takeS s (atE s.y b))
 else ((mayF s.c.cap s.y (atE s.y b)).1, (mayF s.c.cap s.y (atE s.y b)).2.2, s)
def prodP (s : PS) (b : Ba) : Int × Int × PS := if dataF s.y b ≠ 0 then (-1, dataF s.y b, s) else addP s b
def markP (s : PS) (p e m : Int) : Int × Int × PS := if markF' s.y p e m ≠ 0 then (-1, markF' s.y p e m, s) else addP s (markB' s.y p e m)
theorem may_ok {cap : Int} {y : Lg} {b : Ba} (h1 : (mayF cap y b).2.2 = 0) (h2 : (mayF cap y b).2.1 = false) : rightE b = 0 ∧ mapCheck y.M b = (-1, 0) ∧ y.size + sizeE b ≤ cap ∧ b.base + countE b ≤ 1099511627776 ∧ (mayF cap y b).1 = b.base := by
 unfold mayF at *
 split at h1
 ·rename_i hc; exact absurd h1 hc
 rename_i hc
 rw [if_neg hc] at h2
 split at h1
 ·rename_i hd; rw [if_pos hd] at h2; cases h2
 rename_i hd
 rw [if_neg hd] at h2
 split at h1
 ·cases h1
 rename_i h3
 split at h1
 ·cases h1
 rename_i h4
 have e1 : (mapCheck y.M b).2 = 0 := by omega
 have e2 : (mapCheck y.M b).1 = -1 := by omega
 refine ⟨?_, ?_, by omega, by omega, ?_⟩
 ·unfold mapCheck at e1
  split at e1
  ·simp only at e1; exact e1
  ·omega
 ·exact Prod.ext e2 e1
 ·rw [if_neg hc, if_neg hd, if_neg h3, if_neg h4]
theorem putS_y (s : PS) (b : Ba) : (putS s b).y = s.y ∧ (putS s b).c = s.c ∧ (putS s b).cl = s.cl ∧ (putS s b).en = b.base + countE b ∧ (putS s b).fd = s.fd := by
 unfold putS
 split
 ·split <;> exact ⟨rfl, rfl, rfl, rfl, rfl⟩
 ·exact ⟨rfl, rfl, rfl, rfl, rfl⟩
theorem LI.take {y : Lg} (h : LI y) {b : Ba} (hb : Fit b) (hbase : b.base = endE y.start y.L) (hn : y.L.length < 900) : LI (takeY y b) := by
 refine ⟨h.s0, h.s1, Fit.all h.fit hb, by unfold takeY; simp only [List.length_append, List.length_cons, List.length_nil]; omega, .inl rfl, ?_, ?_, RowC.snoc h.row hbase⟩
 ·show stepM y.M b = foldM (y.L ++ [b]) []
  rw [h.M]
  have : ∀ (A : List Ba) (M : List Pr), foldM (A ++ [b]) M = stepM (foldM A M) b := by
   intro A
   induction A with
   | nil => intro M; rfl
   | cons x A ih => intro M; exact ih _
  rw [this]
 ·show y.size + sizeE b = sizeL (y.L ++ [b])
  rw [sizeL_app, h.size]
  simp [sizeL]
theorem getF_set (n : List UInt8) (E : List Fi) (x : Fi) : getF n (setF E x) = if n = x.n then some x else getF n E := by
 unfold setF
 cases h : idxF x.n E with
 | none =>
  simp only
  rw [getF_find, getF_find, List.find?_append]
  have hno : E.find? (fun p => p.n == x.n) = none := by rw [← getF_find]; unfold getF; rw [h]; rfl
  by_cases hid : n = x.n
  ·subst hid; rw [if_pos rfl, hno]; simp
  ·rw [if_neg hid]
   have : [x].find? (fun p => p.n == n) = none := by simp; exact fun e => hid e.symm
   rw [this]; cases E.find? (fun p => p.n == n) <;> rfl
 | some i =>
  simp only
  unfold idxF at h
  rw [List.findIdx?_eq_some_iff_getElem] at h
  obtain ⟨hi, h1, h2⟩ := h
  rw [getF_find, getF_find]
  induction E generalizing i with
  | nil => simp at hi
  | cons p E ih =>
   cases i with
   | zero =>
    simp only [List.set_cons_zero, List.find?_cons]
    simp only [List.getElem_cons_zero, beq_iff_eq] at h1
    by_cases hid : n = x.n
    ·subst hid; simp
    ·rw [if_neg hid]
     have e1 : (x.n == n) = false := by simp; exact fun e => hid e.symm
     have e2 : (p.n == n) = false := by simp; rw [h1]; exact fun e => hid e.symm
     rw [e1, e2]
   | succ i =>
    simp only [List.set_cons_succ, List.find?_cons]
    have h0 := h2 0 (by omega)
    simp only [List.getElem_cons_zero, Bool.not_eq_true] at h0
    have ih' := ih i (by simpa using hi) (by simpa using h1) (fun j hj => by simpa using h2 (j + 1) (by omega))
    by_cases hid : n = x.n
    ·subst hid
     rw [h0, if_pos rfl]; rw [if_pos rfl] at ih'; exact ih'
    ·rw [if_neg hid] at ih' ⊢
     rw [ih']
theorem appF_get (x : Fs) (n : List UInt8) (b : List Int) : (getF n (appF x n b).E).isSome = true := by
 unfold appF
 simp only [getF_set, if_true, Option.isSome_some]
theorem appF_len' {x : Fs} (n : List UInt8) (b : List Int) (h : (getF n x.E).isSome = true) : (appF x n b).E.length = x.E.length := by
 unfold appF
 simp only [setF_len, h, if_true]
theorem endE_snoc (st : Int) (L : List Ba) (b : Ba) : endE st (L ++ [b]) = b.base + countE b := by
 unfold endE; simp
theorem takeS_ok {s : PS} (h : PI s) {b : Ba} (hb : Fit b) (hbase : b.base = endE s.y.start s.y.L) (h100 : b.base < 100) (hn : s.y.L.length < 900) : PI (takeS s b) := by
 have hsm := rightE_small hb.right
 have hbl := baBytes_len hsm
 have hbb := baBytes_bytes hsm
 have hb0 := hb.base
 obtain ⟨q1, q2, q3, q4, q5⟩ := putS_y s b
 have hfsd := h.fs.d0
 have hk : (takeY s.y b).L.length = s.y.L.length + 1 := by simp [takeY]
 have hE := h.e
 have hlg := h.lg
 have hsz := h.sz
 have hs := fun n => syncF_ok h.fs n (by omega)
 have key : FsK (s.y.L.length + 1) (putS s b).x ∧ (putS s b).x.E.length ≤ (putS s b).logs.length ∧ ((putS s b).logs.length ≤ 32 ∧ ∀ l ∈ (putS s b).logs, 0 ≤ l ∧ l < 100) ∧
   ((putS s b).lf = .own ∨ ((putS s b).lf = .full ∧ (putS s b).logs = [])) ∧ (0 ≤ (putS s b).size ∧ (putS s b).size ≤ 2404 * (s.y.L.length + 1)) ∧ (∀ l, (putS s b).logs.getLast? = some l → (getF (logN l.toNat) (putS s b).x.E).isSome = true) := by
  unfold putS
  cases hg : s.logs.getLast? with
  | none =>
   have hnil : s.logs = [] := List.getLast?_eq_none_iff.1 hg
   dsimp only
   refine ⟨appF_ok h.fs.d0 (by have := h.fs.d1; omega) h.fs.b _ _ (by omega) hbb, ?_, ⟨?_, ?_⟩, .inl rfl, ⟨by omega, by omega⟩, fun l hl => ?_⟩
   ·have := appF_len (x := s.x) (logN b.base.toNat) (baBytes b)
    rw [List.length_append]; simp only [List.length_cons, List.length_nil]; omega
   ·rw [hnil]; simp
   ·intro l hl
    rw [hnil] at hl
    simp only [List.nil_append, List.mem_singleton] at hl
    subst hl; omega
   ·rw [List.getLast?_concat] at hl
    cases hl
    exact appF_get _ _ _
  | some l =>
   dsimp only
   split
   ·rename_i hr
    dsimp only
    have hr32 : s.logs.length < 32 := by
     unfold rolls at hr
     rw [Bool.and_eq_true] at hr
     simpa using hr.1
    have hs1 := hs (logN l.toNat)
    refine ⟨appF_ok hs1.1 hs1.2.1 hs1.2.2.1 _ _ (by omega) hbb, ?_, ⟨?_, ?_⟩, .inl rfl, ⟨by omega, by omega⟩, fun l hl => ?_⟩
    ·have := appF_len (x := syncF s.x (logN l.toNat)) (logN b.base.toNat) (baBytes b)
     rw [List.length_append]; simp only [List.length_cons, List.length_nil]; omega
    ·rw [List.length_append]; simp only [List.length_cons, List.length_nil]; omega
    ·intro l hl
     rcases List.mem_append.1 hl with hl | hl
     ·exact hlg.2 l hl
     ·simp only [List.mem_singleton] at hl
      subst hl; omega
    ·rw [List.getLast?_concat] at hl
     cases hl
     exact appF_get _ _ _
   ·have hne : s.logs ≠ [] := by intro e; rw [e] at hg; cases hg
    dsimp only
    refine ⟨appF_ok h.fs.d0 (by have := h.fs.d1; omega) h.fs.b _ _ (by omega) hbb, ?_, hlg, ?_, ⟨by omega, by omega⟩, fun l' hl' => ?_⟩
    ·rw [appF_len' _ _ (h.ex l hg)]; exact hE
    ·rcases h.lf with h1 | ⟨_, h1⟩
     ·exact .inl h1
     ·exact absurd h1 hne
    ·rw [hg] at hl'
     cases hl'
     exact appF_get _ _ _
 obtain ⟨k1, k2, k3, k4, k5, k6⟩ := key
 unfold takeS withY
 refine ⟨by simp only [q2]; exact h.c, h.y.take hb hbase hn, by simp only [hk]; exact k1, k2, k3, k4, by simp only [hk]; omega, by simp only [q3]; exact h.cl, fun _ => ?_, k6⟩
 simp only [q4]
 show b.base + countE b = endE s.y.start (s.y.L ++ [b])
 rw [endE_snoc]
section
variable {a : PA}
theorem putS_PI {s : PS} (b : Ba) (h : LI s.y) : LI (putS s b).y := by rw [(putS_y s b).1]; exact h
set_option maxHeartbeats 1000000 in
theorem padd_spec (s : PS) (h : PI s) (b : Ba) (hb : BOK b) (hr : b.recs.length ≤ 1000) (h100 : endE s.y.start s.y.L < 100) :
  ∀ H, Ad H a → W n_part_Part_add [.ptr a.p 0, b.V] (putAt H a s) = some (.tuple [.int .i64 (addP s b).1, .int .i64 (addP s b).2.1], putAt H a (addP s b).2.2) := by
 intro H A
 have t1 := fun N => at_lift (lmay_spec h.y h.c b hb hr) A N
 have gp0 := (A.gp s).get
 unfold ptB at gp0
 have hb' := atE_ok h.y hb
 have tr := fun s' v1 v2 N => A.trim s s' (.tuple [.int .i64 v1, .int .i64 v2]) rfl N
 have hm := @may_ok s.c.cap s.y (atE s.y b)
 unfold addP
 by_cases hc : (mayF s.c.cap s.y (atE s.y b)).2.2 = 0 ∧ (mayF s.c.cap s.y (atE s.y b)).2.1 = false
 ·rw [if_pos hc]
  obtain ⟨m1, m2, m3, m4, m5⟩ := hm hc.1 hc.2
  have hfit : Fit (atE s.y b) := ⟨hb', m1⟩
  have t2 := fun N => at_lift (ptput_spec s h (atE s.y b) hfit rfl h100) A N
  obtain ⟨q1, q2, q3, q4, q5⟩ := putS_y s (atE s.y b)
  have t3 := fun N => at_lift (lappend_spec (s := putS s (atE s.y b)) (putS_PI _ h.y) (atE s.y b) hb' hr) A N
  have e1 : (⟨(putS s (atE s.y b)).c, (putS s (atE s.y b)).x, takeY (putS s (atE s.y b)).y (atE s.y b), (putS s (atE s.y b)).logs, (putS s (atE s.y b)).lf, (putS s (atE s.y b)).size, (putS s (atE s.y b)).en, (putS s (atE s.y b)).fd, (putS s (atE s.y b)).cl⟩ : PS) = takeS s (atE s.y b) := by
   rw [q1]; rfl
  rw [e1] at t3
  have gp := (A.gp (putS s (atE s.y b))).get
  unfold ptB at gp
  rw [hc.1, hc.2] at t1
  clear hm m1 m2 m3 m4 m5 q1 q2 q3 q4 q5 e1
  generalize takeS s (atE s.y b) = s2 at *
  generalize putS s (atE s.y b) = s1 at *
  generalize (mayF s.c.cap s.y (atE s.y b)).1 = base at *
  unfold atE at *
  unfold Ba.V Ba.cs at *
  simp only at *
  refine W_fnS rfl rfl ?_
  simp only [go_sem, c_part_Part_add, gp0, gp, t1, t2, t3, under_rc, tr, simprocAttr]
  first | done | rfl
 ·rw [if_neg hc]
  clear hm
  generalize mayF s.c.cap s.y (atE s.y b) = m at *
  obtain ⟨base, there, why⟩ := m
  simp only at *
  unfold atE at *
  unfold Ba.V Ba.cs at *
  simp only at *
  by_cases c1 : why = 0
  ·cases there with
   | false => exact absurd ⟨c1, rfl⟩ hc
   | true =>
    subst c1
    refine W_fnS rfl rfl ?_
    simp only [go_sem, c_part_Part_add, gp0, t1, under_rc, tr, simprocAttr]
    first | done | rfl
  ·refine W_fnS rfl rfl ?_
   simp only [go_sem, c_part_Part_add, gp0, t1, c1, under_rc, tr, simprocAttr]
   first | done | rfl
set_option maxHeartbeats 1000000 in
theorem pprod_spec (s : PS) (h : PI s) (b : Ba) (hb : BOK b) (hr : b.recs.length ≤ 1000) (h100 : endE s.y.start s.y.L < 100) :
  ∀ H, Ad H a → W n_part_Part_Produce [.ptr a.p 0, b.V] (putAt H a s) = some (.tuple [.int .i64 (prodP s b).1, .int .i64 (prodP s b).2.1], putAt H a (prodP s b).2.2) := by
 intro H A
 have t1 := fun N => at_lift (ldata_spec h.y b hb) A N
 have t2 := fun N => at_lift (padd_spec s h b hb hr h100) A N
 have gp0 := (A.gp s).get
 unfold ptB at gp0
 rw [h.cl] at gp0
 have tr := fun s' v1 v2 N => A.trim s s' (.tuple [.int .i64 v1, .int .i64 v2]) rfl N
 unfold prodP
 generalize addP s b = R at *
 obtain ⟨r1, r2, s2⟩ := R
 simp only at *
 unfold Ba.V Ba.cs at *
 by_cases c1 : dataF s.y b = 0
 ·rw [if_neg (by omega)]
  rw [c1] at t1
  refine W_fnS rfl rfl ?_
  simp only [go_sem, c_part_Part_Produce, gp0, t1, t2, under_rc, tr, simprocAttr]
  first | done | rfl
 ·rw [if_pos c1]
  generalize dataF s.y b = w at *
  refine W_fnS rfl rfl ?_
  simp only [go_sem, c_part_Part_Produce, gp0, t1, c1, under_rc, tr, simprocAttr]
  first | done | rfl
set_option maxHeartbeats 1000000 in
theorem pmark_spec (s : PS) (h : PI s) (p e m : Int) (hp : I64 p) (he : I64 e) (hm : I64 m) (h100 : endE s.y.start s.y.L < 100) :
  ∀ H, Ad H a → W n_part_Part_Mark [.ptr a.p 0, .int .i64 p, .int .i64 e, .int .i64 m] (putAt H a s) = some (.tuple [.int .i64 (markP s p e m).1, .int .i64 (markP s p e m).2.1], putAt H a (markP s p e m).2.2) := by
 intro H A
 have t1 := fun N => at_lift (lmarker_spec h.y p e m hp he hm) A N
 have hbo : BOK (markB' s.y p e m) := ⟨by have := h.y.en; unfold markB' I64; simp only; omega, hp, he, by unfold markB' I64; simp only; omega, hm⟩
 have t2 := fun N => at_lift (padd_spec s h (markB' s.y p e m) hbo (by simp [markB']) h100) A N
 have gp0 := (A.gp s).get
 unfold ptB at gp0
 rw [h.cl] at gp0
 have tr := fun s' v1 v2 N => A.trim s s' (.tuple [.int .i64 v1, .int .i64 v2]) rfl N
 unfold markP
 generalize addP s (markB' s.y p e m) = R at *
 obtain ⟨r1, r2, s2⟩ := R
 simp only at *
 unfold markB' at *
 unfold Ba.V Ba.cs at *
 simp only [List.map_nil] at *
 by_cases c1 : markF' s.y p e m = 0
 ·rw [if_neg (by omega)]
  rw [c1] at t1
  refine W_fnS rfl rfl ?_
  simp only [go_sem, c_part_Part_Mark, gp0, t1, t2, tr, simprocAttr]
  first | done | rfl
 ·rw [if_pos c1]
  generalize markF' s.y p e m = w at *
  refine W_fnS rfl rfl ?_
  simp only [go_sem, c_part_Part_Mark, gp0, t1, c1, tr, simprocAttr]
  first | done | rfl
theorem addP_ok {s : PS} (h : PI s) {b : Ba} (hb : BOK b) (h100 : endE s.y.start s.y.L < 100) (hn : s.y.L.length < 900) : PI (addP s b).2.2 := by
 unfold addP
 split
 ·rename_i hc
  obtain ⟨m1, _⟩ := may_ok hc.1 hc.2
  exact takeS_ok h ⟨atE_ok h.y hb, m1⟩ rfl h100 hn
 ·exact h
theorem prodP_ok {s : PS} (h : PI s) {b : Ba} (hb : BOK b) (h100 : endE s.y.start s.y.L < 100) (hn : s.y.L.length < 900) : PI (prodP s b).2.2 := by
 unfold prodP
 split
 ·exact h
 ·exact addP_ok h hb h100 hn
theorem markP_ok {s : PS} (h : PI s) {p e m : Int} (hp : I64 p) (he : I64 e) (hm : I64 m) (h100 : endE s.y.start s.y.L < 100) (hn : s.y.L.length < 900) : PI (markP s p e m).2.2 := by
 unfold markP
 split
 ·exact h
 ·exact addP_ok h ⟨by have := h.y.en; unfold markB' I64; simp only; omega, hp, he, by unfold markB' I64; simp only; omega, hm⟩ h100 hn
end
def confC (k : Int) : Cf := ⟨[1, 60, 200, 1024].getD (k % 4).toNat 1, [1, 50, 4096].getD (k % 3).toNat 1, 1 + k, 1048576⟩
theorem confC_ok (k : Int) (h0 : 0 ≤ k) (h1 : k ≤ 11) : CfOK (confC k) := by
 have : k = 0 ∨ k = 1 ∨ k = 2 ∨ k = 3 ∨ k = 4 ∨ k = 5 ∨ k = 6 ∨ k = 7 ∨ k = 8 ∨ k = 9 ∨ k = 10 ∨ k = 11 := by omega
 rcases this with rfl | rfl | rfl | rfl | rfl | rfl | rfl | rfl | rfl | rfl | rfl | rfl <;> exact ⟨by decide, by decide, by decide, by decide⟩
set_option maxHeartbeats 2000000 in
theorem config_spec (n : Int) (H : Heap) : W n_keep_Config [.int .i64 n] H = some (.agg (confC (withinQ n 0 11)).cs, H) := by
 have t := fun H => within_spec n 0 11 H (by omega) (by omega) (by omega)
 have r := withinQ_range n 0 11 (by omega)
 generalize withinQ n 0 11 = k at *
 have : k = 0 ∨ k = 1 ∨ k = 2 ∨ k = 3 ∨ k = 4 ∨ k = 5 ∨ k = 6 ∨ k = 7 ∨ k = 8 ∨ k = 9 ∨ k = 10 ∨ k = 11 := by omega
 have n4 : ¬ ((4 : Int) = 0) := by decide
 have n3 : ¬ ((3 : Int) = 0) := by decide
 rcases this with rfl | rfl | rfl | rfl | rfl | rfl | rfl | rfl | rfl | rfl | rfl | rfl
 all_goals
  refine W_fn rfl rfl ?_
  simp only [go_sem, c_keep_Config, t, n4, n3, Int.reduceTMod, Int.reduceLE, Int.reduceToNat, Int.reduceAdd, simprocAttr]
  first | done | rfl
theorem tbl_new_spec' (H : Heap) : W n_table_New [] H = some (.ptr (pt H 1) 0, hx H [.map [], tblB (pt H 0)]) := tbl_new_spec H
theorem tfold0_spec (H : Heap) : W n_table_Fold [.list 7 [] .ro] H = some (.ptr (pt H 1) 0, hx H [.map [], tblB (pt H 0)]) := by
 have t := tbl_new_spec'
 have l1 : ∀ H v, loopA W loopW (.ghost (.kill k_table_Fold_0) l_table_Fold_0) [(3, v), (7, .list 7 [] .ro), (8, .int .i64 0), (9, .int .i64 0)] H = some (.exit 0, [(3, v)], H) := fun H v => by
  refine loop_step l_table_Fold_0.eq_1 k_table_Fold_0.eq_1 (by kernel_rfl) ?_
  simp only [go_sem, Int.reduceLT, simprocAttr]
 refine W_fnS rfl rfl ?_
 simp only [go_sem, c_table_Fold, t, List.length_nil, Int.natCast_zero, l1, simprocAttr]
 first | done | rfl
theorem with0_spec (c : Cf) (st : Int) (H : Heap) : W n_model_With [.agg c.cs, .int .i64 st, .list 7 [] .ro] H =
  some (.ptr (pt H 3) 0, hx H [.cells c.cs, .map [], tblB (pt H 1), lgB c (pt H 2) ⟨st, [], .full, [], 0⟩]) := by
 have t1 := copies_spec [] (by simp) (by simp)
 simp only [List.map_nil] at t1
 have t2 : ∀ H N, W n_table_Fold [.list 7 [] .ro] (hx H N) = some (.ptr (pt H (N.length + 1)) 0, hx H (N ++ [.map [], tblB (pt H N.length)])) := fun H N => by
  rw [tfold0_spec]
  rw [hx_hx, pt_hx, pt_hx]
  rfl
 have l1 : ∀ H v, loopA W loopW (.ghost (.kill k_model_With_0) l_model_With_0) [(7, v), (18, .list 7 [] .ro), (19, .int .i64 0), (20, .int .i64 0)] H = some (.exit 0, [(7, v)], H) := fun H v => by
  refine loop_step l_model_With_0.eq_1 k_model_With_0.eq_1 (by kernel_rfl) ?_
  simp only [go_sem, Int.reduceLT, simprocAttr]
 refine W_fnS rfl rfl ?_
 simp only [go_sem, c_model_With, t1, t2, List.length_cons, List.length_nil, Nat.zero_add, List.nil_append, List.cons_append, Int.natCast_zero, l1, simprocAttr]
 first | done | rfl
theorem new_spec (H : Heap) : W n_files_New [] H = some (.ptr (pt H 1) 0, hx H [fmB [], fsB (pt H 0) 0]) := by
 have f1 : ∀ k, fillN [AVal.map none, .int .i64 0, .int .i64 0] [(0, 1), (1, 1)] [AVal.map (some k), .int .i64 (-1)] = some [AVal.map (some k), .int .i64 (-1), .int .i64 0] := fun k => rfl
 refine W_fnS rfl rfl ?_
 simp only [go_sem, c_files_New, f1, hx_len, hx_app, simprocAttr]
 first | done | rfl
theorem tidy0_spec (d : Int) (f fm p : Nat) (B : List AVal) (H : Heap) (hp : H[p]? = some (.cells (.ptr f 0 :: B))) (h : HasFs H f fm ⟨[], d⟩) : W n_part_Part_tidy [.ptr p 0, .int .i64 0] H = some (.tuple [], H) := by
 have hh : ∀ N, HasFs (hx H N) f fm ⟨[], d⟩ := fun N => ⟨(Old.mk h.gi).get N, (Old.mk h.gj).get N, h.ne⟩
 have gp := (Old.mk hp).get
 have t1 : ∀ N, W n_place_Chains [.ptr f 0, .int .i64 0] (hx H N) = some (.list 4 [] .full, hx H N) := fun N => chains0_spec d f fm 0 _ (hh N)
 have t2 : ∀ N, W n_place_Segments [.ptr f 0] (hx H N) = some (.list 1 [] .full, hx H N) := fun N => segs0_spec d f fm _ (hh N)
 have l1 : ∀ H v w, loopA W loopW (.ghost (.kill k_part_Part_tidy_1) l_part_Part_tidy_1) [(0, v), (4, w), (17, .list 4 [] .full), (18, .int .i64 0), (19, .int .i64 0)] H = some (.exit 0, [(0, v), (4, w)], H) := fun H v w => by
  refine loop_step l_part_Part_tidy_1.eq_1 k_part_Part_tidy_1.eq_1 (by kernel_rfl) ?_
  simp only [go_sem, Int.reduceLT, reduceCtorEq, ↓reduceIte, Nat.reduceAdd, Nat.reduceEqDiff, Nat.reduceLT, Int.reduceLE, Nat.reduceSub, Nat.reduceLeDiff, Nat.reduceMul, Int.reduceToNat, Int.reduceLT, Int.reduceEq, Int.reduceNeg, Nat.reduceBEq, Nat.reduceBNe]
 have l2 : ∀ H v w u, loopA W loopW (.ghost (.kill k_part_Part_tidy_2) l_part_Part_tidy_2) [(0, v), (4, w), (9, u), (10, .int .i64 (-1))] H = some (.exit 4, [], H) := fun H v w u => by
  refine loop_step l_part_Part_tidy_2.eq_1 k_part_Part_tidy_2.eq_1 (by kernel_rfl) ?_
  simp only [go_sem, Int.reduceGE, reduceCtorEq, ↓reduceIte, Nat.reduceAdd, Nat.reduceEqDiff, Nat.reduceLT, Int.reduceLE, Nat.reduceSub, Nat.reduceLeDiff, Nat.reduceMul, Int.reduceToNat, Int.reduceLT, Int.reduceEq, Int.reduceNeg, Nat.reduceBEq, Nat.reduceBNe]
 have w1 : IntKind.i64.wrap (0 - 1) = -1 := by decide +kernel
 refine W_fn rfl rfl ?_
 simp only [go_sem, c_part_Part_tidy, hx_len, hx_app, gp, t1, t2, List.length_nil, Int.natCast_zero, l1, l2, w1, reduceCtorEq, ↓reduceIte, Nat.reduceAdd, Nat.reduceEqDiff, Nat.reduceLT, Int.reduceLE, Nat.reduceSub, Nat.reduceLeDiff, Nat.reduceMul, Int.reduceToNat, Int.reduceLT, Int.reduceEq, Int.reduceNeg, Nat.reduceBEq, Nat.reduceBNe]
 first | done | rfl
def addr (H : Heap) : PA := ⟨pt H 0, pt H 1, pt H 4, pt H 5, pt H 6, pt H 7⟩
def y0 : Lg := ⟨0, [], .full, [], 0⟩
def ps0 (c : Cf) : PS := ⟨c, ⟨[], 0⟩, y0, [], .full, 0, -1, 0, false⟩
def base0 (H : Heap) (c : Cf) : Heap := hx H [fmB [], fsB (pt H 0) 0, .cells c.cs, .cells c.cs, .map [], tblB (pt H 4), lgB c (pt H 5) y0, ptB c (pt H 1) (pt H 6) [] .full 0 (-1) 0 false]
theorem base0_ad (H : Heap) (c : Cf) : Ad (base0 H c) (addr H) := by
 refine ⟨?_, ?_⟩
 ·unfold addr base0 hx pt
  simp only [List.length_append, List.length_cons, List.length_nil]
  omega
 ·unfold addr base0
  rw [hx_get]; rfl
theorem base0_put (H : Heap) (c : Cf) : putAt (base0 H c) (addr H) (ps0 c) = base0 H c := by
 unfold putAt
 have g : ∀ k B, [fmB [], fsB (pt H 0) 0, .cells c.cs, .cells c.cs, .map [], tblB (pt H 4), lgB c (pt H 5) y0, ptB c (pt H 1) (pt H 6) [] .full 0 (-1) 0 false][k]? = some B → (base0 H c).set (pt H k) B = base0 H c := fun k B h => by
  apply set_same'
  unfold base0
  rw [hx_get]; exact h
 have g0 := g 0 _ rfl
 have g1 := g 1 _ rfl
 have g4 := g 4 _ rfl
 have g6 := g 6 _ rfl
 have g7 := g 7 _ rfl
 show (((((base0 H c).set (pt H 0) (fmB [])).set (pt H 1) (fsB (pt H 0) 0)).set (pt H 4) (.map [])).set (pt H 6) (lgB c (pt H 5) y0)).set (pt H 7) (ptB c (pt H 1) (pt H 6) [] .full 0 (-1) 0 false) = base0 H c
 rw [g0, g1, g4, g6, g7]
set_option maxHeartbeats 2000000 in
theorem open0_spec (H : Heap) (c : Cf) (hc : CfOK c) : W n_part_Open [.ptr (pt H 1) 0, .agg c.cs] (hx H [fmB [], fsB (pt H 0) 0]) = some (.tuple [.ptr (pt H 7) 0, .int .i64 0], base0 H c) := by
 have fs : ∀ N, HasFs (hx H (fmB [] :: fsB (pt H 0) 0 :: N)) (pt H 1) (pt H 0) ⟨[], 0⟩ := fun N => ⟨by rw [hx_get]; rfl, by rw [hx_get]; rfl, by unfold pt; omega⟩
 have t1 := opt_spec c hc
 have t2 : ∀ N, W n_place_Load [.ptr (pt H 1) 0] (hx H (fmB [] :: fsB (pt H 0) 0 :: N)) = some (.tuple [.int .i64 0, .list 7 [] .full], hx H (fmB [] :: fsB (pt H 0) 0 :: N)) := fun N => load0_spec 0 (by omega) (by omega) _ _ _ (fs N)
 have t3 : ∀ N, W n_model_With [.agg c.cs, .int .i64 0, .list 7 [] .ro] (hx H N) = some (.ptr (pt H (N.length + 3)) 0, hx H (N ++ [.cells c.cs, .map [], tblB (pt H (N.length + 1)), lgB c (pt H (N.length + 2)) y0])) := fun N => by
  rw [with0_spec, hx_hx, pt_hx, pt_hx, pt_hx]
  rfl
 have t4 : ∀ N, W n_part_Part_tidy [.ptr (pt H 7) 0, .int .i64 0] (hx H [fmB [], fsB (pt H 0) 0, .cells c.cs, .cells c.cs, .map [], tblB (pt H 4), lgB c (pt H 5) y0, .cells (.ptr (pt H 1) 0 :: N)]) = some (.tuple [], hx H [fmB [], fsB (pt H 0) 0, .cells c.cs, .cells c.cs, .map [], tblB (pt H 4), lgB c (pt H 5) y0, .cells (.ptr (pt H 1) 0 :: N)]) := fun N =>
  tidy0_spec 0 (pt H 1) (pt H 0) (pt H 7) N _ (by rw [hx_get]; rfl) (fs _)
 have t5 : ∀ N, W n_place_SetClean [.ptr (pt H 1) 0, .bool false] (hx H (fmB [] :: fsB (pt H 0) 0 :: N)) = some (.int .i64 0, hx H (fmB [] :: fsB (pt H 0) 0 :: N)) := fun N => setclean0_spec ⟨[], 0⟩ ⟨by simp, by simp, by simp, by simp⟩ rfl _ _ _ (fs N)
 have t6 : ∀ B, W n_model_Log_End [.ptr (pt H 6) 0] (hx H [fmB [], fsB (pt H 0) 0, .cells c.cs, .cells c.cs, .map [], tblB (pt H 4), lgB c (pt H 5) y0, B]) = some (.int .i64 0, hx H [fmB [], fsB (pt H 0) 0, .cells c.cs, .cells c.cs, .map [], tblB (pt H 4), lgB c (pt H 5) y0, B]) := fun B => by
  have te := fend_spec [] (by simp) (by simp) 0
  have e0 : endE 0 [] = 0 := rfl
  rw [e0] at te
  simp only [List.map_nil] at te
  have gm : ∀ N, (hx (hx H [fmB [], fsB (pt H 0) 0, .cells c.cs, .cells c.cs, .map [], tblB (pt H 4), lgB c (pt H 5) y0, B]) N)[pt H 6]? = some (.cells [.int .i64 c.seg, .int .i64 c.idx, .int .i64 c.snap, .int .i64 c.cap, .int .i64 0, .list 7 [] .full, .ptr (pt H 5) 0, .int .i64 0]) := fun N => by
   rw [hx_hx, hx_get]; rfl
  generalize hx H [fmB [], fsB (pt H 0) 0, .cells c.cs, .cells c.cs, .map [], tblB (pt H 4), lgB c (pt H 5) y0, B] = G at *
  refine W_fn rfl rfl ?_
  simp only [go_sem, c_model_Log_End, gm, te, reduceCtorEq, ↓reduceIte, Nat.reduceAdd, Nat.reduceEqDiff, Nat.reduceLT, Int.reduceLE, Nat.reduceSub, Nat.reduceLeDiff, Nat.reduceMul, Int.reduceToNat, Int.reduceLT, Int.reduceEq, Int.reduceNeg, Nat.reduceBEq, Nat.reduceBNe]
 have f1 : ∀ x y : AVal, fillN [.nilp, .int .i64 0, .int .i64 0, .int .i64 0, .int .i64 0, .nilp, .list 1 [] .full, .int .i64 0, .int .i64 0, .int .i64 0, .bool false] [(0, 1), (1, 4), (5, 1), (8, 1)] [.ptr (pt H 1) 0, .agg c.cs, .ptr (pt H 6) 0, .int .i64 (-1)] = some [.ptr (pt H 1) 0, .int .i64 c.seg, .int .i64 c.idx, .int .i64 c.snap, .int .i64 c.cap, .ptr (pt H 6) 0, .list 1 [] .full, .int .i64 0, .int .i64 (-1), .int .i64 0, .bool false] := fun _ _ => rfl
 unfold base0
 refine W_fnS rfl rfl ?_
 unfold Cf.cs at *
 simp only [go_sem, c_part_Open, hx_hx, pt_hx, t1, t2, t3, f1, t4, t5, t6, List.length_cons, List.length_nil, Nat.zero_add, Nat.reduceAdd, List.cons_append, List.nil_append, reduceCtorEq, ↓reduceIte, Nat.reduceAdd, Nat.reduceEqDiff, Nat.reduceLT, Int.reduceLE, Nat.reduceSub, Nat.reduceLeDiff, Nat.reduceMul, Int.reduceToNat, Int.reduceLT, Int.reduceEq, Int.reduceNeg, Nat.reduceBEq, Nat.reduceBNe]
 first | done | rfl
theorem begun_spec (n : Int) (H : Heap) : W n_top_begun [.int .i64 n] H = some (.tuple [.ptr (pt H 1) 0, .ptr (pt H 7) 0], base0 H (confC (withinQ n 0 11))) := by
 have r := withinQ_range n 0 11 (by omega)
 have hc := confC_ok (withinQ n 0 11) r.1 r.2
 have t1 := new_spec
 have t2 := fun H => config_spec n H
 have t3 := fun H => open0_spec H _ hc
 generalize confC (withinQ n 0 11) = c at *
 have e : hx (base0 H c) [] = base0 H c := hx_nil _
 unfold Cf.cs at *
 refine W_fnS rfl rfl ?_
 simp only [go_sem, c_top_begun, t1, t2, t3, simprocAttr]
 first | done | rfl
def dataR (key : List UInt8) (n : Nat) : List Rc := (List.range n).map fun i => (key, [UInt8.ofNat (97 + i)])
def dataB (p e q : Int) (t : Bool) (n : Nat) (key : List UInt8) : Ba := ⟨0, p, e, q, t, 0, dataR key n⟩
theorem dataR_len (key n) : (dataR key n).length = n := by simp [dataR]
theorem dt_loop (p e q : Int) (t : Bool) (n : Nat) (hn : n ≤ 20) (key : List UInt8) (A : Box) (H : Heap) (d : Nat) : ∀ (i : Nat) (fl : Fl), i + d = n → (fl = .own ∨ (fl = .full ∧ i = 0)) →
  loopA W loopW (.ghost (.kill k_top_data_0) l_top_data_0) [(4, .int .i64 (n : Nat)), (5, .str key), (12, .ptr (pt H 0) 0), (13, .ptr (pt H 1) 0), (14, .int .i64 (i : Nat))] (hx H [A, .cells [.int .i64 0, .int .i64 p, .int .i64 e, .int .i64 q, .bool t, .int .i64 0, .list 2 ((dataR key i).map rcV) fl]]) =
   some (.exit 0, [(12, .ptr (pt H 0) 0), (13, .ptr (pt H 1) 0)], hx H [A, .cells [.int .i64 0, .int .i64 p, .int .i64 e, .int .i64 q, .bool t, .int .i64 0, .list 2 ((dataR key n).map rcV) (if d = 0 then fl else .own)]]) := by
 induction d with
 | zero =>
  intro i fl hi hfl
  have : i = n := by omega
  subst this
  have c : ¬ ((i : Int) < (i : Int)) := by omega
  rw [if_pos rfl]
  refine loop_step l_top_data_0.eq_1 k_top_data_0.eq_1 (by kernel_rfl) ?_
  simp only [go_sem, c, simprocAttr]
 | succ d ih =>
  intro i fl hi hfl
  have c : ((i : Int) < (n : Int)) := by omega
  have w1 : IntKind.i64.wrap (97 + (i : Int)) = ((97 + i : Nat) : Int) := by rw [wrap_id (by unfold I64; omega)]; omega
  have w2 : IntKind.i32.wrap ((97 + i : Nat) : Int) = ((97 + i : Nat) : Int) := by
   have : ∀ k : Nat, k < 200 → IntKind.i32.wrap ((k : Nat) : Int) = (k : Nat) := by
    have key : (List.range 200).all (fun k => decide (IntKind.i32.wrap ((k : Nat) : Int) = (k : Nat))) = true := by decide +kernel
    intro k hk
    exact of_decide_eq_true (List.all_eq_true.1 key k (List.mem_range.2 hk))
   exact this _ (by omega)
  have r1 : (0 : Int) ≤ ((97 + i : Nat) : Int) := by omega
  have r2 : ((97 + i : Nat) : Int) < 128 := by omega
  have r3 : (((97 + i : Nat) : Int)).toNat = 97 + i := by omega
  have e8 : (dataR key i).map rcV ++ [.agg [.str key, .str [UInt8.ofNat (97 + i)]]] = (dataR key (i + 1)).map rcV := by
   unfold dataR; rw [List.range_succ]; simp [rcV]
  have e6 : IntKind.i64.wrap ((i : Int) + 1) = ((i + 1 : Nat) : Int) := by rw [wrap_id (by unfold I64; omega)]; omega
  have b1 : (i + 1) * 32 ≤ maxBytes := by simp only [maxBytes]; omega
  have hl := dataR_len key i
  have h2 := ih (i + 1) .own (by omega) (.inl rfl)
  have hz : (if d = 0 then Fl.own else Fl.own) = Fl.own := by split <;> rfl
  rw [hz] at h2
  rw [if_neg (by omega)]
  generalize dataR key n = Rn at *
  generalize dataR key (i + 1) = R1 at *
  generalize dataR key i = R0 at *
  refine loop_step l_top_data_0.eq_1 k_top_data_0.eq_1 (by kernel_rfl) ?_
  rcases hfl with rfl | ⟨rfl, _⟩
  ·simp only [go_sem, c, w1, w2, r1, r2, r3, apO, List.length_map, hl, List.length_cons, List.length_nil, Nat.zero_add, b1, e8, e6, simprocAttr]
   exact h2
  ·simp only [go_sem, c, w1, w2, r1, r2, r3, apF, List.length_map, hl, List.length_cons, List.length_nil, Nat.zero_add, b1, e8, e6, simprocAttr]
   exact h2
theorem data_spec' (p e q : Int) (t : Bool) (n : Nat) (hn : n ≤ 20) (key : List UInt8) (H : Heap) :
  W n_top_data [.int .i64 p, .int .i64 e, .int .i64 q, .bool t, .int .i64 (n : Nat), .str key] H = some ((dataB p e q t n key).V, H) := by
 have h := fun A H => dt_loop p e q t n hn key A H n 0 .full (by omega) (.inr ⟨rfl, rfl⟩)
 have d0 : (dataR key 0).map rcV = [] := rfl
 rw [d0] at h
 simp only [Int.natCast_zero] at h
 obtain ⟨fl, hfl, hf⟩ : ∃ fl, (if n = 0 then Fl.full else Fl.own) = fl ∧ (fl = .full ∨ fl = .own) := ⟨_, rfl, by split <;> simp⟩
 rw [hfl] at h
 unfold dataB Ba.V Ba.cs
 simp only
 generalize dataR key n = R at *
 rcases hf with rfl | rfl
 ·refine W_fn rfl rfl ?_
  simp only [go_sem, c_top_data, h, under_rc, simprocAttr]
  first | done | rfl
 ·refine W_fn rfl rfl ?_
  simp only [go_sem, c_top_data, h, under_rc, simprocAttr]
  first | done | rfl
theorem plain_specT (n : Nat) (hn : n ≤ 20) (key : List UInt8) (H : Heap) : W n_top_plain [.int .i64 (n : Nat), .str key] H = some ((dataB (-1) (-1) (-1) false n key).V, H) := by
 have t := fun H => data_spec' (-1) (-1) (-1) false n hn key H
 unfold dataB Ba.V Ba.cs at *
 simp only at *
 refine W_fn rfl rfl ?_
 simp only [go_sem, c_top_plain, t, under_rc, simprocAttr]
 first | done | rfl
theorem e_mkmeth (c m x H) : ev c (.mkmeth m) [x] H = gd x.argOK (some (.meth m x.strip, H)) := by
 simp only [ev, gd]
theorem e_methCheck (c m tb t v H) : ev c (.methCheck m tb) [.meth m (.iface t v)] H = gd (lookTb tb t).isSome (some (.meth m (.iface t v), H)) := by
 simp only [ev, gd, true_and]
theorem poll_gen (fe : Fe) (hR : fe.R.length ≤ 64) (hD : fe.D.length ≤ 1000) (lo n : Int) (only : Bool) (i p : Nat) (H : Heap) (hi : Old H i (rdrB lo n only))
  (t1 : ∀ N, W n_part_Part_Fetch [.ptr p 0, .int .i64 lo, .int .i64 n, .bool only] (hx H N) = some (.tuple [feV fe, .int .i64 fe.e], hx H N)) :
  W n_reader_Reader_Poll [.ptr i 0, .iface 23 (.ptr p 0)] H =
   some (if fe.e = 0 then (.tuple [.list 4 ((pG fe only).map gV) (pF only), .int .i64 0], H.set i (rdrB fe.n n only)) else (.tuple [.list 4 [] .full, .int .i64 fe.e], H)) := by
 have gi := hi.get
 have gi' := hi.get'
 have gs := hi.set
 have gs' := hi.set'
 have t0 := t1 []
 rw [hx_nil] at t0
 obtain ⟨R, D, m, s, e⟩ := fe
 simp only [feV] at *
 have t2 := fun H => deliver_spec R (by omega) D (by omega) m s H
 have t3 := fun H => W_slices_Clone_api_Got_api_Got_ (R.map gV) H (by simp only [List.length_map, maxBytes]; omega)
 have u1 := fun k => under_g k R
 have u2 := fun k => under_la0 k D
 have u3 := fun k => under_g k (R.filter fun g => !hitG D g)
 unfold rdrB at *
 simp only [pG]
 generalize hG : R.filter (fun g => !hitG D g) = G at *
 by_cases he : e = 0
 ·subst he
  rw [if_pos rfl]
  cases only with
  | true =>
   rw [if_pos rfl, show pF true = .full from rfl]
   refine W_fnS rfl rfl ?_
   simp only [go_sem, c_reader_Reader_Poll, e_mkmeth, e_methCheck, Option.isSome_some, gi, gi', gs, gs', t0, t1, t2, u1, u2, u3, simprocAttr]
   first | done | rfl
  | false =>
   rw [if_neg (by decide), show pF false = .own from rfl]
   refine W_fnS rfl rfl ?_
   simp only [go_sem, c_reader_Reader_Poll, e_mkmeth, e_methCheck, Option.isSome_some, gi, gi', gs, gs', t0, t1, t3, fz4, u1, u2, u3, simprocAttr]
   first | done | rfl
 ·rw [if_neg he]
  refine W_fn rfl rfl ?_
  simp only [go_sem, c_reader_Reader_Poll, e_mkmeth, e_methCheck, Option.isSome_some, gi, gi', gs, gs', t0, t1, he, u1, u2, u3, simprocAttr]
  first | done | rfl
def drL (start n : Int) (L : List Ba) (only : Bool) : Nat → Int → List Gt → List Gt × Int
 | 0, a, o => (o, a)
 | d + 1, a, o => if (fetE start a n L only).e = 0 then (if (fetE start a n L only).n = a then (o ++ pG (fetE start a n L only) only, a) else drL start n L only d (fetE start a n L only).n (o ++ pG (fetE start a n L only) only)) else (o, a)
section
variable {a : PA} {s : PS}
set_option maxHeartbeats 1000000 in
theorem rdr_loop (h : LI s.y) (hcl : s.cl = false) (n : Int) (only : Bool) (m : Int) (hm : m ≤ 400) (H : Heap) (A : Ad H a) (d : Nat) : ∀ (i : Nat) (lo : Int) (o : List Gt) (fl : Fl), (i : Int) + d = mx 0 m → o.length ≤ 64 * i → (fl = .own ∨ (fl = .full ∧ o = [])) →
  ∃ fl', loopA W loopW (.ghost (.kill k_reader_Drain_0) l_reader_Drain_0) [(0, .iface 23 (.ptr a.p 0)), (12, .ptr (pt (putAt H a s) 0) 0), (13, .list 4 (o.map gV) fl), (25, .int .i64 (mx 0 m)), (26, .int .i64 (i : Nat))] (hx (putAt H a s) [rdrB lo n only]) =
   some (.exit 0, [(12, .ptr (pt (putAt H a s) 0) 0), (13, .list 4 ((drL s.y.start n s.y.L only d lo o).1.map gV) fl')], hx (putAt H a s) [rdrB (drL s.y.start n s.y.L only d lo o).2 n only]) ∧ (fl' = .own ∨ (fl' = .full ∧ (drL s.y.start n s.y.L only d lo o).1 = [])) := by
 have hmm : mx 0 m ≤ 400 := by unfold mx; split <;> omega
 generalize mx 0 m = M at *
 induction d with
 | zero =>
  intro i lo o fl hi ho hfl
  refine ⟨fl, ?_, hfl⟩
  have c : ¬ ((i : Int) < M) := by omega
  simp only [drL]
  refine loop_step l_reader_Drain_0.eq_1 k_reader_Drain_0.eq_1 (by kernel_rfl) ?_
  simp only [go_sem, c, simprocAttr]
 | succ d ih =>
  intro i lo o fl hi ho hfl
  have c : ((i : Int) < M) := by omega
  have e6 : IntKind.i64.wrap ((i : Int) + 1) = ((i + 1 : Nat) : Int) := by rw [wrap_id (by unfold I64; omega)]; omega
  have hlen := fetE_len s.y.L h.fit (by have := h.n; omega) s.y.start lo n only
  have t1 := poll_gen (fetE s.y.start lo n s.y.L only) hlen.1 hlen.2 lo n only (pt (putAt H a s) 0) a.p (hx (putAt H a s) [rdrB lo n only]) ⟨by rw [hx_get]; rfl⟩ (fun N => by rw [hx_hx]; exact at_lift (pfetch_spec h hcl lo n only) A _)
  rw [hx_set, List.set_cons_zero] at t1
  have hg := @pG_len (fetE s.y.start lo n s.y.L only) only hlen.1
  have gg : ∀ (H : Heap) (x : Int), (hx H [rdrB x n only])[pt H 0]? = some (rdrB x n only) := fun H x => by rw [hx_get]; rfl
  have ap : ∀ X : List Gt, o.map gV ++ X.map gV = (o ++ X).map gV := fun X => by rw [List.map_append]
  unfold drL
  generalize s.y.start = start at *
  generalize s.y.L = L at *
  generalize putAt H a s = G0 at *
  by_cases he : (fetE start lo n L only).e = 0
  ·rw [if_pos he] at t1 ⊢
   have key := ih (i + 1) (fetE start lo n L only).n (o ++ pG (fetE start lo n L only) only) .own (by omega) (by simp only [List.length_append]; omega) (.inl rfl)
   by_cases hq : (fetE start lo n L only).n = lo
   ·rw [if_pos hq]
    refine ⟨.own, ?_, .inl rfl⟩
    rw [hq] at t1
    clear key ih
    have bb : ((o.map gV).length + ((pG (fetE start lo n L only) only).map gV).length) * 48 ≤ maxBytes := by simp only [List.length_map, maxBytes]; omega
    have b0 : (0 + ((pG (fetE start lo n L only) only).map gV).length) * 48 ≤ maxBytes := by simp only [List.length_map, maxBytes]; omega
    generalize pG (fetE start lo n L only) only = G at *
    have pf : pF only = .full ∨ pF only = .own := by unfold pF; split <;> simp
    generalize pF only = pf0 at *
    refine loop_step l_reader_Drain_0.eq_1 k_reader_Drain_0.eq_1 (by kernel_rfl) ?_
    rcases pf with rfl | rfl <;> rcases hfl with rfl | ⟨rfl, rfl⟩
    all_goals
     try simp only [List.map_nil, List.nil_append] at *
     first
      | (simp only [go_sem, c, gg, t1, apO, bb, ap, simprocAttr]; done)
      | (simp only [go_sem, c, gg, t1, apF, List.length_nil, b0, List.nil_append, simprocAttr]; done)
   ·rw [if_neg hq]
    obtain ⟨fl', k1, k2⟩ := key
    refine ⟨fl', ?_, k2⟩
    clear ih k2
    have bb : ((o.map gV).length + ((pG (fetE start lo n L only) only).map gV).length) * 48 ≤ maxBytes := by simp only [List.length_map, maxBytes]; omega
    have b0 : (0 + ((pG (fetE start lo n L only) only).map gV).length) * 48 ≤ maxBytes := by simp only [List.length_map, maxBytes]; omega
    have hq' : ¬ ((fetE start lo n L only).n = lo) := hq
    generalize drL start n L only d (fetE start lo n L only).n (o ++ pG (fetE start lo n L only) only) = Q at *
    generalize pG (fetE start lo n L only) only = G at *
    generalize (fetE start lo n L only).n = a' at *
    have pf : pF only = .full ∨ pF only = .own := by unfold pF; split <;> simp
    generalize pF only = pf0 at *
    refine loop_step l_reader_Drain_0.eq_1 k_reader_Drain_0.eq_1 (by kernel_rfl) ?_
    rcases pf with rfl | rfl <;> rcases hfl with rfl | ⟨rfl, rfl⟩
    all_goals
     try simp only [List.map_nil, List.nil_append] at *
     first
      | (simp only [go_sem, c, gg, t1, apO, bb, ap, hq, e6, simprocAttr]; exact k1)
      | (simp only [go_sem, c, gg, t1, apF, List.length_nil, b0, List.nil_append, hq, e6, simprocAttr]; exact k1)
  ·rw [if_neg he] at t1 ⊢
   refine ⟨fl, ?_, hfl⟩
   clear ih
   generalize (fetE start lo n L only).e = e at *
   refine loop_step l_reader_Drain_0.eq_1 k_reader_Drain_0.eq_1 (by kernel_rfl) ?_
   simp only [go_sem, c, gg, t1, he, simprocAttr]
def drN (start lo n : Int) (L : List Ba) (only : Bool) (m : Int) : List Gt × Int := if n < 1 ∨ n > 64 then ([], lo) else drL start n L only (mx 0 m).toNat lo []
theorem mx0 (m : Int) : 0 ≤ mx 0 m := by unfold mx; split <;> omega
theorem drain_spec (h : LI s.y) (hcl : s.cl = false) (lo n : Int) (only : Bool) (m : Int) (hm : m ≤ 400) : ∀ H, Ad H a → 
  W n_reader_Drain [.iface 23 (.ptr a.p 0), .int .i64 lo, .int .i64 n, .bool only, .int .i64 m] (putAt H a s) = some (.tuple [.list 4 ((drN s.y.start lo n s.y.L only m).1.map gV) .full, .int .i64 (drN s.y.start lo n s.y.L only m).2], putAt H a s) := by
 intro H A
 have t1 := rnew_spec lo n only (hx (putAt H a s) [])
 have gp0 := A.gp s
 unfold drN at *
 by_cases h1 : n < 1 ∨ n > 64
 ·rw [if_pos h1] at t1 ⊢
  simp only [List.map_nil] at *
  refine W_fn rfl rfl ?_
  simp only [go_sem, c_reader_Drain, t1, simprocAttr]
  first | done | rfl
 ·rw [if_neg h1] at t1 ⊢
  rw [hx_hx, List.nil_append, pt_hx, List.length_nil, Nat.zero_add] at t1
  have h0m := mx0 m
  obtain ⟨fl', t2, hf⟩ := rdr_loop h hcl n only m hm H A (mx 0 m).toNat 0 lo [] .full (by omega) (by simp) (.inr ⟨rfl, rfl⟩)
  simp only [List.map_nil, Int.natCast_zero] at t2
  generalize drL s.y.start n s.y.L only (mx 0 m).toNat lo [] = Q at *
  have gg : ∀ (x : Int), (hx (putAt H a s) [rdrB x n only])[pt (putAt H a s) 0]? = some (rdrB x n only) := fun x => by rw [hx_get]; rfl
  have t3 := fun H => clip_got (Q.1.map gV) fl' (by rcases hf with h | ⟨h, _⟩ <;> simp [h]) H
  have u1 := fun k => under_g k Q.1
  have hf' : fl' = .own ∨ fl' = .full := by rcases hf with h | ⟨h, _⟩ <;> simp [h]
  generalize Q.1.map gV = Q1 at *
  generalize putAt H a s = G0 at *
  refine W_fn rfl rfl ?_
  rcases hf' with rfl | rfl
  all_goals
   simp only [go_sem, c_reader_Drain, t1, t2, t3, gg, u1, simprocAttr]
   first | done | rfl
end
theorem ps0_ok {c : Cf} (h : CfOK c) : PI (ps0 c) := by
 refine ⟨h, ⟨by simp [ps0, y0], by simp [ps0, y0], by simp [ps0, y0], by simp [ps0, y0], .inr ⟨rfl, rfl⟩, rfl, rfl, trivial⟩, ⟨by simp [ps0], by simp [ps0, y0], by simp [ps0]⟩, by simp [ps0], by simp [ps0], .inr ⟨rfl, rfl⟩, by simp [ps0, y0], rfl, by simp [ps0], by simp [ps0]⟩
theorem dataB_ok (p e q : Int) (t : Bool) (n : Nat) (key : List UInt8) (hp : I64 p) (he : I64 e) (hq : I64 q) : BOK (dataB p e q t n key) := ⟨by unfold dataB I64; simp only; omega, hp, he, hq, by unfold dataB I64; simp only; omega⟩
theorem trim_all (H N : Heap) (v : AVal) (hv : v.under 0 = true) : trim false (hx H []) v (hx H N) = some (v, hx H []) := by
 have := trim_to H H N v rfl hv (fun k B h => .inl h)
 rw [hx_nil] at this ⊢
 exact this
def bk : Ba := dataB (-1) (-1) (-1) false 2 [107]
def s1k : PS := (prodP (ps0 (confC 1)) bk).2.2
theorem bk1 : (prodP (ps0 (confC 1)) bk).1 = 0 ∧ (prodP (ps0 (confC 1)) bk).2.1 = 0 := by decide +kernel
theorem bk2 : (drN s1k.y.start 0 5 s1k.y.L true 9).1.length = 2 ∧ (drN s1k.y.start 0 5 s1k.y.L true 9).2 = 2 := by decide +kernel
theorem end_trim (H : Heap) (c : Cf) (s : PS) (v : AVal) (hv : v.under 0 = true) (N : Heap) : trim false (hx H []) v (hx (putAt (base0 H c) (addr H) s) N) = some (v, hx H []) := by
 have : ∃ M, putAt (base0 H c) (addr H) s = hx H M := by
  unfold putAt addr base0
  apply Exists.intro
  rw [hx_set, hx_set, hx_set, hx_set, hx_set]
 obtain ⟨M, hM⟩ := this
 rw [hM, hx_hx]
 exact trim_all H _ v hv
theorem begun_at (n : Int) (H : Heap) : W n_top_begun [.int .i64 n] (hx H []) = some (.tuple [.ptr (pt H 1) 0, .ptr (pt H 7) 0], hx (base0 H (confC (withinQ n 0 11))) []) := by
 rw [hx_nil, hx_nil]; exact begun_spec n H
theorem awake_spec (H : Heap) : W n_top_awake [] H = some (.bool true, H) := by
 have c1 : withinQ 1 0 11 = 1 := by decide +kernel
 have hc := confC_ok 1 (by decide) (by decide)
 have t1' := begun_at 1 H
 rw [c1] at t1'
 have A := base0_ad H (confC 1)
 have h0 := ps0_ok hc
 have t2 : ∀ H, W n_top_plain [.int .i64 2, .str [107]] H = some ((dataB (-1) (-1) (-1) false 2 [107]).V, H) := fun H => plain_specT 2 (by decide) [107] H
 have t3 := fun N => at_lift (pprod_spec (ps0 (confC 1)) h0 bk (dataB_ok _ _ _ _ _ _ (by unfold I64; omega) (by unfold I64; omega) (by unfold I64; omega)) (by decide) (by decide)) A N
 rw [base0_put] at t3
 have h1 : PI s1k := prodP_ok h0 (dataB_ok _ _ _ _ _ _ (by unfold I64; omega) (by unfold I64; omega) (by unfold I64; omega)) (by decide) (by decide)
 have t4 := fun N => at_lift (drain_spec h1.y h1.cl 0 5 true 9 (by decide)) A N
 obtain ⟨b1, b2⟩ := bk1
 obtain ⟨b3, b4⟩ := bk2
 rw [b1, b2, show (prodP (ps0 (confC 1)) bk).2.2 = s1k from rfl] at t3
 rw [b4] at t4
 have u1 := fun k => under_g k (drN s1k.y.start 0 5 s1k.y.L true 9).1
 have b5 : ((drN s1k.y.start 0 5 s1k.y.L true 9).1.map gV).length = 2 := by rw [List.length_map]; exact b3
 have tr := fun s N => end_trim H (confC 1) s (.bool true) rfl N
 clear A h0 h1 b1 b2 b3 b4 c1 hc
 rw [show (addr H).p = pt H 7 from rfl] at *
 generalize List.map gV (drN s1k.y.start 0 5 s1k.y.L true 9).1 = G at *
 rw [show bk.V = (dataB (-1) (-1) (-1) false 2 [107]).V from rfl] at t3
 unfold dataB Ba.V Ba.cs at t2 t3
 simp only at t2 t3
 generalize dataR [107] 2 = R at *
 refine W_fnS rfl rfl ?_
 simp only [go_sem, c_top_awake, t1', t2, t3, t4, b5, List.length_cons, List.length_nil, Nat.zero_add, u1, under_rc, tr, simprocAttr]
 rw [hx_nil]
def hp (H : Heap) (c : Cf) (s : PS) : Heap := putAt (base0 H c) (addr H) s
theorem hp_begun (n : Int) (H : Heap) : W n_top_begun [.int .i64 n] (hx H []) = some (.tuple [.ptr (pt H 1) 0, .ptr (pt H 7) 0], hx (hp H (confC (withinQ n 0 11)) (ps0 (confC (withinQ n 0 11)))) []) := by
 rw [begun_at, hp, base0_put]
theorem hp_trim (H : Heap) (c : Cf) (s : PS) (v : AVal) (hv : v.under 0 = true) (N : Heap) : trim false (hx H []) v (hx (hp H c s) N) = some (v, hx H []) := end_trim H c s v hv N
theorem hp_prod (H : Heap) (c : Cf) {s : PS} (h : PI s) (p e q : Int) (t : Bool) (n : Nat) (key : List UInt8) (hp' : I64 p) (he : I64 e) (hq : I64 q) (hn : n ≤ 20) (h100 : endE s.y.start s.y.L < 100) (N : Heap) :
  W n_part_Part_Produce [.ptr (pt H 7) 0, .agg [.int .i64 0, .int .i64 p, .int .i64 e, .int .i64 q, .bool t, .int .i64 0, .list 2 ((dataR key n).map rcV) .ro]] (hx (hp H c s) N) =
   some (.tuple [.int .i64 (prodP s (dataB p e q t n key)).1, .int .i64 (prodP s (dataB p e q t n key)).2.1], hx (hp H c (prodP s (dataB p e q t n key)).2.2) N) :=
 at_lift (pprod_spec s h (dataB p e q t n key) (dataB_ok p e q t n key hp' he hq) (by show (dataR key n).length ≤ 1000; rw [dataR_len]; omega) h100) (base0_ad H c) N
theorem hp_data (p e q : Int) (t : Bool) (n : Nat) (hn : n ≤ 20) (key : List UInt8) (H : Heap) :
  W n_top_data [.int .i64 p, .int .i64 e, .int .i64 q, .bool t, .int .i64 (n : Nat), .str key] H = some (.agg [.int .i64 0, .int .i64 p, .int .i64 e, .int .i64 q, .bool t, .int .i64 0, .list 2 ((dataR key n).map rcV) .ro], H) :=
 data_spec' p e q t n hn key H
theorem hp_plain (n : Nat) (hn : n ≤ 20) (key : List UInt8) (H : Heap) :
  W n_top_plain [.int .i64 (n : Nat), .str key] H = some (.agg [.int .i64 0, .int .i64 (-1), .int .i64 (-1), .int .i64 (-1), .bool false, .int .i64 0, .list 2 ((dataR key n).map rcV) .ro], H) :=
 plain_specT n hn key H
theorem hp_mark (H : Heap) (c : Cf) {s : PS} (h : PI s) (p e m : Int) (hp' : I64 p) (he : I64 e) (hm : I64 m) (h100 : endE s.y.start s.y.L < 100) (N : Heap) :
  W n_part_Part_Mark [.ptr (pt H 7) 0, .int .i64 p, .int .i64 e, .int .i64 m] (hx (hp H c s) N) =
   some (.tuple [.int .i64 (markP s p e m).1, .int .i64 (markP s p e m).2.1], hx (hp H c (markP s p e m).2.2) N) :=
 at_lift (pmark_spec s h p e m hp' he hm h100) (base0_ad H c) N
theorem hp_end (H : Heap) (c : Cf) {s : PS} (h : PI s) (N : Heap) : W n_part_Part_End [.ptr (pt H 7) 0] (hx (hp H c s) N) = some (.int .i64 (endE s.y.start s.y.L), hx (hp H c s) N) :=
 at_lift (pend_spec h.y) (base0_ad H c) N
theorem hp_stable (H : Heap) (c : Cf) {s : PS} (h : PI s) (N : Heap) : W n_part_Part_Stable [.ptr (pt H 7) 0] (hx (hp H c s) N) = some (.int .i64 (stableE s.y.start s.y.L), hx (hp H c s) N) :=
 at_lift (pstable_spec h.y) (base0_ad H c) N
theorem hp_drain (H : Heap) (c : Cf) {s : PS} (h : PI s) (lo n : Int) (only : Bool) (m : Int) (hm : m ≤ 400) (N : Heap) :
  W n_reader_Drain [.iface 23 (.ptr (pt H 7) 0), .int .i64 lo, .int .i64 n, .bool only, .int .i64 m] (hx (hp H c s) N) =
   some (.tuple [.list 4 ((drN s.y.start lo n s.y.L only m).1.map gV) .full, .int .i64 (drN s.y.start lo n s.y.L only m).2], hx (hp H c s) N) :=
 at_lift (drain_spec h.y h.cl lo n only m hm) (base0_ad H c) N
def atL (L : List Ba) (b : Ba) : Ba := { b with base := endE 0 L }
structure At (c : Cf) (s : PS) (L : List Ba) : Prop where
 pi : PI s
 c : s.c = c
 st : s.y.start = 0
 L : s.y.L = L
theorem At.zero {c : Cf} (h : CfOK c) : At c (ps0 c) [] := ⟨ps0_ok h, rfl, rfl, rfl⟩
theorem At.atE {c s L} (h : At c s L) (b : Ba) : atE s.y b = atL L b := by unfold Go.Abs.atE atL; rw [h.st, h.L]
theorem At.may {c s L} (h : At c s L) (b : Ba) : mayF s.c.cap s.y b = mayF c.cap ⟨0, L, .full, foldM L [], sizeL L⟩ b := by
 unfold mayF; rw [h.c, h.pi.y.M, h.pi.y.size, h.L]
theorem At.new {c s L} (h : At c s L) {b : Ba} (hb : BOK b) (hm : b.mark = 0) (hr : rightE (atL L b) = 0) (hc : mapCheck (foldM L []) (atL L b) = (-1, 0)) (hs : sizeL L + sizeE (atL L b) ≤ c.cap) (he : endE 0 L < 100) (hn : L.length < 900) :
  (prodP s b).1 = endE 0 L ∧ (prodP s b).2.1 = 0 ∧ At c (prodP s b).2.2 (L ++ [atL L b]) := by
 have hok := prodP_ok h.pi hb (by rw [h.st, h.L]; exact he) (by rw [h.L]; exact hn)
 have hfit : Fit (atL L b) := by
  have := atE_ok h.pi.y hb
  rw [h.atE] at this
  exact ⟨this, hr⟩
 have hcnt := hfit.count
 have hd : dataF s.y b = 0 := by unfold dataF; rw [h.atE, hr]; simp [hm]
 have hmay : mayF s.c.cap s.y (Go.Abs.atE s.y b) = (endE 0 L, false, 0) := by
  rw [h.atE, h.may]
  unfold mayF
  rw [hc]
  rw [if_neg (by simp), if_neg (by simp), if_neg (by simp only; omega), if_neg (by unfold atL at *; simp only at *; omega)]
  rfl
 have hp : prodP s b = (endE 0 L, 0, takeS s (atL L b)) := by
  unfold prodP addP
  rw [hd, if_neg (by simp), hmay, if_pos ⟨rfl, rfl⟩, h.atE]
 rw [hp] at hok ⊢
 refine ⟨rfl, rfl, hok, ?_, ?_, ?_⟩
 ·show (putS s (atL L b)).c = c
  rw [(putS_y s _).2.1, h.c]
 ·exact h.st
 ·show s.y.L ++ [atL L b] = _
  rw [h.L]
theorem At.known {c s L} (h : At c s L) {b : Ba} (hm : b.mark = 0) (hr : rightE (atL L b) = 0) {x : Int} (hx : x ≠ -1) (hc : mapCheck (foldM L []) (atL L b) = (x, 0)) : prodP s b = (x, 0, s) := by
 have hd : dataF s.y b = 0 := by unfold dataF; rw [h.atE, hr]; simp [hm]
 have hmay : mayF s.c.cap s.y (Go.Abs.atE s.y b) = (x, true, 0) := by
  rw [h.atE, h.may]
  unfold mayF
  rw [hc]
  rw [if_neg (by simp), if_pos hx]
 unfold prodP addP
 rw [hd, if_neg (by simp), hmay, if_neg (by simp)]
theorem At.refuse {c s L} (h : At c s L) {b : Ba} (hm : b.mark = 0) (hr : rightE (atL L b) = 0) {e : Int} (he : e ≠ 0) (hc : (mapCheck (foldM L []) (atL L b)).2 = e) : prodP s b = (-1, e, s) := by
 have hd : dataF s.y b = 0 := by unfold dataF; rw [h.atE, hr]; simp [hm]
 have hmay : mayF s.c.cap s.y (Go.Abs.atE s.y b) = (-1, false, e) := by
  rw [h.atE, h.may]
  unfold mayF
  rw [hc, if_pos he]
 unfold prodP addP
 rw [hd, if_neg (by simp), hmay, if_neg (by simp [he])]
theorem At.full {c s L} (h : At c s L) {b : Ba} (hm : b.mark = 0) (hr : rightE (atL L b) = 0) (hc : mapCheck (foldM L []) (atL L b) = (-1, 0)) (hs : ¬ (sizeL L + sizeE (atL L b) ≤ c.cap)) : prodP s b = (-1, 17, s) := by
 have hd : dataF s.y b = 0 := by unfold dataF; rw [h.atE, hr]; simp [hm]
 have hmay : mayF s.c.cap s.y (Go.Abs.atE s.y b) = (-1, false, 17) := by
  rw [h.atE, h.may]
  unfold mayF
  rw [hc]
  rw [if_neg (by simp), if_neg (by simp), if_pos (by simp only; omega)]
 unfold prodP addP
 rw [hd, if_neg (by simp), hmay, if_neg (by simp)]
def mrkB (L : List Ba) (p e m : Int) : Ba := ⟨endE 0 L, p, e, -1, true, m, []⟩
theorem At.mrk {c s L} (h : At c s L) (p e m : Int) : markB' s.y p e m = mrkB L p e m := by unfold markB' mrkB; rw [h.st, h.L]
theorem At.marked {c s L} (h : At c s L) {p e m : Int} (hp : I64 p) (he' : I64 e) (hm : I64 m) (hm0 : m ≠ 0) (hr : rightE (mrkB L p e m) = 0) (hc : mapCheck (foldM L []) (mrkB L p e m) = (-1, 0)) (hs : sizeL L + sizeE (mrkB L p e m) ≤ c.cap) (he : endE 0 L < 100) (hn : L.length < 900) :
  (markP s p e m).1 = endE 0 L ∧ (markP s p e m).2.1 = 0 ∧ At c (markP s p e m).2.2 (L ++ [mrkB L p e m]) := by
 have hok := markP_ok h.pi hp he' hm (by rw [h.st, h.L]; exact he) (by rw [h.L]; exact hn)
 have hd : markF' s.y p e m = 0 := by unfold markF'; rw [h.mrk, hr]; simp [hm0]
 have hat : Go.Abs.atE s.y (mrkB L p e m) = mrkB L p e m := by rw [h.atE]; rfl
 have hmay : mayF s.c.cap s.y (Go.Abs.atE s.y (mrkB L p e m)) = (endE 0 L, false, 0) := by
  rw [hat, h.may]
  unfold mayF
  rw [hc]
  have hcnt : countE (mrkB L p e m) = 1 := by unfold countE mrkB; simp [hm0]
  rw [if_neg (by simp), if_neg (by simp), if_neg (by simp only; omega), if_neg (by rw [hcnt]; unfold mrkB; simp only; omega)]
  rfl
 have hp' : markP s p e m = (endE 0 L, 0, takeS s (mrkB L p e m)) := by
  unfold markP addP
  rw [hd, if_neg (by simp), h.mrk, hmay, if_pos ⟨rfl, rfl⟩, hat]
 rw [hp'] at hok ⊢
 refine ⟨rfl, rfl, hok, ?_, ?_, ?_⟩
 ·show (putS s _).c = c
  rw [(putS_y s _).2.1, h.c]
 ·exact h.st
 ·show s.y.L ++ [_] = _
  rw [h.L]
theorem At.unmarked {c s L} (h : At c s L) {p e m : Int} (hm0 : m ≠ 0) (hr : rightE (mrkB L p e m) = 0) {x : Int} (hx : x ≠ 0) (hc : (mapCheck (foldM L []) (mrkB L p e m)).2 = x) : markP s p e m = (-1, x, s) := by
 have hd : markF' s.y p e m = 0 := by unfold markF'; rw [h.mrk, hr]; simp [hm0]
 have hat : Go.Abs.atE s.y (mrkB L p e m) = mrkB L p e m := by rw [h.atE]; rfl
 have hmay : mayF s.c.cap s.y (Go.Abs.atE s.y (mrkB L p e m)) = (-1, false, x) := by
  rw [hat, h.may]
  unfold mayF
  rw [hc, if_pos hx]
 unfold markP addP
 rw [hd, if_neg (by simp), h.mrk, hmay, if_neg (by simp [hx])]
def prL (L : List Ba) (id : Int) : Option Pr := getM id (foldM L [])
theorem foldM_snoc : ∀ (A : List Ba) (M : List Pr) (b : Ba), foldM (A ++ [b]) M = stepM (foldM A M) b
 | [], M, b => rfl
 | x :: A, M, b => foldM_snoc A _ b
theorem prL_nil (id : Int) : prL [] id = none := rfl
theorem prL_snoc (L : List Ba) (b : Ba) (id : Int) (hr : rightE b = 0) (h0 : 0 ≤ b.prod) : prL (L ++ [b]) id = if id = b.prod then some (applyP ((prL L b.prod).getD zeroPr) (prL L b.prod).isSome b) else prL L id := by
 unfold prL
 rw [foldM_snoc]
 unfold stepM
 rw [if_neg (by rw [hr]; simp; omega), getM_set, applyP_id]
theorem prL_snoc' (L : List Ba) (b : Ba) (id : Int) (h0 : b.prod < 0) : prL (L ++ [b]) id = prL L id := by
 unfold prL
 rw [foldM_snoc]
 unfold stepM
 rw [if_pos (.inr h0)]
theorem mapCheck_pr (L : List Ba) (b : Ba) (hr : rightE b = 0) (h0 : 0 ≤ b.prod) : mapCheck (foldM L []) b = checkP ((prL L b.prod).getD zeroPr) (prL L b.prod).isSome b := by
 unfold mapCheck prL
 rw [hr, if_neg (by simp), if_neg (by omega)]
theorem mapCheck_pr' (L : List Ba) (b : Ba) (hr : rightE b = 0) (h0 : b.prod < 0) : mapCheck (foldM L []) b = (-1, 0) := by
 unfold mapCheck
 rw [hr, if_neg (by simp), if_pos h0]
theorem dataR_small (key : List UInt8) (n : Nat) (hk : key.length ≤ 64) : (dataR key n).any bigR = false := by
 unfold dataR
 rw [List.any_eq_false]
 intro x hx
 obtain ⟨i, _, rfl⟩ := List.mem_map.1 hx
 simp [bigR]; omega
theorem data_right (L : List Ba) (p e q : Int) (t : Bool) (n : Nat) (key : List UInt8) (hk : key.length ≤ 64) (hb0 : 0 ≤ endE 0 L) (hb : endE 0 L < 100) (hp : 0 ≤ p) (he : 0 ≤ e) (hq : seqR q = true) (hn : 1 ≤ n) (hn16 : n ≤ 16) (he2 : e ≤ 32767) : rightE (atL L (dataB p e q t n key)) = 0 := by
 unfold rightE
 have : (atL L (dataB p e q t n key)).base = endE 0 L := rfl
 rw [this, if_neg (by omega), if_pos (show (atL L (dataB p e q t n key)).mark = 0 from rfl)]
 have hnm : namedB (atL L (dataB p e q t n key)) = true := by unfold namedB atL dataB; simp; omega
 unfold dataE
 have hs : (atL L (dataB p e q t n key)).seq = q := rfl
 have hl : (atL L (dataB p e q t n key)).recs = dataR key n := rfl
 rw [hs, hnm, hq, hl, dataR_len, if_neg (by simp), if_neg (by omega), if_neg (by omega), dataR_small key n hk, if_neg (by decide)]
theorem sizeL_cap (k : Int) (h0 : 0 ≤ k) (h1 : k ≤ 11) (L : List Ba) (b : Ba) (hn : L.length ≤ 100) : sizeL L + sizeE b ≤ (confC k).cap := by
 have h2 := sizeL_range L
 have h3 := @sizeE_range b
 have : (confC k).cap = 1048576 := rfl
 omega
theorem hp_pt (H : Heap) (c : Cf) (s : PS) (k : Nat) : pt (hp H c s) k = pt H (8 + k) := by
 unfold hp pt
 rw [putAt_len]
 unfold base0 hx
 simp only [List.length_append, List.length_cons, List.length_nil]
 omega
theorem hp_get (H : Heap) (c : Cf) (s : PS) (k : Nat) (N : Heap) : (hx (hp H c s) N)[pt H (8 + k)]? = N[k]? := by rw [← hp_pt H c s, hx_get]
theorem and7_i64 (n : Int) : bits .and .i64 n 7 = n % 8 := by
 have h7 : (BitVec.ofInt 64 7).toNat = 2 ^ 3 - 1 := by decide
 have key : (BitVec.ofInt 64 n &&& BitVec.ofInt 64 7).toNat = (n % ((2 ^ 64 : Nat) : Int)).toNat % 2 ^ 3 := by
  rw [BitVec.toNat_and, BitVec.toNat_ofInt, h7, Nat.and_two_pow_sub_one_eq_mod]
 show IntKind.i64.wrap ((BitVec.ofInt 64 n &&& BitVec.ofInt 64 7).toNat : Nat) = n % 8
 rw [key, IntKind.wrap_i64]
 omega
theorem countE_data (L p e q t n key) : countE (atL L (dataB p e q t n key)) = (n : Nat) := by
 show (if (0 : Int) = 0 then ((dataR key n).length : Int) else 1) = _
 rw [if_pos rfl, dataR_len]
theorem endE_data (L p e q t n key) : endE 0 (L ++ [atL L (dataB p e q t n key)]) = endE 0 L + (n : Nat) := by
 rw [endE_snoc, countE_data]; rfl
theorem check_none {L : List Ba} {b : Ba} (hr : rightE b = 0) (h0 : 0 ≤ b.prod) (hm : b.mark = 0) (h : prL L b.prod = none) : mapCheck (foldM L []) b = (-1, 0) := by
 rw [mapCheck_pr L b hr h0, h]
 simp [checkP, hm]
theorem check_some {L : List Ba} {b : Ba} (hr : rightE b = 0) (h0 : 0 ≤ b.prod) {p : Pr} (h : prL L b.prod = some p) : mapCheck (foldM L []) b = checkP p true b := by
 rw [mapCheck_pr L b hr h0, h]; rfl
theorem once_loop (H : Heap) (k : Int) (hk0 : 0 ≤ k) (hk1 : k ≤ 11) (q : Int) (hq0 : 0 ≤ q) (hq1 : q ≤ 2147483647) (n : Nat) (hn1 : 1 ≤ n) (hn : n ≤ 16) (ti : Int) (d : Nat) : ∀ (i : Nat) (s : PS), (i : Int) + d = 1 + ti % 8 → (At (confC k) s [] ∧ i = 0 ∨ At (confC k) s [dataB 3 1 q false n [107]]) →
  ∃ s', loopA W loopW (.ghost (.kill k_top_TopOnce_0) l_top_TopOnce_0) [(2, .int .i64 ti), (10, .ptr (pt H 7) 0), (11, .ptr (pt H 8) 0), (12, .int .i64 (i : Nat))] (hx (hp H (confC k) s) [.cells [.int .i64 0, .int .i64 3, .int .i64 1, .int .i64 q, .bool false, .int .i64 0, .list 2 ((dataR [107] n).map rcV) .ro]]) =
   some (.exit 0, [], hx (hp H (confC k) s') [.cells [.int .i64 0, .int .i64 3, .int .i64 1, .int .i64 q, .bool false, .int .i64 0, .list 2 ((dataR [107] n).map rcV) .ro]]) := by
 induction d with
 | zero =>
  intro i s hi hs
  refine ⟨s, ?_⟩
  have a7 := and7_i64 ti
  have w1 : IntKind.i64.wrap (1 + ti % 8) = 1 + ti % 8 := wrap_id (by unfold I64; omega)
  have c : ¬ ((i : Int) < 1 + ti % 8) := by omega
  refine loop_step l_top_TopOnce_0.eq_1 k_top_TopOnce_0.eq_1 (by kernel_rfl) ?_
  simp only [go_sem, a7, w1, c, simprocAttr]
 | succ d ih =>
  intro i s hi hs
  have a7 := and7_i64 ti
  have w1 : IntKind.i64.wrap (1 + ti % 8) = 1 + ti % 8 := wrap_id (by unfold I64; omega)
  have c : ((i : Int) < 1 + ti % 8) := by omega
  have e6 : IntKind.i64.wrap ((i : Int) + 1) = ((i + 1 : Nat) : Int) := by rw [wrap_id (by unfold I64; omega)]; omega
  have hsq : seqR q = true := by simp [seqR]; omega
  have hb0 : dataB 3 1 q false n [107] = atL [] (dataB 3 1 q false n [107]) := rfl
  have hbk : BOK (dataB 3 1 q false n [107]) := dataB_ok _ _ _ _ _ _ (by unfold I64; omega) (by unfold I64; omega) (by unfold I64; omega)
  have hr0 := data_right [] 3 1 q false n [107] (by decide) (by decide) (by decide) (by decide) (by decide) hsq hn1 hn (by decide)
  have hend : endE 0 [dataB 3 1 q false n [107]] = (n : Nat) := by
   have := endE_data [] 3 1 q false n [107]
   rw [List.nil_append, ← hb0] at this
   rw [this]; show (0 : Int) + _ = _; omega
  have hr1 := data_right [dataB 3 1 q false n [107]] 3 1 q false n [107] (by decide) (by rw [hend]; omega) (by rw [hend]; omega) (by decide) (by decide) hsq hn1 hn (by decide)
  have key : (prodP s (dataB 3 1 q false n [107])).1 = 0 ∧ (prodP s (dataB 3 1 q false n [107])).2.1 = 0 ∧ At (confC k) (prodP s (dataB 3 1 q false n [107])).2.2 [dataB 3 1 q false n [107]] := by
   rcases hs with ⟨hs, _⟩ | hs
   ·have := hs.new hbk rfl hr0 (check_none hr0 (show (0 : Int) ≤ 3 by decide) rfl rfl) (sizeL_cap k hk0 hk1 _ _ (by decide)) (by decide) (by decide)
    rw [List.nil_append, ← hb0] at this
    exact this
   ·have hp1 : prL [dataB 3 1 q false n [107]] 3 = some (applyP zeroPr false (dataB 3 1 q false n [107])) := by
     have := prL_snoc [] (dataB 3 1 q false n [107]) 3 hr0 (show (0 : Int) ≤ 3 by decide)
     rw [List.nil_append] at this
     rw [this, if_pos (show (3 : Int) = (dataB 3 1 q false n [107]).prod from rfl)]; rfl
    have := hs.known (b := dataB 3 1 q false n [107]) rfl hr1 (x := 0) (by decide) (by
     rw [check_some hr1 (show (0 : Int) ≤ 3 by decide) hp1]
     simp [checkP, applyP, newL, lastsP, dupP, dupIn, dataB, atL, dataR_len])
    rw [this]
    exact ⟨rfl, rfl, hs⟩
  have hpi : PI s := by rcases hs with ⟨h, _⟩ | h <;> exact h.pi
  have h100 : endE s.y.start s.y.L < 100 := by
   rcases hs with ⟨h, _⟩ | h
   ·rw [h.st, h.L]; decide
   ·rw [h.st, h.L, hend]; omega
  have t1 := hp_prod H (confC k) hpi 3 1 q false n [107] (by unfold I64; omega) (by unfold I64; omega) (by unfold I64; omega) (by omega) h100
  obtain ⟨k1, k2, k3⟩ := key
  rw [k1, k2] at t1
  have t2 := hp_end H (confC k) k3.pi
  rw [k3.st, k3.L, hend] at t2
  obtain ⟨s', hih⟩ := ih (i + 1) _ (by omega) (.inr k3)
  refine ⟨s', ?_⟩
  have g := fun s N => hp_get H (confC k) s 0 N
  simp only [Nat.add_zero] at g
  have hlen : ((dataR [107] n).map rcV).length = n := by rw [List.length_map, dataR_len]
  clear ih hs k1 k2 k3 hr0 hr1 hbk hb0 hend hpi h100
  generalize (prodP s (dataB 3 1 q false n [107])).2.2 = s2 at *
  generalize (dataR [107] n).map rcV = R at *
  refine loop_step l_top_TopOnce_0.eq_1 k_top_TopOnce_0.eq_1 (by kernel_rfl) ?_
  simp only [go_sem, a7, w1, c, g, t1, t2, hlen, e6, simprocAttr]
  exact hih
theorem TopOnce_spec (q n ti wh : Int) (H : Heap) : W n_top_TopOnce [.int .i64 q, .int .i64 n, .int .i64 ti, .int .i64 wh] H = some (.bool true, H) := by
 have r := withinQ_range wh 0 11 (by omega)
 have t1 := hp_begun wh H
 have t2 := fun H => within_spec n 0 15 H (by decide) (by decide) (by decide)
 have r2 := withinQ_range n 0 15 (by omega)
 obtain ⟨m, hm⟩ : ∃ m : Nat, 1 + withinQ n 0 15 = m := ⟨(1 + withinQ n 0 15).toNat, by omega⟩
 have w1 : IntKind.i64.wrap (1 + withinQ n 0 15) = m := by rw [wrap_id (by unfold I64; omega)]; omega
 have a1 : bits .and .i64 q 2147483647 = q % 2147483648 := by rw [and_seq]
 have t3 := fun H => hp_data 3 1 (q % 2147483648) false m (by omega) [107] H
 obtain ⟨s', t4⟩ := once_loop H (withinQ wh 0 11) r.1 r.2 (q % 2147483648) (by omega) (by omega) m (by omega) (by omega) ti (1 + ti % 8).toNat 0 _ (by omega) (.inl ⟨At.zero (confC_ok _ r.1 r.2), rfl⟩)
 simp only [Int.natCast_zero] at t4
 have tr := fun s N => hp_trim H (confC (withinQ wh 0 11)) s (.bool true) rfl N
 have p8 := fun s => hp_pt H (confC (withinQ wh 0 11)) s 0
 simp only [Nat.add_zero] at p8
 have g := fun s N => hp_get H (confC (withinQ wh 0 11)) s 0 N
 simp only [Nat.add_zero] at g
 have st : ∀ s B B', (hx (hp H (confC (withinQ wh 0 11)) s) [B]).set (pt H 8) B' = hx (hp H (confC (withinQ wh 0 11)) s) [B'] := fun s B B' => by rw [← p8 s, hx_set]; rfl
 generalize confC (withinQ wh 0 11) = c at *
 generalize (dataR [107] m).map rcV = R at *
 refine W_fnS rfl rfl ?_
 simp only [go_sem, c_top_TopOnce, t1, t2, w1, a1, t3, p8, g, st, t4, awake_spec, tr, List.length_nil, simprocAttr]
 first | done | rfl | rw [hx_nil]
theorem mrk_right (L : List Ba) (p e m : Int) (hb0 : 0 ≤ endE 0 L) (hb : endE 0 L < 100) (hp : 0 ≤ p) (he : 0 ≤ e) (he2 : e ≤ 32767) (hm : m = 1 ∨ m = 2) : rightE (mrkB L p e m) = 0 := by
 have hm0 : m ≠ 0 := by omega
 have h1 : (mrkB L p e m).base = endE 0 L := rfl
 have h2 : (mrkB L p e m).mark = m := rfl
 unfold rightE
 rw [h1, h2, if_neg (by omega), if_neg hm0]
 have : markE (mrkB L p e m) = false := by
  unfold markE namedB mrkB
  rcases hm with rfl | rfl <;> simp <;> omega
 rw [this, if_neg (by decide)]
theorem endE_mrk (L : List Ba) (p e m : Int) (hm : m ≠ 0) : endE 0 (L ++ [mrkB L p e m]) = endE 0 L + 1 := by
 rw [endE_snoc]
 unfold countE mrkB
 simp [hm]
theorem applyP_epoch (p : Pr) (k : Bool) (b : Ba) : (applyP p k b).epoch = b.epoch := by unfold applyP; split <;> rfl
theorem check_epoch {p : Pr} {b : Ba} (h : b.epoch < p.epoch) : (checkP p true b).2 = 14 := by
 unfold checkP
 by_cases hm : b.mark ≠ 0
 ·rw [if_pos hm, if_neg (by decide), if_pos h]
 ·rw [if_neg hm, if_neg (by decide), if_pos h]
theorem check_mark {p : Pr} {b : Ba} (hm : b.mark ≠ 0) (he : b.epoch = p.epoch) (ho : 0 ≤ p.open_) : checkP p true b = (-1, 0) := by
 unfold checkP
 rw [if_pos hm, if_neg (by decide), if_neg (by omega), if_neg (by omega)]
abbrev bV (p e q : Int) (t : Bool) (n : Nat) (key : List UInt8) : AVal := .agg [.int .i64 0, .int .i64 p, .int .i64 e, .int .i64 q, .bool t, .int .i64 0, .list 2 ((dataR key n).map rcV) .ro]
abbrev prS (H : Heap) (c : Cf) (s s2 : PS) (v : AVal) (x w : Int) : Prop := ∀ N, W n_part_Part_Produce [.ptr (pt H 7) 0, v] (hx (hp H c s) N) = some (.tuple [.int .i64 x, .int .i64 w], hx (hp H c s2) N)
abbrev mkS (H : Heap) (c : Cf) (s s2 : PS) (p e m : Int) (x w : Int) : Prop := ∀ N, W n_part_Part_Mark [.ptr (pt H 7) 0, .int .i64 p, .int .i64 e, .int .i64 m] (hx (hp H c s) N) = some (.tuple [.int .i64 x, .int .i64 w], hx (hp H c s2) N)
structure Da (p e q : Int) (n : Nat) (key : List UInt8) : Prop where
 k : key.length ≤ 64
 p0 : 0 ≤ p
 p1 : p ≤ 1000
 e0 : 0 ≤ e
 e1 : e ≤ 32767
 q0 : 0 ≤ q
 q1 : q ≤ 2147483647
 n0 : 1 ≤ n
 n1 : n ≤ 16
theorem Da.seq {p e q n key} (h : Da p e q n key) : seqR q = true := by have := h.q0; have := h.q1; simp [seqR]; omega
section
variable {H : Heap} {c : Cf} {s : PS} {L : List Ba} {p e q : Int} {t : Bool} {n : Nat} {key : List UInt8}
theorem At.e0 (A : At c s L) : 0 ≤ endE 0 L := by have := A.pi.y.en; rw [A.st, A.L] at this; exact this.1
theorem Da.prod (D : Da p e q n key) (A : At c s L) (he : endE 0 L < 100) : rightE (atL L (dataB p e q t n key)) = 0 ∧ BOK (dataB p e q t n key) ∧ prS H c s (prodP s (dataB p e q t n key)).2.2 (bV p e q t n key) (prodP s (dataB p e q t n key)).1 (prodP s (dataB p e q t n key)).2.1 := by
 have := D.p0; have := D.p1; have := D.e0; have := D.e1; have := D.q0; have := D.q1
 have i1 : I64 p := by unfold I64; omega
 have i2 : I64 e := by unfold I64; omega
 have i3 : I64 q := by unfold I64; omega
 exact ⟨data_right L p e q t n key D.k A.e0 he D.p0 D.e0 D.seq D.n0 D.n1 D.e1, dataB_ok p e q t n key i1 i2 i3, hp_prod H c A.pi p e q t n key i1 i2 i3 (by have := D.n1; omega) (by rw [A.st, A.L]; exact he)⟩
theorem step_new (D : Da p e q n key) (A : At c s L) (hcap : sizeL L + sizeE (atL L (dataB p e q t n key)) ≤ c.cap) (he : endE 0 L < 100) (hl : L.length < 900)
  (hc : checkP ((prL L p).getD zeroPr) (prL L p).isSome (atL L (dataB p e q t n key)) = (-1, 0)) :
  ∃ s2, prS H c s s2 (bV p e q t n key) (endE 0 L) 0 ∧ At c s2 (L ++ [atL L (dataB p e q t n key)]) ∧ endE 0 (L ++ [atL L (dataB p e q t n key)]) = endE 0 L + (n : Nat) ∧
   ∀ id, prL (L ++ [atL L (dataB p e q t n key)]) id = if id = p then some (applyP ((prL L p).getD zeroPr) (prL L p).isSome (atL L (dataB p e q t n key))) else prL L id := by
 obtain ⟨R, B, S⟩ := D.prod (H := H) (t := t) A he
 obtain ⟨q1, q2, A2⟩ := A.new B rfl R ((mapCheck_pr L _ R D.p0).trans hc) hcap he hl
 rw [q1, q2] at S
 exact ⟨_, S, A2, endE_data L p e q t n key, fun id => prL_snoc L _ id R D.p0⟩
theorem step_no (D : Da p e q n key) (A : At c s L) (he : endE 0 L < 100) {w : Int} (hw : w ≠ 0)
  (hc : (checkP ((prL L p).getD zeroPr) (prL L p).isSome (atL L (dataB p e q t n key))).2 = w) : prS H c s s (bV p e q t n key) (-1) w := by
 obtain ⟨R, B, S⟩ := D.prod (H := H) (t := t) A he
 rw [A.refuse rfl R hw (by rw [mapCheck_pr L _ R D.p0]; exact hc)] at S
 exact S
theorem step_mark {m : Int} (hp0 : 0 ≤ p) (hp1 : p ≤ 1000) (he0 : 0 ≤ e) (he1 : e ≤ 32767) (hm : m = 1 ∨ m = 2) (A : At c s L) (hcap : sizeL L + sizeE (mrkB L p e m) ≤ c.cap) (he : endE 0 L < 100) (hl : L.length < 900)
  (hc : checkP ((prL L p).getD zeroPr) (prL L p).isSome (mrkB L p e m) = (-1, 0)) :
  ∃ s2, mkS H c s s2 p e m (endE 0 L) 0 ∧ At c s2 (L ++ [mrkB L p e m]) ∧ endE 0 (L ++ [mrkB L p e m]) = endE 0 L + 1 ∧
   ∀ id, prL (L ++ [mrkB L p e m]) id = if id = p then some (applyP ((prL L p).getD zeroPr) (prL L p).isSome (mrkB L p e m)) else prL L id := by
 have R := mrk_right L p e m A.e0 he hp0 he0 he1 hm
 have i1 : I64 p := by unfold I64; omega
 have i2 : I64 e := by unfold I64; omega
 have i3 : I64 m := by unfold I64; omega
 have S := hp_mark H c A.pi p e m i1 i2 i3 (by rw [A.st, A.L]; exact he)
 obtain ⟨q1, q2, A2⟩ := A.marked i1 i2 i3 (by omega) R ((mapCheck_pr L _ R hp0).trans hc) hcap he hl
 rw [q1, q2] at S
 exact ⟨_, S, A2, endE_mrk L p e m (by omega), fun id => prL_snoc L _ id R hp0⟩
theorem step_unmark {m : Int} (hp0 : 0 ≤ p) (hp1 : p ≤ 1000) (he0 : 0 ≤ e) (he1 : e ≤ 32767) (hm : m = 1 ∨ m = 2) (A : At c s L) (he : endE 0 L < 100) {w : Int} (hw : w ≠ 0)
  (hc : (checkP ((prL L p).getD zeroPr) (prL L p).isSome (mrkB L p e m)).2 = w) : mkS H c s s p e m (-1) w := by
 have R := mrk_right L p e m A.e0 he hp0 he0 he1 hm
 have i1 : I64 p := by unfold I64; omega
 have i2 : I64 e := by unfold I64; omega
 have i3 : I64 m := by unfold I64; omega
 have S := hp_mark H c A.pi p e m i1 i2 i3 (by rw [A.st, A.L]; exact he)
 rw [A.unmarked (by omega) R hw (by rw [mapCheck_pr L _ R hp0]; exact hc)] at S
 exact S
theorem step_end (A : At c s L) (N : Heap) : W n_part_Part_End [.ptr (pt H 7) 0] (hx (hp H c s) N) = some (.int .i64 (endE 0 L), hx (hp H c s) N) := by
 have := hp_end H c A.pi N
 rw [A.st, A.L] at this
 exact this
end
theorem check_open {b : Ba} {id : Int} (hm : b.mark = 0) : checkP ((none : Option Pr).getD zeroPr) (none : Option Pr).isSome b = (-1, 0) := by
 unfold checkP
 rw [if_neg (by simp [hm]), if_pos (show (none : Option Pr).isSome = false from rfl)]
theorem TopFenced_spec (a b wh : Int) (H : Heap) : W n_top_TopFenced [.int .i64 a, .int .i64 b, .int .i64 wh] H = some (.bool true, H) := by
 have r := withinQ_range wh 0 11 (by omega)
 have t0 := hp_begun wh H
 have ta := fun H => within_spec a 0 1000 H (by decide) (by decide) (by decide)
 have tb := fun H => within_spec b 0 1000 H (by decide) (by decide) (by decide)
 have ra := withinQ_range a 0 1000 (by omega)
 have rb := withinQ_range b 0 1000 (by omega)
 generalize withinQ a 0 1000 = x at *
 generalize withinQ b 0 1000 = u at *
 have w1 : IntKind.i64.wrap (x + 1) = x + 1 := wrap_id (by unfold I64; omega)
 obtain ⟨y, hy⟩ : ∃ y, x + 1 + u = y := ⟨_, rfl⟩
 have w2 : IntKind.i64.wrap (x + 1 + u) = y := by rw [wrap_id (by unfold I64; omega), hy]
 generalize withinQ wh 0 11 = k at *
 have hcap := fun L b => sizeL_cap k r.1 r.2 L b
 have A0 := At.zero (confC_ok k r.1 r.2)
 generalize confC k = c at *
 have d1 := fun H => hp_data 1 x 5 false 1 (by decide) [107] H
 have d2 := fun H => hp_data 1 y 0 true 1 (by decide) [107] H
 have d3 := fun H => hp_data 1 x 6 false 1 (by decide) [107] H
 simp only [Int.natCast_one] at d1 d2 d3
 have D1 : Da 1 x 5 1 [107] := ⟨by decide, by decide, by decide, by omega, by omega, by decide, by decide, by decide, by decide⟩
 have D2 : Da 1 y 0 1 [107] := ⟨by decide, by decide, by decide, by omega, by omega, by decide, by decide, by decide, by decide⟩
 have D3 : Da 1 x 6 1 [107] := ⟨by decide, by decide, by decide, by omega, by omega, by decide, by decide, by decide, by decide⟩
 obtain ⟨s1, p1, A1, E1, P1⟩ := step_new (H := H) (t := false) D1 A0 (hcap _ _ (by decide)) (by decide) (by decide) (check_open (id := 0) rfl)
 have E0 : endE 0 [] = 0 := rfl
 rw [E0] at p1
 rw [E0] at E1
 have P1 := P1 1
 rw [if_pos rfl, prL_nil] at P1
 have o1 : (applyP ((none : Option Pr).getD zeroPr) (none : Option Pr).isSome (atL [] (dataB 1 x 5 false 1 [107]))).open_ = -1 := rfl
 have l1 : ([] ++ [atL [] (dataB 1 x 5 false 1 [107])]).length = 1 := rfl
 have ep1 := applyP_epoch ((none : Option Pr).getD zeroPr) (none : Option Pr).isSome (atL [] (dataB 1 x 5 false 1 [107]))
 have eb1 : (atL [] (dataB 1 x 5 false 1 [107])).epoch = x := rfl
 rw [eb1] at ep1
 generalize applyP ((none : Option Pr).getD zeroPr) (none : Option Pr).isSome (atL [] (dataB 1 x 5 false 1 [107])) = r1 at *
 generalize [] ++ [atL [] (dataB 1 x 5 false 1 [107])] = L1 at *
 -- the later epoch
 obtain ⟨s2, p2, A2, E2, P2⟩ := step_new (H := H) (t := true) D2 A1 (hcap _ _ (by omega)) (by omega) (by omega) (by
  rw [P1]
  unfold checkP
  have h1 : (atL L1 (dataB 1 y 0 true 1 [107])).mark = 0 := rfl
  have h2 : (atL L1 (dataB 1 y 0 true 1 [107])).epoch = y := rfl
  have h3 : (atL L1 (dataB 1 y 0 true 1 [107])).seq = 0 := rfl
  rw [h1, h2, h3]
  simp only [Option.getD_some, Option.isSome_some, ep1, o1]
  rw [if_neg (by simp), if_neg (by decide), if_neg (by omega), if_pos (by omega), if_neg (by decide), if_neg (by decide)])
 rw [E1] at p2
 rw [E1] at E2
 have P2 := P2 1
 rw [if_pos rfl, P1] at P2
 have o2 : (applyP ((some r1).getD zeroPr) (some r1).isSome (atL L1 (dataB 1 y 0 true 1 [107]))).open_ = 1 := by
  rw [applyP_open, if_neg (show ¬ (atL L1 (dataB 1 y 0 true 1 [107])).mark ≠ 0 from fun h => h rfl), if_pos ⟨rfl, by show r1.open_ < 0; rw [o1]; decide⟩]
  exact E1
 have l2 : (L1 ++ [atL L1 (dataB 1 y 0 true 1 [107])]).length = 2 := by rw [List.length_append, l1]; rfl
 have ep2 := applyP_epoch ((some r1).getD zeroPr) (some r1).isSome (atL L1 (dataB 1 y 0 true 1 [107]))
 have eb2 : (atL L1 (dataB 1 y 0 true 1 [107])).epoch = y := rfl
 rw [eb2] at ep2
 generalize applyP ((some r1).getD zeroPr) (some r1).isSome (atL L1 (dataB 1 y 0 true 1 [107])) = r2 at *
 generalize L1 ++ [atL L1 (dataB 1 y 0 true 1 [107])] = L2 at *
 have p3 := step_no (H := H) (t := false) (w := 14) D3 A2 (by omega) (by decide) (by rw [P2]; exact check_epoch (by show x < r2.epoch; omega))
 have p5 := step_no (H := H) (t := false) (w := 14) D1 A2 (by omega) (by decide) (by rw [P2]; exact check_epoch (by show x < r2.epoch; omega))
 have m1 := step_unmark (H := H) (p := 1) (e := x) (m := 1) (w := 14) (by decide) (by decide) (by omega) (by omega) (.inl rfl) A2 (by omega) (by decide) (by rw [P2]; exact check_epoch (by show x < r2.epoch; omega))
 obtain ⟨s3, m2, A3, E3, P3⟩ := step_mark (H := H) (p := 1) (e := y) (m := 1) (by decide) (by decide) (by omega) (by omega) (.inl rfl) A2 (hcap _ _ (by omega)) (by omega) (by omega) (by rw [P2]; exact check_mark (by show (1 : Int) ≠ 0; decide) (by show y = r2.epoch; omega) (by show 0 ≤ r2.open_; omega))
 rw [E2] at m2
 rw [E2] at E3
 have te := fun N => step_end (H := H) A3 N
 rw [E3] at te
 have tr := fun s N => hp_trim H c s (.bool true) rfl N
 clear A0 A1 A2 A3 P1 P2 P3 D1 D2 D3 hcap E0 E1 E2 E3 o1 o2 l1 l2 ep1 ep2 eb1 eb2 r ra rb hy
 dsimp only [prS, mkS, bV] at *
 generalize (dataR [107] 1).map rcV = R at *
 refine W_fnS rfl rfl ?_
 simp only [go_sem, c_top_TopFenced, t0, ta, tb, w1, w2, d1, d2, d3, p1, p2, p3, p5, m1, m2, te, awake_spec, tr, simprocAttr]
 first | done | rfl | rw [hx_nil]
section
variable {H : Heap} {c : Cf} {s : PS} {L : List Ba}
theorem step_stable (A : At c s L) (N : Heap) : W n_part_Part_Stable [.ptr (pt H 7) 0] (hx (hp H c s) N) = some (.int .i64 (stableE 0 L), hx (hp H c s) N) := by
 have := hp_stable H c A.pi N
 rw [A.st, A.L] at this
 exact this
theorem step_drain (A : At c s L) (lo n : Int) (only : Bool) (m : Int) (hm : m ≤ 400) (N : Heap) :
  W n_reader_Drain [.iface 23 (.ptr (pt H 7) 0), .int .i64 lo, .int .i64 n, .bool only, .int .i64 m] (hx (hp H c s) N) =
   some (.tuple [.list 4 ((drN 0 lo n L only m).1.map gV) .full, .int .i64 (drN 0 lo n L only m).2], hx (hp H c s) N) := by
 have := hp_drain H c A.pi lo n only m hm N
 rw [A.st, A.L] at this
 exact this
end
theorem ands {p : Nat → Nat → Bool} (n m : Nat) (h : ((List.range n).all fun a => (List.range m).all fun b => p a b) = true) {a b : Nat} (ha : a < n) (hb : b < m) : p a b = true :=
 List.all_eq_true.1 (List.all_eq_true.1 h a (List.mem_range.2 ha)) b (List.mem_range.2 hb)
def S2 (a b : Nat) : List Ba := [⟨0, 1, 0, 0, true, 0, dataR [120] a⟩, ⟨(a : Nat), 2, 0, 0, true, 0, dataR [121] b⟩]
def S3 (a b : Nat) : List Ba := S2 a b ++ [⟨(a : Nat) + (b : Nat), 1, 0, -1, true, 1, []⟩]
def S4 (a b : Nat) : List Ba := S3 a b ++ [⟨(a : Nat) + (b : Nat) + 1, 2, 0, -1, true, 2, []⟩]
def sOK (a b : Nat) : Bool := decide (stableE 0 (S2 a b) = 0) && (decide (stableE 0 (S3 a b) = (a : Nat)) && (decide ((drN 0 0 20 (S3 a b) true 9).1.length = a) && (decide ((drN 0 0 20 (S4 a b) true 9).1.length = a) && decide (stableE 0 (S4 a b) = (a : Nat) + (b : Nat) + 2))))
theorem sOK_all : ((List.range 9).all fun a => (List.range 9).all fun b => (a == 0 || b == 0 || sOK a b)) = true := by decide +kernel
theorem sOK_at (a b : Nat) (h1 : 1 ≤ a) (h2 : a ≤ 8) (h3 : 1 ≤ b) (h4 : b ≤ 8) : stableE 0 (S2 a b) = 0 ∧ stableE 0 (S3 a b) = (a : Nat) ∧ (drN 0 0 20 (S3 a b) true 9).1.length = a ∧ (drN 0 0 20 (S4 a b) true 9).1.length = a ∧ stableE 0 (S4 a b) = (a : Nat) + (b : Nat) + 2 := by
 have h := ands 9 9 sOK_all (show a < 9 by omega) (show b < 9 by omega)
 have e1 : (a == 0) = false := by simp; omega
 have e2 : (b == 0) = false := by simp; omega
 rw [e1, e2] at h
 simpa [sOK] using h
theorem TopStable_spec (n m wh : Int) (H : Heap) : W n_top_TopStable [.int .i64 n, .int .i64 m, .int .i64 wh] H = some (.bool true, H) := by
 have r := withinQ_range wh 0 11 (by omega)
 have t0 := hp_begun wh H
 have ta := fun H => within_spec n 0 7 H (by decide) (by decide) (by decide)
 have tb := fun H => within_spec m 0 7 H (by decide) (by decide) (by decide)
 have ra := withinQ_range n 0 7 (by omega)
 have rb := withinQ_range m 0 7 (by omega)
 generalize withinQ n 0 7 = x at *
 generalize withinQ m 0 7 = u at *
 obtain ⟨a, ha⟩ : ∃ a : Nat, 1 + x = a := ⟨(1 + x).toNat, by omega⟩
 obtain ⟨b, hb⟩ : ∃ b : Nat, 1 + u = b := ⟨(1 + u).toNat, by omega⟩
 have w1 : IntKind.i64.wrap (1 + x) = a := by rw [wrap_id (by unfold I64; omega), ha]
 have w2 : IntKind.i64.wrap (1 + u) = b := by rw [wrap_id (by unfold I64; omega), hb]
 have w3 : IntKind.i64.wrap ((a : Int) + (b : Int)) = (a : Int) + (b : Int) := wrap_id (by unfold I64; omega)
 have w4 : IntKind.i64.wrap ((a : Int) + (b : Int) + 2) = (a : Int) + (b : Int) + 2 := wrap_id (by unfold I64; omega)
 obtain ⟨z1, z2, z3, z4, z5⟩ := sOK_at a b (by omega) (by omega) (by omega) (by omega)
 generalize withinQ wh 0 11 = k at *
 have hcap := fun L b => sizeL_cap k r.1 r.2 L b
 have A0 := At.zero (confC_ok k r.1 r.2)
 generalize confC k = c at *
 have d1 := fun H => hp_data 1 0 0 true a (by omega) [120] H
 have d2 := fun H => hp_data 2 0 0 true b (by omega) [121] H
 have D1 : Da 1 0 0 a [120] := ⟨by decide, by decide, by decide, by decide, by decide, by decide, by decide, by omega, by omega⟩
 have D2 : Da 2 0 0 b [121] := ⟨by decide, by decide, by decide, by decide, by decide, by decide, by decide, by omega, by omega⟩
 have E0 : endE 0 [] = 0 := rfl
 obtain ⟨s1, p1, A1, E1, P1⟩ := step_new (H := H) (t := true) D1 A0 (hcap _ _ (by decide)) (by decide) (by decide) (check_open (id := 0) rfl)
 rw [E0, Int.zero_add] at E1
 rw [E0] at p1
 have b1 : atL [] (dataB 1 0 0 true a [120]) = ⟨0, 1, 0, 0, true, 0, dataR [120] a⟩ := rfl
 rw [b1, List.nil_append] at A1 E1 P1
 have q1 := P1 1
 have q2 := P1 2
 rw [if_pos rfl, prL_nil] at q1
 rw [if_neg (by decide), prL_nil] at q2
 obtain ⟨s2, p2, A2, E2, P2⟩ := step_new (H := H) (t := true) D2 A1 (hcap _ _ (by simp)) (by omega) (by simp) (by rw [q2]; exact check_open (id := 0) rfl)
 have b2 : atL [⟨0, 1, 0, 0, true, 0, dataR [120] a⟩] (dataB 2 0 0 true b [121]) = ⟨(a : Nat), 2, 0, 0, true, 0, dataR [121] b⟩ := by unfold atL dataB; rw [E1]
 rw [E1] at p2 E2
 rw [b2, show [(⟨0, 1, 0, 0, true, 0, dataR [120] a⟩ : Ba)] ++ [⟨(a : Nat), 2, 0, 0, true, 0, dataR [121] b⟩] = S2 a b from rfl] at A2 E2 P2
 have q3 := P2 1
 have q4 := P2 2
 rw [if_neg (by decide), q1] at q3
 rw [if_pos rfl, q2] at q4
 obtain ⟨s3, m1, A3, E3, P3⟩ := step_mark (H := H) (p := 1) (e := 0) (m := 1) (by decide) (by decide) (by decide) (by decide) (.inl rfl) A2 (hcap _ _ (by simp [S2])) (by omega) (by simp [S2]) (by rw [q3]; exact check_mark (by show (1 : Int) ≠ 0; decide) rfl (by show (0 : Int) ≤ (applyP _ _ _).open_; rw [applyP_open, if_neg (fun h => h rfl), if_pos ⟨rfl, by decide⟩]; exact Int.le_refl 0))
 have b3 : mrkB (S2 a b) 1 0 1 = ⟨(a : Nat) + (b : Nat), 1, 0, -1, true, 1, []⟩ := by unfold mrkB; rw [E2]
 rw [E2] at m1 E3
 rw [b3, show S2 a b ++ [_] = S3 a b from rfl] at A3 E3 P3
 have q5 := P3 2
 rw [if_neg (by decide), q4] at q5
 obtain ⟨s4, m2, A4, E4, P4⟩ := step_mark (H := H) (p := 2) (e := 0) (m := 2) (by decide) (by decide) (by decide) (by decide) (.inr rfl) A3 (hcap _ _ (by simp [S2, S3])) (by omega) (by simp [S2, S3]) (by rw [q5]; exact check_mark (by show (2 : Int) ≠ 0; decide) rfl (by show (0 : Int) ≤ (applyP _ _ _).open_; rw [applyP_open, if_neg (fun h => h rfl), if_pos ⟨rfl, by decide⟩]; show (0 : Int) ≤ (a : Nat); omega))
 have b4 : mrkB (S3 a b) 2 0 2 = ⟨(a : Nat) + (b : Nat) + 1, 2, 0, -1, true, 2, []⟩ := by unfold mrkB; rw [E3]
 rw [E3] at m2 E4
 rw [b4, show S3 a b ++ [_] = S4 a b from rfl] at A4 E4 P4
 have v1 := fun N => step_stable (H := H) A2 N
 have v2 := fun N => step_stable (H := H) A3 N
 have v3 := fun N => step_stable (H := H) A4 N
 rw [z1] at v1; rw [z2] at v2; rw [z5] at v3
 have y1 := fun N => step_drain (H := H) A3 0 20 true 9 (by decide) N
 have y2 := fun N => step_drain (H := H) A4 0 20 true 9 (by decide) N
 have u1 := fun k => under_g k (drN 0 0 20 (S3 a b) true 9).1
 have u2 := fun k => under_g k (drN 0 0 20 (S4 a b) true 9).1
 have l1 : ((drN 0 0 20 (S3 a b) true 9).1.map gV).length = a := by rw [List.length_map, z3]
 have l2 : ((drN 0 0 20 (S4 a b) true 9).1.map gV).length = a := by rw [List.length_map, z4]
 have tr := fun s N => hp_trim H c s (.bool true) rfl N
 clear A0 A1 A2 A3 A4 P1 P2 P3 P4 D1 D2 hcap E0 E1 E2 E3 E4 b1 b2 b3 b4 q1 q2 q3 q4 q5 r ra rb z1 z2 z3 z4 z5
 dsimp only [prS, mkS, bV] at *
 generalize (drN 0 0 20 (S3 a b) true 9).1.map gV = G3 at *
 generalize (drN 0 0 20 (S4 a b) true 9).1.map gV = G4 at *
 generalize (drN 0 0 20 (S3 a b) true 9).2 = g3 at *
 generalize (drN 0 0 20 (S4 a b) true 9).2 = g4 at *
 generalize (dataR [120] a).map rcV = R1 at *
 generalize (dataR [121] b).map rcV = R2 at *
 refine W_fnS rfl rfl ?_
 simp only [go_sem, c_top_TopStable, t0, ta, tb, w1, w2, w3, w4, d1, d2, p1, p2, m1, m2, v1, v2, v3, y1, y2, l1, l2, u1, u2, awake_spec, tr, simprocAttr]
 first | done | rfl | rw [hx_nil]
theorem plain_right (L : List Ba) (n : Nat) (key : List UInt8) (hk : key.length ≤ 64) (hb0 : 0 ≤ endE 0 L) (hb : endE 0 L < 100) (hn : 1 ≤ n) (hn16 : n ≤ 16) : rightE (atL L (dataB (-1) (-1) (-1) false n key)) = 0 := by
 unfold rightE
 have : (atL L (dataB (-1) (-1) (-1) false n key)).base = endE 0 L := rfl
 rw [this, if_neg (by omega), if_pos (show (atL L (dataB (-1) (-1) (-1) false n key)).mark = 0 from rfl)]
 unfold dataE
 have hs : noneB (atL L (dataB (-1) (-1) (-1) false n key)) = true := rfl
 have hl : (atL L (dataB (-1) (-1) (-1) false n key)).recs = dataR key n := rfl
 rw [hs, hl, dataR_len, if_neg (by simp), if_neg (by omega), if_neg (by omega), dataR_small key n hk, if_neg (by decide)]
section
variable {H : Heap} {c : Cf} {s : PS} {L : List Ba} {n : Nat} {key : List UInt8}
theorem step_plain (hk : key.length ≤ 64) (hn : 1 ≤ n) (hn16 : n ≤ 16) (A : At c s L) (hcap : sizeL L + sizeE (atL L (dataB (-1) (-1) (-1) false n key)) ≤ c.cap) (he : endE 0 L < 100) (hl : L.length < 900) :
  ∃ s2, prS H c s s2 (bV (-1) (-1) (-1) false n key) (endE 0 L) 0 ∧ At c s2 (L ++ [atL L (dataB (-1) (-1) (-1) false n key)]) ∧ endE 0 (L ++ [atL L (dataB (-1) (-1) (-1) false n key)]) = endE 0 L + (n : Nat) ∧
   ∀ id, prL (L ++ [atL L (dataB (-1) (-1) (-1) false n key)]) id = prL L id := by
 have im : I64 (-1) := by unfold I64; omega
 have R := plain_right L n key hk A.e0 he hn hn16
 have S := hp_prod H c A.pi (-1) (-1) (-1) false n key im im im (by omega) (by rw [A.st, A.L]; exact he)
 obtain ⟨q1, q2, A2⟩ := A.new (dataB_ok (-1) (-1) (-1) false n key im im im) rfl R (mapCheck_pr' L _ R (show (-1 : Int) < 0 by decide)) hcap he hl
 rw [q1, q2] at S
 exact ⟨_, S, A2, endE_data L _ _ _ _ n key, fun id => prL_snoc' L _ id (show (-1 : Int) < 0 by decide)⟩
end
def C3 (k : Nat) : List Ba := [⟨0, -1, -1, -1, false, 0, dataR [97] 1⟩, ⟨1, 1, 0, 0, true, 0, dataR [116] k⟩, ⟨1 + (k : Nat), -1, -1, -1, false, 0, dataR [98] 1⟩]
def C4 (k : Nat) (m : Int) : List Ba := C3 k ++ [⟨1 + (k : Nat) + 1, 1, 0, -1, true, m, []⟩]
def wantC (k : Nat) (c : Bool) : Nat := if c then k + 2 else 2
def keyAt (l : List Gt) (i : Nat) (b : UInt8) : Bool := match l[i]? with | some g => decide (g.2.2.1 = [b]) | none => false
def cOK (k : Nat) (c : Bool) : Bool :=
 let m : Int := if c then 1 else 2
 decide ((drN 0 0 3 (C3 k) true 20).1.length = 1) && (decide ((drN 0 0 3 (C3 k) true 20).2 = 1) && (decide (stableE 0 (C3 k) = 1) && (decide ((drN 0 0 3 (C4 k m) true 20).1.length = wantC k c) && (decide ((drN 0 0 3 (C4 k m) true 20).2 = (k : Nat) + 3) &&
  (decide ((drN 0 0 3 (C4 k m) false 20).1.length = k + 2) && (decide (stableE 0 (C4 k m) = (k : Nat) + 3) && (keyAt (drN 0 0 3 (C4 k m) true 20).1 0 97 && keyAt (drN 0 0 3 (C4 k m) true 20).1 (wantC k c - 1) 98)))))))
theorem cOK_all : ((List.range 9).all fun k => (k == 0 || (cOK k true && cOK k false))) = true := by decide +kernel
theorem keyAt_get {l : List Gt} {i : Nat} {b : UInt8} (h : keyAt l i b = true) : ∃ g : Gt, l[i]? = some g ∧ g.2.2.1 = [b] := by
 unfold keyAt at h
 split at h
 ·rename_i g hg; exact ⟨g, hg, by simpa using h⟩
 ·cases h
theorem TopCommits_spec (n : Int) (cm : Bool) (wh : Int) (H : Heap) : W n_top_TopCommits [.int .i64 n, .bool cm, .int .i64 wh] H = some (.bool true, H) := by
 have r := withinQ_range wh 0 11 (by omega)
 have t0 := hp_begun wh H
 have ta := fun H => within_spec n 0 7 H (by decide) (by decide) (by decide)
 have ra := withinQ_range n 0 7 (by omega)
 generalize withinQ n 0 7 = x at *
 obtain ⟨k, hk⟩ : ∃ k : Nat, 1 + x = k := ⟨(1 + x).toNat, by omega⟩
 have w1 : IntKind.i64.wrap (1 + x) = k := by rw [wrap_id (by unfold I64; omega), hk]
 have w2 : IntKind.i64.wrap ((k : Int) + 2) = (k : Int) + 2 := wrap_id (by unfold I64; omega)
 have w3 : IntKind.i64.wrap ((k : Int) + 3) = (k : Int) + 3 := wrap_id (by unfold I64; omega)
 have hc := List.all_eq_true.1 cOK_all k (List.mem_range.2 (by omega))
 have e1 : (k == 0) = false := by simp; omega
 rw [e1, Bool.false_or, Bool.and_eq_true] at hc
 have hck : cOK k cm = true := by cases cm; exact hc.2; exact hc.1
 clear hc
 generalize withinQ wh 0 11 = kk at *
 have hcap := fun L b => sizeL_cap kk r.1 r.2 L b
 have A0 := At.zero (confC_ok kk r.1 r.2)
 generalize confC kk = c at *
 have d1 := fun H => hp_plain 1 (by decide) [97] H
 have d3 := fun H => hp_plain 1 (by decide) [98] H
 simp only [Int.natCast_one] at d1 d3
 have d2 := fun H => hp_data 1 0 0 true k (by omega) [116] H
 have D2 : Da 1 0 0 k [116] := ⟨by decide, by decide, by decide, by decide, by decide, by decide, by decide, by omega, by omega⟩
 have E0 : endE 0 [] = 0 := rfl
 obtain ⟨s1, p1, A1, E1, P1⟩ := step_plain (H := H) (n := 1) (key := [97]) (by decide) (by decide) (by decide) A0 (hcap _ _ (by decide)) (by decide) (by decide)
 rw [E0, Int.natCast_one, Int.zero_add] at E1
 rw [E0] at p1
 have b1 : atL [] (dataB (-1) (-1) (-1) false 1 [97]) = ⟨0, -1, -1, -1, false, 0, dataR [97] 1⟩ := rfl
 rw [b1, List.nil_append] at A1 E1 P1
 have q1 := P1 1
 rw [prL_nil] at q1
 obtain ⟨s2, p2, A2, E2, P2⟩ := step_new (H := H) (t := true) D2 A1 (hcap _ _ (by simp)) (by omega) (by simp) (by rw [q1]; exact check_open (id := 0) rfl)
 have b2 : atL [⟨0, -1, -1, -1, false, 0, dataR [97] 1⟩] (dataB 1 0 0 true k [116]) = ⟨1, 1, 0, 0, true, 0, dataR [116] k⟩ := by unfold atL dataB; rw [E1]
 rw [E1] at p2 E2
 rw [b2] at A2 E2 P2
 have q2 := P2 1
 rw [if_pos rfl, q1] at q2
 obtain ⟨s3, p3, A3, E3, P3⟩ := step_plain (H := H) (n := 1) (key := [98]) (by decide) (by decide) (by decide) A2 (hcap _ _ (by simp)) (by omega) (by simp)
 have b3 : atL ([(⟨0, -1, -1, -1, false, 0, dataR [97] 1⟩ : Ba)] ++ [⟨1, 1, 0, 0, true, 0, dataR [116] k⟩]) (dataB (-1) (-1) (-1) false 1 [98]) = ⟨1 + (k : Nat), -1, -1, -1, false, 0, dataR [98] 1⟩ := by unfold atL dataB; rw [E2]
 rw [E2] at p3 E3
 rw [b3, show [(⟨0, -1, -1, -1, false, 0, dataR [97] 1⟩ : Ba)] ++ [⟨1, 1, 0, 0, true, 0, dataR [116] k⟩] ++ [⟨1 + (k : Nat), -1, -1, -1, false, 0, dataR [98] 1⟩] = C3 k from rfl] at A3 E3 P3
 rw [Int.natCast_one] at E3
 have q3 := P3 1
 rw [q2] at q3
 obtain ⟨m, hm, hm2⟩ : ∃ m : Int, (if cm = true then (1 : Int) else 2) = m ∧ (m = 1 ∨ m = 2) := ⟨_, rfl, by split <;> simp⟩
 unfold cOK at hck
 rw [hm] at hck
 simp only [Bool.and_eq_true, decide_eq_true_eq] at hck
 obtain ⟨z1, z2, z3, z4, z5, z6, z7, z8, z9⟩ := hck
 obtain ⟨s4, m1, A4, E4, P4⟩ := step_mark (H := H) (p := 1) (e := 0) (m := m) (by decide) (by decide) (by decide) (by decide) hm2 A3 (hcap _ _ (by simp [C3])) (by omega) (by simp [C3]) (by rw [q3]; exact check_mark (by show m ≠ 0; omega) rfl (by show (0 : Int) ≤ (applyP _ _ _).open_; rw [applyP_open, if_neg (fun h => h rfl), if_pos ⟨rfl, by decide⟩]; show (0 : Int) ≤ 1; decide))
 have b4 : mrkB (C3 k) 1 0 m = ⟨1 + (k : Nat) + 1, 1, 0, -1, true, m, []⟩ := by unfold mrkB; rw [E3]
 rw [E3] at m1 E4
 rw [b4, show C3 k ++ [_] = C4 k m from rfl] at A4 E4 P4
 have e3 : 1 + (k : Int) + 1 = (k : Int) + 2 := by omega
 have e4 : 1 + (k : Int) + 1 + 1 = (k : Int) + 3 := by omega
 rw [e3] at m1
 rw [e4] at E4
 have v1 := fun N => step_stable (H := H) A3 N
 have v2 := fun N => step_stable (H := H) A4 N
 have v3 := fun N => step_end (H := H) A4 N
 rw [z3] at v1; rw [z7] at v2; rw [E4] at v3
 have y1 := fun N => step_drain (H := H) A3 0 3 true 20 (by decide) N
 have y2 := fun N => step_drain (H := H) A4 0 3 true 20 (by decide) N
 have y3 := fun N => step_drain (H := H) A4 0 3 false 20 (by decide) N
 rw [z2] at y1; rw [z5] at y2
 have u1 := fun k' => under_g k' (drN 0 0 3 (C3 k) true 20).1
 have u2 := fun k' => under_g k' (drN 0 0 3 (C4 k m) true 20).1
 have u3 := fun k' => under_g k' (drN 0 0 3 (C4 k m) false 20).1
 have l1 : ((drN 0 0 3 (C3 k) true 20).1.map gV).length = 1 := by rw [List.length_map, z1]
 have l2 : ((drN 0 0 3 (C4 k m) true 20).1.map gV).length = wantC k cm := by rw [List.length_map, z4]
 have l3 : ((drN 0 0 3 (C4 k m) false 20).1.map gV).length = k + 2 := by rw [List.length_map, z6]
 obtain ⟨g0, x0, x1⟩ := keyAt_get z8
 obtain ⟨g1, x2, x3⟩ := keyAt_get z9
 have f0 : ((drN 0 0 3 (C4 k m) true 20).1.map gV)[0]? = some (.agg [.int .i64 g0.1, .int .i64 g0.2.1, .str [97], .str g0.2.2.2]) := by rw [List.getElem?_map, x0, ← x1]; rfl
 have f1 : ((drN 0 0 3 (C4 k m) true 20).1.map gV)[wantC k cm - 1]? = some (.agg [.int .i64 g1.1, .int .i64 g1.2.1, .str [98], .str g1.2.2.2]) := by rw [List.getElem?_map, x2, ← x3]; rfl
 have tr := fun s N => hp_trim H c s (.bool true) rfl N
 have n3 : ((k + 2 : Nat) : Int) = (k : Int) + 2 := by omega
 clear A0 A1 A2 A3 A4 P1 P2 P3 P4 D2 hcap E0 E1 E2 E3 E4 b1 b2 b3 b4 q1 q2 q3 r z1 z2 z3 z4 z5 z6 z7 z8 z9 x0 x1 x2 x3
 dsimp only [prS, mkS, bV] at *
 generalize (drN 0 0 3 (C3 k) true 20).1.map gV = G1 at *
 generalize (drN 0 0 3 (C4 k m) true 20).1.map gV = G2 at *
 generalize (drN 0 0 3 (C4 k m) false 20).1.map gV = G3 at *
 generalize (drN 0 0 3 (C4 k m) false 20).2 = g3 at *
 generalize (dataR [97] 1).map rcV = R1 at *
 generalize (dataR [98] 1).map rcV = R2 at *
 generalize (dataR [116] k).map rcV = R3 at *
 refine W_fnS rfl rfl ?_
 cases cm with
 | true =>
  rw [if_pos rfl] at hm
  subst hm
  have wc : wantC k true = k + 2 := rfl
  rw [wc] at l2 f1
  have w4 : IntKind.i64.wrap ((k : Int) + 2 - 1) = (k : Int) + 1 := by rw [wrap_id (by unfold I64; omega)]; omega
  have i0 : (0 : Int) ≤ (k : Int) + 1 := by omega
  have i1 : ((k : Int) + 1).toNat = k + 2 - 1 := by omega
  simp only [go_sem, c_top_TopCommits, t0, ta, w1, w2, w3, w4, d1, d2, d3, p1, p2, p3, m1, v1, v2, v3, y1, y2, y3, l1, l2, l3, n3, f0, f1, i0, i1, u1, u2, u3, awake_spec, tr, reduceCtorEq, ↓reduceIte, Nat.reduceAdd, Nat.reduceEqDiff, Nat.reduceLT, Int.reduceLE, Nat.reduceSub, Nat.reduceLeDiff, Nat.reduceMul, Int.reduceToNat, Int.reduceLT, Int.reduceEq, Int.reduceNeg, Nat.reduceBEq, Nat.reduceBNe]
  first | done | rfl | rw [hx_nil]
 | false =>
  rw [if_neg (by decide)] at hm
  subst hm
  have wc : wantC k false = 2 := rfl
  rw [wc] at l2 f1
  have w5 : IntKind.i64.wrap (2 - 1) = 1 := by decide +kernel
  have i5 : (1 : Int).toNat = 1 := rfl
  have i6 : (0 : Int) ≤ 1 := by decide
  rw [show (2 : Nat) - 1 = 1 from rfl] at f1
  simp only [go_sem, c_top_TopCommits, t0, ta, w1, w2, w3, w5, i5, i6, d1, d2, d3, p1, p2, p3, m1, v1, v2, v3, y1, y2, y3, l1, l2, l3, n3, f0, f1, u1, u2, u3, awake_spec, tr, reduceCtorEq, ↓reduceIte, Nat.reduceAdd, Nat.reduceEqDiff, Nat.reduceLT, Int.reduceLE, Nat.reduceSub, Nat.reduceLeDiff, Nat.reduceMul, Int.reduceToNat, Int.reduceLT, Int.reduceEq, Int.reduceNeg, Nat.reduceBEq, Nat.reduceBNe]
  first | done | rfl | rw [hx_nil]
structure OrdI (p : Pr) (q m : Int) : Prop where
 e : p.epoch = 0
 o : p.open_ < 0
 a : ∀ x ∈ p.last, ∃ d : Int, 1 ≤ d ∧ d ≤ m ∧ x.1 = (q - d) % 2147483648
 l : ∃ y, p.last.getLast? = some y ∧ y.2.1 = (q - 1) % 2147483648
theorem dupIn_none (n c : Int) : ∀ (l : List La), (∀ x ∈ l, x.1 ≠ n) → dupIn n c l = none
 | [], _ => rfl
 | x :: l, h => by
  unfold dupIn
  rw [if_neg (fun e => h x (by simp) e.1)]
  exact dupIn_none n c l (fun y hy => h y (by simp [hy]))
theorem ord_none {p : Pr} {q m : Int} (h : OrdI p q m) (hm : m ≤ 100) (hq0 : 0 ≤ q) (hq1 : q ≤ 2147483647) {b : Ba} (k : Int) (hk0 : 0 ≤ k) (hk1 : k ≤ 1) (hs : b.seq = (q + k) % 2147483648) (he : b.epoch = 0) (hm0 : b.mark = 0) : dupP p b = none := by
 unfold dupP
 rw [if_pos ⟨by rw [he, h.e], hm0⟩]
 apply dupIn_none
 intro x hx
 obtain ⟨d, h1, h2, h3⟩ := h.a x hx
 rw [h3, hs]; omega
theorem ord_gap {p : Pr} {q m : Int} (h : OrdI p q m) (hm : m ≤ 100) (hq0 : 0 ≤ q) (hq1 : q ≤ 2147483647) {b : Ba} (hs : b.seq = (q + 1) % 2147483648) (he : b.epoch = 0) (hm0 : b.mark = 0) : (checkP p true b).2 = 15 := by
 have hd := ord_none h hm hq0 hq1 1 (by decide) (by decide) hs he hm0
 obtain ⟨y, hy, hy2⟩ := h.l
 unfold checkP
 rw [if_neg (by simp [hm0]), if_neg (by decide), if_neg (by rw [he, h.e]; decide), if_neg (by rw [he, h.e]; decide), hd]
 simp only [hy]
 have hf : followsS y.2.1 b.seq = false := by
  unfold followsS
  rw [if_neg (by omega)]
  have : seqR y.2.1 = true := by simp [seqR]; omega
  rw [this, Bool.true_and]
  unfold addS
  rw [this, if_pos rfl, hs]
  simp; omega
 rw [if_pos hf]
theorem ord_new {p : Pr} {q m : Int} (h : OrdI p q m) (hm : m ≤ 100) (hq0 : 0 ≤ q) (hq1 : q ≤ 2147483647) {b : Ba} (hs : b.seq = q) (he : b.epoch = 0) (hm0 : b.mark = 0) : checkP p true b = (-1, 0) := by
 have hd := ord_none h hm hq0 hq1 0 (by decide) (by decide) (by rw [hs]; omega) he hm0
 obtain ⟨y, hy, hy2⟩ := h.l
 unfold checkP
 rw [if_neg (by simp [hm0]), if_neg (by decide), if_neg (by rw [he, h.e]; decide), if_neg (by rw [he, h.e]; decide), hd]
 simp only [hy]
 have hf : followsS y.2.1 b.seq = true := by
  unfold followsS
  rw [if_neg (by omega)]
  have : seqR y.2.1 = true := by simp [seqR]; omega
  rw [this, Bool.true_and]
  unfold addS
  rw [this, if_pos rfl, hs]
  simp; omega
 rw [if_neg (by rw [hf]; decide), if_neg (by have := h.o; omega)]
theorem drop_last {l : List La} {x : La} {k : Nat} (hk : k ≤ l.length) : ((l ++ [x]).drop k).getLast? = some x := by
 rw [List.drop_append_of_le_length hk, List.getLast?_concat]
theorem ord_apply {l : List La} {p : Pr} {known : Bool} {b : Ba} {q m : Int} {n : Nat} (hl : lastsP p known b = l) (ha : ∀ x ∈ l, ∃ d : Int, 1 ≤ d ∧ d ≤ m ∧ x.1 = (q - d) % 2147483648) (ho : openP p known < 0) (hq0 : 0 ≤ q) (hq1 : q ≤ 2147483647) (hn : 1 ≤ n) (hn16 : n ≤ 16) (hm0 : 0 ≤ m)
  (hs : b.seq = q) (he : b.epoch = 0) (hmk : b.mark = 0) (ht : b.txn = false) (hr : b.recs.length = n) : OrdI (applyP p known b) ((q + (n : Int)) % 2147483648) (m + (n : Int)) := by
 have hsq : seqR q = true := by simp [seqR]; omega
 have hlast : lastS q (n : Int) = (q + n - 1) % 2147483648 := by
  unfold lastS addS
  rw [if_neg (by omega), if_pos hsq]
  congr 1; omega
 have hnl : newL p known b = l ++ [(q, (q + n - 1) % 2147483648, b.base)] := by
  unfold newL; rw [hl, hs, hr, hlast]
 have hap : applyP p known b = ⟨b.prod, b.epoch, (newL p known b).drop ((newL p known b).length - 5), openP p known⟩ := by
  unfold applyP
  rw [if_neg (by simp [hmk]), if_neg (by rw [ht]; simp)]
 rw [hap, hnl]
 refine ⟨he, ho, fun x hx => ?_, _, drop_last (by simp), by simp only; omega⟩
 have hx := List.mem_of_mem_drop hx
 rcases List.mem_append.1 hx with hx | hx
 ·obtain ⟨d, h1, h2, h3⟩ := ha x hx
  exact ⟨d + n, by omega, by omega, by rw [h3]; omega⟩
 ·simp only [List.mem_singleton] at hx
  subst hx
  exact ⟨n, by omega, by omega, by simp only; omega⟩
def OrdL (L : List Ba) (q : Int) : Prop := (L = [] ∧ prL L 1 = none) ∨ (L ≠ [] ∧ ∃ p, prL L 1 = some p ∧ OrdI p q (endE 0 L))
theorem check_ord {L : List Ba} {q : Int} (h : OrdL L q) (he100 : endE 0 L ≤ 100) (hq0 : 0 ≤ q) (hq1 : q ≤ 2147483647) {b : Ba} (hs : b.seq = q) (he : b.epoch = 0) (hm0 : b.mark = 0) : checkP ((prL L 1).getD zeroPr) (prL L 1).isSome b = (-1, 0) := by
 rcases h with ⟨_, h⟩ | ⟨_, p, h, hp⟩
 ·rw [h]; exact check_open (id := 0) hm0
 ·rw [h]; exact ord_new hp he100 hq0 hq1 hs he hm0
theorem next_ord {L L2 : List Ba} {q : Int} {b : Ba} {n : Nat} (h : OrdL L q) (he0 : 0 ≤ endE 0 L) (hq0 : 0 ≤ q) (hq1 : q ≤ 2147483647) (hn : 1 ≤ n) (hn16 : n ≤ 16) (hs : b.seq = q) (he : b.epoch = 0) (hmk : b.mark = 0) (ht : b.txn = false) (hr : b.recs.length = n)
  (hne : L2 ≠ []) (hE : endE 0 L2 = endE 0 L + (n : Int)) (hP : prL L2 1 = some (applyP ((prL L 1).getD zeroPr) (prL L 1).isSome b)) : OrdL L2 ((q + (n : Int)) % 2147483648) := by
 refine .inr ⟨hne, _, hP, ?_⟩
 rw [hE]
 rcases h with ⟨_, h⟩ | ⟨_, p, h, hp⟩
 ·rw [h]
  exact ord_apply (l := []) rfl (by simp) (by decide) hq0 hq1 hn hn16 he0 hs he hmk ht hr
 ·rw [h]
  exact ord_apply (l := p.last) (by unfold lastsP; rw [if_pos ⟨rfl, by show p.epoch = b.epoch; rw [he, hp.e]⟩]; rfl) hp.a hp.o hq0 hq1 hn hn16 he0 hs he hmk ht hr
set_option maxHeartbeats 1000000 in
theorem order_loop (H : Heap) (c : Cf) (hcap : ∀ (L : List Ba) (b : Ba), L.length ≤ 100 → sizeL L + sizeE b ≤ c.cap) (l : List Int) (hl : l.length ≤ 140737488355328) (d : Nat) : ∀ (i : Nat) (s : PS) (L : List Ba) (q : Int), i + d = min l.length 12 → At c s L → L.length = i → endE 0 L ≤ 8 * i → OrdL L q → 0 ≤ q → q ≤ 2147483647 →
  ∃ s' L', loopA W loopW (.ghost (.kill k_top_TopOrder_0) l_top_TopOrder_0) [(1, .list 1 (ints .i64 l) .ro), (8, .ptr (pt H 7) 0), (9, .int .i64 q), (10, .int .i64 (endE 0 L)), (11, .int .i64 (i : Nat))] (hx (hp H c s) []) =
   some (.exit 0, [(8, .ptr (pt H 7) 0), (10, .int .i64 (endE 0 L'))], hx (hp H c s') []) ∧ At c s' L' := by
 induction d with
 | zero =>
  intro i s L q hi A hL hE hO hq0 hq1
  refine ⟨s, L, ?_, A⟩
  generalize endE 0 L = e at *
  have hlen : (ints .i64 l).length = l.length := by simp
  by_cases h1 : (i : Int) < (l.length : Int)
  ·have h2 : ¬ ((i : Int) < 12) := by omega
   refine loop_step l_top_TopOrder_0.eq_1 k_top_TopOrder_0.eq_1 (by kernel_rfl) ?_
   simp only [go_sem, hlen, h1, h2, simprocAttr]
  ·refine loop_step l_top_TopOrder_0.eq_1 k_top_TopOrder_0.eq_1 (by kernel_rfl) ?_
   simp only [go_sem, hlen, h1, simprocAttr]
 | succ d ih =>
  intro i s L q hi A hL hE hO hq0 hq1
  have hlen : (ints .i64 l).length = l.length := by simp
  have h1 : (i : Int) < (l.length : Int) := by omega
  have h2 : (i : Int) < 12 := by omega
  have e0 : (0 : Int) ≤ (i : Int) := by omega
  have e7 : ((i : Nat) : Int).toNat = i := by omega
  have hx1 : (ints .i64 l)[i]? = some (.int .i64 (l.getD i 0)) := by
   have hi : i < l.length := by omega
   simp [hi]
  have e6 : IntKind.i64.wrap ((i : Int) + 1) = ((i + 1 : Nat) : Int) := by rw [wrap_id (by unfold I64; omega)]; omega
  generalize l.getD i 0 = x at *
  have ta := fun H => within_spec x 0 7 H (by decide) (by decide) (by decide)
  have ra := withinQ_range x 0 7 (by omega)
  generalize withinQ x 0 7 = y at *
  obtain ⟨n, hn⟩ : ∃ n : Nat, 1 + y = n := ⟨(1 + y).toNat, by omega⟩
  have w1 : IntKind.i64.wrap (1 + y) = n := by rw [wrap_id (by unfold I64; omega), hn]
  have hE0 := A.e0
  have D : Da 1 0 q n [107] := ⟨by decide, by decide, by decide, by decide, by decide, hq0, hq1, by omega, by omega⟩
  obtain ⟨s2, p2, A2, E2, P2⟩ := step_new (H := H) (t := false) D A (hcap _ _ (by omega)) (by omega) (by omega) (check_ord hO (by omega) hq0 hq1 rfl rfl rfl)
  have P2 := P2 1
  rw [if_pos rfl] at P2
  have hO2 := next_ord (n := n) hO hE0 hq0 hq1 (by omega) (by omega) rfl rfl rfl rfl (dataR_len [107] n) (by simp) E2 P2
  have hL2 : (L ++ [atL L (dataB 1 0 q false n [107])]).length = i + 1 := by rw [List.length_append, hL]; rfl
  obtain ⟨s', L', hih, A'⟩ := ih (i + 1) s2 _ ((q + (n : Int)) % 2147483648) (by omega) A2 hL2 (by rw [E2]; omega) hO2 (by omega) (by omega)
  refine ⟨s', L', ?_, A'⟩
  have d1 := fun H => hp_data 1 0 q false n (by omega) [107] H
  have a1 : bits .and .i64 (IntKind.i64.wrap (q + (n : Int))) 2147483647 = (q + (n : Int)) % 2147483648 := by rw [and_seq, IntKind.wrap_i64]; omega
  have w5 : IntKind.i64.wrap (endE 0 L + (n : Int)) = endE 0 L + (n : Int) := wrap_id (by unfold I64; omega)
  rw [E2] at hih
  by_cases h0 : i = 0
  ·subst h0
   clear ih hO hO2 P2 A A2 A' D E2 hL hL2 hE
   dsimp only [prS, bV] at *
   generalize endE 0 L = e at *
   generalize (dataR [107] n).map rcV = R at *
   refine loop_step l_top_TopOrder_0.eq_1 k_top_TopOrder_0.eq_1 (by kernel_rfl) ?_
   simp only [Int.natCast_zero] at *
   simp only [go_sem, hlen, h1, h2, e0, e7, hx1, ta, w1, d1, p2, a1, w5, e6, simprocAttr]
   exact hih
  ·have h3 : (i : Int) > 0 := by omega
   obtain ⟨p, hp1, hp2⟩ : ∃ p, prL L 1 = some p ∧ OrdI p q (endE 0 L) := by
    rcases hO with ⟨hnil, _⟩ | ⟨_, h⟩
    ·rw [hnil] at hL; simp at hL; omega
    ·exact h
   have D3 : Da 1 0 ((q + 1) % 2147483648) n [103, 97, 112] := ⟨by decide, by decide, by decide, by decide, by decide, by omega, by omega, by omega, by omega⟩
   have p3 := step_no (H := H) (t := false) (w := 15) D3 A (by omega) (by decide) (by rw [hp1]; exact ord_gap hp2 (by omega) hq0 hq1 rfl rfl rfl)
   have d3 := fun H => hp_data 1 0 ((q + 1) % 2147483648) false n (by omega) [103, 97, 112] H
   have a3 : bits .and .i64 (IntKind.i64.wrap (q + 1)) 2147483647 = (q + 1) % 2147483648 := by rw [and_seq, IntKind.wrap_i64]; omega
   clear ih hO hO2 P2 A A2 A' D D3 E2 hL hL2 hE hp1 hp2
   dsimp only [prS, bV] at *
   generalize endE 0 L = e at *
   generalize (dataR [107] n).map rcV = R at *
   generalize (dataR [103, 97, 112] n).map rcV = R3 at *
   refine loop_step l_top_TopOrder_0.eq_1 k_top_TopOrder_0.eq_1 (by kernel_rfl) ?_
   simp only [go_sem, hlen, h1, h2, h3, e0, e7, hx1, ta, w1, d1, d3, p2, p3, a1, a3, w5, e6, simprocAttr]
   exact hih
theorem TopOrder_spec (f : Int) (l : List Int) (wh : Int) (hf : I64 f) (hl0 : ∀ x ∈ l, I64 x) (hl : l.length * 8 ≤ 140737488351232) (hw : I64 wh) : W n_top_TopOrder [.int .i64 f, .list 1 (ints .i64 l) .ro, .int .i64 wh] [] = some (.bool true, []) := by
 have key : ∀ H, W n_top_TopOrder [.int .i64 f, .list 1 (ints .i64 l) .ro, .int .i64 wh] H = some (.bool true, H) := by
  intro H
  have r := withinQ_range wh 0 11 (by omega)
  have t0 := hp_begun wh H
  generalize withinQ wh 0 11 = k at *
  have hcap := fun L b => sizeL_cap k r.1 r.2 L b
  have A0 := At.zero (confC_ok k r.1 r.2)
  generalize confC k = c at *
  obtain ⟨s', L', t1, A'⟩ := order_loop H c hcap l (by omega) (min l.length 12) 0 (ps0 c) [] (f % 2147483648) (by omega) A0 rfl (by decide) (.inl ⟨rfl, rfl⟩) (by omega) (by omega)
  have E0 : endE 0 [] = 0 := rfl
  rw [E0] at t1
  simp only [Int.natCast_zero] at t1
  have te := fun N => step_end (H := H) A' N
  have a1 : bits .and .i64 f 2147483647 = f % 2147483648 := by rw [and_seq]
  have tr := fun s N => hp_trim H c s (.bool true) rfl N
  clear A0 A' hcap hl0
  generalize endE 0 L' = e at *
  generalize ints .i64 l = V at *
  refine W_fnS rfl rfl ?_
  simp only [go_sem, c_top_TopOrder, t0, a1, t1, te, awake_spec, tr, simprocAttr]
  first | done | rfl | rw [hx_nil]
 exact key []
end Go.Abs
