import Derived.Test.YtdgcjfgfbaeheaaBS5
import Derived.Test.YtdgcjfgfbaeheaaBS2
set_option linter.unusedVariables false
set_option linter.unusedSimpArgs false
namespace Go.Abs
open Go Go.RowKit
def rdGo : Nat → RSt → List La → Option (RSt × List La)
 | 0, s, D => some (s, D)
 | k + 1, s, D =>
  let a := numQ s
  let b := numQ a.2
  let c := numQ b.2
  if c.2.2 = true ∨ abOK D (a.1, b.1, c.1) = false then none else rdGo k c.2 (D ++ [(a.1, b.1, c.1)])
def lastN (D : List La) : Int := match D.getLast? with | some q => q.2.2 | none => 0
def InvD (D : List La) : Prop := (D.length : Int) ≤ lastN D ∧ lastN D ≤ 1099511627776
theorem InvD.nil : InvD [] := ⟨by decide, by decide⟩
theorem InvD.len {D} (h : InvD D) : D.length ≤ 1099511627776 := by have := h.1; have := h.2; omega
theorem InvD.snoc {D : List La} {d : La} (h : InvD D) (hk : abOK D d = true) : InvD (D ++ [d]) := by
 unfold abOK at hk
 simp only [Bool.and_eq_true, decide_eq_true_eq] at hk
 obtain ⟨h1, h2, h3, h4, h5⟩ := hk
 have h6 := h.1
 have e : lastN (D ++ [d]) = d.2.2 := by unfold lastN; simp
 have hl : ((D ++ [d]).length : Int) = D.length + 1 := by simp
 have h7 : lastN D < d.2.2 := by
  unfold lastN
  cases hg : D.getLast? with
  | none => simp only; omega
  | some q => rw [hg] at h5; simp only [decide_eq_true_eq] at h5 ⊢; omega
 exact ⟨by rw [e, hl]; omega, by rw [e]; omega⟩
set_option maxHeartbeats 1000000 in
theorem rd_loop (ok : Bool) (n : Nat) (hn : n ≤ 140737488355328) (H : Heap) (k : Nat) : ∀ (j : Nat) (s : RSt) (D : List La) (fl : Fl) (N : Heap), j + k = n → Bts s.1 → RF D fl → InvD D →
  (rdGo k s D = none ∧ ∃ N', loopA W loopW (.ghost (.kill k_aborts_Read_0) l_aborts_Read_0) [(5, .bool ok), (6, .ptr (pt H 0) 0), (7, .ptr (pt H 1) 0), (20, .int .i64 (n : Nat)), (21, .int .i64 (j : Nat))] (hx H (rdB s :: rwB D fl :: N)) = some (.ret, [(2, .nilp), (3, .int .i64 12)], hx H N')) ∨
  (∃ s' D' fl' N', rdGo k s D = some (s', D') ∧ RF D' fl' ∧ Bts s'.1 ∧ InvD D' ∧ loopA W loopW (.ghost (.kill k_aborts_Read_0) l_aborts_Read_0) [(5, .bool ok), (6, .ptr (pt H 0) 0), (7, .ptr (pt H 1) 0), (20, .int .i64 (n : Nat)), (21, .int .i64 (j : Nat))] (hx H (rdB s :: rwB D fl :: N)) =
   some (.exit 0, [(5, .bool ok), (6, .ptr (pt H 0) 0), (7, .ptr (pt H 1) 0)], hx H (rdB s' :: rwB D' fl' :: N'))) := by
 induction k with
 | zero =>
  intro j s D fl N hj hs hfl hD
  refine .inr ⟨s, D, fl, N, rfl, hfl, hs, hD, ?_⟩
  have h1 : ¬ ((j : Int) < (n : Int)) := by omega
  refine loop_step l_aborts_Read_0.eq_1 k_aborts_Read_0.eq_1 (by kernel_rfl) ?_
  simp only [go_sem, h1, simprocAttr]
 | succ k ih =>
  intro j s D fl N hj hs hfl hD
  have h1 : ((j : Int) < (n : Int)) := by omega
  have e6 : IntKind.i64.wrap ((j : Int) + 1) = ((j + 1 : Nat) : Int) := by rw [wrap_id (by unfold I64; omega)]; omega
  have hs1 := numQ_bts hs
  have hs2 := numQ_bts hs1
  have hs3 := numQ_bts hs2
  have t1 := fun M => num_spec s hs (pt H 0) (hx H (rdB s :: M)) ⟨by rw [hx_get]; rfl⟩
  have t2 := fun M => num_spec (numQ s).2 hs1 (pt H 0) (hx H (rdB (numQ s).2 :: M)) ⟨by rw [hx_get]; rfl⟩
  have t3 := fun M => num_spec (numQ (numQ s).2).2 hs2 (pt H 0) (hx H (rdB (numQ (numQ s).2).2 :: M)) ⟨by rw [hx_get]; rfl⟩
  have t4 := fun M => bad_spec7 (numQ (numQ (numQ s).2).2).2 (pt H 0) (hx H (rdB (numQ (numQ (numQ s).2).2).2 :: M)) ⟨by rw [hx_get]; rfl⟩
  simp only [hx_set, List.set_cons_zero] at t1 t2 t3
  have hgo : rdGo (k + 1) s D = if (numQ (numQ (numQ s).2).2).2.2 = true ∨ abOK D ((numQ s).1, (numQ (numQ s).2).1, (numQ (numQ (numQ s).2).2).1) = false then none else rdGo k (numQ (numQ (numQ s).2).2).2 (D ++ [((numQ s).1, (numQ (numQ s).2).1, (numQ (numQ (numQ s).2).2).1)]) := rfl
  rw [hgo]
  generalize hq1 : numQ s = q1 at *
  obtain ⟨x1, s1⟩ := q1
  simp only at *
  generalize hq2 : numQ s1 = q2 at *
  obtain ⟨x2, s2⟩ := q2
  simp only at *
  generalize hq3 : numQ s2 = q3 at *
  obtain ⟨x3, s3⟩ := q3
  simp only at *
  have n1 : ∀ x : Box, (N ++ [x])[N.length]? = some x := fun x => by simp
  have n2 : ∀ x z : Box, (N ++ [x]).set N.length z = N ++ [z] := fun x z => by simp
  cases hb : s3.2 with
  | true =>
   rw [hb] at t4
   rw [if_pos (.inl rfl)]
   refine .inl ⟨rfl, ?_⟩
   refine ⟨rdB s3 :: rwB D fl :: (N ++ [.cells [.int .i64 x1, .int .i64 x2, .int .i64 x3]]), ?_⟩
   generalize rdB s = B0 at *
   generalize rdB s1 = B1 at *
   generalize rdB s2 = B2 at *
   generalize rdB s3 = B3 at *
   generalize rwB D fl = B4 at *
   refine loop_step l_aborts_Read_0.eq_1 k_aborts_Read_0.eq_1 (by kernel_rfl) ?_
   simp only [go_sem, h1, t1, t2, t3, t4, n1, n2, simprocAttr]
  | false =>
   rw [hb] at t4
   have ta := fun M C => abadd_spec D hD.len fl hfl (x1, x2, x3) (pt H 1) (hx H (C :: rwB D fl :: M)) ⟨by rw [hx_get]; rfl⟩
   simp only [hx_set, List.set_cons_succ, List.set_cons_zero, laV] at ta
   cases hk : abOK D (x1, x2, x3) with
   | false =>
    rw [hk] at ta
    rw [if_pos (.inr rfl)]
    refine .inl ⟨rfl, ?_⟩
    refine ⟨rdB s3 :: rwB (abL D (x1, x2, x3)) (abF (x1, x2, x3) fl) :: (N ++ [.cells [.int .i64 x1, .int .i64 x2, .int .i64 x3]]), ?_⟩
    generalize rdB s = B0 at *
    generalize rdB s1 = B1 at *
    generalize rdB s2 = B2 at *
    generalize rdB s3 = B3 at *
    generalize rwB D fl = B4 at *
    generalize rwB (abL D (x1, x2, x3)) (abF (x1, x2, x3) fl) = B5 at *
    refine loop_step l_aborts_Read_0.eq_1 k_aborts_Read_0.eq_1 (by kernel_rfl) ?_
    simp only [go_sem, h1, t1, t2, t3, t4, ta, n1, n2, simprocAttr]
   | true =>
    rw [hk] at ta
    rw [if_neg (by simp)]
    have hL : abL D (x1, x2, x3) = D ++ [(x1, x2, x3)] := by unfold abL; rw [if_pos hk]
    have hF := @abF_ok D (x1, x2, x3) fl hfl
    rw [hL] at ta hF
    have ih' := ih (j + 1) s3 (D ++ [(x1, x2, x3)]) (abF (x1, x2, x3) fl) (N ++ [.cells [.int .i64 x1, .int .i64 x2, .int .i64 x3]]) (by omega) hs3 hF (hD.snoc hk)
    have run : ∀ R, loopA W loopW (.ghost (.kill k_aborts_Read_0) l_aborts_Read_0) [(5, .bool ok), (6, .ptr (pt H 0) 0), (7, .ptr (pt H 1) 0), (20, .int .i64 (n : Nat)), (21, .int .i64 (j + 1 : Nat))] (hx H (rdB s3 :: rwB (D ++ [(x1, x2, x3)]) (abF (x1, x2, x3) fl) :: (N ++ [.cells [.int .i64 x1, .int .i64 x2, .int .i64 x3]]))) = some R →
      loopA W loopW (.ghost (.kill k_aborts_Read_0) l_aborts_Read_0) [(5, .bool ok), (6, .ptr (pt H 0) 0), (7, .ptr (pt H 1) 0), (20, .int .i64 (n : Nat)), (21, .int .i64 (j : Nat))] (hx H (rdB s :: rwB D fl :: N)) = some R := by
     intro R h2
     generalize rdB s = B0 at *
     generalize rdB s1 = B1 at *
     generalize rdB s2 = B2 at *
     generalize rdB s3 = B3 at *
     generalize rwB D fl = B4 at *
     generalize rwB (D ++ [(x1, x2, x3)]) (abF (x1, x2, x3) fl) = B5 at *
     refine loop_step l_aborts_Read_0.eq_1 k_aborts_Read_0.eq_1 (by kernel_rfl) ?_
     simp only [go_sem, h1, t1, t2, t3, t4, ta, n1, n2, e6, simprocAttr]
     exact h2
    rcases ih' with ⟨g1, N', g2⟩ | ⟨s', D', fl', N', g1, g2, g3, g4, g5⟩
    ·exact .inl ⟨g1, N', run _ g2⟩
    ·exact .inr ⟨s', D', fl', N', g1, g2, g3, g4, run _ g5⟩
def readQ (p : List Int) : Option (List La) :=
 match rdGo (countQ (p.length : Nat) ((if chkOK p then p.drop 4 else []), false)).1.toNat (countQ (p.length : Nat) ((if chkOK p then p.drop 4 else []), false)).2 [] with
 | none => none
 | some (s, D) => if chkOK p = true ∧ s.2 = false ∧ s.1.length = 0 then some D else none
theorem countQ_range (m : Nat) (s : RSt) : 0 ≤ (countQ (m : Nat) s).1 ∧ (countQ (m : Nat) s).1 ≤ m := by
 unfold countQ
 split
 ·simp only; omega
 ·omega
theorem countQ_bts {m : Int} {s : RSt} (h : Bts s.1) : Bts (countQ m s).2.1 := by
 unfold countQ
 split
 ·exact numQ_bts h
 ·exact numQ_bts h
theorem abread_spec (p : List Int) (hp : ∀ x ∈ p, 0 ≤ x ∧ x < 256) (hl : p.length < 140737488355328) (H : Heap) :
  (readQ p = none ∧ ∃ N, W n_aborts_Read [bytes p .ro] H = some (.tuple [.nilp, .int .i64 12], hx H N)) ∨
  (∃ D fl B N, readQ p = some D ∧ RF D fl ∧ InvD D ∧ W n_aborts_Read [bytes p .ro] H = some (.tuple [.ptr (pt H 1) 0, .int .i64 0], hx H (B :: rwB D fl :: N))) := by
 have tc := fun H => check_spec p hp (by omega) H
 have hlp : (List.map (AVal.int IntKind.u8) p).length = p.length := by simp
 obtain ⟨x, hx'⟩ : ∃ x, (if chkOK p then p.drop 4 else []) = x := ⟨_, rfl⟩
 have hxb : Bts x := by
  rw [← hx']
  split
  ·exact ⟨fun c hc => hp c (List.mem_of_mem_drop hc), by simp only [List.length_drop]; omega⟩
  ·exact ⟨by simp, by simp⟩
 have tc' : ∀ H, ∃ f, W n_crc_Check [bytes p .ro] H = some (.tuple [.list 1 (ints .u8 x) f, .bool (chkOK p)], H) ∧ (f = .own ∨ f = .full) := by
  intro H
  rw [tc H, ← hx']
  split
  ·exact ⟨.own, rfl, .inl rfl⟩
  ·exact ⟨.full, rfl, .inr rfl⟩
 obtain ⟨f, t1, hf⟩ := tc' (Go.Abs.hx H [])
 have t2 := fun H => read_spec7 x H
 have t3 := fun H => abnew_spec H
 have t4 := fun M => count_spec7 (p.length : Nat) (x, false) hxb (pt H 0) (Go.Abs.hx H (rdB (x, false) :: M)) ⟨by rw [hx_get]; rfl⟩
 simp only [hx_set, List.set_cons_zero] at t4
 have hr := countQ_range p.length (x, false)
 have hcb := countQ_bts (m := (p.length : Nat)) (s := (x, false)) hxb
 unfold readQ
 rw [hx']
 generalize countQ (p.length : Nat) (x, false) = cq at *
 obtain ⟨cn, s1⟩ := cq
 simp only at *
 obtain ⟨n, rfl⟩ : ∃ n : Nat, cn = (n : Int) := ⟨cn.toNat, by omega⟩
 rw [Int.toNat_natCast]
 have rl := rd_loop (chkOK p) n (by omega) H n 0 s1 [] .full [] (by omega) hcb (.inr ⟨rfl, rfl⟩) InvD.nil
 simp only [Int.natCast_zero] at rl
 generalize chkOK p = ok at *
 rcases rl with ⟨g1, N', g2⟩ | ⟨s', D', fl', N', g1, g2, g3, g4, g5⟩
 ·rw [g1]
  refine .inl ⟨rfl, N', ?_⟩
  simp only [rwB, rdB, List.map_nil] at g2 t2 t4
  refine W_fnS rfl rfl ?_
  rcases hf with rfl | rfl
  ·simp only [go_sem, c_aborts_Read, t1, t2, t3, List.length_map, t4, g2, simprocAttr]
   first | done | rfl
  ·simp only [go_sem, c_aborts_Read, t1, t2, t3, List.length_map, t4, g2, simprocAttr]
   first | done | rfl
 ·rw [g1]
  simp only
  have td := fun M => done_spec7 s' (pt H 0) (Go.Abs.hx H (rdB s' :: M)) ⟨by rw [hx_get]; rfl⟩
  generalize hB : rdB s' = B at *
  simp only [rwB, rdB, List.map_nil] at g5 t2 t4
  by_cases c : ok = true ∧ s'.2 = false ∧ s'.1.length = 0
  ·rw [if_pos c]
   refine .inr ⟨D', fl', B, N', rfl, g2, g4, ?_⟩
   obtain ⟨c1, c2, c3⟩ := c
   subst c1
   rw [c2, decide_eq_true c3] at td
   refine W_fnS rfl rfl ?_
   rcases hf with rfl | rfl
   ·simp only [go_sem, c_aborts_Read, t1, t2, t3, List.length_map, t4, g5, td, simprocAttr]
    first | done | rfl
   ·simp only [go_sem, c_aborts_Read, t1, t2, t3, List.length_map, t4, g5, td, simprocAttr]
    first | done | rfl
  ·rw [if_neg c]
   refine .inl ⟨rfl, B :: rwB D' fl' :: N', ?_⟩
   simp only [rwB]
   have td' : ok = true → (!s'.2 && decide (s'.1.length = 0)) = false := by
    intro h
    cases h1 : s'.2 with
    | true => rfl
    | false => simp; intro h2; exact c ⟨h, h1, by rw [h2]; rfl⟩
   refine W_fnS rfl rfl ?_
   cases ok with
   | false =>
    rcases hf with rfl | rfl
    ·simp only [go_sem, c_aborts_Read, t1, t2, t3, List.length_map, t4, g5, simprocAttr]
     first | done | rfl
    ·simp only [go_sem, c_aborts_Read, t1, t2, t3, List.length_map, t4, g5, simprocAttr]
     first | done | rfl
   | true =>
    rw [td' rfl] at td
    rcases hf with rfl | rfl
    ·simp only [go_sem, c_aborts_Read, t1, t2, t3, List.length_map, t4, g5, td, simprocAttr]
     first | done | rfl
    ·simp only [go_sem, c_aborts_Read, t1, t2, t3, List.length_map, t4, g5, td, simprocAttr]
     first | done | rfl
theorem told_pN {n : Int} (h : I64 n) (r : List Int) : told (Vt.dec (pN n ++ r) 0 0) = (n, ((pN n).length : Int)) := by
 have hz := Num.zig_range n h
 rw [Vt.dec_enc (Num.zig n) hz.1 hz.2 r]
 unfold told
 simp only [Num.zag_zig]
theorem numQ_pN {n : Int} (h : I64 n) (r : List Int) : numQ (pN n ++ r, false) = (n, (r, false)) := by
 have hne : (pN n).length ≠ 0 := by have := Vt.enc_ne 9 (Num.zig n); intro h; exact this (List.eq_nil_of_length_eq_zero h)
 unfold numQ
 rw [told_pN h r]
 simp only
 rw [if_neg (by rintro (h | h); cases h; omega)]
 simp
theorem rdGo_enc : ∀ (D D0 : List La), DI D → (∀ (q : List La) (d : La) (r : List La), D = q ++ d :: r → abOK (D0 ++ q) d = true) → rdGo D.length (encR D, false) D0 = some (([], false), D0 ++ D)
 | [], D0, _, _ => by rw [List.append_nil]; rfl
 | d :: D, D0, hD, h => by
  have hd := hD d List.mem_cons_self
  have h0 := h [] d D rfl
  rw [List.append_nil] at h0
  have e : encR (d :: D) = pN d.1 ++ (pN d.2.1 ++ (pN d.2.2 ++ encR D)) := by simp [encR]
  rw [e, List.length_cons]
  unfold rdGo
  simp only [numQ_pN hd.1, numQ_pN hd.2.1, numQ_pN hd.2.2]
  rw [if_neg (by rintro (h | h); cases h; rw [h0] at h; cases h)]
  rw [rdGo_enc D (D0 ++ [d]) (fun x hx => hD x (List.mem_cons_of_mem _ hx)) (fun q x r hq => by rw [List.append_assoc]; exact h (d :: q) x r (by rw [hq]; rfl))]
  rw [List.append_assoc]; rfl
def AbSeq (D : List La) : Prop := ∀ (q : List La) (d : La) (r : List La), D = q ++ d :: r → abOK q d = true
theorem toN_byte7 {l : List Int} (h : ∀ x ∈ l, 0 ≤ x ∧ x < 256) : ∀ x ∈ toN l, x < 256 := by
 intro x hx
 unfold toN at hx
 rw [List.mem_map] at hx
 obtain ⟨y, hy, rfl⟩ := hx
 have := h y hy
 omega
theorem chk_seal {l : List Int} (h : ∀ x ∈ l, 0 ≤ x ∧ x < 256) : chkOK (sealE l) = true ∧ (sealE l).drop 4 = l := by
 have d : (sealE l).drop 4 = l := rfl
 refine ⟨?_, d⟩
 have hlt := crcN_lt (toN l) (toN_byte7 h)
 unfold chkOK
 rw [d, decide_eq_true (by simp [sealE, le4]), Bool.true_and]
 refine decide_eq_true ?_
 have e0 : (sealE l).getD 0 0 = ((crcN (toN l) : Nat) : Int) % 256 := rfl
 have e1 : (sealE l).getD 1 0 = ((crcN (toN l) : Nat) : Int) / 256 % 256 := rfl
 have e2 : (sealE l).getD 2 0 = ((crcN (toN l) : Nat) : Int) / 65536 % 256 := rfl
 have e3 : (sealE l).getD 3 0 = ((crcN (toN l) : Nat) : Int) / 16777216 % 256 := rfl
 unfold sum4
 rw [e0, e1, e2, e3]
 generalize crcN (toN l) = n at *
 omega
theorem encD_bytes {D : List La} (h : DI D) (hn : D.length ≤ 1000000) : ∀ x ∈ encD D, 0 ≤ x ∧ x < 256 := by
 intro x hx
 unfold encD at hx
 rcases List.mem_append.1 hx with hx | hx
 ·exact pN_bytes (show I64 ((D.length : Nat) : Int) by unfold I64; omega) x hx
 ·exact encR_bytes h x hx
theorem encR_ge : ∀ D : List La, D.length ≤ (encR D).length
 | [] => by simp [encR]
 | d :: D => by
  have h := encR_ge D
  have hne : (pN d.1).length ≠ 0 := by have := Vt.enc_ne 9 (Num.zig d.1); intro h; exact this (List.eq_nil_of_length_eq_zero h)
  unfold encR at *
  simp only [List.flatMap_cons, List.length_append, List.length_cons]
  omega
theorem read_back (D : List La) (hD : DI D) (hs : AbSeq D) (hn : D.length ≤ 1000000) : readQ (sealE (encD D)) = some D := by
 obtain ⟨c1, c2⟩ := chk_seal (encD_bytes hD hn)
 have hI : I64 ((D.length : Nat) : Int) := by unfold I64; omega
 have hge := encR_ge D
 have hlen : D.length ≤ (sealE (encD D)).length := by
  show _ ≤ (le4 _ ++ encD D).length
  unfold encD
  rw [List.length_append, List.length_append]; omega
 have hc : countQ ((sealE (encD D)).length : Nat) (encD D, false) = (((D.length : Nat) : Int), (encR D, false)) := by
  unfold countQ
  have : numQ (encD D, false) = (((D.length : Nat) : Int), (encR D, false)) := numQ_pN hI (encR D)
  rw [this]
  rw [if_neg (by simp only; omega)]
 unfold readQ
 rw [c1, if_pos rfl, c2, hc]
 simp only [Int.toNat_natCast]
 rw [rdGo_enc D [] hD hs]
 simp
abbrev plB (D : List La) (last : Int) (pf : Fl) : Box := .cells [.list 3 (D.map laV) pf, .int .i64 last]
def PF (D : List La) (pf : Fl) : Prop := pf = .own ∨ (pf = .full ∧ D = [])
def plOK (last : Int) (d : La) : Bool := decide (¬ d.1 < 0) && (decide (¬ d.2.1 < 0) && (decide (¬ d.2.2 ≤ d.2.1) && (decide (¬ d.2.2 ≤ last) && decide (¬ d.2.2 > 1099511627776))))
theorem padd_spec (D : List La) (hn : D.length ≤ 1099511627776) (last : Int) (pf : Fl) (hpf : PF D pf) (d : La) (i : Nat) (H : Heap) (hi : Old H i (plB D last pf)) :
  W n_law13_plain_add [.ptr i 0, .agg [.int .i64 d.1, .int .i64 d.2.1, .int .i64 d.2.2]] H = some (.bool (plOK last d), H.set i (if plOK last d = true then plB (D ++ [d]) d.2.2 .own else plB D last pf)) := by
 have gi := hi.get
 have gs := hi.set
 have gi' := hi.get'
 have gs' := hi.set'
 obtain ⟨d1, d2, d3⟩ := d
 have no : plOK last (d1, d2, d3) = false → W n_law13_plain_add [.ptr i 0, .agg [.int .i64 d1, .int .i64 d2, .int .i64 d3]] H = some (.bool false, H) → W n_law13_plain_add [.ptr i 0, .agg [.int .i64 d1, .int .i64 d2, .int .i64 d3]] H = some (.bool (plOK last (d1, d2, d3)), H.set i (if plOK last (d1, d2, d3) = true then plB (D ++ [(d1, d2, d3)]) d3 .own else plB D last pf)) := by
  intro h0 h1
  rw [h0, if_neg (by decide), hi.same]; exact h1
 simp only
 by_cases c1 : d1 < 0
 ·refine no (by simp [plOK, c1]) ?_
  refine W_fn rfl rfl ?_
  simp only [go_sem, c_law13_plain_add, c1, simprocAttr]
 by_cases c2 : d2 < 0
 ·refine no (by simp [plOK, c2]) ?_
  refine W_fn rfl rfl ?_
  simp only [go_sem, c_law13_plain_add, c1, c2, simprocAttr]
 by_cases c3 : d3 ≤ d2
 ·refine no (by simp [plOK, c3]) ?_
  refine W_fn rfl rfl ?_
  simp only [go_sem, c_law13_plain_add, c1, c2, c3, simprocAttr]
 by_cases c4 : d3 ≤ last
 ·refine no (by simp [plOK, c4]) ?_
  refine W_fn rfl rfl ?_
  simp only [go_sem, c_law13_plain_add, c1, c2, c3, c4, gi, simprocAttr]
 by_cases c5 : d3 > 1099511627776
 ·refine no (by simp [plOK, c5]) ?_
  refine W_fn rfl rfl ?_
  simp only [go_sem, c_law13_plain_add, c1, c2, c3, c4, c5, gi, simprocAttr]
 have ok : plOK last (d1, d2, d3) = true := by
  unfold plOK
  simp only [Bool.and_eq_true, decide_eq_true_eq]
  omega
 rw [ok, if_pos rfl]
 have b1 : (0 + D.length) * 24 ≤ maxBytes := by simp only [maxBytes]; omega
 have b2 : (D.length + 1) * 24 ≤ maxBytes := by simp only [maxBytes]; omega
 have e8 : D.map laV ++ [.agg [.int .i64 d1, .int .i64 d2, .int .i64 d3]] = (D ++ [(d1, d2, d3)]).map laV := by simp [laV]
 have u := fun n => under_la n (D ++ [(d1, d2, d3)])
 unfold plB at *
 generalize hR : (D ++ [(d1, d2, d3)]).map laV = R at *
 refine W_fnS rfl rfl ?_
 rcases hpf with rfl | ⟨rfl, rfl⟩
 ·simp only [go_sem, c_law13_plain_add, c1, c2, c3, c4, c5, gi, gs, gi', gs', apF, apO, List.length_nil, List.nil_append, List.length_map, b1, b2, e8, u, simprocAttr]
  first | done | rfl
 ·simp only [List.map_nil, List.nil_append, List.length_nil] at *
  rw [← e8] at u ⊢
  simp only [go_sem, c_law13_plain_add, c1, c2, c3, c4, c5, gi, gs, gi', gs', apF, apO, List.length_nil, List.nil_append, b1, b2, u, simprocAttr]
  first | done | rfl
theorem pbytes_loop (D : List La) (hD : DI D) (hn : D.length ≤ 1099511627776) (f : Fl) (hf : f = .ro ∨ (f = .full ∧ D = [])) (H : Heap) (r : List La) : ∀ (q : List La) (b : List Int) (N : Heap), D = q ++ r → b.length ≤ 10 + 30 * q.length →
  ∃ N', loopA W loopW (.ghost (.kill k_law13_plain_bytes_0) l_law13_plain_bytes_0) [(3, bytes b .own), (15, .list 3 (D.map laV) f), (16, .int .i64 (D.length : Nat)), (17, .int .i64 (q.length : Nat))] (hx H N) =
   some (.exit 0, [(3, bytes (b ++ encR r) .own)], hx H N') := by
 induction r with
 | nil =>
  intro q b N hq hb
  rw [List.append_nil] at hq
  subst hq
  refine ⟨N, ?_⟩
  have h1 : ¬ ((D.length : Int) < (D.length : Int)) := by omega
  rw [show encR [] = [] from rfl, List.append_nil]
  refine loop_step l_law13_plain_bytes_0.eq_1 k_law13_plain_bytes_0.eq_1 (by kernel_rfl) ?_
  simp only [go_sem, h1, simprocAttr]
 | cons d r ih =>
  intro q b N hq hb
  have hf0 : f = .ro := by
   rcases hf with h | ⟨_, h⟩
   ·exact h
   ·rw [hq] at h; simp at h
  subst hf0
  have hlen : D.length = q.length + (r.length + 1) := by rw [hq]; simp
  have h1 : ((q.length : Int) < (D.length : Int)) := by omega
  have e0 : (0 : Int) ≤ (q.length : Int) := by omega
  have e7 : ((q.length : Nat) : Int).toNat = q.length := by omega
  have e1 : (D.map laV)[q.length]? = some (.agg [.int .i64 d.1, .int .i64 d.2.1, .int .i64 d.2.2]) := by rw [hq]; simp [laV]
  have e6 : IntKind.i64.wrap ((q.length : Int) + 1) = ((q.length + 1 : Nat) : Int) := by rw [wrap_id (by unfold I64; omega)]; omega
  have n1 : ∀ x : Box, (N ++ [x])[N.length]? = some x := fun x => by simp
  have n2 : ∀ x z : Box, (N ++ [x]).set N.length z = N ++ [z] := fun x z => by simp
  have hd := hD d (by rw [hq]; simp)
  have l1 := pN_len d.1
  have l2 := pN_len d.2.1
  have l3 := pN_len d.2.2
  have t1 := fun H => ref_put_spec b d.1 H .ro (.inl rfl) hd.1 (by omega)
  have t2 := fun H => ref_put_spec (b ++ pN d.1) d.2.1 H .ro (.inl rfl) hd.2.1 (by rw [List.length_append]; omega)
  have t3 := fun H => ref_put_spec (b ++ pN d.1 ++ pN d.2.1) d.2.2 H .ro (.inl rfl) hd.2.2 (by rw [List.length_append, List.length_append]; omega)
  obtain ⟨N', h2⟩ := ih (q ++ [d]) (b ++ pN d.1 ++ pN d.2.1 ++ pN d.2.2) (N ++ [.cells [.int .i64 d.1, .int .i64 d.2.1, .int .i64 d.2.2]]) (by rw [hq]; simp) (by simp; omega)
  simp only [List.length_append, List.length_cons, List.length_nil, Nat.zero_add] at h2
  refine ⟨N', ?_⟩
  rw [show b ++ encR (d :: r) = b ++ pN d.1 ++ pN d.2.1 ++ pN d.2.2 ++ encR r by simp [encR]]
  generalize b ++ pN d.1 ++ pN d.2.1 ++ pN d.2.2 ++ encR r = R at *
  generalize b ++ pN d.1 ++ pN d.2.1 ++ pN d.2.2 = b3 at *
  generalize b ++ pN d.1 ++ pN d.2.1 = b2 at *
  generalize b ++ pN d.1 = b1 at *
  refine loop_step l_law13_plain_bytes_0.eq_1 k_law13_plain_bytes_0.eq_1 (by kernel_rfl) ?_
  simp only [go_sem, h1, e0, e7, e1, n1, n2, List.length_map, t1, t2, t3, e6, simprocAttr]
  exact h2
theorem pbytes_spec (D : List La) (hD : DI D) (hn : D.length ≤ 1099511627776) (last : Int) (pf : Fl) (hpf : PF D pf) (i : Nat) (H : Heap) (hi : Old H i (plB D last pf)) :
  W n_law13_plain_bytes [.ptr i 0] H = some (bytes (sealE (encD D)) .own, H) := by
 have gi := hi.get
 have hI : I64 ((D.length : Nat) : Int) := by unfold I64; omega
 have t1 : ∀ H, W n_ref1_Put [.list 1 [] .ro, .int .i64 ((D.length : Nat) : Int)] H = some (bytes (pN ((D.length : Nat) : Int)) .own, H) := fun H => ref_put_spec [] ((D.length : Nat) : Int) H .ro (.inl rfl) hI (by simp)
 have hl : (encD D).length ≤ 10 + 30 * D.length := by
  unfold encD
  have := pN_len ((D.length : Nat) : Int)
  have := encR_len D
  rw [List.length_append]; omega
 have hb : ∀ x ∈ encD D, 0 ≤ x ∧ x < 256 := by
  intro x hx
  unfold encD at hx
  rcases List.mem_append.1 hx with hx | hx
  ·exact pN_bytes hI x hx
  ·exact encR_bytes hD x hx
 have t2 := fun H => ref_sealed_spec (encD D) H hb (by omega)
 rw [show le4 (crcN (toN (encD D)) : Nat) ++ encD D = sealE (encD D) from rfl] at t2
 have u : ∀ (n : Nat) (m : List Int), AVal.underL n (ints .u8 m) = true := fun n m => uL_map n (AVal.int .u8) (fun _ => rfl) m
 have hlo : ∀ f, (f = .ro ∨ (f = .full ∧ D = [])) → ∃ N', loopA W loopW (.ghost (.kill k_law13_plain_bytes_0) l_law13_plain_bytes_0) [(3, bytes (pN (D.length : Nat)) .own), (15, .list 3 (D.map laV) f), (16, .int .i64 (D.length : Nat)), (17, .int .i64 0)] (hx H []) = some (.exit 0, [(3, bytes (encD D) .own)], hx H N') := by
  intro f hf
  obtain ⟨N', h⟩ := pbytes_loop D hD hn f hf H D [] (pN (D.length : Nat)) [] rfl (by have := pN_len ((D.length : Nat) : Int); simp; omega)
  exact ⟨N', h⟩
 rcases hpf with rfl | ⟨rfl, rfl⟩
 ·obtain ⟨N, h⟩ := hlo .ro (.inl rfl)
  generalize sealE (encD D) = S at *
  generalize encD D = E at *
  generalize pN ((D.length : Nat) : Int) = P0 at *
  refine W_fn rfl rfl ?_
  simp only [go_sem, c_law13_plain_bytes, gi, List.length_map, t1, h, t2, u, simprocAttr]
  first | done | rfl
 ·obtain ⟨N, h⟩ := hlo .full (.inr ⟨rfl, rfl⟩)
  generalize sealE (encD []) = S at *
  generalize encD [] = E at *
  generalize pN ((([] : List La).length : Nat) : Int) = P0 at *
  simp only [List.map_nil, List.length_nil, Int.natCast_zero] at *
  refine W_fn rfl rfl ?_
  simp only [go_sem, c_law13_plain_bytes, gi, List.length_nil, Int.natCast_zero, t1, h, t2, u, simprocAttr]
  first | done | rfl
theorem bytes_app {l m : List Int} (h : Bytes l) (k : Bytes m) : Bytes (l ++ m) := fun x hx => (List.mem_append.1 hx).elim (h x) (k x)
theorem ref_get_loop (l : List Int) (hb : Bytes l) (hl : l.length < 140737488355328) (H : Heap) (r : List Int) : ∀ (p : List Int) (u : Int), l = p ++ r → (∀ x ∈ p, 128 ≤ x ∧ x < 256) → p.length ≤ 10 → (p.length ≤ 9 → u = Vt.val p) →
  loopA W loopW (.ghost (.kill k_ref1_Get_0) l_ref1_Get_0) [(0, bytes l .ro), (4, .int .u64 u), (5, .int .i64 (p.length : Int))] H =
   some (.ret, [(2, .int .i64 (told (Vt.dec r p.length (Vt.val p))).1), (3, .int .i64 (told (Vt.dec r p.length (Vt.val p))).2)], H) ∨
  (loopA W loopW (.ghost (.kill k_ref1_Get_0) l_ref1_Get_0) [(0, bytes l .ro), (4, .int .u64 u), (5, .int .i64 (p.length : Int))] H = some (.exit 0, [], H) ∧ told (Vt.dec r p.length (Vt.val p)) = (0, 0)) := by
 have e3 : (ints .u8 l).length = l.length := by simp
 induction r with
 | nil =>
  intro p u hp hc h10 hu
  have hlen : l.length = p.length := by rw [hp, List.append_nil]
  right
  refine ⟨loop_step l_ref1_Get_0.eq_1 k_ref1_Get_0.eq_1 (by kernel_rfl) ?_, rfl⟩
  have h1 : ¬ ((p.length : Int) < (l.length : Int)) := by omega
  simp only [go_sem, trim_same, h1, e3, simprocAttr]
 | cons c r ih =>
  intro p u hp hpc h10 hu
  have hlen : l.length = p.length + (r.length + 1) := by rw [hp, List.length_append, List.length_cons]
  have hc := hb c (by rw [hp]; simp)
  have h0 : (p.length : Int) < (l.length : Int) := by omega
  by_cases hi : p.length ≥ 10
  ·right
   rw [Vt.dec, if_pos hi]
   refine ⟨loop_step l_ref1_Get_0.eq_1 k_ref1_Get_0.eq_1 (by kernel_rfl) ?_, rfl⟩
   have h1 : ¬ ((p.length : Int) < 10) := by omega
   simp only [go_sem, trim_same, h0, h1, e3, simprocAttr]
  ·have h1 : (p.length : Int) < 10 := by omega
   have h2 : (0 : Int) ≤ (p.length : Int) := by omega
   have h3 := ints_at (k := .u8) hp rfl
   have e1 := Num.and127_u8 c hc.1 hc.2
   have e2 : IntKind.u64.wrap (c % 128) = c % 128 := by rw [Num.wu64]; omega
   have e4 : IntKind.u64.wrap (IntKind.i64.wrap (7 * (p.length : Int))) = (p.length : Int) * 7 := by rw [wrap_id (by unfold I64; omega), Num.wu64]; omega
   have e4' : (0 : Int) ≤ (p.length : Int) * 7 := by omega
   have e5 := shl7 p.length (by omega) (c % 128)
   have hv0 := Vt.val_nonneg p
   have hv1 := Vt.val_lt p
   have hu' := hu (by omega)
   subst hu'
   have hj := joins p.length (by omega) (Vt.val p) (c % 128) hv0 hv1 (by omega) (by omega)
   have e6 := hj.1
   have e8 : IntKind.i64.wrap ((p.length : Int) + 1) = ((p.length + 1 : Nat) : Int) := by rw [wrap_id (by unfold I64; omega)]; omega
   have hl1 : ((p.length + 1 : Nat) : Int) = (p.length : Int) + 1 := by omega
   by_cases h128 : c < 128
   ·have e128 : c % 128 = c := by omega
    rw [e128] at e6
    have hr : 0 ≤ (Vt.val p + 128 ^ p.length * c) % 18446744073709551616 ∧ (Vt.val p + 128 ^ p.length * c) % 18446744073709551616 < 18446744073709551616 := by omega
    have hz := zag_own' _ hr.1 hr.2
    have hzr : I64 _ := Num.zag_range _ hr
    have hput := ref_put_spec [] _ H .ro (.inl rfl) hzr (by simp)
    rw [List.nil_append, Num.zig_zag _ hr.1] at hput
    change W n_ref1_Put [.list 1 [] .ro, _] H = _ at hput
    have htk : (ints .u8 l).take ((p.length + 1 : Nat) : Int).toNat = ints .u8 (p ++ [c]) := by
     rw [Int.toNat_natCast, ← List.map_take, hp, List.take_append, List.take_of_length_le (by omega), Nat.add_sub_cancel_left]; rfl
    have h5 : (((p.length + 1 : Nat) : Int)) ≤ (l.length : Int) := by omega
    have h6 : (0 : Int) ≤ ((p.length + 1 : Nat) : Int) := by omega
    have hd := Vt.dec_last p c r hpc (by omega) hc.1 h128 _ rfl
    have hbp : Bytes (p ++ [c]) := bytes_app (fun x hx => ⟨by have := hpc x hx; omega, (hpc x hx).2⟩) (fun x hx => by rw [List.mem_singleton] at hx; omega)
    have hbe : Bytes (Vt.enc 9 ((Vt.val p + 128 ^ p.length * c) % 18446744073709551616)) := Vt.enc_bytes 9 _ hr.1 (Int.lt_trans hr.2 (by decide))
    rw [e128] at e1 e2 e5
    left
    by_cases he : Vt.enc 9 ((Vt.val p + 128 ^ p.length * c) % 18446744073709551616) = p ++ [c]
    ·have hq : (toS (Vt.enc 9 ((Vt.val p + 128 ^ p.length * c) % 18446744073709551616)) == toS (p ++ [c])) = true := by rw [he]; simp
     rw [hd.1 he]
     refine loop_step l_ref1_Get_0.eq_1 k_ref1_Get_0.eq_1 (by kernel_rfl) ?_
     simp only [go_sem, trim_same, h0, h1, h2, h3, e1, e2, e3, e4, e4', e5, e6, e8, h128, hz, hput, sl_hi, h5, h6, htk, hq, told, simprocAttr]
    ·have hq : (toS (Vt.enc 9 ((Vt.val p + 128 ^ p.length * c) % 18446744073709551616)) == toS (p ++ [c])) = false := by
      simp only [beq_eq_false_iff_ne]; exact fun h => he (toS_inj hbe hbp h)
     rw [hd.2 he]
     refine loop_step l_ref1_Get_0.eq_1 k_ref1_Get_0.eq_1 (by kernel_rfl) ?_
     simp only [go_sem, trim_same, h0, h1, h2, h3, e1, e2, e3, e4, e4', e5, e6, e8, h128, hz, hput, sl_hi, h5, h6, htk, hq, told, simprocAttr]
   ·have hnx := ih (p ++ [c]) ((Vt.val p + 128 ^ p.length * (c % 128)) % 18446744073709551616) (by rw [hp, List.append_assoc]; rfl) (fun x hx => (List.mem_append.1 hx).elim (hpc x) (fun h => by rw [List.mem_singleton] at h; omega)) (by simp only [List.length_append, List.length_cons, List.length_nil]; omega) (by
     intro h
     rw [List.length_append, List.length_cons, List.length_nil] at h
     have hval : Vt.val (p ++ [c]) = Vt.val p + 128 ^ p.length * (c % 128) := by rw [Vt.val_append]; simp only [Vt.val]; congr 1; congr 1; omega
     rw [hval]
     have := hj.2.1 (by omega)
     have h3 : 0 ≤ 128 ^ p.length * (c % 128) := Int.mul_nonneg (Int.le_of_lt (Vt.pow_pos _)) (by omega)
     omega)
    rw [show (p ++ [c]).length = p.length + 1 by simp] at hnx
    have hval : Vt.val (p ++ [c]) = Vt.val p + 128 ^ p.length * (c % 128) := by rw [Vt.val_append]; simp only [Vt.val]; congr 1; congr 1; omega
    rw [hval] at hnx
    have step : ∀ q, loopA W loopW (.ghost (.kill k_ref1_Get_0) l_ref1_Get_0) [(0, bytes l .ro), (4, .int .u64 ((Vt.val p + 128 ^ p.length * (c % 128)) % 18446744073709551616)), (5, .int .i64 ((p.length + 1 : Nat) : Int))] H = some q →
      loopA W loopW (.ghost (.kill k_ref1_Get_0) l_ref1_Get_0) [(0, bytes l .ro), (4, .int .u64 (Vt.val p)), (5, .int .i64 (p.length : Int))] H = some q := by
     intro q hq
     refine loop_step l_ref1_Get_0.eq_1 k_ref1_Get_0.eq_1 (by kernel_rfl) ?_
     simp only [go_sem, trim_same, h0, h1, h2, h3, e1, e2, e3, e4, e4', e5, e6, e8, h128, simprocAttr]
     exact hq
    rw [Vt.dec, if_neg hi]
    by_cases h9 : p.length = 9 ∧ c % 128 ≥ 2
    ·rw [if_pos h9]
     have hn : Vt.dec r (p.length + 1) (Vt.val p + 128 ^ p.length * (c % 128)) = none := by
      rw [h9.1]
      cases r with
      | nil => rfl
      | cons y r => rw [Vt.dec, if_pos (by decide)]
     rw [hn] at hnx
     rcases hnx with hn | ⟨hn, ht⟩
     ·exact .inl (step _ hn)
     ·exact .inr ⟨step _ hn, rfl⟩
    ·rw [if_neg h9, if_pos (by omega)]
     rcases hnx with hn | ⟨hn, ht⟩
     ·exact .inl (step _ hn)
     ·exact .inr ⟨step _ hn, ht⟩
theorem ref_get_spec (l : List Int) (H : Heap) (hb : Bytes l) (hl : l.length < 140737488355328) : W n_ref1_Get [bytes l .ro] H = some (.tuple [.int .i64 (told (Vt.dec l 0 0)).1, .int .i64 (told (Vt.dec l 0 0)).2], H) := by
 refine W_fn0 rfl rfl ?_
 have e0 : Vt.val [] = 0 := rfl
 rcases ref_get_loop l hb hl H l [] 0 rfl (by simp) (by simp) (fun _ => rfl) with h | ⟨h, ht⟩
 ·simp only [List.length_nil, Int.natCast_zero, e0] at h
  simp only [go_sem, trim_same, c_ref1_Get, h, simprocAttr]
 ·simp only [List.length_nil, Int.natCast_zero, e0] at h ht
  rw [ht]
  simp only [go_sem, trim_same, c_ref1_Get, h, simprocAttr]
abbrev rdF (s : RSt) (f : Fl) : Box := .cells [bytes s.1 f, .bool s.2]
def RFl (s : RSt) (f : Fl) : Prop := f = .ro ∨ f = .own ∨ (f = .full ∧ s.1 = [])
def nF (s : RSt) (f : Fl) : Fl := if s.2 = true ∨ (told (Vt.dec s.1 0 0)).2 = 0 then f else .ro
theorem nF_ok {s f} (h : RFl s f) : RFl (numQ s).2 (nF s f) := by
 unfold nF numQ
 split
 ·exact h
 ·exact .inl rfl
theorem rnum_spec (s : RSt) (hs : Bts s.1) (f : Fl) (hf : RFl s f) (i : Nat) (H : Heap) (hi : Old H i (rdF s f)) :
  W n_ref1_Reader_Num [.ptr i 0] H = some (.int .i64 (numQ s).1, H.set i (rdF (numQ s).2 (nF s f))) := by
 obtain ⟨l, bad⟩ := s
 have gi := hi.get
 have gs := hi.set
 have gi' := hi.get'
 have gs' := hi.set'
 have tg := fun H => ref_get_spec l H hs.1 hs.2
 have tr := told_range7 l
 have u : ∀ (n : Nat) (m : List Int), AVal.underL n (ints .u8 m) = true := fun n m => uL_map n (AVal.int .u8) (fun _ => rfl) m
 have h0 : f = .full → (told (Vt.dec l 0 0)).2 = 0 := by
  intro h
  rcases hf with hf | hf | ⟨_, hf⟩
  ·rw [hf] at h; cases h
  ·rw [hf] at h; cases h
  ·simp only at hf; rw [hf]; rfl
 have hff : f = .ro ∨ f = .own ∨ f = .full := by
  rcases hf with hf | hf | ⟨hf, _⟩
  ·exact .inl hf
  ·exact .inr (.inl hf)
  ·exact .inr (.inr hf)
 clear hf
 unfold numQ nF
 simp only
 generalize told (Vt.dec l 0 0) = T at *
 obtain ⟨v, k⟩ := T
 simp only at tg tr h0 ⊢
 have d1 : (ints .u8 l).drop k.toNat = ints .u8 (l.drop k.toNat) := (List.map_drop ..).symm
 unfold rdF at *
 simp only at gi gs gi' gs' ⊢
 cases bad with
 | true =>
  simp only [true_or, if_true]
  refine W_fnS rfl rfl ?_
  rcases hff with rfl | rfl | rfl
  all_goals
   simp only [go_sem, c_ref1_Reader_Num, gi, gs, gi', gs', tg, u, simprocAttr]
   first | done | rfl
 | false =>
  by_cases c : k = 0
  ·simp only [c, Bool.false_eq_true, or_true, if_true]
   refine W_fnS rfl rfl ?_
   rcases hff with rfl | rfl | rfl
   all_goals
    simp only [go_sem, c_ref1_Reader_Num, gi, gs, gi', gs', tg, eq_true c, u, simprocAttr]
    first | done | rfl
  ·rw [if_neg (by rintro (h | h); cases h; exact c h), if_neg (by rintro (h | h); cases h; exact c h)]
   refine W_fnS rfl rfl ?_
   rcases hff with rfl | rfl | rfl
   ·simp only [go_sem, c_ref1_Reader_Num, gi, gs, gi', gs', tg, c, slL, tr.1, tr.2, List.length_map, d1, u, simprocAttr]
    first | done | rfl
   ·simp only [go_sem, c_ref1_Reader_Num, gi, gs, gi', gs', tg, c, slL, tr.1, tr.2, List.length_map, d1, u, simprocAttr]
    first | done | rfl
   ·exact absurd (h0 rfl) c
theorem rdone_spec (s : RSt) (f : Fl) (hf : RFl s f) (i : Nat) (H : Heap) (hi : Old H i (rdF s f)) : W n_ref1_Reader_Done [.ptr i 0] H = some (.bool (!s.2 && decide (s.1.length = 0)), H) := by
 have gi := hi.get
 have hff : f = .ro ∨ f = .own ∨ f = .full := by
  rcases hf with hf | hf | ⟨hf, _⟩
  ·exact .inl hf
  ·exact .inr (.inl hf)
  ·exact .inr (.inr hf)
 clear hf
 obtain ⟨l, bad⟩ := s
 unfold rdF at gi
 simp only at gi ⊢
 refine W_fn rfl rfl ?_
 cases bad with
 | true =>
  rcases hff with rfl | rfl | rfl
  all_goals simp only [go_sem, c_ref1_Reader_Done, gi, simprocAttr]
 | false =>
  by_cases c : l.length = 0
  ·have c' : (l.length : Int) = 0 := by omega
   rw [decide_eq_true c]
   rcases hff with rfl | rfl | rfl
   all_goals simp only [go_sem, c_ref1_Reader_Done, gi, List.length_map, eq_true c', simprocAttr]
  ·have c' : ¬ (l.length : Int) = 0 := by omega
   rw [decide_eq_false c]
   rcases hff with rfl | rfl | rfl
   all_goals simp only [go_sem, c_ref1_Reader_Done, gi, List.length_map, c', simprocAttr]
def unsOK (p : List Int) : Bool := decide (4 ≤ p.length) && decide (sealE (p.drop 4) = p)
theorem sealE_bytes {x : List Int} (h : ∀ c ∈ x, 0 ≤ c ∧ c < 256) : ∀ c ∈ sealE x, 0 ≤ c ∧ c < 256 := by
 intro c hc
 unfold sealE at hc
 rcases List.mem_append.1 hc with hc | hc
 ·simp only [le4, List.mem_cons, List.not_mem_nil, or_false] at hc
  rcases hc with rfl | rfl | rfl | rfl <;> omega
 ·exact h c hc
theorem toS_beq {x y : List Int} (hx : ∀ c ∈ x, 0 ≤ c ∧ c < 256) (hy : ∀ c ∈ y, 0 ≤ c ∧ c < 256) : (toS x == toS y) = decide (x = y) := by
 by_cases h : x = y
 ·rw [h]; simp
 ·have : ¬ toS x = toS y := fun e => h (toS_inj hx hy e)
  rw [beq_eq_false_iff_ne.2 this, decide_eq_false h]
theorem unseal_spec (p : List Int) (hp : ∀ x ∈ p, 0 ≤ x ∧ x < 256) (hl : p.length < 140737488355328) (H : Heap) :
  W n_ref1_Unseal [bytes p .ro] H = some (.tuple [if unsOK p then bytes (p.drop 4) .own else .list 1 [] .full, .bool (unsOK p)], H) := by
 unfold unsOK
 by_cases c : p.length < 4
 ·have c' : (p.length : Int) < 4 := by omega
  have d : decide (4 ≤ p.length) = false := decide_eq_false (by omega)
  rw [d, Bool.false_and, if_neg (by decide)]
  refine W_fn0 rfl rfl ?_
  simp only [go_sem, trim_same, c_ref1_Unseal, List.length_map, c', simprocAttr]
 ·have c' : ¬ (p.length : Int) < 4 := by omega
  have d : decide (4 ≤ p.length) = true := decide_eq_true (by omega)
  rw [d, Bool.true_and]
  have hb4 : ∀ x ∈ p.drop 4, 0 ≤ x ∧ x < 256 := fun x hx => hp x (List.mem_of_mem_drop hx)
  have e4 : (ints .u8 p).drop 4 = ints .u8 (p.drop 4) := by rw [← List.map_drop]
  have l4 : (4 : Int) ≤ (p.length : Int) := by omega
  have ts := fun H => ref_sealed_spec (p.drop 4) H hb4 (by simp; omega)
  have tq := toS_beq (sealE_bytes hb4) hp
  have lb : (0 + (p.drop 4).length) * 1 ≤ maxBytes := by simp [maxBytes]; omega
  have eS : le4 (crcN (toN (p.drop 4)) : Nat) ++ p.drop 4 = sealE (p.drop 4) := rfl
  rw [eS] at ts
  clear eS
  generalize sealE (p.drop 4) = S at *
  generalize p.drop 4 = y at *
  by_cases e : S = p
  ·rw [decide_eq_true e] at tq
   rw [decide_eq_true e, if_pos rfl]
   refine W_fn0 rfl rfl ?_
   simp only [go_sem, trim_same, c_ref1_Unseal, List.length_map, c', slL, l4, e4, ts, tq, apF, List.length_nil, List.nil_append, lb, simprocAttr]
  ·rw [decide_eq_false e] at tq
   rw [decide_eq_false e, if_neg (by decide)]
   refine W_fn0 rfl rfl ?_
   simp only [go_sem, trim_same, c_ref1_Unseal, List.length_map, c', slL, l4, e4, ts, tq, simprocAttr]
theorem chk_uns {p : List Int} (hp : ∀ x ∈ p, 0 ≤ x ∧ x < 256) : chkOK p = unsOK p := by
 unfold chkOK unsOK
 by_cases c : 4 ≤ p.length
 ·rw [decide_eq_true c, Bool.true_and, Bool.true_and]
  obtain ⟨b0, b1, b2, b3, r, rfl⟩ : ∃ b0 b1 b2 b3 r, p = b0 :: b1 :: b2 :: b3 :: r := by
   match p, c with
   | b0 :: b1 :: b2 :: b3 :: r, _ => exact ⟨b0, b1, b2, b3, r, rfl⟩
  have h0 := hp b0 (by simp)
  have h1 := hp b1 (by simp)
  have h2 := hp b2 (by simp)
  have h3 := hp b3 (by simp)
  have hlt := crcN_lt (toN r) (toN_byte7 fun x hx => hp x (by simp [hx]))
  show decide (((crcN (toN r) : Nat) : Int) = sum4 (b0 :: b1 :: b2 :: b3 :: r)) = decide (sealE r = b0 :: b1 :: b2 :: b3 :: r)
  rw [decide_eq_decide]
  have e0 : (b0 :: b1 :: b2 :: b3 :: r).getD 0 0 = b0 := rfl
  have e1 : (b0 :: b1 :: b2 :: b3 :: r).getD 1 0 = b1 := rfl
  have e2 : (b0 :: b1 :: b2 :: b3 :: r).getD 2 0 = b2 := rfl
  have e3 : (b0 :: b1 :: b2 :: b3 :: r).getD 3 0 = b3 := rfl
  unfold sum4
  rw [e0, e1, e2, e3]
  unfold sealE le4
  generalize crcN (toN r) = n at *
  simp only [List.cons_append, List.nil_append, List.cons.injEq, and_true]
  omega
 ·rw [decide_eq_false c, Bool.false_and, Bool.false_and]
theorem dec_can : ∀ (r pre : List Int), (∀ x ∈ pre, 128 ≤ x ∧ x < 256) → (∀ x ∈ r, 0 ≤ x ∧ x < 256) → pre.length ≤ 10 → ∀ u n, Vt.dec r pre.length (Vt.val pre) = some (u, n) →
  ∃ s rest, r = s ++ rest ∧ Vt.enc 9 u = pre ++ s ∧ n = pre.length + s.length ∧ 0 ≤ u ∧ u < 18446744073709551616
 | [], pre, _, _, _, u, n, h => by cases h
 | c :: r, pre, hp, hr, hl, u, n, h => by
  have hc := hr c List.mem_cons_self
  by_cases h10 : pre.length ≥ 10
  ·rw [Vt.dec, if_pos h10] at h; cases h
  by_cases h128 : c < 128
  ·obtain ⟨g1, g2⟩ := Vt.dec_last pre c r hp (by omega) hc.1 h128 _ rfl
   by_cases he : Vt.enc 9 ((Vt.val pre + 128 ^ pre.length * c) % 18446744073709551616) = pre ++ [c]
   ·rw [g1 he] at h
    simp only [Option.some.injEq, Prod.mk.injEq] at h
    obtain ⟨rfl, rfl⟩ := h
    exact ⟨[c], r, rfl, he, rfl, by omega, by omega⟩
   ·rw [g2 he] at h; cases h
  ·rw [Vt.dec, if_neg h10] at h
   split at h
   ·cases h
   rw [if_pos (by omega)] at h
   have hval : Vt.val (pre ++ [c]) = Vt.val pre + 128 ^ pre.length * (c % 128) := by rw [Vt.val_append]; simp only [Vt.val]; congr 1; congr 1; omega
   have hln : (pre ++ [c]).length = pre.length + 1 := by simp
   rw [← hval, ← hln] at h
   obtain ⟨s, rest, h1, h2, h3, h4⟩ := dec_can r (pre ++ [c]) (fun x hx => (List.mem_append.1 hx).elim (hp x) (fun h => by rw [List.mem_singleton] at h; omega)) (fun x hx => hr x (List.mem_cons_of_mem _ hx)) (by omega) u n h
   refine ⟨c :: s, rest, by rw [h1]; rfl, by rw [h2, List.append_assoc]; rfl, ?_, h4⟩
   rw [h3, hln]; simp only [List.length_cons]; omega
theorem numQ_fell {s : RSt} (h : s.2 = true) : numQ s = (0, (s.1, true)) := by unfold numQ; rw [if_pos (.inl h)]
theorem numQ_can {s : RSt} (hb : ∀ x ∈ s.1, 0 ≤ x ∧ x < 256) (h : (numQ s).2.2 = false) : s.2 = false ∧ s.1 = pN (numQ s).1 ++ (numQ s).2.1 ∧ I64 (numQ s).1 := by
 unfold numQ at h ⊢
 split at h
 ·cases h
 ·rename_i hn
  rw [if_neg hn]
  have h2 : s.2 = false := by
   cases hs : s.2 with
   | false => rfl
   | true => exact absurd (.inl hs) hn
  have hk : (told (Vt.dec s.1 0 0)).2 ≠ 0 := fun hk => hn (.inr hk)
  cases hd : Vt.dec s.1 0 0 with
  | none => rw [hd] at hk; exact absurd rfl hk
  | some x =>
   obtain ⟨u, n⟩ := x
   obtain ⟨e, rest, h3, h4, h5, h6, h7⟩ := dec_can s.1 [] (by simp) hb (by decide) u n hd
   simp only [told, List.nil_append, List.length_nil, Nat.zero_add] at h4 h5 ⊢
   have h8 := Num.zag_range u ⟨h6, h7⟩
   refine ⟨h2, ?_, h8⟩
   unfold pN
   rw [Num.zig_zag u h6, h4, h5, h3]
   simp
theorem numQ_i64 {s : RSt} (hb : ∀ x ∈ s.1, 0 ≤ x ∧ x < 256) : I64 (numQ s).1 := by
 cases h : (numQ s).2.2 with
 | false => exact (numQ_can hb h).2.2
 | true =>
  unfold numQ at h ⊢
  split
  ·show I64 0
   exact i64_c (by decide) (by decide)
  ·rename_i hn; rw [if_neg hn] at h; cases h
def lastM (D : List La) : Int := match D.getLast? with | some q => q.2.2 | none => -1
theorem pl_ab (D : List La) (d : La) : plOK (lastM D) d = abOK D d := by
 rw [Bool.eq_iff_iff]
 unfold plOK abOK lastM
 cases D.getLast? with
 | none =>
  simp only [Bool.and_eq_true, decide_eq_true_eq]
  constructor
  ·rintro ⟨h1, h2, h3, h4, h5⟩
   exact ⟨h1, h2, h3, h5, trivial⟩
  ·rintro ⟨h1, h2, h3, h4, _⟩
   exact ⟨h1, h2, h3, by omega, h4⟩
 | some q =>
  simp only [Bool.and_eq_true, decide_eq_true_eq]
  constructor
  ·rintro ⟨h1, h2, h3, h4, h5⟩
   exact ⟨h1, h2, h3, h5, h4⟩
  ·rintro ⟨h1, h2, h3, h4, h5⟩
   exact ⟨h1, h2, h3, h5, h4⟩
def dOf (s : RSt) : La := ((numQ s).1, (numQ (numQ s).2).1, (numQ (numQ (numQ s).2).2).1)
def sOf (s : RSt) : RSt := (numQ (numQ (numQ s).2).2).2
def docGo : Nat → RSt → List La → RSt × List La × Bool
 | 0, s, D => (s, D, true)
 | k + 1, s, D => if s.2 = true then (s, D, true) else if abOK D (dOf s) = true then docGo k (sOf s) (D ++ [dOf s]) else (sOf s, D, false)
theorem rdGo_succ (k : Nat) (s : RSt) (D : List La) : rdGo (k + 1) s D = if (sOf s).2 = true ∨ abOK D (dOf s) = false then none else rdGo k (sOf s) (D ++ [dOf s]) := rfl
theorem docGo_fell (k : Nat) (s : RSt) (D : List La) (h : s.2 = true) : docGo k s D = (s, D, true) := by
 cases k with
 | zero => rfl
 | succ k => unfold docGo; rw [if_pos h]
theorem bts3 {s : RSt} (h : Bts s.1) : Bts (sOf s).1 := numQ_bts (numQ_bts (numQ_bts h))
theorem dOf_i64 {s : RSt} (h : Bts s.1) : I64 (dOf s).1 ∧ I64 (dOf s).2.1 ∧ I64 (dOf s).2.2 := ⟨numQ_i64 h.1, numQ_i64 (numQ_bts h).1, numQ_i64 (numQ_bts (numQ_bts h)).1⟩
theorem dOf_can {s : RSt} (h : Bts s.1) (hf : (sOf s).2 = false) : s.1 = encR [dOf s] ++ (sOf s).1 := by
 have h3 := numQ_can (numQ_bts (numQ_bts h)).1 hf
 have h2 := numQ_can (numQ_bts h).1 h3.1
 have h1 := numQ_can h.1 h2.1
 show s.1 = (pN (numQ s).1 ++ (pN (numQ (numQ s).2).1 ++ pN (numQ (numQ (numQ s).2).2).1)) ++ [] ++ (sOf s).1
 rw [List.append_nil, List.append_assoc, List.append_assoc]
 rw [show (sOf s).1 = (numQ (numQ (numQ s).2).2).2.1 from rfl, ← h3.2.1, ← h2.2.1]
 exact h1.2.1
theorem encR_app (A B : List La) : encR (A ++ B) = encR A ++ encR B := by unfold encR; rw [List.flatMap_append]
theorem docGo_rel : ∀ (k : Nat) (s : RSt) (D : List La), Bts s.1 → s.2 = false →
  (rdGo k s D = none ∧ ((docGo k s D).2.2 = false ∨ (docGo k s D).1.2 = true)) ∨
  (∃ s' E, rdGo k s D = some (s', D ++ E) ∧ docGo k s D = (s', D ++ E, true) ∧ E.length = k ∧ s'.2 = false ∧ s.1 = encR E ++ s'.1)
 | 0, s, D, _, hs => .inr ⟨s, [], by rw [List.append_nil]; rfl, by rw [List.append_nil]; rfl, rfl, hs, rfl⟩
 | k + 1, s, D, hb, hs => by
  rw [rdGo_succ]
  unfold docGo
  have hsf : ¬ s.2 = true := by rw [hs]; decide
  rw [if_neg hsf]
  cases hf : (sOf s).2 with
  | true =>
   rw [if_pos (.inl rfl)]
   refine .inl ⟨rfl, ?_⟩
   split
   ·right; rw [docGo_fell _ _ _ hf]; exact hf
   ·left; rfl
  | false =>
   cases ha : abOK D (dOf s) with
   | false =>
    rw [if_pos (.inr rfl)]
    exact .inl ⟨rfl, .inl rfl⟩
   | true =>
    rw [if_neg (by simp), if_pos rfl]
    have hc := dOf_can hb hf
    rcases docGo_rel k (sOf s) (D ++ [dOf s]) (bts3 hb) hf with h | ⟨s', E, h1, h2, h3, h4, h5⟩
    ·exact .inl h
    ·refine .inr ⟨s', dOf s :: E, ?_, ?_, by simp [h3], h4, ?_⟩
     ·rw [h1, List.append_assoc]; rfl
     ·rw [h2, List.append_assoc]; rfl
     ·rw [hc, h5, ← List.append_assoc, ← encR_app]; rfl
theorem docGo_inv : ∀ (k : Nat) (s : RSt) (D : List La), Bts s.1 → InvD D → DI D → InvD (docGo k s D).2.1 ∧ DI (docGo k s D).2.1 ∧ Bts (docGo k s D).1.1
 | 0, s, D, hb, h1, h2 => ⟨h1, h2, hb⟩
 | k + 1, s, D, hb, h1, h2 => by
  unfold docGo
  split
  ·exact ⟨h1, h2, hb⟩
  ·split
   ·rename_i ha
    exact docGo_inv k (sOf s) _ (bts3 hb) (h1.snoc ha) (fun d hd => by
     rw [List.mem_append, List.mem_singleton] at hd
     rcases hd with hd | rfl
     ·exact h2 d hd
     ·exact dOf_i64 hb)
   ·exact ⟨h1, h2, bts3 hb⟩
def docX (p : List Int) : List Int := if unsOK p then p.drop 4 else []
def docQ (p : List Int) : Int × RSt := numQ (docX p, !unsOK p)
def docF (p : List Int) : RSt × List La × Bool := docGo (docQ p).1.toNat (docQ p).2 []
def docOK (p : List Int) : Bool := (docF p).2.2 && ((!(docF p).1.2 && decide ((docF p).1.1.length = 0)) && decide (sealE (encD (docF p).2.1) = p))
theorem docX_bts {p : List Int} (hp : ∀ x ∈ p, 0 ≤ x ∧ x < 256) (hl : p.length < 140737488355328) : Bts (docX p) := by
 unfold docX
 split
 ·exact ⟨fun c hc => hp c (List.mem_of_mem_drop hc), by simp only [List.length_drop]; omega⟩
 ·exact ⟨by simp, by simp⟩
theorem docOK_of {p : List Int} (h : docOK p = true) : (docF p).2.2 = true ∧ (docF p).1.2 = false ∧ (docF p).1.1.length = 0 ∧ sealE (encD (docF p).2.1) = p := by
 unfold docOK at h
 simp only [Bool.and_eq_true, decide_eq_true_eq, Bool.not_eq_true'] at h
 exact ⟨h.1, h.2.1.1, h.2.1.2, h.2.2⟩
theorem read_doc {p : List Int} (hp : ∀ x ∈ p, 0 ≤ x ∧ x < 256) (hl : p.length < 140737488355328) :
  (readQ p = none ∧ docOK p = false) ∨ (readQ p = some (docF p).2.1 ∧ docOK p = true) := by
 have hcu := chk_uns hp
 have hxb := docX_bts hp hl
 cases hu : unsOK p with
 | false =>
  left
  have hx0 : docX p = [] := by unfold docX; rw [hu]; rfl
  have hq : docQ p = (0, ([], true)) := by unfold docQ; rw [hx0, hu]; exact numQ_fell rfl
  have hf : docF p = (([], true), [], true) := by unfold docF; rw [hq]; rfl
  refine ⟨?_, by unfold docOK; rw [hf]; rfl⟩
  unfold readQ
  rw [hcu, hu]
  split
  ·rfl
  ·rw [if_neg (by simp)]
 | true =>
  rw [hu] at hcu
  have hx0 : docX p = p.drop 4 := by unfold docX; rw [hu]; rfl
  have hseal : sealE (p.drop 4) = p ∧ 4 ≤ p.length := by
   unfold unsOK at hu
   simp only [Bool.and_eq_true, decide_eq_true_eq] at hu
   exact ⟨hu.2, hu.1⟩
  have hq : docQ p = numQ (p.drop 4, false) := by unfold docQ; rw [hx0, hu]; rfl
  rw [hx0] at hxb
  -- what it is that the number tells, if the document takes it
  have key : docOK p = true → (docQ p).1 = ((docF p).2.1.length : Nat) ∧ (docF p).2.1.length ≤ p.length := by
   intro h
   obtain ⟨_, _, _, h4⟩ := docOK_of h
   obtain ⟨hi, hd, _⟩ := docGo_inv (docQ p).1.toNat (docQ p).2 [] (by rw [hq]; exact numQ_bts hxb) InvD.nil (by intro d hd; cases hd)
   change InvD (docF p).2.1 at hi
   generalize (docF p).2.1 = D at *
   have hI : I64 ((D.length : Nat) : Int) := by have := hi.len; unfold I64; omega
   have h5 : p.drop 4 = encD D := by rw [← h4]; rfl
   refine ⟨?_, ?_⟩
   ·rw [hq, h5]
    unfold encD
    rw [numQ_pN hI]
   ·have h6 := encR_ge D
    have h7 : (p.drop 4).length = (encD D).length := by rw [h5]
    unfold encD at h7
    rw [List.length_append, List.length_drop] at h7
    omega
  have hrd : readQ p = match rdGo (countQ (p.length : Nat) (p.drop 4, false)).1.toNat (countQ (p.length : Nat) (p.drop 4, false)).2 [] with
    | none => none
    | some (s, D) => if s.2 = false ∧ s.1.length = 0 then some D else none := by
   unfold readQ
   rw [hcu]
   simp only [if_true, true_and] <;> (generalize rdGo _ _ [] = o; cases o <;> rfl)
  by_cases hn : (docQ p).1 < 0 ∨ (docQ p).1 > (p.length : Nat)
  ·left
   refine ⟨?_, ?_⟩
   ·rw [hrd]
    unfold countQ
    rw [← hq, if_pos hn]
    rfl
   ·cases h : docOK p with
    | false => rfl
    | true => have := key h; omega
  ·have hc : countQ (p.length : Nat) (p.drop 4, false) = docQ p := by unfold countQ; rw [← hq, if_neg hn]
   rw [hrd, hc]
   have hb1 : Bts (docQ p).2.1 := by rw [hq]; exact numQ_bts hxb
   cases hs : (docQ p).2.2 with
   | true =>
    left
    have h0 : (docQ p).1 = 0 := by
     rw [hq] at hs ⊢
     unfold numQ at hs ⊢
     split
     ·rfl
     ·rename_i h; rw [if_neg h] at hs; cases hs
    have hf : docF p = ((docQ p).2, [], true) := by unfold docF; rw [h0]; rfl
    refine ⟨?_, by unfold docOK; rw [hf, hs]; rfl⟩
    rw [h0]
    show (if (docQ p).2.2 = false ∧ _ then _ else _) = _
    rw [hs, if_neg (by simp)]
   | false =>
    rcases docGo_rel (docQ p).1.toNat (docQ p).2 [] hb1 hs with ⟨h1, h2⟩ | ⟨s', E, h1, h2, h3, h4, h5⟩
    ·left
     rw [h1]
     refine ⟨rfl, ?_⟩
     change (docF p).2.2 = false ∨ (docF p).1.2 = true at h2
     unfold docOK
     rcases h2 with h2 | h2 <;> rw [h2]
     ·rfl
     ·simp
    ·rw [h1]
     rw [List.nil_append] at h2
     change docF p = (s', E, true) at h2
     simp only [List.nil_append, h4, true_and]
     by_cases h6 : s'.1.length = 0
     ·right
      rw [if_pos h6, h2]
      refine ⟨rfl, ?_⟩
      have h7 : s'.1 = [] := List.eq_nil_of_length_eq_zero h6
      have hcan := numQ_can (s := (p.drop 4, false)) hxb.1 (by rw [← hq]; exact hs)
      rw [← hq] at hcan
      have hE : encD E = p.drop 4 := by
       unfold encD
       have h8 : p.drop 4 = pN (docQ p).1 ++ (docQ p).2.1 := hcan.2.1
       have h9 : ((E.length : Nat) : Int) = (docQ p).1 := by omega
       rw [h8, h5, h7, List.append_nil, h9]
      unfold docOK
      rw [h2]
      simp only [h4, h6, hE, hseal.1, decide_true, Bool.not_false, Bool.and_self]
     ·left
      rw [if_neg h6]
      refine ⟨rfl, ?_⟩
      unfold docOK
      rw [h2]
      simp [h6]
theorem set_at0 (N : Heap) (a b c : Box) : (N ++ [a, b]).set N.length c = N ++ [c, b] := by rw [List.set_append_right _ _ (Nat.le_refl _), Nat.sub_self]; rfl
theorem set_at1 (N : Heap) (a b c : Box) : (N ++ [a, b]).set (N.length + 1) c = N ++ [a, c] := by rw [List.set_append_right _ _ (by omega), Nat.add_sub_cancel_left]; rfl
theorem get_at0 (N : Heap) (a b : Box) : (N ++ [a, b])[N.length]? = some a := by simp
theorem get_at1 (N : Heap) (a b : Box) : (N ++ [a, b])[N.length + 1]? = some b := by rw [List.getElem?_append_right (by omega), Nat.add_sub_cancel_left]; rfl
theorem rnum_at (H N : Heap) (s : RSt) (hs : Bts s.1) (f : Fl) (hf : RFl s f) (P : Box) :
  W n_ref1_Reader_Num [.ptr (pt H N.length) 0] (hx H (N ++ [rdF s f, P])) = some (.int .i64 (numQ s).1, hx H (N ++ [rdF (numQ s).2 (nF s f), P])) := by
 rw [rnum_spec s hs f hf (pt H N.length) _ ⟨by rw [hx_get, get_at0]⟩, hx_set, set_at0]
theorem padd_at (H N : Heap) (R : Box) (D : List La) (hn : D.length ≤ 1099511627776) (last : Int) (pf : Fl) (hpf : PF D pf) (d : La) :
  W n_law13_plain_add [.ptr (pt H (N.length + 1)) 0, .agg [.int .i64 d.1, .int .i64 d.2.1, .int .i64 d.2.2]] (hx H (N ++ [R, plB D last pf])) =
   some (.bool (plOK last d), hx H (N ++ [R, if plOK last d = true then plB (D ++ [d]) d.2.2 .own else plB D last pf])) := by
 rw [padd_spec D hn last pf hpf d (pt H (N.length + 1)) _ ⟨by rw [hx_get, get_at1]⟩, hx_set, set_at1]
theorem reads_stop (H N : Heap) (X0 X3 X4 X7 : AVal) (s : RSt) (f : Fl) (P : Box) (n : Int) :
  loopA W loopW (.ghost (.kill k_law13_reads_0) l_law13_reads_0) [(0, X0), (3, X3), (4, X4), (7, .ptr (pt H N.length) 0), (8, X7), (9, .bool false), (10, .int .i64 n)] (hx H (N ++ [rdF s f, P])) =
   some (.exit 0, [(0, X0), (3, X3), (4, X4), (7, .ptr (pt H N.length) 0), (8, X7), (9, .bool false)], hx H (N ++ [rdF s f, P])) := by
 have g0 := get_at0 N (rdF s f) P
 unfold rdF at *
 refine loop_step l_law13_reads_0.eq_1 k_law13_reads_0.eq_1 (by kernel_rfl) ?_
 by_cases c : n > 0
 ·cases hs : s.2 with
  | true => rw [hs] at g0; simp only [go_sem, c, g0, simprocAttr]
  | false => rw [hs] at g0; simp only [go_sem, c, g0, simprocAttr]
 ·simp only [go_sem, c, simprocAttr]
theorem lastM_snoc (D : List La) (d : La) : lastM (D ++ [d]) = d.2.2 := by unfold lastM; simp
set_option maxHeartbeats 1000000 in
theorem reads_loop (H N : Heap) (X0 X3 X4 : AVal) (m : Nat) : ∀ (s : RSt) (D : List La) (f pf : Fl) (n : Int), n.toNat = m → I64 n → Bts s.1 → RFl s f → InvD D → PF D pf →
  ∃ f' pf', loopA W loopW (.ghost (.kill k_law13_reads_0) l_law13_reads_0) [(0, X0), (3, X3), (4, X4), (7, .ptr (pt H N.length) 0), (8, .ptr (pt H (N.length + 1)) 0), (9, .bool true), (10, .int .i64 n)] (hx H (N ++ [rdF s f, plB D (lastM D) pf])) =
   some (.exit 0, [(0, X0), (3, X3), (4, X4), (7, .ptr (pt H N.length) 0), (8, .ptr (pt H (N.length + 1)) 0), (9, .bool (docGo m s D).2.2)], hx H (N ++ [rdF (docGo m s D).1 f', plB (docGo m s D).2.1 (lastM (docGo m s D).2.1) pf'])) ∧
   RFl (docGo m s D).1 f' ∧ PF (docGo m s D).2.1 pf' := by
 induction m with
 | zero =>
  intro s D f pf n hm hn hs hf hi hpf
  refine ⟨f, pf, ?_, hf, hpf⟩
  have c : ¬ n > 0 := by omega
  rw [show docGo 0 s D = (s, D, true) from rfl]
  simp only
  refine loop_step l_law13_reads_0.eq_1 k_law13_reads_0.eq_1 (by kernel_rfl) ?_
  simp only [go_sem, c, simprocAttr]
 | succ m ih =>
  intro s D f pf n hm hn hs hf hi hpf
  have c : n > 0 := by omega
  have g0 := get_at0 N (rdF s f) (plB D (lastM D) pf)
  cases hb : s.2 with
  | true =>
   rw [docGo_fell _ _ _ hb]
   refine ⟨f, pf, ?_, hf, hpf⟩
   simp only
   generalize plB D (lastM D) pf = P at *
   obtain ⟨l, b⟩ := s
   simp only at hb
   subst hb
   unfold rdF at *
   simp only at g0
   refine loop_step l_law13_reads_0.eq_1 k_law13_reads_0.eq_1 (by kernel_rfl) ?_
   simp only [go_sem, c, g0, simprocAttr]
  | false =>
   have w1 : IntKind.i64.wrap (n - 1) = n - 1 := wrap_id (by unfold I64 at *; omega)
   have hdg : docGo (m + 1) s D = if abOK D (dOf s) = true then docGo m (sOf s) (D ++ [dOf s]) else (sOf s, D, false) := by
    have hsf : ¬ s.2 = true := by rw [hb]; decide
    rw [docGo, if_neg hsf]
   rw [hdg]
   have t1 := rnum_at H N s hs f hf (plB D (lastM D) pf)
   have t2 := rnum_at H N (numQ s).2 (numQ_bts hs) _ (nF_ok hf) (plB D (lastM D) pf)
   have t3 := rnum_at H N (numQ (numQ s).2).2 (numQ_bts (numQ_bts hs)) _ (nF_ok (nF_ok hf)) (plB D (lastM D) pf)
   have hf3 := nF_ok (nF_ok (nF_ok hf))
   have t4 := padd_at H N (rdF (sOf s) (nF (numQ (numQ s).2).2 (nF (numQ s).2 (nF s f)))) D hi.len (lastM D) pf hpf (dOf s)
   rw [pl_ab] at t4
   have hsb := bts3 hs
   change RFl (sOf s) _ at hf3
   change W _ _ _ = some (_, hx H (N ++ [rdF (sOf s) (nF (numQ (numQ s).2).2 (nF (numQ s).2 (nF s f))), _])) at t3
   rw [show (dOf s).1 = (numQ s).1 from rfl, show (dOf s).2.1 = (numQ (numQ s).2).1 from rfl, show (dOf s).2.2 = (numQ (numQ (numQ s).2).2).1 from rfl] at t4
   have hd3 : (dOf s).2.2 = (numQ (numQ (numQ s).2).2).1 := rfl
   generalize nF (numQ (numQ s).2).2 (nF (numQ s).2 (nF s f)) = f3 at *
   generalize nF (numQ s).2 (nF s f) = f2 at *
   generalize nF s f = f1 at *
   generalize dOf s = d at *
   generalize sOf s = s3 at *
   generalize (numQ (numQ (numQ s).2).2).1 = x3 at *
   generalize (numQ (numQ s).2).1 = x2 at *
   generalize (numQ (numQ s).2).2 = s2 at *
   generalize (numQ s).1 = x1 at *
   generalize (numQ s).2 = s1 at *
   obtain ⟨l, b⟩ := s
   simp only at hb
   subst hb
   cases ha : abOK D d with
   | false =>
    rw [ha] at t4
    simp only [Bool.false_eq_true, if_false] at t4 ⊢
    refine ⟨f3, pf, ?_, hf3, hpf⟩
    have hstop := reads_stop H N X0 X3 X4 (.ptr (pt H (N.length + 1)) 0) s3 f3 (plB D (lastM D) pf) (n - 1)
    generalize plB D (lastM D) pf = P at *
    generalize rdF s1 f1 = B1 at *
    generalize rdF s2 f2 = B2 at *
    generalize rdF s3 f3 = B3 at *
    unfold rdF at *
    simp only at g0 t1
    refine loop_step l_law13_reads_0.eq_1 k_law13_reads_0.eq_1 (by kernel_rfl) ?_
    simp only [go_sem, c, g0, t1, t2, t3, t4, w1, simprocAttr]
    exact hstop
   | true =>
    rw [ha] at t4
    simp only [if_true] at t4 ⊢
    obtain ⟨f', pf', h1, h2, h3⟩ := ih s3 (D ++ [d]) f3 .own (n - 1) (by omega) (by unfold I64 at *; omega) hsb hf3 (hi.snoc ha) (.inl rfl)
    rw [lastM_snoc, hd3] at h1
    refine ⟨f', pf', ?_, h2, h3⟩
    generalize plB D (lastM D) pf = P at *
    generalize plB (D ++ [d]) x3 .own = P' at *
    generalize plB (docGo m s3 (D ++ [d])).2.1 (lastM (docGo m s3 (D ++ [d])).2.1) pf' = P2 at *
    generalize rdF (docGo m s3 (D ++ [d])).1 f' = B' at *
    generalize rdF s1 f1 = B1 at *
    generalize rdF s2 f2 = B2 at *
    generalize rdF s3 f3 = B3 at *
    unfold rdF at *
    simp only at g0 t1
    refine loop_step l_law13_reads_0.eq_1 k_law13_reads_0.eq_1 (by kernel_rfl) ?_
    simp only [go_sem, c, g0, t1, t2, t3, t4, w1, simprocAttr]
    exact h1
theorem pbytes_at (H N : Heap) (R : Box) (D : List La) (hD : DI D) (hn : D.length ≤ 1099511627776) (last : Int) (pf : Fl) (hpf : PF D pf) :
  W n_law13_plain_bytes [.ptr (pt H (N.length + 1)) 0] (hx H (N ++ [R, plB D last pf])) = some (bytes (sealE (encD D)) .own, hx H (N ++ [R, plB D last pf])) :=
 pbytes_spec D hD hn last pf hpf (pt H (N.length + 1)) _ ⟨by rw [hx_get, get_at1]⟩
theorem rdone_at (H N : Heap) (s : RSt) (f : Fl) (hf : RFl s f) (P : Box) :
  W n_ref1_Reader_Done [.ptr (pt H N.length) 0] (hx H (N ++ [rdF s f, P])) = some (.bool (!s.2 && decide (s.1.length = 0)), hx H (N ++ [rdF s f, P])) :=
 rdone_spec s f hf (pt H N.length) _ ⟨by rw [hx_get, get_at0]⟩
theorem encD_bytesL {D : List La} (h : DI D) (hn : D.length ≤ 1099511627776) : ∀ x ∈ encD D, 0 ≤ x ∧ x < 256 := by
 intro x hx
 unfold encD at hx
 rcases List.mem_append.1 hx with hx | hx
 ·exact pN_bytes (show I64 ((D.length : Nat) : Int) by unfold I64; omega) x hx
 ·exact encR_bytes h x hx
set_option maxHeartbeats 2000000 in
theorem reads_spec (p : List Int) (hp : ∀ x ∈ p, 0 ≤ x ∧ x < 256) (hl : p.length < 140737488355328) (H : Heap) :
  W n_law13_reads [bytes p .ro] H = some (.bool true, H) := by
 have hrd := read_doc hp hl
 have tu := fun H => unseal_spec p hp hl H
 have hxb := docX_bts hp hl
 obtain ⟨f0, u0, hf0, hx0, hff⟩ : ∃ f0 u0, RFl (docX p, !unsOK p) f0 ∧ (if unsOK p = true then bytes (p.drop 4) .own else .list 1 [] .full) = bytes (docX p) u0 ∧ ((u0 = .own ∧ f0 = .ro) ∨ (u0 = .full ∧ f0 = .ro)) := by
  unfold docX
  cases hu : unsOK p with
  | true => exact ⟨.ro, .own, .inl rfl, rfl, .inl ⟨rfl, rfl⟩⟩
  | false => exact ⟨.ro, .full, .inl rfl, rfl, .inr ⟨rfl, rfl⟩⟩
 simp only [hx0] at tu
 have hq : Bts (docQ p).2.1 := numQ_bts (s := (docX p, !unsOK p)) hxb
 have hqi : I64 (docQ p).1 := numQ_i64 (s := (docX p, !unsOK p)) hxb.1
 have hqf : RFl (docQ p).2 (nF (docX p, !unsOK p) f0) := nF_ok hf0
 have hinv := docGo_inv (docQ p).1.toNat (docQ p).2 [] hq InvD.nil (by intro d hd; cases hd)
 change InvD (docF p).2.1 ∧ DI (docF p).2.1 ∧ _ at hinv
 have loop := fun N X3 X4 => reads_loop H N (bytes p .ro) X3 X4 (docQ p).1.toNat (docQ p).2 [] (nF (docX p, !unsOK p) f0) .full (docQ p).1 rfl hqi hq hqf InvD.nil (.inr ⟨rfl, rfl⟩)
 have t1 := fun N P => rnum_at H N (docX p, !unsOK p) hxb f0 hf0 P
 change ∀ N P, W _ _ _ = some (.int .i64 (docQ p).1, hx H (N ++ [rdF (docQ p).2 _, P])) at t1
 have e0 : docGo (docQ p).1.toNat (docQ p).2 [] = docF p := rfl
 simp only [e0] at loop
 have hsb := sealE_bytes (encD_bytesL hinv.2.1 hinv.1.len)
 have tq := toS_beq hsb hp
 have hdk : docOK p = ((docF p).2.2 && ((!(docF p).1.2 && decide ((docF p).1.1.length = 0)) && decide (sealE (encD (docF p).2.1) = p))) := rfl
 rw [← tq] at hdk
 have td := fun N f hf P => rdone_at H N (docF p).1 f hf P
 have tb := fun N R pf hpf => pbytes_at H N R (docF p).2.1 hinv.2.1 hinv.1.len (lastM (docF p).2.1) pf hpf
 have hdl := hinv.1.len
 clear tq hsb hinv hqf hqi hq hxb e0 hf0
 generalize nF (docX p, !unsOK p) f0 = f1 at *
 generalize unsOK p = uo at *
 generalize docX p = x at *
 generalize docF p = F at *
 obtain ⟨s', D', g⟩ := F
 simp only at *
 generalize hS : sealE (encD D') = S at *
 generalize (!s'.2 && decide (s'.1.length = 0)) = dn at *
 obtain ⟨eqb, he⟩ : ∃ b, (toS S == toS p) = b := ⟨_, rfl⟩
 rw [he] at hdk
 have la0 : lastM [] = -1 := rfl
 rw [la0] at loop
 have ap2 : ∀ (N : Heap) (a b : Box), N ++ [a] ++ [b] = N ++ [a, b] := fun N a b => by rw [List.append_assoc]; rfl
 have ln1 : ∀ (N : Heap) (a : Box), (N ++ [a]).length = N.length + 1 := fun N a => by simp
 rcases abread_spec p hp hl (hx H []) with ⟨r1, N, r2⟩ | ⟨D, fl, B, N, r1, r2, r3, r4⟩
 ·rw [hx_hx, List.nil_append] at r2
  have hno : docOK p = false := by
   rcases hrd with h | h
   ·exact h.2
   ·rw [r1] at h; cases h.1
  rw [hno] at hdk
  obtain ⟨f', pf', l1, l2, l3⟩ := loop N .nilp (.int .i64 12)
  have t1' := t1 N (plB [] (-1) .full)
  have td' := td N f' l2 (plB D' (lastM D') pf')
  have tb' := tb N (rdF s' f') pf' l3
  unfold plB rdF at *
  simp only [List.map_nil] at l1 t1'
  refine W_fn rfl rfl ?_
  rcases hff with ⟨rfl, rfl⟩ | ⟨rfl, rfl⟩
  all_goals
   cases g with
   | false => simp only [go_sem, c_law13_reads, r2, tu, ap2, ln1, t1', l1, simprocAttr]
   | true =>
    cases dn with
    | false => simp only [go_sem, c_law13_reads, r2, tu, ap2, ln1, t1', l1, td', simprocAttr]
    | true =>
     cases eqb with
     | false => simp only [go_sem, c_law13_reads, r2, tu, ap2, ln1, t1', l1, td', tb', he, simprocAttr]
     | true => cases hdk
 ·rw [hx_hx, List.nil_append, pt_hx, List.length_nil, Nat.zero_add] at r4
  have hyes : docOK p = true ∧ D = D' := by
   rcases hrd with h | h
   ·rw [r1] at h; cases h.1
   ·rw [r1] at h; exact ⟨h.2, by simpa using h.1⟩
  obtain ⟨hyes, rfl⟩ := hyes
  rw [hyes] at hdk
  obtain ⟨rfl, rfl, rfl⟩ : g = true ∧ dn = true ∧ eqb = true := by
   cases g <;> cases dn <;> cases eqb <;> first | exact ⟨rfl, rfl, rfl⟩ | cases hdk
  have hN1 : (B :: rwB D fl :: N)[1]? = some (rwB D fl) := rfl
  generalize (B :: rwB D fl :: N) = M at *
  have hM : 1 < M.length := (List.getElem?_eq_some_iff.1 hN1).1
  obtain ⟨f', pf', l1, l2, l3⟩ := loop M (.ptr (pt H 1) 0) (.int .i64 0)
  have t1' := t1 M (plB [] (-1) .full)
  have td' := td M f' l2 (plB D (lastM D) pf')
  have tb' := tb M (rdF s' f') pf' l3
  have ta := aball_spec D hdl fl r2 (pt H 1) (hx H (M ++ [rdF s' f', plB D (lastM D) pf'])) ⟨by rw [hx_get, List.getElem?_append_left hM]; exact hN1⟩
  rw [hx_set, List.set_append_left _ _ hM] at ta
  have tx := fun H => dropped_self D hdl H
  have gP : (M.set 1 (rwB D .uniq) ++ [rdF s' f', plB D (lastM D) pf'])[M.length + 1]? = some (plB D (lastM D) pf') := by
   have := get_at1 (M.set 1 (rwB D .uniq)) (rdF s' f') (plB D (lastM D) pf')
   rwa [List.length_set] at this
  generalize M.set 1 (rwB D .uniq) = M' at *
  unfold plB rdF at *
  simp only [List.map_nil] at l1 t1'
  refine W_fn rfl rfl ?_
  rcases hff with ⟨rfl, rfl⟩ | ⟨rfl, rfl⟩ <;> rcases l3 with rfl | ⟨rfl, rfl⟩
  all_goals
   simp only [List.map_nil] at *
   simp only [go_sem, c_law13_reads, r4, tu, ap2, ln1, t1', l1, td', tb', he, ta, gP, tx, simprocAttr]
end Go.Abs
