import Derived.Test.YtdgcjfgfbaeheaaBS5
import Derived.Test.YtdgcjfgfbaeheaaBS2
import Derived.Test.YtdgcjfgfbaeheaaBS4
set_option linter.unusedVariables false
set_option linter.unusedSimpArgs false
namespace Go.Abs
open Go Go.RowKit
abbrev plB (D : List La) (last : Int) (pf : Fl) : Box := .cells [.list 3 (D.map laV) pf, .int .i64 last]
def PF (D : List La) (pf : Fl) : Prop := pf = .own ∨ (pf = .full ∧ D = [])
def plOK (last : Int) (d : La) : Bool := decide (¬ d.1 < 0) && (decide (¬ d.2.1 < 0) && (decide (¬ d.2.2 ≤ d.2.1) && (decide (¬ d.2.2 ≤ last) && decide (¬ d.2.2 > 1099511627776))))
theorem padd_spec (D : List La) (hn : D.length ≤ 1099511627776) (last : Int) (pf : Fl) (hpf : PF D pf) (d : La) (i : Nat) (H : Heap) (hi : Old H i (plB D last pf)) :
  W n_law13_plain_add [.ptr i 0, .agg [.int .i64 d.1, .int .i64 d.2.1, .int .i64 d.2.2]] H = some (.bool (plOK last d), H.set i (if plOK last d = true then plB (D ++ [d]) d.2.2 .own else plB D last pf)) := by
 have gi := hi.get
 have gs := hi.set
 have gi' := hi.get'
 have gs' := hi.set'
 obtain ⟨d1, d2, d3⟩ := d
 have no : plOK last (d1, d2, d3) = false → W n_law13_plain_add [.ptr i 0, .agg [.int .i64 d1, .int .i64 d2, .int .i64 d3]] H = some (.bool false, H) → W n_law13_plain_add [.ptr i 0, .agg [.int .i64 d1, .int .i64 d2, .int .i64 d3]] H = some (.bool (plOK last (d1, d2, d3)), H.set i (if plOK last (d1, d2, d3) = true then plB (D ++ [(d1, d2, d3)]) d3 .own else plB D last pf)) := by
  intro h0 h1
  rw [h0, if_neg (by decide), hi.same]; exact h1
 simp only
 by_cases c1 : d1 < 0
 ·refine no (by simp [plOK, c1]) ?_
  refine W_fn rfl rfl ?_
  simp only [go_sem, c_law13_plain_add, c1, simprocAttr]
 by_cases c2 : d2 < 0
 ·refine no (by simp [plOK, c2]) ?_
  refine W_fn rfl rfl ?_
  simp only [go_sem, c_law13_plain_add, c1, c2, simprocAttr]
 by_cases c3 : d3 ≤ d2
 ·refine no (by simp [plOK, c3]) ?_
  refine W_fn rfl rfl ?_
  simp only [go_sem, c_law13_plain_add, c1, c2, c3, simprocAttr]
 by_cases c4 : d3 ≤ last
 ·refine no (by simp [plOK, c4]) ?_
  refine W_fn rfl rfl ?_
  simp only [go_sem, c_law13_plain_add, c1, c2, c3, c4, gi, simprocAttr]
 by_cases c5 : d3 > 1099511627776
 ·refine no (by simp [plOK, c5]) ?_
  refine W_fn rfl rfl ?_
  simp only [go_sem, c_law13_plain_add, c1, c2, c3, c4, c5, gi, simprocAttr]
 have ok : plOK last (d1, d2, d3) = true := by
  unfold plOK
  simp only [Bool.and_eq_true, decide_eq_true_eq]
  omega
 rw [ok, if_pos rfl]
 have b1 : (0 + D.length) * 24 ≤ maxBytes := by simp only [maxBytes]; omega
 have b2 : (D.length + 1) * 24 ≤ maxBytes := by simp only [maxBytes]; omega
 have e8 : D.map laV ++ [.agg [.int .i64 d1, .int .i64 d2, .int .i64 d3]] = (D ++ [(d1, d2, d3)]).map laV := by simp [laV]
 have u := fun n => under_la n (D ++ [(d1, d2, d3)])
 unfold plB at *
 generalize hR : (D ++ [(d1, d2, d3)]).map laV = R at *
 refine W_fnS rfl rfl ?_
 rcases hpf with rfl | ⟨rfl, rfl⟩
 ·simp only [go_sem, c_law13_plain_add, c1, c2, c3, c4, c5, gi, gs, gi', gs', apF, apO, List.length_nil, List.nil_append, List.length_map, b1, b2, e8, u, simprocAttr]
  first | done | rfl
 ·simp only [List.map_nil, List.nil_append, List.length_nil] at *
  rw [← e8] at u ⊢
  simp only [go_sem, c_law13_plain_add, c1, c2, c3, c4, c5, gi, gs, gi', gs', apF, apO, List.length_nil, List.nil_append, b1, b2, u, simprocAttr]
  first | done | rfl
theorem pbytes_loop (D : List La) (hD : DI D) (hn : D.length ≤ 1099511627776) (f : Fl) (hf : f = .ro ∨ (f = .full ∧ D = [])) (H : Heap) (r : List La) : ∀ (q : List La) (b : List Int) (N : Heap), D = q ++ r → b.length ≤ 10 + 30 * q.length →
  ∃ N', loopA W loopW (.ghost (.kill k_law13_plain_bytes_0) l_law13_plain_bytes_0) [(3, bytes b .own), (15, .list 3 (D.map laV) f), (16, .int .i64 (D.length : Nat)), (17, .int .i64 (q.length : Nat))] (hx H N) =
   some (.exit 0, [(3, bytes (b ++ encR r) .own)], hx H N') := by
 induction r with
 | nil =>
  intro q b N hq hb
  rw [List.append_nil] at hq
  subst hq
  refine ⟨N, ?_⟩
  have h1 : ¬ ((D.length : Int) < (D.length : Int)) := by omega
  rw [show encR [] = [] from rfl, List.append_nil]
  refine loop_step l_law13_plain_bytes_0.eq_1 k_law13_plain_bytes_0.eq_1 (by kernel_rfl) ?_
  simp only [go_sem, h1, simprocAttr]
 | cons d r ih =>
  intro q b N hq hb
  have hf0 : f = .ro := by
   rcases hf with h | ⟨_, h⟩
   ·exact h
   ·rw [hq] at h; simp at h
  subst hf0
  have hlen : D.length = q.length + (r.length + 1) := by rw [hq]; simp
  have h1 : ((q.length : Int) < (D.length : Int)) := by omega
  have e0 : (0 : Int) ≤ (q.length : Int) := by omega
  have e7 : ((q.length : Nat) : Int).toNat = q.length := by omega
  have e1 : (D.map laV)[q.length]? = some (.agg [.int .i64 d.1, .int .i64 d.2.1, .int .i64 d.2.2]) := by rw [hq]; simp [laV]
  have e6 : IntKind.i64.wrap ((q.length : Int) + 1) = ((q.length + 1 : Nat) : Int) := by rw [wrap_id (by unfold I64; omega)]; omega
  have n1 : ∀ x : Box, (N ++ [x])[N.length]? = some x := fun x => by simp
  have n2 : ∀ x z : Box, (N ++ [x]).set N.length z = N ++ [z] := fun x z => by simp
  have hd := hD d (by rw [hq]; simp)
  have l1 := pN_len d.1
  have l2 := pN_len d.2.1
  have l3 := pN_len d.2.2
  have t1 := fun H => ref_put_spec b d.1 H .ro (.inl rfl) hd.1 (by omega)
  have t2 := fun H => ref_put_spec (b ++ pN d.1) d.2.1 H .ro (.inl rfl) hd.2.1 (by rw [List.length_append]; omega)
  have t3 := fun H => ref_put_spec (b ++ pN d.1 ++ pN d.2.1) d.2.2 H .ro (.inl rfl) hd.2.2 (by rw [List.length_append, List.length_append]; omega)
  obtain ⟨N', h2⟩ := ih (q ++ [d]) (b ++ pN d.1 ++ pN d.2.1 ++ pN d.2.2) (N ++ [.cells [.int .i64 d.1, .int .i64 d.2.1, .int .i64 d.2.2]]) (by rw [hq]; simp) (by simp; omega)
  simp only [List.length_append, List.length_cons, List.length_nil, Nat.zero_add] at h2
  refine ⟨N', ?_⟩
  rw [show b ++ encR (d :: r) = b ++ pN d.1 ++ pN d.2.1 ++ pN d.2.2 ++ encR r by simp [encR]]
  generalize b ++ pN d.1 ++ pN d.2.1 ++ pN d.2.2 ++ encR r = R at *
  generalize b ++ pN d.1 ++ pN d.2.1 ++ pN d.2.2 = b3 at *
  generalize b ++ pN d.1 ++ pN d.2.1 = b2 at *
  generalize b ++ pN d.1 = b1 at *
  refine loop_step l_law13_plain_bytes_0.eq_1 k_law13_plain_bytes_0.eq_1 (by kernel_rfl) ?_
  simp only [go_sem, h1, e0, e7, e1, n1, n2, List.length_map, t1, t2, t3, e6, simprocAttr]
  exact h2
theorem pbytes_spec (D : List La) (hD : DI D) (hn : D.length ≤ 1099511627776) (last : Int) (pf : Fl) (hpf : PF D pf) (i : Nat) (H : Heap) (hi : Old H i (plB D last pf)) :
  W n_law13_plain_bytes [.ptr i 0] H = some (bytes (sealE (encD D)) .own, H) := by
 have gi := hi.get
 have hI : I64 ((D.length : Nat) : Int) := by unfold I64; omega
 have t1 : ∀ H, W n_ref1_Put [.list 1 [] .ro, .int .i64 ((D.length : Nat) : Int)] H = some (bytes (pN ((D.length : Nat) : Int)) .own, H) := fun H => ref_put_spec [] ((D.length : Nat) : Int) H .ro (.inl rfl) hI (by simp)
 have hl : (encD D).length ≤ 10 + 30 * D.length := by
  unfold encD
  have := pN_len ((D.length : Nat) : Int)
  have := encR_len D
  rw [List.length_append]; omega
 have hb : ∀ x ∈ encD D, 0 ≤ x ∧ x < 256 := by
  intro x hx
  unfold encD at hx
  rcases List.mem_append.1 hx with hx | hx
  ·exact pN_bytes hI x hx
  ·exact encR_bytes hD x hx
 have t2 := fun H => ref_sealed_spec (encD D) H hb (by omega)
 rw [show le4 (crcN (toN (encD D)) : Nat) ++ encD D = sealE (encD D) from rfl] at t2
 have u : ∀ (n : Nat) (m : List Int), AVal.underL n (ints .u8 m) = true := fun n m => uL_map n (AVal.int .u8) (fun _ => rfl) m
 have hlo : ∀ f, (f = .ro ∨ (f = .full ∧ D = [])) → ∃ N', loopA W loopW (.ghost (.kill k_law13_plain_bytes_0) l_law13_plain_bytes_0) [(3, bytes (pN (D.length : Nat)) .own), (15, .list 3 (D.map laV) f), (16, .int .i64 (D.length : Nat)), (17, .int .i64 0)] (hx H []) = some (.exit 0, [(3, bytes (encD D) .own)], hx H N') := by
  intro f hf
  obtain ⟨N', h⟩ := pbytes_loop D hD hn f hf H D [] (pN (D.length : Nat)) [] rfl (by have := pN_len ((D.length : Nat) : Int); simp; omega)
  exact ⟨N', h⟩
 rcases hpf with rfl | ⟨rfl, rfl⟩
 ·obtain ⟨N, h⟩ := hlo .ro (.inl rfl)
  generalize sealE (encD D) = S at *
  generalize encD D = E at *
  generalize pN ((D.length : Nat) : Int) = P0 at *
  refine W_fn rfl rfl ?_
  simp only [go_sem, c_law13_plain_bytes, gi, List.length_map, t1, h, t2, u, simprocAttr]
  first | done | rfl
 ·obtain ⟨N, h⟩ := hlo .full (.inr ⟨rfl, rfl⟩)
  generalize sealE (encD []) = S at *
  generalize encD [] = E at *
  generalize pN ((([] : List La).length : Nat) : Int) = P0 at *
  simp only [List.map_nil, List.length_nil, Int.natCast_zero] at *
  refine W_fn rfl rfl ?_
  simp only [go_sem, c_law13_plain_bytes, gi, List.length_nil, Int.natCast_zero, t1, h, t2, u, simprocAttr]
  first | done | rfl
theorem bytes_app {l m : List Int} (h : Bytes l) (k : Bytes m) : Bytes (l ++ m) := fun x hx => (List.mem_append.1 hx).elim (h x) (k x)
theorem ref_get_loop (l : List Int) (hb : Bytes l) (hl : l.length < 140737488355328) (H : Heap) (r : List Int) : ∀ (p : List Int) (u : Int), l = p ++ r → (∀ x ∈ p, 128 ≤ x ∧ x < 256) → p.length ≤ 10 → (p.length ≤ 9 → u = Vt.val p) →
  loopA W loopW (.ghost (.kill k_ref1_Get_0) l_ref1_Get_0) [(0, bytes l .ro), (4, .int .u64 u), (5, .int .i64 (p.length : Int))] H =
   some (.ret, [(2, .int .i64 (told (Vt.dec r p.length (Vt.val p))).1), (3, .int .i64 (told (Vt.dec r p.length (Vt.val p))).2)], H) ∨
  (loopA W loopW (.ghost (.kill k_ref1_Get_0) l_ref1_Get_0) [(0, bytes l .ro), (4, .int .u64 u), (5, .int .i64 (p.length : Int))] H = some (.exit 0, [], H) ∧ told (Vt.dec r p.length (Vt.val p)) = (0, 0)) := by
 have e3 : (ints .u8 l).length = l.length := by simp
 induction r with
 | nil =>
  intro p u hp hc h10 hu
  have hlen : l.length = p.length := by rw [hp, List.append_nil]
  right
  refine ⟨loop_step l_ref1_Get_0.eq_1 k_ref1_Get_0.eq_1 (by kernel_rfl) ?_, rfl⟩
  have h1 : ¬ ((p.length : Int) < (l.length : Int)) := by omega
  simp only [go_sem, trim_same, h1, e3, simprocAttr]
 | cons c r ih =>
  intro p u hp hpc h10 hu
  have hlen : l.length = p.length + (r.length + 1) := by rw [hp, List.length_append, List.length_cons]
  have hc := hb c (by rw [hp]; simp)
  have h0 : (p.length : Int) < (l.length : Int) := by omega
  by_cases hi : p.length ≥ 10
  ·right
   rw [Vt.dec, if_pos hi]
   refine ⟨loop_step l_ref1_Get_0.eq_1 k_ref1_Get_0.eq_1 (by kernel_rfl) ?_, rfl⟩
   have h1 : ¬ ((p.length : Int) < 10) := by omega
   simp only [go_sem, trim_same, h0, h1, e3, simprocAttr]
  ·have h1 : (p.length : Int) < 10 := by omega
   have h2 : (0 : Int) ≤ (p.length : Int) := by omega
   have h3 := ints_at (k := .u8) hp rfl
   have e1 := Num.and127_u8 c hc.1 hc.2
   have e2 : IntKind.u64.wrap (c % 128) = c % 128 := by rw [Num.wu64]; omega
   have e4 : IntKind.u64.wrap (IntKind.i64.wrap (7 * (p.length : Int))) = (p.length : Int) * 7 := by rw [wrap_id (by unfold I64; omega), Num.wu64]; omega
   have e4' : (0 : Int) ≤ (p.length : Int) * 7 := by omega
   have e5 := shl7 p.length (by omega) (c % 128)
   have hv0 := Vt.val_nonneg p
   have hv1 := Vt.val_lt p
   have hu' := hu (by omega)
   subst hu'
   have hj := joins p.length (by omega) (Vt.val p) (c % 128) hv0 hv1 (by omega) (by omega)
   have e6 := hj.1
   have e8 : IntKind.i64.wrap ((p.length : Int) + 1) = ((p.length + 1 : Nat) : Int) := by rw [wrap_id (by unfold I64; omega)]; omega
   have hl1 : ((p.length + 1 : Nat) : Int) = (p.length : Int) + 1 := by omega
   by_cases h128 : c < 128
   ·have e128 : c % 128 = c := by omega
    rw [e128] at e6
    have hr : 0 ≤ (Vt.val p + 128 ^ p.length * c) % 18446744073709551616 ∧ (Vt.val p + 128 ^ p.length * c) % 18446744073709551616 < 18446744073709551616 := by omega
    have hz := zag_own' _ hr.1 hr.2
    have hzr : I64 _ := Num.zag_range _ hr
    have hput := ref_put_spec [] _ H .ro (.inl rfl) hzr (by simp)
    rw [List.nil_append, Num.zig_zag _ hr.1] at hput
    change W n_ref1_Put [.list 1 [] .ro, _] H = _ at hput
    have htk : (ints .u8 l).take ((p.length + 1 : Nat) : Int).toNat = ints .u8 (p ++ [c]) := by
     rw [Int.toNat_natCast, ← List.map_take, hp, List.take_append, List.take_of_length_le (by omega), Nat.add_sub_cancel_left]; rfl
    have h5 : (((p.length + 1 : Nat) : Int)) ≤ (l.length : Int) := by omega
    have h6 : (0 : Int) ≤ ((p.length + 1 : Nat) : Int) := by omega
    have hd := Vt.dec_last p c r hpc (by omega) hc.1 h128 _ rfl
    have hbp : Bytes (p ++ [c]) := bytes_app (fun x hx => ⟨by have := hpc x hx; omega, (hpc x hx).2⟩) (fun x hx => by rw [List.mem_singleton] at hx; omega)
    have hbe : Bytes (Vt.enc 9 ((Vt.val p + 128 ^ p.length * c) % 18446744073709551616)) := Vt.enc_bytes 9 _ hr.1 (Int.lt_trans hr.2 (by decide))
    rw [e128] at e1 e2 e5
    left
    by_cases he : Vt.enc 9 ((Vt.val p + 128 ^ p.length * c) % 18446744073709551616) = p ++ [c]
    ·have hq : (toS (Vt.enc 9 ((Vt.val p + 128 ^ p.length * c) % 18446744073709551616)) == toS (p ++ [c])) = true := by rw [he]; simp
     rw [hd.1 he]
     refine loop_step l_ref1_Get_0.eq_1 k_ref1_Get_0.eq_1 (by kernel_rfl) ?_
     simp only [go_sem, trim_same, h0, h1, h2, h3, e1, e2, e3, e4, e4', e5, e6, e8, h128, hz, hput, sl_hi, h5, h6, htk, hq, told, simprocAttr]
    ·have hq : (toS (Vt.enc 9 ((Vt.val p + 128 ^ p.length * c) % 18446744073709551616)) == toS (p ++ [c])) = false := by
      simp only [beq_eq_false_iff_ne]; exact fun h => he (toS_inj hbe hbp h)
     rw [hd.2 he]
     refine loop_step l_ref1_Get_0.eq_1 k_ref1_Get_0.eq_1 (by kernel_rfl) ?_
     simp only [go_sem, trim_same, h0, h1, h2, h3, e1, e2, e3, e4, e4', e5, e6, e8, h128, hz, hput, sl_hi, h5, h6, htk, hq, told, simprocAttr]
   ·have hnx := ih (p ++ [c]) ((Vt.val p + 128 ^ p.length * (c % 128)) % 18446744073709551616) (by rw [hp, List.append_assoc]; rfl) (fun x hx => (List.mem_append.1 hx).elim (hpc x) (fun h => by rw [List.mem_singleton] at h; omega)) (by simp only [List.length_append, List.length_cons, List.length_nil]; omega) (by
     intro h
     rw [List.length_append, List.length_cons, List.length_nil] at h
     have hval : Vt.val (p ++ [c]) = Vt.val p + 128 ^ p.length * (c % 128) := by rw [Vt.val_append]; simp only [Vt.val]; congr 1; congr 1; omega
     rw [hval]
     have := hj.2.1 (by omega)
     have h3 : 0 ≤ 128 ^ p.length * (c % 128) := Int.mul_nonneg (Int.le_of_lt (Vt.pow_pos _)) (by omega)
     omega)
    rw [show (p ++ [c]).length = p.length + 1 by simp] at hnx
    have hval : Vt.val (p ++ [c]) = Vt.val p + 128 ^ p.length * (c % 128) := by rw [Vt.val_append]; simp only [Vt.val]; congr 1; congr 1; omega
    rw [hval] at hnx
    have step : ∀ q, loopA W loopW (.ghost (.kill k_ref1_Get_0) l_ref1_Get_0) [(0, bytes l .ro), (4, .int .u64 ((Vt.val p + 128 ^ p.length * (c % 128)) % 18446744073709551616)), (5, .int .i64 ((p.length + 1 : Nat) : Int))] H = some q →
      loopA W loopW (.ghost (.kill k_ref1_Get_0) l_ref1_Get_0) [(0, bytes l .ro), (4, .int .u64 (Vt.val p)), (5, .int .i64 (p.length : Int))] H = some q := by
     intro q hq
     refine loop_step l_ref1_Get_0.eq_1 k_ref1_Get_0.eq_1 (by kernel_rfl) ?_
     simp only [go_sem, trim_same, h0, h1, h2, h3, e1, e2, e3, e4, e4', e5, e6, e8, h128, simprocAttr]
     exact hq
    rw [Vt.dec, if_neg hi]
    by_cases h9 : p.length = 9 ∧ c % 128 ≥ 2
    ·rw [if_pos h9]
     have hn : Vt.dec r (p.length + 1) (Vt.val p + 128 ^ p.length * (c % 128)) = none := by
      rw [h9.1]
      cases r with
      | nil => rfl
      | cons y r => rw [Vt.dec, if_pos (by decide)]
     rw [hn] at hnx
     rcases hnx with hn | ⟨hn, ht⟩
     ·exact .inl (step _ hn)
     ·exact .inr ⟨step _ hn, rfl⟩
    ·rw [if_neg h9, if_pos (by omega)]
     rcases hnx with hn | ⟨hn, ht⟩
     ·exact .inl (step _ hn)
     ·exact .inr ⟨step _ hn, ht⟩
theorem ref_get_spec (l : List Int) (H : Heap) (hb : Bytes l) (hl : l.length < 140737488355328) : W n_ref1_Get [bytes l .ro] H = some (.tuple [.int .i64 (told (Vt.dec l 0 0)).1, .int .i64 (told (Vt.dec l 0 0)).2], H) := by
 refine W_fn0 rfl rfl ?_
 have e0 : Vt.val [] = 0 := rfl
 rcases ref_get_loop l hb hl H l [] 0 rfl (by simp) (by simp) (fun _ => rfl) with h | ⟨h, ht⟩
 ·simp only [List.length_nil, Int.natCast_zero, e0] at h
  simp only [go_sem, trim_same, c_ref1_Get, h, simprocAttr]
 ·simp only [List.length_nil, Int.natCast_zero, e0] at h ht
  rw [ht]
  simp only [go_sem, trim_same, c_ref1_Get, h, simprocAttr]
abbrev rdF (s : RSt) (f : Fl) : Box := .cells [bytes s.1 f, .bool s.2]
def RFl (s : RSt) (f : Fl) : Prop := f = .ro ∨ f = .own ∨ (f = .full ∧ s.1 = [])
def nF (s : RSt) (f : Fl) : Fl := if s.2 = true ∨ (told (Vt.dec s.1 0 0)).2 = 0 then f else .ro
theorem nF_ok {s f} (h : RFl s f) : RFl (numQ s).2 (nF s f) := by
 unfold nF numQ
 split
 ·exact h
 ·exact .inl rfl
theorem rnum_spec (s : RSt) (hs : Bts s.1) (f : Fl) (hf : RFl s f) (i : Nat) (H : Heap) (hi : Old H i (rdF s f)) :
  W n_ref1_Reader_Num [.ptr i 0] H = some (.int .i64 (numQ s).1, H.set i (rdF (numQ s).2 (nF s f))) := by
 obtain ⟨l, bad⟩ := s
 have gi := hi.get
 have gs := hi.set
 have gi' := hi.get'
 have gs' := hi.set'
 have tg := fun H => ref_get_spec l H hs.1 hs.2
 have tr := told_range7 l
 have u : ∀ (n : Nat) (m : List Int), AVal.underL n (ints .u8 m) = true := fun n m => uL_map n (AVal.int .u8) (fun _ => rfl) m
 have h0 : f = .full → (told (Vt.dec l 0 0)).2 = 0 := by
  intro h
  rcases hf with hf | hf | ⟨_, hf⟩
  ·rw [hf] at h; cases h
  ·rw [hf] at h; cases h
  ·simp only at hf; rw [hf]; rfl
 have hff : f = .ro ∨ f = .own ∨ f = .full := by
  rcases hf with hf | hf | ⟨hf, _⟩
  ·exact .inl hf
  ·exact .inr (.inl hf)
  ·exact .inr (.inr hf)
 clear hf
 unfold numQ nF
 simp only
 generalize told (Vt.dec l 0 0) = T at *
 obtain ⟨v, k⟩ := T
 simp only at tg tr h0 ⊢
 have d1 : (ints .u8 l).drop k.toNat = ints .u8 (l.drop k.toNat) := (List.map_drop ..).symm
 unfold rdF at *
 simp only at gi gs gi' gs' ⊢
 cases bad with
 | true =>
  simp only [true_or, if_true]
  refine W_fnS rfl rfl ?_
  rcases hff with rfl | rfl | rfl
  all_goals
   simp only [go_sem, c_ref1_Reader_Num, gi, gs, gi', gs', tg, u, simprocAttr]
   first | done | rfl
 | false =>
  by_cases c : k = 0
  ·simp only [c, Bool.false_eq_true, or_true, if_true]
   refine W_fnS rfl rfl ?_
   rcases hff with rfl | rfl | rfl
   all_goals
    simp only [go_sem, c_ref1_Reader_Num, gi, gs, gi', gs', tg, eq_true c, u, simprocAttr]
    first | done | rfl
  ·rw [if_neg (by rintro (h | h); cases h; exact c h), if_neg (by rintro (h | h); cases h; exact c h)]
   refine W_fnS rfl rfl ?_
   rcases hff with rfl | rfl | rfl
   ·simp only [go_sem, c_ref1_Reader_Num, gi, gs, gi', gs', tg, c, slL, tr.1, tr.2, List.length_map, d1, u, simprocAttr]
    first | done | rfl
   ·simp only [go_sem, c_ref1_Reader_Num, gi, gs, gi', gs', tg, c, slL, tr.1, tr.2, List.length_map, d1, u, simprocAttr]
    first | done | rfl
   ·exact absurd (h0 rfl) c
theorem rdone_spec (s : RSt) (f : Fl) (hf : RFl s f) (i : Nat) (H : Heap) (hi : Old H i (rdF s f)) : W n_ref1_Reader_Done [.ptr i 0] H = some (.bool (!s.2 && decide (s.1.length = 0)), H) := by
 have gi := hi.get
 have hff : f = .ro ∨ f = .own ∨ f = .full := by
  rcases hf with hf | hf | ⟨hf, _⟩
  ·exact .inl hf
  ·exact .inr (.inl hf)
  ·exact .inr (.inr hf)
 clear hf
 obtain ⟨l, bad⟩ := s
 unfold rdF at gi
 simp only at gi ⊢
 refine W_fn rfl rfl ?_
 cases bad with
 | true =>
  rcases hff with rfl | rfl | rfl
  all_goals simp only [go_sem, c_ref1_Reader_Done, gi, simprocAttr]
 | false =>
  by_cases c : l.length = 0
  ·have c' : (l.length : Int) = 0 := by omega
   rw [decide_eq_true c]
   rcases hff with rfl | rfl | rfl
   all_goals simp only [go_sem, c_ref1_Reader_Done, gi, List.length_map, eq_true c', simprocAttr]
  ·have c' : ¬ (l.length : Int) = 0 := by omega
   rw [decide_eq_false c]
   rcases hff with rfl | rfl | rfl
   all_goals simp only [go_sem, c_ref1_Reader_Done, gi, List.length_map, c', simprocAttr]
def unsOK (p : List Int) : Bool := decide (4 ≤ p.length) && decide (sealE (p.drop 4) = p)
theorem sealE_bytes {x : List Int} (h : ∀ c ∈ x, 0 ≤ c ∧ c < 256) : ∀ c ∈ sealE x, 0 ≤ c ∧ c < 256 := by
 intro c hc
 unfold sealE at hc
 rcases List.mem_append.1 hc with hc | hc
 ·simp only [le4, List.mem_cons, List.not_mem_nil, or_false] at hc
  rcases hc with rfl | rfl | rfl | rfl <;> omega
 ·exact h c hc
theorem toS_beq {x y : List Int} (hx : ∀ c ∈ x, 0 ≤ c ∧ c < 256) (hy : ∀ c ∈ y, 0 ≤ c ∧ c < 256) : (toS x == toS y) = decide (x = y) := by
 by_cases h : x = y
 ·rw [h]; simp
 ·have : ¬ toS x = toS y := fun e => h (toS_inj hx hy e)
  rw [beq_eq_false_iff_ne.2 this, decide_eq_false h]
theorem unseal_spec (p : List Int) (hp : ∀ x ∈ p, 0 ≤ x ∧ x < 256) (hl : p.length < 140737488355328) (H : Heap) :
  W n_ref1_Unseal [bytes p .ro] H = some (.tuple [if unsOK p then bytes (p.drop 4) .own else .list 1 [] .full, .bool (unsOK p)], H) := by
 unfold unsOK
 by_cases c : p.length < 4
 ·have c' : (p.length : Int) < 4 := by omega
  have d : decide (4 ≤ p.length) = false := decide_eq_false (by omega)
  rw [d, Bool.false_and, if_neg (by decide)]
  refine W_fn0 rfl rfl ?_
  simp only [go_sem, trim_same, c_ref1_Unseal, List.length_map, c', simprocAttr]
 ·have c' : ¬ (p.length : Int) < 4 := by omega
  have d : decide (4 ≤ p.length) = true := decide_eq_true (by omega)
  rw [d, Bool.true_and]
  have hb4 : ∀ x ∈ p.drop 4, 0 ≤ x ∧ x < 256 := fun x hx => hp x (List.mem_of_mem_drop hx)
  have e4 : (ints .u8 p).drop 4 = ints .u8 (p.drop 4) := by rw [← List.map_drop]
  have l4 : (4 : Int) ≤ (p.length : Int) := by omega
  have ts := fun H => ref_sealed_spec (p.drop 4) H hb4 (by simp; omega)
  have tq := toS_beq (sealE_bytes hb4) hp
  have lb : (0 + (p.drop 4).length) * 1 ≤ maxBytes := by simp [maxBytes]; omega
  have eS : le4 (crcN (toN (p.drop 4)) : Nat) ++ p.drop 4 = sealE (p.drop 4) := rfl
  rw [eS] at ts
  clear eS
  generalize sealE (p.drop 4) = S at *
  generalize p.drop 4 = y at *
  by_cases e : S = p
  ·rw [decide_eq_true e] at tq
   rw [decide_eq_true e, if_pos rfl]
   refine W_fn0 rfl rfl ?_
   simp only [go_sem, trim_same, c_ref1_Unseal, List.length_map, c', slL, l4, e4, ts, tq, apF, List.length_nil, List.nil_append, lb, simprocAttr]
  ·rw [decide_eq_false e] at tq
   rw [decide_eq_false e, if_neg (by decide)]
   refine W_fn0 rfl rfl ?_
   simp only [go_sem, trim_same, c_ref1_Unseal, List.length_map, c', slL, l4, e4, ts, tq, simprocAttr]
theorem chk_uns {p : List Int} (hp : ∀ x ∈ p, 0 ≤ x ∧ x < 256) : chkOK p = unsOK p := by
 unfold chkOK unsOK
 by_cases c : 4 ≤ p.length
 ·rw [decide_eq_true c, Bool.true_and, Bool.true_and]
  obtain ⟨b0, b1, b2, b3, r, rfl⟩ : ∃ b0 b1 b2 b3 r, p = b0 :: b1 :: b2 :: b3 :: r := by
   match p, c with
   | b0 :: b1 :: b2 :: b3 :: r, _ => exact ⟨b0, b1, b2, b3, r, rfl⟩
  have h0 := hp b0 (by simp)
  have h1 := hp b1 (by simp)
  have h2 := hp b2 (by simp)
  have h3 := hp b3 (by simp)
  have hlt := crcN_lt (toN r) (toN_byte7 fun x hx => hp x (by simp [hx]))
  show decide (((crcN (toN r) : Nat) : Int) = sum4 (b0 :: b1 :: b2 :: b3 :: r)) = decide (sealE r = b0 :: b1 :: b2 :: b3 :: r)
  rw [decide_eq_decide]
  have e0 : (b0 :: b1 :: b2 :: b3 :: r).getD 0 0 = b0 := rfl
  have e1 : (b0 :: b1 :: b2 :: b3 :: r).getD 1 0 = b1 := rfl
  have e2 : (b0 :: b1 :: b2 :: b3 :: r).getD 2 0 = b2 := rfl
  have e3 : (b0 :: b1 :: b2 :: b3 :: r).getD 3 0 = b3 := rfl
  unfold sum4
  rw [e0, e1, e2, e3]
  unfold sealE le4
  generalize crcN (toN r) = n at *
  simp only [List.cons_append, List.nil_append, List.cons.injEq, and_true]
  omega
 ·rw [decide_eq_false c, Bool.false_and, Bool.false_and]
theorem dec_can : ∀ (r pre : List Int), (∀ x ∈ pre, 128 ≤ x ∧ x < 256) → (∀ x ∈ r, 0 ≤ x ∧ x < 256) → pre.length ≤ 10 → ∀ u n, Vt.dec r pre.length (Vt.val pre) = some (u, n) →
  ∃ s rest, r = s ++ rest ∧ Vt.enc 9 u = pre ++ s ∧ n = pre.length + s.length ∧ 0 ≤ u ∧ u < 18446744073709551616
 | [], pre, _, _, _, u, n, h => by cases h
 | c :: r, pre, hp, hr, hl, u, n, h => by
  have hc := hr c List.mem_cons_self
  by_cases h10 : pre.length ≥ 10
  ·rw [Vt.dec, if_pos h10] at h; cases h
  by_cases h128 : c < 128
  ·obtain ⟨g1, g2⟩ := Vt.dec_last pre c r hp (by omega) hc.1 h128 _ rfl
   by_cases he : Vt.enc 9 ((Vt.val pre + 128 ^ pre.length * c) % 18446744073709551616) = pre ++ [c]
   ·rw [g1 he] at h
    simp only [Option.some.injEq, Prod.mk.injEq] at h
    obtain ⟨rfl, rfl⟩ := h
    exact ⟨[c], r, rfl, he, rfl, by omega, by omega⟩
   ·rw [g2 he] at h; cases h
  ·rw [Vt.dec, if_neg h10] at h
   split at h
   ·cases h
   rw [if_pos (by omega)] at h
   have hval : Vt.val (pre ++ [c]) = Vt.val pre + 128 ^ pre.length * (c % 128) := by rw [Vt.val_append]; simp only [Vt.val]; congr 1; congr 1; omega
   have hln : (pre ++ [c]).length = pre.length + 1 := by simp
   rw [← hval, ← hln] at h
   obtain ⟨s, rest, h1, h2, h3, h4⟩ := dec_can r (pre ++ [c]) (fun x hx => (List.mem_append.1 hx).elim (hp x) (fun h => by rw [List.mem_singleton] at h; omega)) (fun x hx => hr x (List.mem_cons_of_mem _ hx)) (by omega) u n h
   refine ⟨c :: s, rest, by rw [h1]; rfl, by rw [h2, List.append_assoc]; rfl, ?_, h4⟩
   rw [h3, hln]; simp only [List.length_cons]; omega
theorem numQ_fell {s : RSt} (h : s.2 = true) : numQ s = (0, (s.1, true)) := by unfold numQ; rw [if_pos (.inl h)]
theorem numQ_can {s : RSt} (hb : ∀ x ∈ s.1, 0 ≤ x ∧ x < 256) (h : (numQ s).2.2 = false) : s.2 = false ∧ s.1 = pN (numQ s).1 ++ (numQ s).2.1 ∧ I64 (numQ s).1 := by
 unfold numQ at h ⊢
 split at h
 ·cases h
 ·rename_i hn
  rw [if_neg hn]
  have h2 : s.2 = false := by
   cases hs : s.2 with
   | false => rfl
   | true => exact absurd (.inl hs) hn
  have hk : (told (Vt.dec s.1 0 0)).2 ≠ 0 := fun hk => hn (.inr hk)
  cases hd : Vt.dec s.1 0 0 with
  | none => rw [hd] at hk; exact absurd rfl hk
  | some x =>
   obtain ⟨u, n⟩ := x
   obtain ⟨e, rest, h3, h4, h5, h6, h7⟩ := dec_can s.1 [] (by simp) hb (by decide) u n hd
   simp only [told, List.nil_append, List.length_nil, Nat.zero_add] at h4 h5 ⊢
   have h8 := Num.zag_range u ⟨h6, h7⟩
   refine ⟨h2, ?_, h8⟩
   unfold pN
   rw [Num.zig_zag u h6, h4, h5, h3]
   simp
theorem numQ_i64 {s : RSt} (hb : ∀ x ∈ s.1, 0 ≤ x ∧ x < 256) : I64 (numQ s).1 := by
 cases h : (numQ s).2.2 with
 | false => exact (numQ_can hb h).2.2
 | true =>
  unfold numQ at h ⊢
  split
  ·show I64 0
   exact i64_c (by decide) (by decide)
  ·rename_i hn; rw [if_neg hn] at h; cases h
def lastM (D : List La) : Int := match D.getLast? with | some q => q.2.2 | none => -1
theorem pl_ab (D : List La) (d : La) : plOK (lastM D) d = abOK D d := by
 rw [Bool.eq_iff_iff]
 unfold plOK abOK lastM
 cases D.getLast? with
 | none =>
  simp only [Bool.and_eq_true, decide_eq_true_eq]
  constructor
  ·rintro ⟨h1, h2, h3, h4, h5⟩
   exact ⟨h1, h2, h3, h5, trivial⟩
  ·rintro ⟨h1, h2, h3, h4, _⟩
   exact ⟨h1, h2, h3, by omega, h4⟩
 | some q =>
  simp only [Bool.and_eq_true, decide_eq_true_eq]
  constructor
  ·rintro ⟨h1, h2, h3, h4, h5⟩
   exact ⟨h1, h2, h3, h5, h4⟩
  ·rintro ⟨h1, h2, h3, h4, h5⟩
   exact ⟨h1, h2, h3, h5, h4⟩
def dOf (s : RSt) : La := ((numQ s).1, (numQ (numQ s).2).1, (numQ (numQ (numQ s).2).2).1)
def sOf (s : RSt) : RSt := (numQ (numQ (numQ s).2).2).2
def docGo : Nat → RSt → List La → RSt × List La × Bool
 | 0, s, D => (s, D, true)
 | k + 1, s, D => if s.2 = true then (s, D, true) else if abOK D (dOf s) = true then docGo k (sOf s) (D ++ [dOf s]) else (sOf s, D, false)
theorem rdGo_succ (k : Nat) (s : RSt) (D : List La) : rdGo (k + 1) s D = if (sOf s).2 = true ∨ abOK D (dOf s) = false then none else rdGo k (sOf s) (D ++ [dOf s]) := rfl
theorem docGo_fell (k : Nat) (s : RSt) (D : List La) (h : s.2 = true) : docGo k s D = (s, D, true) := by
 cases k with
 | zero => rfl
 | succ k => unfold docGo; rw [if_pos h]
theorem bts3 {s : RSt} (h : Bts s.1) : Bts (sOf s).1 := numQ_bts (numQ_bts (numQ_bts h))
theorem dOf_i64 {s : RSt} (h : Bts s.1) : I64 (dOf s).1 ∧ I64 (dOf s).2.1 ∧ I64 (dOf s).2.2 := ⟨numQ_i64 h.1, numQ_i64 (numQ_bts h).1, numQ_i64 (numQ_bts (numQ_bts h)).1⟩
theorem dOf_can {s : RSt} (h : Bts s.1) (hf : (sOf s).2 = false) : s.1 = encR [dOf s] ++ (sOf s).1 := by
 have h3 := numQ_can (numQ_bts (numQ_bts h)).1 hf
 have h2 := numQ_can (numQ_bts h).1 h3.1
 have h1 := numQ_can h.1 h2.1
 show s.1 = (pN (numQ s).1 ++ (pN (numQ (numQ s).2).1 ++ pN (numQ (numQ (numQ s).2).2).1)) ++ [] ++ (sOf s).1
 rw [List.append_nil, List.append_assoc, List.append_assoc]
 rw [show (sOf s).1 = (numQ (numQ (numQ s).2).2).2.1 from rfl, ← h3.2.1, ← h2.2.1]
 exact h1.2.1
theorem encR_app (A B : List La) : encR (A ++ B) = encR A ++ encR B := by unfold encR; rw [List.flatMap_append]
theorem docGo_rel : ∀ (k : Nat) (s : RSt) (D : List La), Bts s.1 → s.2 = false →
  (rdGo k s D = none ∧ ((docGo k s D).2.2 = false ∨ (docGo k s D).1.2 = true)) ∨
  (∃ s' E, rdGo k s D = some (s', D ++ E) ∧ docGo k s D = (s', D ++ E, true) ∧ E.length = k ∧ s'.2 = false ∧ s.1 = encR E ++ s'.1)
 | 0, s, D, _, hs => .inr ⟨s, [], by rw [List.append_nil]; rfl, by rw [List.append_nil]; rfl, rfl, hs, rfl⟩
 | k + 1, s, D, hb, hs => by
  rw [rdGo_succ]
  unfold docGo
  have hsf : ¬ s.2 = true := by rw [hs]; decide
  rw [if_neg hsf]
  cases hf : (sOf s).2 with
  | true =>
   rw [if_pos (.inl rfl)]
   refine .inl ⟨rfl, ?_⟩
   split
   ·right; rw [docGo_fell _ _ _ hf]; exact hf
   ·left; rfl
  | false =>
   cases ha : abOK D (dOf s) with
   | false =>
    rw [if_pos (.inr rfl)]
    exact .inl ⟨rfl, .inl rfl⟩
   | true =>
    rw [if_neg (by simp), if_pos rfl]
    have hc := dOf_can hb hf
    rcases docGo_rel k (sOf s) (D ++ [dOf s]) (bts3 hb) hf with h | ⟨s', E, h1, h2, h3, h4, h5⟩
    ·exact .inl h
    ·refine .inr ⟨s', dOf s :: E, ?_, ?_, by simp [h3], h4, ?_⟩
     ·rw [h1, List.append_assoc]; rfl
     ·rw [h2, List.append_assoc]; rfl
     ·rw [hc, h5, ← List.append_assoc, ← encR_app]; rfl
theorem docGo_inv : ∀ (k : Nat) (s : RSt) (D : List La), Bts s.1 → InvD D → DI D → InvD (docGo k s D).2.1 ∧ DI (docGo k s D).2.1 ∧ Bts (docGo k s D).1.1
 | 0, s, D, hb, h1, h2 => ⟨h1, h2, hb⟩
 | k + 1, s, D, hb, h1, h2 => by
  unfold docGo
  split
  ·exact ⟨h1, h2, hb⟩
  ·split
   ·rename_i ha
    exact docGo_inv k (sOf s) _ (bts3 hb) (h1.snoc ha) (fun d hd => by
     rw [List.mem_append, List.mem_singleton] at hd
     rcases hd with hd | rfl
     ·exact h2 d hd
     ·exact dOf_i64 hb)
   ·exact ⟨h1, h2, bts3 hb⟩
def docX (p : List Int) : List Int := if unsOK p then p.drop 4 else []
def docQ (p : List Int) : Int × RSt := numQ (docX p, !unsOK p)
def docF (p : List Int) : RSt × List La × Bool := docGo (docQ p).1.toNat (docQ p).2 []
def docOK (p : List Int) : Bool := (docF p).2.2 && ((!(docF p).1.2 && decide ((docF p).1.1.length = 0)) && decide (sealE (encD (docF p).2.1) = p))
theorem docX_bts {p : List Int} (hp : ∀ x ∈ p, 0 ≤ x ∧ x < 256) (hl : p.length < 140737488355328) : Bts (docX p) := by
 unfold docX
 split
 ·exact ⟨fun c hc => hp c (List.mem_of_mem_drop hc), by simp only [List.length_drop]; omega⟩
 ·exact ⟨by simp, by simp⟩
theorem docOK_of {p : List Int} (h : docOK p = true) : (docF p).2.2 = true ∧ (docF p).1.2 = false ∧ (docF p).1.1.length = 0 ∧ sealE (encD (docF p).2.1) = p := by
 unfold docOK at h
 simp only [Bool.and_eq_true, decide_eq_true_eq, Bool.not_eq_true'] at h
 exact ⟨h.1, h.2.1.1, h.2.1.2, h.2.2⟩
theorem read_doc {p : List Int} (hp : ∀ x ∈ p, 0 ≤ x ∧ x < 256) (hl : p.length < 140737488355328) :
  (readQ p = none ∧ docOK p = false) ∨ (readQ p = some (docF p).2.1 ∧ docOK p = true) := by
 have hcu := chk_uns hp
 have hxb := docX_bts hp hl
 cases hu : unsOK p with
 | false =>
  left
  have hx0 : docX p = [] := by unfold docX; rw [hu]; rfl
  have hq : docQ p = (0, ([], true)) := by unfold docQ; rw [hx0, hu]; exact numQ_fell rfl
  have hf : docF p = (([], true), [], true) := by unfold docF; rw [hq]; rfl
  refine ⟨?_, by unfold docOK; rw [hf]; rfl⟩
  unfold readQ
  rw [hcu, hu]
  split
  ·rfl
  ·rw [if_neg (by simp)]
 | true =>
  rw [hu] at hcu
  have hx0 : docX p = p.drop 4 := by unfold docX; rw [hu]; rfl
  have hseal : sealE (p.drop 4) = p ∧ 4 ≤ p.length := by
   unfold unsOK at hu
   simp only [Bool.and_eq_true, decide_eq_true_eq] at hu
   exact ⟨hu.2, hu.1⟩
  have hq : docQ p = numQ (p.drop 4, false) := by unfold docQ; rw [hx0, hu]; rfl
  rw [hx0] at hxb
  -- what it is that the number tells, if the document takes it
  have key : docOK p = true → (docQ p).1 = ((docF p).2.1.length : Nat) ∧ (docF p).2.1.length ≤ p.length := by
   intro h
   obtain ⟨_, _, _, h4⟩ := docOK_of h
   obtain ⟨hi, hd, _⟩ := docGo_inv (docQ p).1.toNat (docQ p).2 [] (by rw [hq]; exact numQ_bts hxb) InvD.nil (by intro d hd; cases hd)
   change InvD (docF p).2.1 at hi
   generalize (docF p).2.1 = D at *
   have hI : I64 ((D.length : Nat) : Int) := by have := hi.len; unfold I64; omega
   have h5 : p.drop 4 = encD D := by rw [← h4]; rfl
   refine ⟨?_, ?_⟩
   ·rw [hq, h5]
    unfold encD
    rw [numQ_pN hI]
   ·have h6 := encR_ge D
    have h7 : (p.drop 4).length = (encD D).length := by rw [h5]
    unfold encD at h7
    rw [List.length_append, List.length_drop] at h7
    omega
  have hrd : readQ p = match rdGo (countQ (p.length : Nat) (p.drop 4, false)).1.toNat (countQ (p.length : Nat) (p.drop 4, false)).2 [] with
    | none => none
    | some (s, D) => if s.2 = false ∧ s.1.length = 0 then some D else none := by
   unfold readQ
   rw [hcu]
   simp only [if_true, true_and] <;> (generalize rdGo _ _ [] = o; cases o <;> rfl)
  by_cases hn : (docQ p).1 < 0 ∨ (docQ p).1 > (p.length : Nat)
  ·left
   refine ⟨?_, ?_⟩
   ·rw [hrd]
    unfold countQ
    rw [← hq, if_pos hn]
    rfl
   ·cases h : docOK p with
    | false => rfl
    | true => have := key h; omega
  ·have hc : countQ (p.length : Nat) (p.drop 4, false) = docQ p := by unfold countQ; rw [← hq, if_neg hn]
   rw [hrd, hc]
   have hb1 : Bts (docQ p).2.1 := by rw [hq]; exact numQ_bts hxb
   cases hs : (docQ p).2.2 with
   | true =>
    left
    have h0 : (docQ p).1 = 0 := by
     rw [hq] at hs ⊢
     unfold numQ at hs ⊢
     split
     ·rfl
     ·rename_i h; rw [if_neg h] at hs; cases hs
    have hf : docF p = ((docQ p).2, [], true) := by unfold docF; rw [h0]; rfl
    refine ⟨?_, by unfold docOK; rw [hf, hs]; rfl⟩
    rw [h0]
    show (if (docQ p).2.2 = false ∧ _ then _ else _) = _
    rw [hs, if_neg (by simp)]
   | false =>
    rcases docGo_rel (docQ p).1.toNat (docQ p).2 [] hb1 hs with ⟨h1, h2⟩ | ⟨s', E, h1, h2, h3, h4, h5⟩
    ·left
     rw [h1]
     refine ⟨rfl, ?_⟩
     change (docF p).2.2 = false ∨ (docF p).1.2 = true at h2
     unfold docOK
     rcases h2 with h2 | h2 <;> rw [h2]
     ·rfl
     ·simp
    ·rw [h1]
     rw [List.nil_append] at h2
     change docF p = (s', E, true) at h2
     simp only [List.nil_append, h4, true_and]
     by_cases h6 : s'.1.length = 0
     ·right
      rw [if_pos h6, h2]
      refine ⟨rfl, ?_⟩
      have h7 : s'.1 = [] := List.eq_nil_of_length_eq_zero h6
      have hcan := numQ_can (s := (p.drop 4, false)) hxb.1 (by rw [← hq]; exact hs)
      rw [← hq] at hcan
      have hE : encD E = p.drop 4 := by
       unfold encD
       have h8 : p.drop 4 = pN (docQ p).1 ++ (docQ p).2.1 := hcan.2.1
       have h9 : ((E.length : Nat) : Int) = (docQ p).1 := by omega
       rw [h8, h5, h7, List.append_nil, h9]
      unfold docOK
      rw [h2]
      simp only [h4, h6, hE, hseal.1, decide_true, Bool.not_false, Bool.and_self]
     ·left
      rw [if_neg h6]
      refine ⟨rfl, ?_⟩
      unfold docOK
      rw [h2]
      simp [h6]
theorem set_at0 (N : Heap) (a b c : Box) : (N ++ [a, b]).set N.length c = N ++ [c, b] := by rw [List.set_append_right _ _ (Nat.le_refl _), Nat.sub_self]; rfl
theorem set_at1 (N : Heap) (a b c : Box) : (N ++ [a, b]).set (N.length + 1) c = N ++ [a, c] := by rw [List.set_append_right _ _ (by omega), Nat.add_sub_cancel_left]; rfl
theorem get_at0 (N : Heap) (a b : Box) : (N ++ [a, b])[N.length]? = some a := by simp
theorem get_at1 (N : Heap) (a b : Box) : (N ++ [a, b])[N.length + 1]? = some b := by rw [List.getElem?_append_right (by omega), Nat.add_sub_cancel_left]; rfl
theorem rnum_at (H N : Heap) (s : RSt) (hs : Bts s.1) (f : Fl) (hf : RFl s f) (P : Box) :
  W n_ref1_Reader_Num [.ptr (pt H N.length) 0] (hx H (N ++ [rdF s f, P])) = some (.int .i64 (numQ s).1, hx H (N ++ [rdF (numQ s).2 (nF s f), P])) := by
 rw [rnum_spec s hs f hf (pt H N.length) _ ⟨by rw [hx_get, get_at0]⟩, hx_set, set_at0]
theorem padd_at (H N : Heap) (R : Box) (D : List La) (hn : D.length ≤ 1099511627776) (last : Int) (pf : Fl) (hpf : PF D pf) (d : La) :
  W n_law13_plain_add [.ptr (pt H (N.length + 1)) 0, .agg [.int .i64 d.1, .int .i64 d.2.1, .int .i64 d.2.2]] (hx H (N ++ [R, plB D last pf])) =
   some (.bool (plOK last d), hx H (N ++ [R, if plOK last d = true then plB (D ++ [d]) d.2.2 .own else plB D last pf])) := by
 rw [padd_spec D hn last pf hpf d (pt H (N.length + 1)) _ ⟨by rw [hx_get, get_at1]⟩, hx_set, set_at1]
theorem reads_stop (H N : Heap) (X0 X3 X4 X7 : AVal) (s : RSt) (f : Fl) (P : Box) (n : Int) :
  loopA W loopW (.ghost (.kill k_law13_reads_0) l_law13_reads_0) [(0, X0), (3, X3), (4, X4), (7, .ptr (pt H N.length) 0), (8, X7), (9, .bool false), (10, .int .i64 n)] (hx H (N ++ [rdF s f, P])) =
   some (.exit 0, [(0, X0), (3, X3), (4, X4), (7, .ptr (pt H N.length) 0), (8, X7), (9, .bool false)], hx H (N ++ [rdF s f, P])) := by
 have g0 := get_at0 N (rdF s f) P
 unfold rdF at *
 refine loop_step l_law13_reads_0.eq_1 k_law13_reads_0.eq_1 (by kernel_rfl) ?_
 by_cases c : n > 0
 ·cases hs : s.2 with
  | true => rw [hs] at g0; simp only [go_sem, c, g0, simprocAttr]
  | false => rw [hs] at g0; simp only [go_sem, c, g0, simprocAttr]
 ·simp only [go_sem, c, simprocAttr]
theorem lastM_snoc (D : List La) (d : La) : lastM (D ++ [d]) = d.2.2 := by unfold lastM; simp
set_option maxHeartbeats 1000000 in
theorem reads_loop (H N : Heap) (X0 X3 X4 : AVal) (m : Nat) : ∀ (s : RSt) (D : List La) (f pf : Fl) (n : Int), n.toNat = m → I64 n → Bts s.1 → RFl s f → InvD D → PF D pf →
  ∃ f' pf', loopA W loopW (.ghost (.kill k_law13_reads_0) l_law13_reads_0) [(0, X0), (3, X3), (4, X4), (7, .ptr (pt H N.length) 0), (8, .ptr (pt H (N.length + 1)) 0), (9, .bool true), (10, .int .i64 n)] (hx H (N ++ [rdF s f, plB D (lastM D) pf])) =
   some (.exit 0, [(0, X0), (3, X3), (4, X4), (7, .ptr (pt H N.length) 0), (8, .ptr (pt H (N.length + 1)) 0), (9, .bool (docGo m s D).2.2)], hx H (N ++ [rdF (docGo m s D).1 f', plB (docGo m s D).2.1 (lastM (docGo m s D).2.1) pf'])) ∧
   RFl (docGo m s D).1 f' ∧ PF (docGo m s D).2.1 pf' := by
 induction m with
 | zero =>
  intro s D f pf n hm hn hs hf hi hpf
  refine ⟨f, pf, ?_, hf, hpf⟩
  have c : ¬ n > 0 := by omega
  rw [show docGo 0 s D = (s, D, true) from rfl]
  simp only
  refine loop_step l_law13_reads_0.eq_1 k_law13_reads_0.eq_1 (by kernel_rfl) ?_
  simp only [go_sem, c, simprocAttr]
 | succ m ih =>
  intro s D f pf n hm hn hs hf hi hpf
  have c : n > 0 := by omega
  have g0 := get_at0 N (rdF s f) (plB D (lastM D) pf)
  cases hb : s.2 with
  | true =>
   rw [docGo_fell _ _ _ hb]
   refine ⟨f, pf, ?_, hf, hpf⟩
   simp only
   generalize plB D (lastM D) pf = P at *
   obtain ⟨l, b⟩ := s
   simp only at hb
   subst hb
   unfold rdF at *
   simp only at g0
   refine loop_step l_law13_reads_0.eq_1 k_law13_reads_0.eq_1 (by kernel_rfl) ?_
   simp only [go_sem, c, g0, simprocAttr]
  | false =>
   have w1 : IntKind.i64.wrap (n - 1) = n - 1 := wrap_id (by unfold I64 at *; omega)
   have hdg : docGo (m + 1) s D = if abOK D (dOf s) = true then docGo m (sOf s) (D ++ [dOf s]) else (sOf s, D, false) := by
    have hsf : ¬ s.2 = true := by rw [hb]; decide
    rw [docGo, if_neg hsf]
   rw [hdg]
   have t1 := rnum_at H N s hs f hf (plB D (lastM D) pf)
   have t2 := rnum_at H N (numQ s).2 (numQ_bts hs) _ (nF_ok hf) (plB D (lastM D) pf)
   have t3 := rnum_at H N (numQ (numQ s).2).2 (numQ_bts (numQ_bts hs)) _ (nF_ok (nF_ok hf)) (plB D (lastM D) pf)
   have hf3 := nF_ok (nF_ok (nF_ok hf))
   have t4 := padd_at H N (rdF (sOf s) (nF (numQ (numQ s).2).2 (nF (numQ s).2 (nF s f)))) D hi.len (lastM D) pf hpf (dOf s)
   rw [pl_ab] at t4
   have hsb := bts3 hs
   change RFl (sOf s) _ at hf3
   change W _ _ _ = some (_, hx H (N ++ [rdF (sOf s) (nF (numQ (numQ s).2).2 (nF (numQ s).2 (nF s f))), _])) at t3
   rw [show (dOf s).1 = (numQ s).1 from rfl, show (dOf s).2.1 = (numQ (numQ s).2).1 from rfl, show (dOf s).2.2 = (numQ (numQ (numQ s).2).2).1 from rfl] at t4
   have hd3 : (dOf s).2.2 = (numQ (numQ (numQ s).2).2).1 := rfl
   generalize nF (numQ (numQ s).2).2 (nF (numQ s).2 (nF s f)) = f3 at *
   generalize nF (numQ s).2 (nF s f) = f2 at *
   generalize nF s f = f1 at *
   generalize dOf s = d at *
   generalize sOf s = s3 at *
   generalize (numQ (numQ (numQ s).2).2).1 = x3 at *
   generalize (numQ (numQ s).2).1 = x2 at *
   generalize (numQ (numQ s).2).2 = s2 at *
   generalize (numQ s).1 = x1 at *
   generalize (numQ s).2 = s1 at *
   obtain ⟨l, b⟩ := s
   simp only at hb
   subst hb
   cases ha : abOK D d with
   | false =>
    rw [ha] at t4
    simp only [Bool.false_eq_true, if_false] at t4 ⊢
    refine ⟨f3, pf, ?_, hf3, hpf⟩
    have hstop := reads_stop H N X0 X3 X4 (.ptr (pt H (N.length + 1)) 0) s3 f3 (plB D (lastM D) pf) (n - 1)
    generalize plB D (lastM D) pf = P at *
    generalize rdF s1 f1 = B1 at *
    generalize rdF s2 f2 = B2 at *
    generalize rdF s3 f3 = B3 at *
    unfold rdF at *
    simp only at g0 t1
    refine loop_step l_law13_reads_0.eq_1 k_law13_reads_0.eq_1 (by kernel_rfl) ?_
    simp only [go_sem, c, g0, t1, t2, t3, t4, w1, simprocAttr]
    exact hstop
   | true =>
    rw [ha] at t4
    simp only [if_true] at t4 ⊢
    obtain ⟨f', pf', h1, h2, h3⟩ := ih s3 (D ++ [d]) f3 .own (n - 1) (by omega) (by unfold I64 at *; omega) hsb hf3 (hi.snoc ha) (.inl rfl)
    rw [lastM_snoc, hd3] at h1
    refine ⟨f', pf', ?_, h2, h3⟩
    generalize plB D (lastM D) pf = P at *
    generalize plB (D ++ [d]) x3 .own = P' at *
    generalize plB (docGo m s3 (D ++ [d])).2.1 (lastM (docGo m s3 (D ++ [d])).2.1) pf' = P2 at *
    generalize rdF (docGo m s3 (D ++ [d])).1 f' = B' at *
    generalize rdF s1 f1 = B1 at *
    generalize rdF s2 f2 = B2 at *
    generalize rdF s3 f3 = B3 at *
    unfold rdF at *
    simp only at g0 t1
    refine loop_step l_law13_reads_0.eq_1 k_law13_reads_0.eq_1 (by kernel_rfl) ?_
    simp only [go_sem, c, g0, t1, t2, t3, t4, w1, simprocAttr]
    exact h1
theorem pbytes_at (H N : Heap) (R : Box) (D : List La) (hD : DI D) (hn : D.length ≤ 1099511627776) (last : Int) (pf : Fl) (hpf : PF D pf) :
  W n_law13_plain_bytes [.ptr (pt H (N.length + 1)) 0] (hx H (N ++ [R, plB D last pf])) = some (bytes (sealE (encD D)) .own, hx H (N ++ [R, plB D last pf])) :=
 pbytes_spec D hD hn last pf hpf (pt H (N.length + 1)) _ ⟨by rw [hx_get, get_at1]⟩
theorem rdone_at (H N : Heap) (s : RSt) (f : Fl) (hf : RFl s f) (P : Box) :
  W n_ref1_Reader_Done [.ptr (pt H N.length) 0] (hx H (N ++ [rdF s f, P])) = some (.bool (!s.2 && decide (s.1.length = 0)), hx H (N ++ [rdF s f, P])) :=
 rdone_spec s f hf (pt H N.length) _ ⟨by rw [hx_get, get_at0]⟩
theorem encD_bytesL {D : List La} (h : DI D) (hn : D.length ≤ 1099511627776) : ∀ x ∈ encD D, 0 ≤ x ∧ x < 256 := by
 intro x hx
 unfold encD at hx
 rcases List.mem_append.1 hx with hx | hx
 ·exact pN_bytes (show I64 ((D.length : Nat) : Int) by unfold I64; omega) x hx
 ·exact encR_bytes h x hx
set_option maxHeartbeats 2000000 in
theorem reads_spec (p : List Int) (hp : ∀ x ∈ p, 0 ≤ x ∧ x < 256) (hl : p.length < 140737488355328) (H : Heap) :
  W n_law13_reads [bytes p .ro] H = some (.bool true, H) := by
 have hrd := read_doc hp hl
 have tu := fun H => unseal_spec p hp hl H
 have hxb := docX_bts hp hl
 obtain ⟨f0, u0, hf0, hx0, hff⟩ : ∃ f0 u0, RFl (docX p, !unsOK p) f0 ∧ (if unsOK p = true then bytes (p.drop 4) .own else .list 1 [] .full) = bytes (docX p) u0 ∧ ((u0 = .own ∧ f0 = .ro) ∨ (u0 = .full ∧ f0 = .ro)) := by
  unfold docX
  cases hu : unsOK p with
  | true => exact ⟨.ro, .own, .inl rfl, rfl, .inl ⟨rfl, rfl⟩⟩
  | false => exact ⟨.ro, .full, .inl rfl, rfl, .inr ⟨rfl, rfl⟩⟩
 simp only [hx0] at tu
 have hq : Bts (docQ p).2.1 := numQ_bts (s := (docX p, !unsOK p)) hxb
 have hqi : I64 (docQ p).1 := numQ_i64 (s := (docX p, !unsOK p)) hxb.1
 have hqf : RFl (docQ p).2 (nF (docX p, !unsOK p) f0) := nF_ok hf0
 have hinv := docGo_inv (docQ p).1.toNat (docQ p).2 [] hq InvD.nil (by intro d hd; cases hd)
 change InvD (docF p).2.1 ∧ DI (docF p).2.1 ∧ _ at hinv
 have loop := fun N X3 X4 => reads_loop H N (bytes p .ro) X3 X4 (docQ p).1.toNat (docQ p).2 [] (nF (docX p, !unsOK p) f0) .full (docQ p).1 rfl hqi hq hqf InvD.nil (.inr ⟨rfl, rfl⟩)
 have t1 := fun N P => rnum_at H N (docX p, !unsOK p) hxb f0 hf0 P
 change ∀ N P, W _ _ _ = some (.int .i64 (docQ p).1, hx H (N ++ [rdF (docQ p).2 _, P])) at t1
 have e0 : docGo (docQ p).1.toNat (docQ p).2 [] = docF p := rfl
 simp only [e0] at loop
 have hsb := sealE_bytes (encD_bytesL hinv.2.1 hinv.1.len)
 have tq := toS_beq hsb hp
 have hdk : docOK p = ((docF p).2.2 && ((!(docF p).1.2 && decide ((docF p).1.1.length = 0)) && decide (sealE (encD (docF p).2.1) = p))) := rfl
 rw [← tq] at hdk
 have td := fun N f hf P => rdone_at H N (docF p).1 f hf P
 have tb := fun N R pf hpf => pbytes_at H N R (docF p).2.1 hinv.2.1 hinv.1.len (lastM (docF p).2.1) pf hpf
 have hdl := hinv.1.len
 clear tq hsb hinv hqf hqi hq hxb e0 hf0
 generalize nF (docX p, !unsOK p) f0 = f1 at *
 generalize unsOK p = uo at *
 generalize docX p = x at *
 generalize docF p = F at *
 obtain ⟨s', D', g⟩ := F
 simp only at *
 generalize hS : sealE (encD D') = S at *
 generalize (!s'.2 && decide (s'.1.length = 0)) = dn at *
 obtain ⟨eqb, he⟩ : ∃ b, (toS S == toS p) = b := ⟨_, rfl⟩
 rw [he] at hdk
 have la0 : lastM [] = -1 := rfl
 rw [la0] at loop
 have ap2 : ∀ (N : Heap) (a b : Box), N ++ [a] ++ [b] = N ++ [a, b] := fun N a b => by rw [List.append_assoc]; rfl
 have ln1 : ∀ (N : Heap) (a : Box), (N ++ [a]).length = N.length + 1 := fun N a => by simp
 rcases abread_spec p hp hl (hx H []) with ⟨r1, N, r2⟩ | ⟨D, fl, B, N, r1, r2, r3, r4⟩
 ·rw [hx_hx, List.nil_append] at r2
  have hno : docOK p = false := by
   rcases hrd with h | h
   ·exact h.2
   ·rw [r1] at h; cases h.1
  rw [hno] at hdk
  obtain ⟨f', pf', l1, l2, l3⟩ := loop N .nilp (.int .i64 12)
  have t1' := t1 N (plB [] (-1) .full)
  have td' := td N f' l2 (plB D' (lastM D') pf')
  have tb' := tb N (rdF s' f') pf' l3
  unfold plB rdF at *
  simp only [List.map_nil] at l1 t1'
  refine W_fn rfl rfl ?_
  rcases hff with ⟨rfl, rfl⟩ | ⟨rfl, rfl⟩
  all_goals
   cases g with
   | false => simp only [go_sem, c_law13_reads, r2, tu, ap2, ln1, t1', l1, simprocAttr]
   | true =>
    cases dn with
    | false => simp only [go_sem, c_law13_reads, r2, tu, ap2, ln1, t1', l1, td', simprocAttr]
    | true =>
     cases eqb with
     | false => simp only [go_sem, c_law13_reads, r2, tu, ap2, ln1, t1', l1, td', tb', he, simprocAttr]
     | true => cases hdk
 ·rw [hx_hx, List.nil_append, pt_hx, List.length_nil, Nat.zero_add] at r4
  have hyes : docOK p = true ∧ D = D' := by
   rcases hrd with h | h
   ·rw [r1] at h; cases h.1
   ·rw [r1] at h; exact ⟨h.2, by simpa using h.1⟩
  obtain ⟨hyes, rfl⟩ := hyes
  rw [hyes] at hdk
  obtain ⟨rfl, rfl, rfl⟩ : g = true ∧ dn = true ∧ eqb = true := by
   cases g <;> cases dn <;> cases eqb <;> first | exact ⟨rfl, rfl, rfl⟩ | cases hdk
  have hN1 : (B :: rwB D fl :: N)[1]? = some (rwB D fl) := rfl
  generalize (B :: rwB D fl :: N) = M at *
  have hM : 1 < M.length := (List.getElem?_eq_some_iff.1 hN1).1
  obtain ⟨f', pf', l1, l2, l3⟩ := loop M (.ptr (pt H 1) 0) (.int .i64 0)
  have t1' := t1 M (plB [] (-1) .full)
  have td' := td M f' l2 (plB D (lastM D) pf')
  have tb' := tb M (rdF s' f') pf' l3
  have ta := aball_spec D hdl fl r2 (pt H 1) (hx H (M ++ [rdF s' f', plB D (lastM D) pf'])) ⟨by rw [hx_get, List.getElem?_append_left hM]; exact hN1⟩
  rw [hx_set, List.set_append_left _ _ hM] at ta
  have tx := fun H => dropped_self D hdl H
  have gP : (M.set 1 (rwB D .uniq) ++ [rdF s' f', plB D (lastM D) pf'])[M.length + 1]? = some (plB D (lastM D) pf') := by
   have := get_at1 (M.set 1 (rwB D .uniq)) (rdF s' f') (plB D (lastM D) pf')
   rwa [List.length_set] at this
  generalize M.set 1 (rwB D .uniq) = M' at *
  unfold plB rdF at *
  simp only [List.map_nil] at l1 t1'
  refine W_fn rfl rfl ?_
  rcases hff with ⟨rfl, rfl⟩ | ⟨rfl, rfl⟩ <;> rcases l3 with rfl | ⟨rfl, rfl⟩
  all_goals
   simp only [List.map_nil] at *
   simp only [go_sem, c_law13_reads, r4, tu, ap2, ln1, t1', l1, td', tb', he, ta, gP, tx, simprocAttr]
abbrev Opn := Int → Int
def stepO (O : Opn) (b : Ba) : Opn := fun id => if id = b.prod ∧ 0 ≤ b.prod then (if b.mark ≠ 0 then -1 else if b.txn = true ∧ O id < 0 then b.base else O id) else O id
def foldO (L : List Ba) (O : Opn) : Opn := L.foldl stepO O
abbrev opens (L : List Ba) : Opn := foldO L (fun _ => -1)
theorem opens_snoc (L : List Ba) (b : Ba) : opens (L ++ [b]) = stepO (opens L) b := by unfold opens foldO; rw [List.foldl_append]; rfl
structure Rep (M : List Pr) (O : Opn) : Prop where
 nd : (M.map Pr.id).Nodup
 val : ∀ p ∈ M, p.open_ = O p.id
 neg : ∀ id, (∀ p ∈ M, p.id ≠ id) → O id = -1
theorem applyP_open (p : Pr) (k : Bool) (b : Ba) : (applyP p k b).open_ = if b.mark ≠ 0 then -1 else if b.txn = true ∧ openP p k < 0 then b.base else openP p k := by
 unfold applyP; split <;> rfl
theorem Rep.open {M O} (h : Rep M O) (b : Ba) : openP ((M.find? fun p => p.id == b.prod).getD zeroPr) (M.find? fun p => p.id == b.prod).isSome = O b.prod := by
 cases hf : M.find? fun p => p.id == b.prod with
 | none =>
  have : O b.prod = -1 := h.neg _ (fun p hp e => by
   have := List.find?_eq_none.1 hf p hp
   simp [e] at this)
  rw [this]; rfl
 | some p =>
  have h1 := List.mem_of_find?_eq_some hf
  have h2 := List.find?_some hf
  have h3 : p.id = b.prod := by simpa using h2
  show p.open_ = _
  rw [h.val p h1, h3]
theorem Rep.put {M M' O} (h : Rep M O) (b : Ba) (hp : 0 ≤ b.prod) (x : Pr) (hx : x.id = b.prod) (ho : x.open_ = stepO O b b.prod) (hnd : (M'.map Pr.id).Nodup)
  (h1 : ∀ p ∈ M', p = x ∨ (p ∈ M ∧ p.id ≠ b.prod)) (h2 : x ∈ M') (h3 : ∀ p ∈ M, p.id ≠ b.prod → p ∈ M') : Rep M' (stepO O b) where
 nd := hnd
 val := fun p hp' => by
  rcases h1 p hp' with rfl | ⟨h4, h5⟩
  ·rw [hx, ho]
  ·rw [h.val p h4]; unfold stepO; rw [if_neg (fun h => h5 h.1)]
 neg := fun id hid => by
  have hne : id ≠ b.prod := fun e => hid x h2 (by rw [hx, e])
  unfold stepO
  rw [if_neg (fun h => hne h.1)]
  refine h.neg id (fun p hp' e => ?_)
  exact hid p (h3 p hp' (by rw [e]; exact hne)) e
theorem stepO_neg (O : Opn) (b : Ba) (h : b.prod < 0) : stepO O b = O := by
 funext id; unfold stepO; rw [if_neg (by omega)]
theorem nodup_find : ∀ {M : List Pr} {q : Pr}, (M.map Pr.id).Nodup → q ∈ M → M.find? (fun p => p.id == q.id) = some q
 | [], _, _, h => by cases h
 | a :: X, q, hnd, hq => by
  rw [List.find?_cons]
  rw [List.map_cons, List.nodup_cons] at hnd
  rcases List.mem_cons.1 hq with rfl | hq'
  ·simp
  ·have : (a.id == q.id) = false := by
    simp only [beq_eq_false_iff_ne]
    intro e
    exact hnd.1 (e ▸ List.mem_map_of_mem (f := Pr.id) hq')
   rw [this]; exact nodup_find hnd.2 hq'
theorem setM_ids (M : List Pr) (x : Pr) : (setM M x).map Pr.id = if (M.find? fun p => p.id == x.id).isSome then M.map Pr.id else M.map Pr.id ++ [x.id] := by
 rw [← getM_find]
 unfold setM getM
 cases h : idxM x.id M with
 | none => simp
 | some i =>
  obtain ⟨p, h1, h2⟩ := idxM_mem h
  simp only [Option.bind_some, h1, Option.isSome_some, if_true]
  rw [List.map_set]
  refine List.ext_getElem? fun k => ?_
  rw [List.getElem?_set]
  split
  ·rename_i e
   subst e
   split
   ·rw [List.getElem?_map, h1, Option.map_some, h2]
   ·rename_i h3
    rw [List.length_map] at h3
    exact absurd (List.getElem?_eq_some_iff.1 h1).1 h3
  ·rfl
theorem Rep.stepM {M O} (h : Rep M O) (b : Ba) (hr : rightE b = 0) : Rep (stepM M b) (stepO O b) := by
 unfold Go.Abs.stepM
 by_cases hp : b.prod < 0
 ·rw [if_pos (.inr hp), stepO_neg O b hp]; exact h
 ·rw [if_neg (by omega)]
  rw [getM_find]
  have ho := h.open b
  have hx := applyP_id ((M.find? fun p => p.id == b.prod).getD zeroPr) (M.find? fun p => p.id == b.prod).isSome b
  have hxo := applyP_open ((M.find? fun p => p.id == b.prod).getD zeroPr) (M.find? fun p => p.id == b.prod).isSome b
  rw [ho] at hxo
  generalize applyP ((M.find? fun p => p.id == b.prod).getD zeroPr) (M.find? fun p => p.id == b.prod).isSome b = x at *
  have hids := setM_ids M x
  rw [hx] at hids
  have hnd : ((setM M x).map Pr.id).Nodup := by
   rw [hids]
   split
   ·exact h.nd
   ·rename_i hn
    rw [List.nodup_append]
    refine ⟨h.nd, by simp, fun a ha c hc e => ?_⟩
    simp only [List.mem_singleton] at hc
    subst hc; subst e
    obtain ⟨p, hp1, hp2⟩ := List.mem_map.1 ha
    apply hn
    rw [List.find?_isSome]
    exact ⟨p, hp1, by simp [hp2]⟩
  have hmem : ∀ q, q ∈ setM M x ↔ getM q.id (setM M x) = some q := fun q => ⟨fun hq => by rw [getM_find]; exact nodup_find hnd hq, fun hq => getM_mem hq⟩
  have hmemM : ∀ q, q ∈ M → getM q.id M = some q := fun q hq => by rw [getM_find]; exact nodup_find h.nd hq
  refine h.put b (by omega) x hx ?_ hnd ?_ ?_ ?_
  ·rw [hxo]; exact (if_pos (⟨rfl, by omega⟩ : b.prod = b.prod ∧ 0 ≤ b.prod)).symm
  ·intro p hp'
   rw [hmem, getM_set] at hp'
   split at hp'
   ·simp only [Option.some.injEq] at hp'; exact .inl hp'.symm
   ·rename_i e
    exact .inr ⟨getM_mem hp', by rw [← hx]; exact e⟩
  ·rw [hmem, getM_set, if_pos rfl]
  ·intro p hp' hne
   rw [hmem, getM_set, if_neg (by rw [hx]; exact hne)]
   exact hmemM p hp'
abbrev Srt (L : List Pr) : Prop := L.Pairwise (fun p q => p.id < q.id)
theorem Srt.nd {L : List Pr} (h : Srt L) : (L.map Pr.id).Nodup := by
 rw [List.Nodup, List.pairwise_map]
 exact h.imp (fun h => by omega)
theorem below_take (id : Int) : ∀ (L : List Pr), ∀ p ∈ L.take (belowN id L), p.id < id
 | [], p, h => by simp [belowN] at h
 | a :: L, p, h => by
  unfold belowN at h
  split at h
  ·rename_i c
   rw [List.take_succ_cons, List.mem_cons] at h
   rcases h with rfl | h
   ·exact c
   ·exact below_take id L p h
  ·simp at h
theorem below_drop (id : Int) : ∀ (L : List Pr), Srt L → ∀ p ∈ L.drop (belowN id L), id ≤ p.id
 | [], _, p, h => by simp at h
 | a :: L, hs, p, h => by
  unfold belowN at h
  have hs' := List.pairwise_cons.1 hs
  split at h
  ·rw [List.drop_succ_cons] at h
   exact below_drop id L hs'.2 p h
  ·rename_i c
   rw [List.drop_zero, List.mem_cons] at h
   rcases h with rfl | h
   ·omega
   ·have := hs'.1 p h; omega
theorem atP_find (id : Int) (L : List Pr) (hs : Srt L) : atP id L = L.find? (fun p => p.id == id) := by
 have h1 := below_take id L
 have h2 := below_drop id L hs
 have h3 : L.find? (fun p => p.id == id) = (L.drop (belowN id L)).find? (fun p => p.id == id) := by
  conv => lhs; rw [← List.take_append_drop (belowN id L) L]
  rw [List.find?_append]
  have : (L.take (belowN id L)).find? (fun p => p.id == id) = none := by
   rw [List.find?_eq_none]
   intro p hp; have := h1 p hp; simp; omega
  rw [this]; rfl
 rw [h3]
 unfold atP
 have hs2 : Srt (L.drop (belowN id L)) := hs.sublist (List.drop_sublist _ _)
 have h4 : L[belowN id L]? = (L.drop (belowN id L))[0]? := by rw [List.getElem?_drop]; rfl
 rw [h4]
 generalize L.drop (belowN id L) = D at *
 cases D with
 | nil => rfl
 | cons a D =>
  simp only [List.getElem?_cons_zero, List.find?_cons]
  by_cases e : a.id = id
  ·simp [e]
  ·have e' : (a.id == id) = false := by simpa using e
   rw [if_neg e, e']
   have ha := h2 a List.mem_cons_self
   have : D.find? (fun p => p.id == id) = none := by
    rw [List.find?_eq_none]
    intro p hp
    have := (List.pairwise_cons.1 hs2).1 p hp
    simp; omega
   rw [this]
theorem Srt.tabL {L : List Pr} (hs : Srt L) (b : Ba) (hr : rightE b = 0) {O : Opn} (h : Rep L O) : Srt (tabL L b) ∧ Rep (tabL L b) (stepO O b) := by
 unfold Go.Abs.tabL
 by_cases hp : b.prod < 0
 ·rw [if_pos (.inr hp), stepO_neg O b hp]; exact ⟨hs, h⟩
 ·rw [if_neg (by omega)]
  have ho := h.open b
  have hx := applyP_id ((L.find? fun p => p.id == b.prod).getD zeroPr) (L.find? fun p => p.id == b.prod).isSome b
  have hxo := applyP_open ((L.find? fun p => p.id == b.prod).getD zeroPr) (L.find? fun p => p.id == b.prod).isSome b
  rw [ho] at hxo
  have hxo' : (applyP ((L.find? fun p => p.id == b.prod).getD zeroPr) (L.find? fun p => p.id == b.prod).isSome b).open_ = stepO O b b.prod := by
   rw [hxo]; exact (if_pos (⟨rfl, by omega⟩ : b.prod = b.prod ∧ 0 ≤ b.prod)).symm
  have hat := atP_find b.prod L hs
  rw [← hat] at hx hxo'
  cases hf : atP b.prod L with
  | some p =>
   rw [hf] at hx hxo'
   simp only
   have hx : (applyP p true b).id = b.prod := hx
   have hxo' : (applyP p true b).open_ = stepO O b b.prod := hxo'
   generalize applyP p true b = x at *
   obtain ⟨hp1, hp2⟩ := atP_mem hf
   have hp3 : p.id = b.prod := by
    rw [hat] at hf
    simpa using List.find?_some hf
   have hi : belowN b.prod L < L.length := (List.getElem?_eq_some_iff.1 hp2).1
   have hids : (L.set (belowN b.prod L) x).map Pr.id = L.map Pr.id := by
    rw [List.map_set]
    refine List.ext_getElem? fun k => ?_
    rw [List.getElem?_set]
    split
    ·rename_i e
     subst e
     rw [if_pos (by rw [List.length_map]; exact hi), List.getElem?_map, hp2, Option.map_some, hp3, hx]
    ·rfl
   have hsx : Srt (L.set (belowN b.prod L) x) := by
    have h1 : (L.map Pr.id).Pairwise (· < ·) := List.pairwise_map.2 hs
    rw [← hids] at h1
    exact List.pairwise_map.1 h1
   refine ⟨hsx, h.put b (by omega) x hx hxo' hsx.nd ?_ (List.mem_iff_getElem?.2 ⟨_, by rw [List.getElem?_set, if_pos rfl, if_pos hi]⟩) ?_⟩
   ·intro q hq
    rcases List.mem_or_eq_of_mem_set hq with h1 | rfl
    ·by_cases e : q.id = b.prod
     ·have := nodup_find hsx.nd hq
      have h2 := nodup_find hsx.nd (List.mem_iff_getElem?.2 ⟨_, by rw [List.getElem?_set, if_pos rfl, if_pos hi]⟩ : x ∈ L.set (belowN b.prod L) x)
      rw [show x.id = q.id by rw [hx, e], this] at h2
      simp only [Option.some.injEq] at h2
      exact .inl h2
     ·exact .inr ⟨h1, e⟩
    ·exact .inl rfl
   ·intro q hq hne
    obtain ⟨k, hk⟩ := List.mem_iff_getElem?.1 hq
    refine List.mem_iff_getElem?.2 ⟨k, ?_⟩
    rw [List.getElem?_set]
    by_cases e : belowN b.prod L = k
    ·subst e
     rw [hp2] at hk
     simp only [Option.some.injEq] at hk
     exact absurd (hk ▸ hp3) hne
    ·rw [if_neg e]; exact hk
  | none =>
   rw [hf] at hx hxo'
   simp only
   have hx : (applyP zeroPr false b).id = b.prod := hx
   have hxo' : (applyP zeroPr false b).open_ = stepO O b b.prod := hxo'
   generalize applyP zeroPr false b = x at *
   have hno : ∀ p ∈ L, p.id ≠ b.prod := by
    rw [hat, List.find?_eq_none] at hf
    intro p hp e
    exact hf p hp (by simp [e])
   have h1 := below_take b.prod L
   have h2 := below_drop b.prod L hs
   have hL := List.take_append_drop (belowN b.prod L) L
   have hs1 : Srt (L.take (belowN b.prod L)) := hs.sublist (List.take_sublist _ _)
   have hs2 : Srt (L.drop (belowN b.prod L)) := hs.sublist (List.drop_sublist _ _)
   have hm : ∀ q, q ∈ L ↔ q ∈ L.take (belowN b.prod L) ∨ q ∈ L.drop (belowN b.prod L) := fun q => by
    conv => lhs; rw [← hL]
    exact List.mem_append
   have hm1 : ∀ q ∈ L.drop (belowN b.prod L), b.prod < q.id := fun q hq => by
    have a1 := h2 q hq
    have a2 := hno q ((hm q).2 (.inr hq))
    omega
   generalize L.take (belowN b.prod L) = A at *
   generalize L.drop (belowN b.prod L) = B at *
   have hsx : Srt (A ++ [x] ++ B) := by
    rw [List.append_assoc]
    refine List.pairwise_append.2 ⟨hs1, List.pairwise_append.2 ⟨by simp, hs2, ?_⟩, ?_⟩
    ·intro p hp q hq
     simp only [List.mem_singleton] at hp
     rw [hp, hx]; exact hm1 q hq
    ·intro p hp q hq
     rw [List.mem_append, List.mem_singleton] at hq
     have := h1 p hp
     rcases hq with rfl | hq
     ·rw [hx]; exact this
     ·have := hm1 q hq; omega
   refine ⟨hsx, h.put b (by omega) x hx hxo' hsx.nd ?_ (by simp) ?_⟩
   ·intro q hq
    simp only [List.mem_append, List.mem_singleton] at hq
    rcases hq with (hq | rfl) | hq
    ·exact .inr ⟨(hm q).2 (.inl hq), hno q ((hm q).2 (.inl hq))⟩
    ·exact .inl rfl
    ·exact .inr ⟨(hm q).2 (.inr hq), hno q ((hm q).2 (.inr hq))⟩
   ·intro q hq _
    simp only [List.mem_append, List.mem_singleton]
    rcases (hm q).1 hq with h | h
    ·exact .inl (.inl h)
    ·exact .inr h
theorem rep_nil : Rep [] (fun _ => -1) := ⟨by simp, by simp, fun _ _ => rfl⟩
def RowC : Int → List Ba → Prop
 | _, [] => True
 | s, b :: l => b.base = s ∧ RowC (s + countE b) l
theorem endE_nil (s : Int) : endE s [] = s := rfl
theorem endE_cons (s : Int) (b : Ba) (l : List Ba) (h : b.base = s) : endE s (b :: l) = endE (s + countE b) l := by
 unfold endE
 cases l with
 | nil => simp [h]
 | cons c l =>
  obtain ⟨x, hx⟩ : ∃ x, (c :: l).getLast? = some x := ⟨_, List.getLast?_eq_some_getLast (by simp)⟩
  rw [List.getLast?_cons_cons, hx]
theorem RowC.snoc : ∀ {s : Int} {l : List Ba} {b : Ba}, RowC s l → b.base = endE s l → RowC s (l ++ [b])
 | s, [], b, _, h => ⟨h, trivial⟩
 | s, c :: l, b, h, k => ⟨h.1, RowC.snoc h.2 (by rw [k, endE_cons s c l h.1])⟩
theorem prodL_row {cap start L b} (h : RowC start L) : RowC start (prodL cap start L b) := by
 unfold prodL
 split
 ·exact h.snoc rfl
 ·exact h
theorem markL_row {cap start L p e m} (h : RowC start L) : RowC start (markL cap start L p e m) := by
 unfold markL
 split
 ·exact h.snoc rfl
 ·exact h
theorem rowStep_row {l cap start s} (h : RowC start s.L) : RowC start (rowStep l cap start s).L := by
 unfold rowStep
 simp only
 split
 ·exact prodL_row h
 ·exact markL_row h
theorem rowGo_row {l : List Int} {cap start : Int} {most : Nat} : ∀ (k : Nat) (s : RS), RowC start s.L → RowC start (rowGo l cap start most k s).L
 | 0, _, h => h
 | k + 1, s, h => by
  unfold rowGo
  split
  ·exact rowGo_row k _ (rowStep_row h)
  ·exact h
theorem row_rowC (l : List Int) (start : Int) (most : Nat) : RowC start (rowOf l start most) := rowGo_row _ _ trivial
theorem countE_pos {b : Ba} (h : Fit b) : 1 ≤ countE b := by
 have hr := h.right
 unfold countE
 split
 ·rename_i hm
  unfold rightE at hr
  split at hr
  ·cases hr
  ·first | rw [if_pos hm] at hr | skip
   unfold dataE at hr
   split at hr
   ·cases hr
   ·split at hr
    ·cases hr
    ·omega
 ·exact Int.le_refl _
structure OIs (s : Int) (O : Opn) : Prop where
 pos : 0 ≤ s
 lo : ∀ id, -1 ≤ O id
 hi : ∀ id, O id < s
 inj : ∀ id id', O id = O id' → 0 ≤ O id → id = id'
theorem OIs.nil {s : Int} (h : 0 ≤ s) : OIs s (fun _ => -1) := ⟨h, fun _ => Int.le_refl _, fun _ => by show (-1 : Int) < s; omega, fun _ _ _ h => by have : (0 : Int) ≤ -1 := h; omega⟩
theorem stepO_cases (O : Opn) (b : Ba) (id : Int) : stepO O b id = O id ∨ (id = b.prod ∧ b.mark ≠ 0 ∧ stepO O b id = -1) ∨ (id = b.prod ∧ 0 ≤ b.prod ∧ O id < 0 ∧ b.txn = true ∧ b.mark = 0 ∧ stepO O b id = b.base) := by
 unfold stepO
 by_cases c : id = b.prod ∧ 0 ≤ b.prod
 ·rw [if_pos c]
  by_cases c2 : b.mark ≠ 0
  ·rw [if_pos c2]; exact .inr (.inl ⟨c.1, c2, rfl⟩)
  ·rw [if_neg c2]
   by_cases c3 : b.txn = true ∧ O id < 0
   ·rw [if_pos c3]; exact .inr (.inr ⟨c.1, c.2, c3.2, c3.1, by omega, rfl⟩)
   ·rw [if_neg c3]; exact .inl rfl
 ·rw [if_neg c]; exact .inl rfl
theorem OIs.step {s O b} (h : OIs s O) (hb : Fit b) (hs : b.base = s) : OIs (s + countE b) (stepO O b) where
 pos := by have := h.pos; have := countE_pos hb; omega
 lo := fun id => by
  have := h.lo id
  have := h.pos
  rcases stepO_cases O b id with e | ⟨_, _, e⟩ | ⟨_, _, _, _, _, e⟩ <;> omega
 hi := fun id => by
  have := h.hi id
  have := h.pos
  have := countE_pos hb
  rcases stepO_cases O b id with e | ⟨_, _, e⟩ | ⟨_, _, _, _, _, e⟩ <;> omega
 inj := fun id id' he h0 => by
  have h1 := h.hi id
  have h2 := h.hi id'
  rcases stepO_cases O b id with e | ⟨_, _, e⟩ | ⟨i1, _, _, _, _, e⟩ <;> rcases stepO_cases O b id' with e' | ⟨_, _, e'⟩ | ⟨i2, _, _, _, _, e'⟩
  ·exact h.inj id id' (by omega) (by omega)
  ·omega
  ·omega
  ·omega
  ·omega
  ·omega
  ·omega
  ·omega
  ·omega
def dropO (O : Opn) (b : Ba) : Option La := if ¬ b.prod < 0 ∧ b.mark = 2 ∧ O b.prod ≥ 0 then some (b.prod, O b.prod, b.base) else none
theorem stepD_O {M O b} (h : Rep M O) (hr : rightE b = 0) : stepD M b = dropO O b := by
 unfold stepD dropO
 by_cases hp : b.prod < 0
 ·rw [if_pos (.inr hp), if_neg (by omega)]
 ·rw [if_neg (by omega), getM_find]
  cases hf : M.find? (fun p => p.id == b.prod) with
  | none =>
   have : O b.prod = -1 := h.neg _ (fun p hp e => by
    have := List.find?_eq_none.1 hf p hp
    simp [e] at this)
   rw [if_neg (by omega)]
  | some p =>
   have h1 := h.val p (List.mem_of_find?_eq_some hf)
   have h2 : p.id = b.prod := by simpa using List.find?_some hf
   simp only
   rw [h1, h2]
   by_cases c : b.mark = 2 ∧ O b.prod ≥ 0
   ·rw [if_pos c, if_pos ⟨hp, c⟩]
   ·rw [if_neg c, if_neg (fun h => c h.2)]
theorem tabD_O {L O b} (hs : Srt L) (h : Rep L O) (hr : rightE b = 0) : tabD L b = dropO O b := by
 rw [← stepD_O h hr]
 unfold tabD stepD
 rw [atP_find b.prod L hs, getM_find]
 cases L.find? (fun p => p.id == b.prod) <;> rfl
theorem ab_fold : ∀ (A : List Ba) (s : Int) (O : Opn) (M T : List Pr) (l : List La), (∀ b ∈ A, Fit b) → RowC s A → OIs s O → Rep M O → Srt T → Rep T O → (∀ d ∈ l, d.2.2 < s) → abOf A M l = l ++ foldD A T
 | [], _, _, _, _, l, _, _, _, _, _, _, _ => by rw [show foldD [] _ = [] from rfl, List.append_nil]; rfl
 | b :: A, s, O, M, T, l, hA, hr, hO, hM, hs, hT, hl => by
  have hb := hA b List.mem_cons_self
  have hA' : ∀ x ∈ A, Fit x := fun x hx => hA x (List.mem_cons_of_mem _ hx)
  have hc := countE_pos hb
  have hbs := hr.1
  have hbb := hb.base
  have h1 := hs.tabL b hb.right hT
  have e1 := stepD_O hM hb.right
  have e2 := tabD_O hs hT hb.right
  have hfd : foldD (b :: A) T = (match tabD T b with | some d => [d] | none => []) ++ foldD A (tabL T b) := rfl
  have hab : abOf (b :: A) M l = abOf A (stepM M b) (match stepD M b with | some d => abL l d | none => l) := rfl
  rw [hfd, hab, e1, e2]
  cases hd : dropO O b with
  | none =>
   simp only [List.nil_append]
   exact ab_fold A (s + countE b) (stepO O b) _ _ l hA' hr.2 (hO.step hb hbs) (hM.stepM b hb.right) h1.1 h1.2 (fun d hd => by have := hl d hd; omega)
  | some d =>
   simp only
   unfold dropO at hd
   split at hd
   ·rename_i c
    simp only [Option.some.injEq] at hd
    subst hd
    have ho := hO.hi b.prod
    have hk : abOK l (b.prod, O b.prod, b.base) = true := by
     unfold abOK
     simp only [Bool.and_eq_true, decide_eq_true_eq]
     refine ⟨by omega, by omega, by omega, by omega, ?_⟩
     cases hg : l.getLast? with
     | none => rfl
     | some q =>
      have := hl q (List.mem_of_getLast? hg)
      simp; omega
    have hL : abL l (b.prod, O b.prod, b.base) = l ++ [(b.prod, O b.prod, b.base)] := by unfold abL; rw [if_pos hk]
    rw [hL, ab_fold A (s + countE b) (stepO O b) _ _ _ hA' hr.2 (hO.step hb hbs) (hM.stepM b hb.right) h1.1 h1.2 (fun d hd => by
     rw [List.mem_append, List.mem_singleton] at hd
     rcases hd with hd | rfl
     ·have := hl d hd; omega
     ·simp only; omega), List.append_assoc]
   ·cases hd
theorem ab_eq (start : Int) (L : List Ba) (h0 : 0 ≤ start) (hf : ∀ b ∈ L, Fit b) (hr : RowC start L) : abOf L [] [] = foldD L [] := by
 have := ab_fold L start (fun _ => -1) [] [] [] hf hr (OIs.nil h0) rep_nil List.Pairwise.nil rep_nil (by simp)
 simpa using this
def AOK (d : La) : Prop := 0 ≤ d.1 ∧ 0 ≤ d.2.1 ∧ d.2.1 < d.2.2 ∧ d.2.2 ≤ 1099511627776
theorem abOK_ok {l d} (h : abOK l d = true) : AOK d := by
 unfold abOK at h
 simp only [Bool.and_eq_true, decide_eq_true_eq] at h
 unfold AOK; omega
theorem abOf_ok : ∀ (A : List Ba) (M : List Pr) (l : List La), (∀ d ∈ l, AOK d) → ∀ d ∈ abOf A M l, AOK d
 | [], _, _, h => h
 | b :: A, M, l, h => by
  refine abOf_ok A _ _ ?_
  split
  ·rename_i d0 _
   unfold abL
   split
   ·rename_i hk
    intro d hd
    rw [List.mem_append, List.mem_singleton] at hd
    rcases hd with hd | rfl
    ·exact h d hd
    ·exact abOK_ok hk
   ·exact h
  ·exact h
def inR2 (lo hi : Int) (d : La) : Bool := decide (lo < hi) && (decide (d.2.1 < hi) && decide (d.2.2 ≥ lo))
theorem inR_eq {lo hi : Int} {d : La} (h : AOK d) : inR lo hi d = inR2 lo hi d := by
 unfold AOK at h
 unfold inR inR2 mx
 rw [Bool.eq_iff_iff]
 simp only [Bool.and_eq_true, decide_eq_true_eq]
 split <;> constructor <;> intro g <;> omega
end Go.Abs
