import Derived.Test.YtfkaoonfgpeboaaBS3
set_option linter.unusedVariables false
set_option linter.unusedSimpArgs false
namespace Go.Abs
open Go Go.RowKit
theorem or_comm64 (a b : Int) : bits .or .u64 a b = bits .or .u64 b a := by
 show IntKind.u64.wrap _ = IntKind.u64.wrap _
 rw [BitVec.or_comm]
theorem bk_step (x c : Int) (h0 : 0 ≤ x) (h1 : x < 72057594037927936) (c0 : 0 ≤ c) (c1 : c < 256) : bits .or .u64 (shl .u64 x 8) (IntKind.u64.wrap c) = x * 256 + c := by
 have e1 : shl .u64 x 8 = x * 256 := by
  unfold shl
  rw [Num.wu64]
  have : (2 : Int) ^ (min (8 : Int).toNat IntKind.u64.bits) = 256 := by decide
  rw [this]; omega
 have e2 : IntKind.u64.wrap c = c := by rw [Num.wu64]; omega
 rw [e1, e2, or_comm64, Num.or_u64 8 c (x * 256) c0 (by show c < 256; omega) (by omega) (by show x * 256 % 256 = 0; omega) (by omega) (by omega)]
 omega
theorem bk_bes (n : Int) : ∀ (d i : Nat), i + d = 8 → bk (bes n i) ((n / 2 ^ (8 * d)) % 2 ^ (8 * i)) = n % 18446744073709551616 := by
 intro d
 induction d with
 | zero =>
  intro i hi
  have : i = 8 := by omega
  subst this
  have : bes n 8 = [] := by simp [bes]
  rw [this, bk]
  simp
 | succ d ih =>
  intro i hi
  have hb : bes n i = be n i :: bes n (i + 1) := by
   unfold bes
   rw [List.drop_eq_getElem_cons (by simp; omega)]
   simp
  have hbe : be n i = (n / 2 ^ (8 * d)) % 256 := by unfold be; rw [show 7 - i = d by omega]
  have hp : (2 : Int) ^ (8 * (d + 1)) = 2 ^ (8 * d) * 256 := by rw [show 8 * (d + 1) = 8 * d + 8 by omega, Int.pow_add]; rfl
  have hp2 : (2 : Int) ^ (8 * (i + 1)) = 2 ^ (8 * i) * 256 := by rw [show 8 * (i + 1) = 8 * i + 8 by omega, Int.pow_add]; rfl
  have hpos : (0 : Int) < 2 ^ (8 * d) := Int.pow_pos (by decide)
  have hposi : (0 : Int) < 2 ^ (8 * i) := Int.pow_pos (by decide)
  have hle : (2 : Int) ^ (8 * i) ≤ 72057594037927936 := by
   have : (2 : Int) ^ (8 * i) ≤ 2 ^ 56 := by
    have h := Nat.pow_le_pow_right (n := 2) (by decide) (show 8 * i ≤ 56 by omega)
    have h2 : ((2 ^ (8 * i) : Nat) : Int) ≤ ((2 ^ 56 : Nat) : Int) := by omega
    simpa using h2
   exact this
  have hx0 := Int.emod_nonneg (n / 2 ^ (8 * (d + 1))) (by omega : (2 : Int) ^ (8 * i) ≠ 0)
  have hx1 := Int.emod_lt_of_pos (n / 2 ^ (8 * (d + 1))) hposi
  rw [hb, bk, hbe, bk_step _ _ hx0 (by omega) (by omega) (by omega)]
  have key : n / 2 ^ (8 * (d + 1)) % 2 ^ (8 * i) * 256 + n / 2 ^ (8 * d) % 256 = n / 2 ^ (8 * d) % 2 ^ (8 * (i + 1)) := by
   rw [hp, ← Int.ediv_ediv_of_nonneg (Int.le_of_lt hpos), hp2]
   generalize n / 2 ^ (8 * d) = m
   generalize (2 : Int) ^ (8 * i) = P at hposi
   have a1 : m = (m / 256 % P * 256 + m % 256) + P * 256 * (m / 256 / P) := by
    have b1 := Int.emod_add_mul_ediv m 256
    have b2 := Int.emod_add_mul_ediv (m / 256) P
    have b3 : P * 256 * (m / 256 / P) = (P * (m / 256 / P)) * 256 := by rw [Int.mul_assoc, Int.mul_comm 256, ← Int.mul_assoc]
    rw [b3]; omega
   have c1 := Int.emod_nonneg (m / 256) (by omega : P ≠ 0)
   have c2 := Int.emod_lt_of_pos (m / 256) hposi
   have a2 : m % (P * 256) = (m / 256 % P * 256 + m % 256) % (P * 256) := by
    conv => lhs; rw [a1]
    rw [Int.add_mul_emod_self_left]
   rw [a2, Int.emod_eq_of_lt (a := m / 256 % P * 256 + m % 256) (by omega) (by omega)]
  rw [key]
  exact ih (i + 1) (by omega)
theorem bk_bes0 (n : Int) (hn : I64 n) : IntKind.i64.wrap (bk (bes n 0) 0) = n := by
 have h := bk_bes n 8 0 rfl
 have e : n / 2 ^ (8 * 8) % 2 ^ (8 * 0) = 0 := by show n / 18446744073709551616 % 1 = 0; omega
 rw [e] at h
 rw [h, IntKind.wrap_i64]
 unfold I64 at hn
 omega
theorem backV_bes (n : Int) (hn : I64 n) (r : List Int) : backV (bes n 0 ++ r) = .tuple [.int .i64 n, .bool true] := by
 unfold backV
 have hl := bes_len n
 rw [if_neg (by rw [List.length_append]; omega), List.take_append_of_le_length (by omega), List.take_of_length_le (by omega), bk_bes0 n hn]
def rdAd (e : En) : Ad := ⟨e.1, e.2, e.2 + 1, true⟩
theorem ents_rd : ∀ E : List En, ents (E.map rdAd) = E
 | [] => rfl
 | e :: E => by rw [List.map_cons, ents_cons, ents_rd E]; rfl
def rdX (b k : Int) (E : List En) : Ix := ⟨b, k, E.map rdAd⟩
theorem rd_flag (b k E) : Flag (rdX b k E) .uniq := rfl
theorem idxB_cons (b : Int) (e : En) (r : List En) (h1 : b ≤ e.1) (h2 : 0 ≤ b) (h3 : e.1 ≤ 9223372036854775807) : idxB b (e :: r) = bes (e.1 - b) 0 ++ (bes e.2 0 ++ idxB b r) := by
 rw [idxB, wrap_id (by unfold I64; omega), List.append_assoc]
theorem irth (b v : Int) (X : List AVal) (e : Env) (H N : Heap) (h0 : Env.get e 8 = .ptr (pt H 0) 0) :
  agh (.thawC 8 2) e (hx H (.cells [.int .i64 b, .int .i64 v, .list 4 X .uniq] :: N)) = some (e, hx H (.cells [.int .i64 b, .int .i64 v, .lbox (pt H (N.length + 1))] :: (N ++ [.arr 4 X]))) := by
 have g : (hx H (.cells [.int .i64 b, .int .i64 v, .list 4 X .uniq] :: N))[pt H 0]? = some (.cells [.int .i64 b, .int .i64 v, .list 4 X .uniq]) := by rw [hx_get]; rfl
 have hl : (hx H (.cells [.int .i64 b, .int .i64 v, .list 4 X .uniq] :: N)).length = pt H (N.length + 1) := hx_len H _
 simp only [agh, h0, g, Nat.zero_add, List.getElem?_cons_zero, List.getElem?_cons_succ, List.set_cons_zero, List.set_cons_succ, hl, hx_set, hx_app, List.cons_append]
theorem irbk (b v : Int) (X : List AVal) (e : Env) (H N : Heap) (h0 : Env.get e 8 = .ptr (pt H 0) 0) :
  agh (.backC 8 2) e (hx H (.cells [.int .i64 b, .int .i64 v, .lbox (pt H (N.length + 1))] :: (N ++ [.arr 4 X]))) = some (e, hx H (.cells [.int .i64 b, .int .i64 v, .list 4 X .uniq] :: (N ++ [.dead]))) := by
 have g : (hx H (.cells [.int .i64 b, .int .i64 v, .lbox (pt H (N.length + 1))] :: (N ++ [.arr 4 X])))[pt H 0]? = some (.cells [.int .i64 b, .int .i64 v, .lbox (pt H (N.length + 1))]) := by rw [hx_get]; rfl
 have g2 : (hx H (.cells [.int .i64 b, .int .i64 v, .lbox (pt H (N.length + 1))] :: (N ++ [.arr 4 X])))[pt H (N.length + 1)]? = some (.arr 4 X) := by rw [hx_get]; simp
 have g3 : (N ++ [Box.arr 4 X]).set N.length .dead = N ++ [.dead] := by simp
 simp only [agh, h0, g, g2, Nat.zero_add, List.getElem?_cons_zero, List.getElem?_cons_succ, List.set_cons_zero, List.set_cons_succ, hx_set, g3]
theorem read_loop (b k : Int) (hk : 1 ≤ k) (hb : 0 ≤ b) (E : List En) (hE : E.length < 1000000) (hg : GapS k E) (hI : ∀ e ∈ E, b ≤ e.1 ∧ e.1 ≤ 9223372036854775807 ∧ 0 ≤ e.2 ∧ e.2 ≤ 4611686018427387904) (H : Heap) : ∀ (r s : List En) (N : Heap), E = s ++ r →
  ∃ N', loopA W loopW (.ghost (.kill k_index_Read_0) l_index_Read_0) [(0, .int .i64 b), (2, bytes (idxB b r) .ro), (8, .ptr (pt H 0) 0)] (hx H ((rdX b k s).B .uniq :: N)) = some (.exit 0, [(8, .ptr (pt H 0) 0)], hx H ((rdX b k E).B .uniq :: N')) := by
 intro r
 induction r with
 | nil =>
  intro s N hs
  rw [List.append_nil] at hs
  subst hs
  refine ⟨N, ?_⟩
  have h0 : (ints .u8 (idxB b [])).length = 0 := rfl
  refine loop_step l_index_Read_0.eq_1 k_index_Read_0.eq_1 (by kernel_rfl) ?_
  simp only [go_sem, h0, gt_iff_lt, Int.lt_irrefl, simprocAttr]
 | cons e r ih =>
  intro s N hs
  have hlen : E.length = s.length + (r.length + 1) := by rw [hs, List.length_append, List.length_cons]
  have he := hI e (by rw [hs]; simp)
  have hc := idxB_cons b e r he.1 hb he.2.1
  have hl := idxB_len b (e :: r)
  rw [List.length_cons] at hl
  have h0 : (ints .u8 (idxB b (e :: r))).length = 16 * (r.length + 1) := by rw [List.length_map, hl]
  have h1 : ((16 * (r.length + 1) : Nat) : Int) > 0 := by omega
  have h8 : (8 : Int) ≤ ((16 * (r.length + 1) : Nat) : Int) := by omega
  have h16 : (16 : Int) ≤ ((16 * (r.length + 1) : Nat) : Int) := by omega
  have d1 : (ints .u8 (idxB b (e :: r))).drop 8 = ints .u8 (bes e.2 0 ++ idxB b r) := by
   rw [← List.map_drop, hc, List.drop_append_of_le_length (by rw [bes_len]; omega), List.drop_of_length_le (by rw [bes_len]; omega), List.nil_append]
  have d2 : (ints .u8 (idxB b (e :: r))).drop 16 = ints .u8 (idxB b r) := by
   rw [show 16 = 8 + 8 from rfl, ← List.drop_drop, d1, ← List.map_drop, List.drop_append_of_le_length (by rw [bes_len]; omega), List.drop_of_length_le (by rw [bes_len]; omega), List.nil_append]
  have q1 : ∀ H, W n_varint_Back [bytes (idxB b (e :: r)) .ro] H = some (.tuple [.int .i64 (e.1 - b), .bool true], H) := by
   intro H; rw [back_spec, hc, backV_bes _ (by unfold I64; omega)]
  have q2 : ∀ H, W n_varint_Back [bytes (bes e.2 0 ++ idxB b r) .ro] H = some (.tuple [.int .i64 e.2, .bool true], H) := by
   intro H; rw [back_spec, backV_bes _ (by unfold I64; omega)]
  have c1 : ¬ (e.1 - b < 0) := by omega
  have w1 : IntKind.i64.wrap (b + (e.1 - b)) = e.1 := by rw [wrap_id (by unfold I64; omega)]; omega
  have c2 : ¬ (e.1 < b) := by omega
  have c3 : ¬ (e.2 < 0) := by omega
  have w2 : IntKind.i64.wrap (e.2 + 1) = e.2 + 1 := wrap_id (by unfold I64; omega)
  have a1 : (rdX b k s).l.map Ad.v ++ [AVal.agg [.int .i64 e.1, .int .i64 e.2, .int .i64 (e.2 + 1), .bool true]] = (rdX b k (s ++ [e])).l.map Ad.v := by simp [rdX, rdAd]
  have a2 : (((rdX b k s).l.map Ad.v).length + 1) * 32 ≤ maxBytes := by simp [maxBytes, rdX]; omega
  have a3 : ((rdX b k (s ++ [e])).l.map Ad.v).length = s.length + 1 := by simp [rdX]
  obtain ⟨N', hN⟩ := ih (s ++ [e]) (N ++ [.dead]) (by rw [hs]; simp)
  refine ⟨N', ?_⟩
  have n1 : ∀ x : Box, (N ++ [x])[N.length]? = some x := fun x => by simp
  refine loop_step l_index_Read_0.eq_1 k_index_Read_0.eq_1 (by kernel_rfl) ?_
  rcases List.eq_nil_or_concat s with hs0 | ⟨s', q, hs0⟩
  ·have g0 : ¬ (((s.length + 1 : Nat) : Int) > 1) := by rw [hs0]; simp
   simp only [go_sem, h0, h1, h8, h16, d1, d2, q1, q2, c1, c2, c3, w1, w2, a1, a2, a3, g0, slL, apV, irth, irbk, n1, simprocAttr]
   exact hN
  ·rw [List.concat_eq_append] at hs0
   have hgq : q.1 < e.1 ∧ e.2 - q.2 ≥ k := by
    have : GapS k (s' ++ q :: e :: r) := by rw [hs, hs0] at hg; simpa using hg
    clear hs0 hN a1 a2 a3 hs hlen
    induction s' with
    | nil => exact this.1
    | cons y s' ih' => exact ih' this.tail
   have g0 : ((s.length + 1 : Nat) : Int) > 1 := by rw [hs0]; simp; omega
   have g1 : IntKind.i64.wrap (((s.length + 1 : Nat) : Int) - 1) = ((s.length : Nat) : Int) := by rw [wrap_id (by unfold I64; omega)]; omega
   have g2 : IntKind.i64.wrap (((s.length + 1 : Nat) : Int) - 2) = ((s.length - 1 : Nat) : Int) := by rw [wrap_id (by unfold I64; omega)]; omega
   have g3 : ((rdX b k (s ++ [e])).l.map Ad.v)[((s.length : Nat) : Int).toNat]? = some (rdAd e).v := by simp [rdX]
   have g4 : ((rdX b k (s ++ [e])).l.map Ad.v)[((s.length - 1 : Nat) : Int).toNat]? = some (rdAd q).v := by rw [hs0]; simp [rdX]
   have g5 : (0 : Int) ≤ ((s.length : Nat) : Int) := by omega
   have g6 : (0 : Int) ≤ ((s.length - 1 : Nat) : Int) := by omega
   have g10 : ((s.length : Nat) : Int) < ((s.length + 1 : Nat) : Int) := by omega
   have g9 : ((s.length - 1 : Nat) : Int) < ((s.length + 1 : Nat) : Int) := by omega
   have g7 : ¬ (e.1 ≤ q.1) := by omega
   have g8 : ¬ (e.2 ≤ q.2) := by omega
   simp only [rdAd] at g3 g4
   simp only [go_sem, h0, h1, h8, h16, d1, d2, q1, q2, c1, c2, c3, w1, w2, a1, a2, a3, g0, g1, g2, g3, g4, g5, g6, g7, g8, g9, g10, slL, apV, irth, irbk, n1, simprocAttr]
   exact hN
theorem read_good (b k : Int) (hok : newOK b k = true) (E : List En) (hE : E.length < 1000000) (hg : GapS k E) (hI : ∀ e ∈ E, b ≤ e.1 ∧ e.1 ≤ 9223372036854775807 ∧ 0 ≤ e.2 ∧ e.2 ≤ 4611686018427387904) (H : Heap) :
  ∃ N, W n_index_Read [.int .i64 b, .int .i64 k, bytes (idxB b E) .ro] H = some (.tuple [.ptr (pt H 0) 0, .bool true], hx H ((rdX b k E).B .uniq :: N)) := by
 have hn : ∀ H, W n_index_New [.int .i64 b, .int .i64 k] H = some (.ptr (pt H 0) 0, hx H [Ix.B ⟨b, k, []⟩ .uniq, .dead]) := by intro H; rw [new_spec, hok, if_pos rfl]
 have hk : 1 ≤ k ∧ 0 ≤ b := by unfold newOK at hok; simp at hok; omega
 obtain ⟨N, hN⟩ := read_loop b k hk.1 hk.2 E hE hg hI H E [] [.dead] rfl
 refine ⟨N, ?_⟩
 have hl := idxB_len b E
 have h0 : (ints .u8 (idxB b E)).length = 16 * E.length := by rw [List.length_map, hl]
 have h1 : (((16 * E.length : Nat) : Int)).tmod 16 = 0 := by rw [Int.tmod_eq_emod_of_nonneg (by omega)]; omega
 simp only [rdX, List.map_nil] at hN
 refine W_fnS rfl rfl ?_
 simp only [go_sem, c_index_Read, hn, h0, h1, hN, gt_iff_lt, Int.lt_irrefl, simprocAttr]
 first | done | rfl
theorem pfind_loop (l : List En) (fl : Fl) (hfl : fl = .ro ∨ (fl = .full ∧ l = [])) (hl : l.length < 1000000000) (off : Int) : ∀ (r s : List En) (H : Heap), l = s ++ r →
  ∃ N, loopA W loopW (.ghost (.kill k_law8_plain_find_0) l_law8_plain_find_0) [(1, .int .i64 off), (5, .int .i64 (findP s off 0)), (11, .list 2 (l.map enV) fl), (12, .int .i64 l.length), (13, .int .i64 s.length)] H =
   some (.exit 0, [(5, .int .i64 (findP l off 0))], hx H N) := by
 intro r
 induction r with
 | nil =>
  intro s H hs
  rw [List.append_nil] at hs
  subst hs
  refine ⟨[], ?_⟩
  rw [hx_nil]
  have h1 : ¬ ((l.length : Int) < (l.length : Int)) := by omega
  refine loop_step l_law8_plain_find_0.eq_1 k_law8_plain_find_0.eq_1 (by kernel_rfl) ?_
  rcases hfl with rfl | ⟨rfl, _⟩ <;> simp only [go_sem, h1, simprocAttr]
 | cons e r ih =>
  intro s H hs
  have hlen : l.length = s.length + (r.length + 1) := by rw [hs, List.length_append, List.length_cons]
  rcases hfl with rfl | ⟨rfl, h0⟩
  rotate_left
  ·rw [h0] at hs; simp at hs
  have h1 : (s.length : Int) < (l.length : Int) := by omega
  have h2 : (0 : Int) ≤ (s.length : Int) := by omega
  have h3 : (l.map enV)[((s.length : Nat) : Int).toNat]? = some (enV e) := by rw [hs]; simp
  have e1 : IntKind.i64.wrap ((s.length : Int) + 1) = ((s ++ [e]).length : Int) := by rw [wrap_id (by unfold I64; omega)]; simp
  obtain ⟨N, hN⟩ := ih (s ++ [e]) (hx H [.cells [.int .i64 e.1, .int .i64 e.2]]) (by rw [hs]; simp)
  rw [hx_hx, findP_app] at hN
  refine ⟨.cells [.int .i64 e.1, .int .i64 e.2] :: N, loop_step l_law8_plain_find_0.eq_1 k_law8_plain_find_0.eq_1 (by kernel_rfl) ?_⟩
  rw [← hx_nil H]
  simp only [findP] at hN
  by_cases c : e.1 ≤ off
  ·rw [if_pos c] at hN; simp only [go_sem, h1, h2, h3, e1, c, simprocAttr]; exact hN
  ·rw [if_neg c] at hN; simp only [go_sem, h1, h2, h3, e1, c, simprocAttr]; exact hN
theorem pfind_spec (p : Pl) (fp : Fl) (hfp : fp = .own ∨ (fp = .full ∧ p.l = [])) (hl : p.l.length < 1000000000) (j : Nat) (H : Heap) (hj : Old H j (p.B fp)) (off : Int) :
  W n_law8_plain_find [.ptr j 0, .int .i64 off] H = some (.int .i64 (findP p.l off 0), H) := by
 have gj := hj.get
 have e2 : (p.l.map enV).length = p.l.length := by simp
 refine W_fn rfl rfl ?_
 rcases hfp with rfl | ⟨rfl, h0⟩
 ·obtain ⟨N, hN⟩ := pfind_loop p.l .ro (.inl rfl) hl off p.l [] (hx H []) rfl
  rw [hx_hx, List.nil_append, show findP [] off 0 = 0 from rfl, show ((([] : List En).length : Nat) : Int) = 0 from rfl] at hN
  simp only [go_sem, c_law8_plain_find, gj, e2, hN, simprocAttr]
 ·obtain ⟨N, hN⟩ := pfind_loop p.l .full (.inr ⟨rfl, h0⟩) hl off p.l [] (hx H []) rfl
  rw [hx_hx, List.nil_append, show findP [] off 0 = 0 from rfl, show ((([] : List En).length : Nat) : Int) = 0 from rfl] at hN
  simp only [go_sem, c_law8_plain_find, gj, e2, hN, simprocAttr]
def plOK (p : Pl) (o a s : Int) : Bool := decide (¬ o < p.base) && (decide (¬ o ≤ p.last) && (decide (¬ a < 0) && (decide (¬ a < p.end_) && decide (¬ s < 1))))
def plE (p : Pl) (a : Int) : Bool := match p.l.getLast? with | none => true | some q => decide (IntKind.i64.wrap (a - q.2) ≥ p.every)
def plAdd (p : Pl) (o a s : Int) : Pl := ⟨p.base, o, p.every, IntKind.i64.wrap (a + s), if plE p a = true then p.l ++ [(o, a)] else p.l⟩
theorem padd_false (p : Pl) (fp : Fl) (hfp : fp = .own ∨ (fp = .full ∧ p.l = [])) (hl : p.l.length < 1000000000) (j : Nat) (H : Heap) (hj : Old H j (p.B fp)) (o a s : Int) (h : plOK p o a s = false) :
  W n_law8_plain_add [.ptr j 0, .int .i64 o, .int .i64 a, .int .i64 s] H = some (.bool false, H) := by
 have gj := hj.get
 unfold plOK at h
 refine W_fn rfl rfl ?_
 by_cases c1 : o < p.base
 ·rcases hfp with rfl | ⟨rfl, _⟩ <;> simp only [go_sem, c_law8_plain_add, gj, c1, simprocAttr]
 by_cases c2 : o ≤ p.last
 ·rcases hfp with rfl | ⟨rfl, _⟩ <;> simp only [go_sem, c_law8_plain_add, gj, c1, c2, simprocAttr]
 by_cases c3 : a < 0
 ·rcases hfp with rfl | ⟨rfl, _⟩ <;> simp only [go_sem, c_law8_plain_add, gj, c1, c2, c3, simprocAttr]
 by_cases c4 : a < p.end_
 ·rcases hfp with rfl | ⟨rfl, _⟩ <;> simp only [go_sem, c_law8_plain_add, gj, c1, c2, c3, c4, simprocAttr]
 have c5 : s < 1 := by simp only [c1, c2, c3, c4] at h; simpa using h
 rcases hfp with rfl | ⟨rfl, _⟩ <;> simp only [go_sem, c_law8_plain_add, gj, c1, c2, c3, c4, c5, simprocAttr]
theorem padd_true (p : Pl) (fp : Fl) (hfp : fp = .own ∨ (fp = .full ∧ p.l = [])) (hl : p.l.length < 1000000000) (j : Nat) (H : Heap) (hj : Old H j (p.B fp)) (o a s : Int) (h : plOK p o a s = true) :
  W n_law8_plain_add [.ptr j 0, .int .i64 o, .int .i64 a, .int .i64 s] H = some (.bool true, H.set j ((plAdd p o a s).B .own)) := by
 have gj := hj.get
 have gs := hj.set
 have gj' := hj.get'
 have gs' := hj.set'
 have e2 : (p.l.map enV).length = p.l.length := by simp
 unfold plOK at h
 simp only [Bool.and_eq_true, decide_eq_true_eq] at h
 obtain ⟨c1, c2, c3, c4, c5⟩ := h
 have a0 : (0 + p.l.length) * 16 ≤ maxBytes := by simp [maxBytes]; omega
 have a2 : (p.l.length + 1) * 16 ≤ maxBytes := by simp [maxBytes]; omega
 have u := under_ents p.l
 have u2 := under_ents (plAdd p o a s).l
 have hB : (plAdd p o a s).B .own = .cells [.int .i64 p.base, .int .i64 o, .int .i64 p.every, .int .i64 (IntKind.i64.wrap (a + s)), .list 2 ((plAdd p o a s).l.map enV) .own] := rfl
 rw [hB]
 cases hq : p.l.getLast? with
 | none =>
  have h0 : p.l = [] := by simpa using hq
  have hz : ((p.l.length : Nat) : Int) = 0 := by rw [h0]; rfl
  have a1 : p.l.map enV ++ [AVal.agg [.int .i64 o, .int .i64 a]] = (plAdd p o a s).l.map enV := by simp [plAdd, plE, hq]
  refine W_fnS rfl rfl ?_
  rcases hfp with rfl | ⟨rfl, _⟩ <;> simp only [go_sem, c_law8_plain_add, gj, gs, gj', gs', c1, c2, c3, c4, c5, e2, eq_true hz, apO, apF, a0, a2, a1, u, u2, simprocAttr]
 | some q =>
  obtain ⟨l', h0⟩ : ∃ l', p.l = l' ++ [q] := by
   rcases List.eq_nil_or_concat p.l with h | ⟨l', x, h⟩
   ·rw [h] at hq; cases hq
   ·rw [List.concat_eq_append] at h
    rw [h] at hq; simp at hq; subst hq; exact ⟨l', h⟩
  have hz : ¬ (((p.l.length : Nat) : Int) = 0) := by rw [h0]; simp; omega
  have hpos : 1 ≤ p.l.length := by rw [h0]; simp
  have e3 : IntKind.i64.wrap ((p.l.length : Int) - 1) = ((p.l.length - 1 : Nat) : Int) := by rw [wrap_id (by unfold I64; omega)]; omega
  have e4 : (p.l.map enV)[((p.l.length - 1 : Nat) : Int).toNat]? = some (enV q) := by rw [h0]; simp
  have e5 : (0 : Int) ≤ ((p.l.length - 1 : Nat) : Int) := by omega
  refine W_fnS rfl rfl ?_
  rcases hfp with rfl | ⟨rfl, hh⟩
  rotate_left
  ·rw [hh] at h0; simp at h0
  by_cases c6 : IntKind.i64.wrap (a - q.2) ≥ p.every
  ·have a1 : p.l.map enV ++ [AVal.agg [.int .i64 o, .int .i64 a]] = (plAdd p o a s).l.map enV := by simp [plAdd, plE, hq, c6]
   simp only [go_sem, c_law8_plain_add, gj, gs, gj', gs', c1, c2, c3, c4, c5, c6, e2, hz, e3, e4, e5, apO, apF, a0, a2, a1, u, u2, simprocAttr]
  ·have a1 : p.l = (plAdd p o a s).l := by simp only [plAdd, plE, hq, c6, decide_false, Bool.false_eq_true, if_false]
   rw [← a1]
   simp only [go_sem, c_law8_plain_add, gj, gs, gj', gs', c1, c2, c3, c4, c5, c6, e2, hz, e3, e4, e5, u, u2, simprocAttr]
end Go.Abs
