import Derived.Test.YtfkaoonfgpeboaaBS2
set_option linter.unusedVariables false
set_option linter.unusedSimpArgs false
namespace Go.Abs
open Go Go.RowKit
theorem wrap_I64 (n : Int) : I64 (IntKind.i64.wrap n) := by rw [IntKind.wrap_i64]; unfold I64; omega
def idxB (base : Int) : List En → List Int
 | [] => []
 | e :: l => bes (IntKind.i64.wrap (e.1 - base)) 0 ++ bes e.2 0 ++ idxB base l
theorem bes_len (n : Int) : (bes n 0).length = 8 := by simp [bes]
theorem idxB_len (base) : ∀ l : List En, (idxB base l).length = 16 * l.length
 | [] => rfl
 | e :: l => by simp only [idxB, List.length_append, bes_len, idxB_len base l, List.length_cons]; omega
theorem idxB_app (base) : ∀ a b : List En, idxB base (a ++ b) = idxB base a ++ idxB base b
 | [], b => rfl
 | e :: a, b => by simp only [List.cons_append, idxB, idxB_app base a b, List.append_assoc]
theorem bytes_loop (x : Ix) (fl : Fl) (hfl : Flag x fl) (i : Nat) (E : List En) (hE : E.length < 1000000000) (hI : ∀ e ∈ E, I64 e.2) : ∀ (r s : List En) (H : Heap), E = s ++ r → Old H i (x.B fl) →
  ∃ N, loopA W loopW (.ghost (.kill k_index_Index_Bytes_0) l_index_Index_Bytes_0) [(0, .ptr i 0), (3, bytes (idxB x.base s) .full), (7, .list 2 (E.map enV) .full), (8, .int .i64 E.length), (9, .int .i64 s.length)] H =
   some (.exit 0, [(3, bytes (idxB x.base E) .full)], hx H N) := by
 intro r
 induction r with
 | nil =>
  intro s H hs hi
  rw [List.append_nil] at hs
  subst hs
  refine ⟨[], ?_⟩
  rw [hx_nil]
  have h1 : ¬ ((E.length : Int) < (E.length : Int)) := by omega
  refine loop_step l_index_Index_Bytes_0.eq_1 k_index_Index_Bytes_0.eq_1 (by kernel_rfl) ?_
  simp only [go_sem, h1, simprocAttr]
 | cons e r ih =>
  intro s H hs hi
  have gi := hi.get
  have hlen : E.length = s.length + (r.length + 1) := by rw [hs, List.length_append, List.length_cons]
  have h1 : (s.length : Int) < (E.length : Int) := by omega
  have h2 : (0 : Int) ≤ (s.length : Int) := by omega
  have h3 : (E.map enV)[((s.length : Nat) : Int).toNat]? = some (enV e) := by rw [hs]; simp
  have e1 : IntKind.i64.wrap ((s.length : Int) + 1) = ((s ++ [e]).length : Int) := by rw [wrap_id (by unfold I64; omega)]; simp
  have hb := idxB_len x.base s
  have l1 := fun H => long_spec (idxB x.base s) (IntKind.i64.wrap (e.1 - x.base)) H (wrap_I64 _) (by omega)
  have l2 := fun H => long_spec (idxB x.base s ++ bes (IntKind.i64.wrap (e.1 - x.base)) 0) e.2 H (hI e (by rw [hs]; simp)) (by rw [List.length_append, bes_len]; omega)
  have e4 : idxB x.base s ++ bes (IntKind.i64.wrap (e.1 - x.base)) 0 ++ bes e.2 0 = idxB x.base (s ++ [e]) := by rw [idxB_app]; simp [idxB]
  rw [e4] at l2
  obtain ⟨N, hN⟩ := ih (s ++ [e]) (hx H [.cells [.int .i64 e.1, .int .i64 e.2]]) (by rw [hs]; simp) ⟨gi _⟩
  rw [hx_hx] at hN
  refine ⟨.cells [.int .i64 e.1, .int .i64 e.2] :: N, loop_step l_index_Index_Bytes_0.eq_1 k_index_Index_Bytes_0.eq_1 (by kernel_rfl) ?_⟩
  rw [← hx_nil H]
  rcases hfl with rfl | ⟨rfl, _⟩ <;> (simp only [go_sem, h1, h2, h3, e1, gi, l1, l2, simprocAttr]; exact hN)
theorem ents_I64 {l : List Ad} (h : ∀ a ∈ l, I64 a.at_) : ∀ e ∈ ents l, I64 e.2 := by
 intro e he
 unfold ents at he
 obtain ⟨a, ha, rfl⟩ := List.mem_map.1 he
 exact h a (List.mem_filter.1 ha).1
theorem bytes_spec (x : Ix) (fl : Fl) (hfl : Flag x fl) (hx1 : x.l.length < 1000000000) (hI : ∀ a ∈ x.l, I64 a.at_) (i : Nat) (H : Heap) (hi : Old H i (x.B fl)) :
  W n_index_Index_Bytes [.ptr i 0] H = some (bytes (idxB x.base (ents x.l)) .full, H) := by
 have gi := hi.get
 have he := fun L => entries_spec x fl hfl hx1 i (hx H L) ⟨gi L⟩
 have hlen := ents_len x.l
 have e2 : ((ents x.l).map enV).length = (ents x.l).length := by simp
 obtain ⟨N, hN⟩ := bytes_loop x fl hfl i (ents x.l) (by omega) (ents_I64 hI) (ents x.l) [] (hx H []) rfl ⟨gi _⟩
 rw [hx_hx, List.nil_append, show idxB x.base [] = [] from rfl, show bytes [] .full = .list 1 [] .full from rfl] at hN
 simp only [List.map_nil, List.length_nil, show ((0 : Nat) : Int) = 0 from rfl] at hN
 refine W_fn rfl rfl ?_
 simp only [go_sem, c_index_Index_Bytes, he, e2, hN, under_ints, simprocAttr]
structure Pl where
 base : Int
 last : Int
 every : Int
 end_ : Int
 l : List En
abbrev Pl.B (p : Pl) (fl : Fl) : Box := .cells [.int .i64 p.base, .int .i64 p.last, .int .i64 p.every, .int .i64 p.end_, .list 2 (p.l.map enV) fl]
theorem same_loop (p : Pl) (fp : Fl) (hfp : fp = .own ∨ fp = .full) (j : Nat) (hE : p.l.length < 1000000000) (hI : ∀ e ∈ p.l, I64 e.2) (xv : AVal) : ∀ (r s : List En) (H : Heap) (fb : Fl), p.l = s ++ r → (fb = .own ∨ (fb = .full ∧ s = [])) → Old H j (p.B fp) →
  ∃ N fb', (fb' = .own ∨ fb' = .full) ∧ loopA W loopW (.ghost (.kill k_law8_same_0) l_law8_same_0) [(0, xv), (1, .ptr j 0), (5, .list 2 (p.l.map enV) .full), (6, bytes (idxB p.base s) fb), (19, .int .i64 p.l.length), (20, .int .i64 s.length)] H =
   some (.exit 0, [(0, xv), (6, bytes (idxB p.base p.l) fb')], hx H N) := by
 intro r
 induction r with
 | nil =>
  intro s H fb hs hfb hj
  rw [List.append_nil] at hs
  subst hs
  refine ⟨[], fb, by rcases hfb with h | ⟨h, _⟩ <;> simp [h], ?_⟩
  rw [hx_nil]
  have h1 : ¬ ((p.l.length : Int) < (p.l.length : Int)) := by omega
  refine loop_step l_law8_same_0.eq_1 k_law8_same_0.eq_1 (by kernel_rfl) ?_
  rcases hfb with rfl | ⟨rfl, _⟩ <;> simp only [go_sem, h1, simprocAttr]
 | cons e r ih =>
  intro s H fb hs hfb hj
  have gj := hj.get
  have hlen : p.l.length = s.length + (r.length + 1) := by rw [hs, List.length_append, List.length_cons]
  have h1 : (s.length : Int) < (p.l.length : Int) := by omega
  have h2 : (0 : Int) ≤ (s.length : Int) := by omega
  have h3 : (p.l.map enV)[((s.length : Nat) : Int).toNat]? = some (enV e) := by rw [hs]; simp
  have e1 : IntKind.i64.wrap ((s.length : Int) + 1) = ((s ++ [e]).length : Int) := by rw [wrap_id (by unfold I64; omega)]; simp
  have hb := idxB_len p.base s
  have l1 := fun H => ref_long_spec (idxB p.base s) (IntKind.i64.wrap (e.1 - p.base)) H (wrap_I64 _) (by omega)
  have l2 := fun H => ref_long_spec (idxB p.base s ++ bes (IntKind.i64.wrap (e.1 - p.base)) 0) e.2 H (hI e (by rw [hs]; simp)) (by rw [List.length_append, bes_len]; omega)
  have e4 : idxB p.base s ++ bes (IntKind.i64.wrap (e.1 - p.base)) 0 ++ bes e.2 0 = idxB p.base (s ++ [e]) := by rw [idxB_app]; simp [idxB]
  rw [e4] at l2
  obtain ⟨N, fb', hf, hN⟩ := ih (s ++ [e]) H .own (by rw [hs]; simp) (.inl rfl) hj
  have hq : ∀ a b : Int, eqCells [.int .i64, .int .i64] [.int .i64 a, .int .i64 b] [.int .i64 a, .int .i64 b] = some true := by intro a b; simp [eqCells]
  refine ⟨N, fb', hf, loop_step l_law8_same_0.eq_1 k_law8_same_0.eq_1 (by kernel_rfl) ?_⟩
  rw [← hx_nil H]
  rcases hfp with rfl | rfl <;> rcases hfb with rfl | ⟨rfl, _⟩ <;> (simp only [go_sem, h1, h2, h3, e1, gj, l1, l2, hq, simprocAttr]; rw [hx_nil]; exact hN)
theorem same_spec (x : Ix) (fl : Fl) (hfl : Flag x fl) (hx1 : x.l.length < 1000000000) (hI : ∀ a ∈ x.l, I64 a.at_) (i : Nat) (H : Heap) (hi : Old H i (x.B fl))
  (p : Pl) (fp : Fl) (hfp : fp = .own ∨ fp = .full) (j : Nat) (hj : Old H j (p.B fp)) (hb : x.base = p.base) (hp : ents x.l = p.l) :
  W n_law8_same [.ptr i 0, .ptr j 0] H = some (.bool true, H) := by
 have gi := hi.get
 have gj := hj.get
 have he := fun L => entries_spec x fl hfl hx1 i (hx H L) ⟨gi L⟩
 have hby := fun L => bytes_spec x fl hfl hx1 hI i (hx H L) ⟨gi L⟩
 have hlen := ents_len x.l
 have hI' := ents_I64 hI
 rw [hp] at he hby hlen hI'
 rw [hb] at hby
 have e2 : (p.l.map enV).length = p.l.length := by simp
 obtain ⟨N, fb', hf, hN⟩ := same_loop p fp hfp j (by omega) hI' (.ptr i 0) p.l [] (hx H []) .full rfl (.inr ⟨rfl, rfl⟩) ⟨gj _⟩
 rw [hx_hx, List.nil_append, show idxB p.base [] = [] from rfl, show bytes [] .full = .list 1 [] .full from rfl] at hN
 simp only [List.map_nil, List.length_nil, show ((0 : Nat) : Int) = 0 from rfl] at hN
 have hq : (toS (idxB p.base p.l) == toS (idxB p.base p.l)) = true := by simp
 refine W_fn rfl rfl ?_
 rcases hfp with rfl | rfl <;> rcases hf with rfl | rfl <;> simp only [go_sem, c_law8_same, he, e2, gj, hN, hby, dec_ints, hq, simprocAttr]
def GapS (k : Int) : List En → Prop
 | [] => True
 | [_] => True
 | e :: e' :: l => (e.1 < e'.1 ∧ e'.2 - e.2 ≥ k) ∧ GapS k (e' :: l)
theorem GapS.snoc {k : Int} : ∀ {l : List En} {e : En}, GapS k l → (∀ q, l.getLast? = some q → q.1 < e.1 ∧ e.2 - q.2 ≥ k) → GapS k (l ++ [e])
 | [], e, _, _ => trivial
 | [q], e, _, h => ⟨h q rfl, trivial⟩
 | q :: q' :: l, e, hg, h => ⟨hg.1, GapS.snoc (l := q' :: l) hg.2 fun x hx => h x (by simpa [List.getLast?_cons_cons] using hx)⟩
theorem GapS.tail {k : Int} {e : En} {l : List En} (h : GapS k (e :: l)) : GapS k l := by
 cases l with
 | nil => trivial
 | cons e' l => exact h.2
theorem GapS.rise {k : Int} (hk : 1 ≤ k) : ∀ {l : List En} {e : En}, GapS k (e :: l) → ∀ e' ∈ l, e.1 < e'.1 ∧ e.2 + k ≤ e'.2
 | [], _, _, _, h => by simp at h
 | q :: l, e, hg, e', he => by
  rcases List.mem_cons.1 he with rfl | he
  ·exact ⟨hg.1.1, by have := hg.1.2; omega⟩
  ·have := GapS.rise hk hg.2 e' he
   have h1 := hg.1
   omega
theorem GapS.srt {k : Int} (hk : 1 ≤ k) : ∀ {l : List En}, GapS k l → Srt l
 | [], _ => trivial
 | e :: l, h => ⟨fun e' he => (GapS.rise hk h e' he).1, GapS.srt hk h.tail⟩
theorem lastE_ents (l : List Ad) : (lastE l).map (fun a => (a.off, a.at_)) = (ents l).getLast? := by
 have key : ∀ (n : Nat) (l : List Ad), l.length = n → (lastE l).map (fun a => (a.off, a.at_)) = (ents l).getLast? := by
  intro n
  induction n with
  | zero => intro l h; rw [List.length_eq_zero_iff.1 h]; rfl
  | succ n ih =>
   intro l h
   obtain ⟨r, a, rfl⟩ : ∃ r a, l = r ++ [a] := by
    rcases List.eq_nil_or_concat l with h' | ⟨s, x, h'⟩
    ·subst h'; cases h
    ·exact ⟨s, x, by simpa using h'⟩
   rw [lastE_snoc, ents_app, ents_cons]
   cases a.entry with
   | true => simp [ents]
   | false => rw [if_neg (by decide), if_neg (by decide), ih r (by simpa using h)]; simp [ents]
 exact key _ l rfl
structure IxInv (x : Ix) (ho he : Int) : Prop where
 bo : ∀ a ∈ x.l, a.off < ho
 be : ∀ a ∈ x.l, 0 ≤ a.at_ ∧ a.at_ < a.end_ ∧ a.end_ ≤ he
 gap : GapS x.every (ents x.l)
 ne : x.l ≠ [] → ents x.l ≠ []
theorem IxInv.nil (b e ho he : Int) : IxInv ⟨b, e, []⟩ ho he := ⟨by simp, by simp, trivial, fun h => absurd rfl h⟩
theorem lastE_mem : ∀ {l : List Ad} {e : Ad}, lastE l = some e → e ∈ l
 | a :: l, e, h => by
  rw [lastE] at h
  cases hl : lastE l with
  | some b => rw [hl] at h; cases h; exact List.mem_cons_of_mem _ (lastE_mem hl)
  | none =>
   rw [hl] at h
   simp only at h
   split at h
   ·cases h; simp
   ·cases h
theorem IxInv.add {x : Ix} {ho he o a s : Int} (h : IxInv x ho he) (h1 : ho ≤ o) (h2 : he ≤ a) (h3 : 0 ≤ a) (h4 : 1 ≤ s) (h5 : a + s ≤ 4611686018427387904) (h6 : x.base ≤ o) :
  addOK x o a s = true ∧ IxInv (addI x o a s) (o + 1) (a + s) := by
 have hw : IntKind.i64.wrap (a + s) = a + s := wrap_id (by unfold I64; omega)
 constructor
 ·unfold addOK
  have c1 : ¬ o < x.base := by omega
  have c2 : ¬ a < 0 := by omega
  have c3 : ¬ s < 1 := by omega
  simp only [c1, c2, c3, not_false_eq_true, decide_true, Bool.true_and]
  cases hq : x.l.getLast? with
  | none => rfl
  | some q =>
   have hm := List.mem_of_getLast? hq
   have := h.bo q hm
   have := h.be q hm
   simp; omega
 ·refine ⟨?_, ?_, ?_, ?_⟩
  ·intro b hb
   rcases List.mem_append.1 hb with hb | hb
   ·have := h.bo b hb; omega
   ·rw [List.mem_singleton] at hb; subst hb; simp only; omega
  ·intro b hb
   rcases List.mem_append.1 hb with hb | hb
   ·have := h.be b hb; omega
   ·rw [List.mem_singleton] at hb; subst hb; simp only [hw]; omega
  ·show GapS x.every (ents (x.l ++ [_]))
   rw [ents_app, ents_cons]
   simp only [show ents [] = [] from rfl, List.append_nil]
   cases hE : addE x a with
   | false => simpa using h.gap
   | true =>
    rw [if_pos rfl]
    refine h.gap.snoc fun q hq => ?_
    rw [← lastE_ents] at hq
    obtain ⟨e, he', rfl⟩ := Option.map_eq_some_iff.1 hq
    have hm := lastE_mem he'
    have b1 := h.bo e hm
    have b2 := h.be e hm
    unfold addE at hE
    rw [he'] at hE
    simp only [decide_eq_true_eq] at hE
    rw [wrap_id (by unfold I64; omega)] at hE
    exact ⟨by simp only; omega, by simp only; omega⟩
  ·intro _
   show ents (x.l ++ [_]) ≠ []
   rw [ents_app, ents_cons]
   by_cases hx : x.l = []
   ·have : addE x a = true := by unfold addE; rw [hx]; rfl
    rw [this]; simp
   ·intro hh
    exact h.ne hx (List.append_eq_nil_iff.1 hh).1
theorem IxInv.I64 {x : Ix} {ho he : Int} (h : IxInv x ho he) (hh : he ≤ 4611686018427387904) : ∀ a ∈ x.l, Go.Abs.I64 a.at_ := fun a ha => by
 have := h.be a ha
 unfold Go.Abs.I64; omega
theorem findP_mono {k : Int} (hk : 1 ≤ k) (p q : Int) (hpq : p ≤ q) : ∀ (E : List En) (a : Int), GapS k E → (∀ e ∈ E, a ≤ e.2) → findP E p a ≤ findP E q a
 | [], a, _, _ => Int.le_refl _
 | e :: E, a, hg, ha => by
  have he := ha e (by simp)
  have hr := GapS.rise hk hg
  rw [findP, findP]
  by_cases c : e.1 ≤ p
  ·rw [if_pos c, if_pos (by omega)]
   exact findP_mono hk p q hpq E e.2 hg.tail fun e' h' => by have := hr e' h'; omega
  ·rw [if_neg c]
   have : findP E p a = a := findP_gt p E a fun e' h' => by have := hr e' h'; omega
   rw [this]
   have low : ∀ (E : List En) (b : Int), (∀ e ∈ E, a ≤ e.2) → a ≤ b → a ≤ findP E q b := by
    intro E
    induction E with
    | nil => intro b _ hb; exact hb
    | cons e E ih =>
     intro b h1 hb
     rw [findP]
     exact ih _ (fun e' h' => h1 e' (List.mem_cons_of_mem _ h')) (by have := h1 e (by simp); split <;> omega)
   exact low E _ (fun e' h' => ha e' (List.mem_cons_of_mem _ h')) (by split <;> omega)
end Go.Abs
