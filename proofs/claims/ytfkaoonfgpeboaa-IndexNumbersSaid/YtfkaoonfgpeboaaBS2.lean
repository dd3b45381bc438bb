import Derived.Test.YtfkaoonfgpeboaaBS1
set_option linter.unusedVariables false
set_option linter.unusedSimpArgs false
namespace Go.Abs
open Go Go.RowKit
def newOK (b e : Int) : Bool := decide (¬ b < 0) && (decide (¬ b > 1099511627776) && (decide (¬ e < 1) && decide (¬ e > 1073741824)))
theorem inth (b v : Int) (e : Env) (H : Heap) (h0 : Env.get e 4 = .ptr (pt H 0) 0) :
  agh (.thawC 4 2) e (hx H [.cells [.int .i64 b, .int .i64 v, .list 4 [] .full]]) = some (e, hx H [.cells [.int .i64 b, .int .i64 v, .lbox (pt H 1)], .arr 4 []]) := by
 have g : (hx H [.cells [.int .i64 b, .int .i64 v, .list 4 [] .full]])[pt H 0]? = some (.cells [.int .i64 b, .int .i64 v, .list 4 [] .full]) := by rw [hx_get]; rfl
 have hl : (hx H [.cells [.int .i64 b, .int .i64 v, .list 4 [] .full]]).length = pt H 1 := hx_len H _
 simp only [agh, h0, g, Nat.zero_add, List.getElem?_cons_zero, List.getElem?_cons_succ, List.set_cons_zero, List.set_cons_succ, hl, hx_set, hx_app, List.cons_append, List.nil_append]
theorem inbk (b v : Int) (e : Env) (H : Heap) (h0 : Env.get e 4 = .ptr (pt H 0) 0) :
  agh (.backC 4 2) e (hx H [.cells [.int .i64 b, .int .i64 v, .lbox (pt H 1)], .arr 4 []]) = some (e, hx H [.cells [.int .i64 b, .int .i64 v, .list 4 [] .uniq], .dead]) := by
 have g : (hx H [.cells [.int .i64 b, .int .i64 v, .lbox (pt H 1)], .arr 4 []])[pt H 0]? = some (.cells [.int .i64 b, .int .i64 v, .lbox (pt H 1)]) := by rw [hx_get]; rfl
 have g2 : (hx H [.cells [.int .i64 b, .int .i64 v, .lbox (pt H 1)], .arr 4 []])[pt H 1]? = some (.arr 4 []) := by rw [hx_get]; rfl
 simp only [agh, h0, g, g2, Nat.zero_add, List.getElem?_cons_zero, List.getElem?_cons_succ, List.set_cons_zero, List.set_cons_succ, hx_set]
theorem new_spec (b e : Int) (H : Heap) : W n_index_New [.int .i64 b, .int .i64 e] H = if newOK b e = true then some (.ptr (pt H 0) 0, hx H [Ix.B ⟨b, e, []⟩ .uniq, .dead]) else some (.nilp, H) := by
 have hr : ∀ r, runFn W loopW c_index_New [.int .i64 b, .int .i64 e] (hx H []) = some r → W n_index_New [.int .i64 b, .int .i64 e] H = some r := fun r h => W_fnS rfl rfl h
 unfold newOK
 by_cases c1 : b < 0
 ·simp only [c1, not_true_eq_false, decide_false, Bool.false_and, Bool.false_eq_true, if_false]
  apply hr
  simp only [go_sem, c_index_New, c1, simprocAttr]; rw [hx_nil]
 ·by_cases c2 : b > 1099511627776
  ·simp only [c1, c2, not_true_eq_false, not_false_eq_true, decide_true, decide_false, Bool.false_and, Bool.true_and, Bool.false_eq_true, if_false]
   apply hr
   simp only [go_sem, c_index_New, c1, c2, simprocAttr]; rw [hx_nil]
  ·by_cases c3 : e < 1
   ·simp only [c1, c2, c3, not_true_eq_false, not_false_eq_true, decide_true, decide_false, Bool.false_and, Bool.true_and, Bool.false_eq_true, if_false]
    apply hr
    simp only [go_sem, c_index_New, c1, c2, c3, simprocAttr]; rw [hx_nil]
   ·by_cases c4 : e > 1073741824
    ·simp only [c1, c2, c3, c4, not_true_eq_false, not_false_eq_true, decide_true, decide_false, Bool.false_and, Bool.true_and, Bool.false_eq_true, if_false]
     apply hr
     simp only [go_sem, c_index_New, c1, c2, c3, c4, simprocAttr]; rw [hx_nil]
    ·simp only [c1, c2, c3, c4, not_true_eq_false, not_false_eq_true, decide_true, decide_false, Bool.false_and, Bool.true_and, Bool.false_eq_true, if_true]
     apply hr
     simp only [go_sem, c_index_New, c1, c2, c3, c4, inth, inbk, simprocAttr]; first | done | rfl
def addOK (x : Ix) (o a s : Int) : Bool :=
 decide (¬ o < x.base) && (decide (¬ a < 0) && (decide (¬ s < 1) && (match x.l.getLast? with | none => true | some q => decide (¬ o ≤ q.off) && decide (¬ a < q.end_))))
def addE (x : Ix) (a : Int) : Bool := match lastE x.l with | none => true | some e => decide (IntKind.i64.wrap (a - e.at_) ≥ x.every)
def addI (x : Ix) (o a s : Int) : Ix := ⟨x.base, x.every, x.l ++ [⟨o, a, IntKind.i64.wrap (a + s), addE x a⟩]⟩
theorem under_ads (l : List Ad) : AVal.underL 0 (l.map Ad.v) = true := uL_map 0 Ad.v (fun _ => rfl) l
theorem add_false (x : Ix) (fl : Fl) (hfl : Flag x fl) (hx1 : x.l.length < 1000000000) (i : Nat) (H : Heap) (hi : Old H i (x.B fl)) (o a s : Int) (h : addOK x o a s = false) :
  W n_index_Index_Add [.ptr i 0, .int .i64 o, .int .i64 a, .int .i64 s] H = some (.bool false, H) := by
 subst hfl
 have gi := hi.get
 have gi' := hi.get'
 have hth := ith hi
 have hb := ibk hi x (x.l.map Ad.v)
 rw [hi.same] at hb
 have e2 : (x.l.map Ad.v).length = x.l.length := by simp
 refine W_fn rfl rfl ?_
 unfold addOK at h
 by_cases c1 : o < x.base
 ·simp only [go_sem, c_index_Index_Add, gi, c1, simprocAttr]
 by_cases c2 : a < 0
 ·simp only [go_sem, c_index_Index_Add, gi, c1, c2, simprocAttr]
 by_cases c3 : s < 1
 ·simp only [go_sem, c_index_Index_Add, gi, c1, c2, c3, simprocAttr]
 rcases List.eq_nil_or_concat x.l with h0 | ⟨l, q, h0⟩
 ·rw [h0] at h; simp [c1, c2, c3] at h
 ·rw [List.concat_eq_append] at h0
  have hpos : (x.l.length : Int) > 0 := by rw [h0]; simp
  have e3 : IntKind.i64.wrap ((x.l.length : Int) - 1) = ((x.l.length - 1 : Nat) : Int) := by rw [wrap_id (by unfold I64; omega)]; omega
  have e4 : (x.l.map Ad.v)[((x.l.length - 1 : Nat) : Int).toNat]? = some q.v := by rw [h0]; simp
  have e5 : (0 : Int) ≤ ((x.l.length - 1 : Nat) : Int) := by omega
  have e7 : ((x.l.length - 1 : Nat) : Int) < (x.l.length : Int) := by omega
  generalize x.l.map Ad.v = X at *
  by_cases c4 : o ≤ q.off
  ·simp only [go_sem, c_index_Index_Add, gi, hth, hb, gi', pt_set, hx_getS, hx_setS, c1, c2, c3, e2, hpos, e3, e4, e5, e7, c4, simprocAttr]
  ·have c5 : a < q.end_ := by rw [h0] at h; simp [c1, c2, c3, c4] at h; omega
   simp only [go_sem, c_index_Index_Add, gi, hth, hb, gi', pt_set, hx_getS, hx_setS, c1, c2, c3, e2, hpos, e3, e4, e5, e7, c4, c5, simprocAttr]
theorem add_true (x : Ix) (fl : Fl) (hfl : Flag x fl) (hx1 : x.l.length < 1000000000) (i : Nat) (H : Heap) (hi : Old H i (x.B fl)) (o a s : Int) (h : addOK x o a s = true) :
  W n_index_Index_Add [.ptr i 0, .int .i64 o, .int .i64 a, .int .i64 s] H = some (.bool true, H.set i ((addI x o a s).B .uniq)) := by
 subst hfl
 have hth := ith hi
 have hb := ibk hi x (x.l.map Ad.v)
 rw [hi.same] at hb
 have gi := hi.get
 have gs := hi.set
 have gi' := hi.get'
 have gs' := hi.set'
 have e2 : (x.l.map Ad.v).length = x.l.length := by simp
 unfold addOK at h
 simp only [Bool.and_eq_true, decide_eq_true_eq] at h
 obtain ⟨c1, c2, c3, h⟩ := h
 have hl : ∀ L, W n_index_Index_last [.ptr i 0] (hx H L) = _ := fun L => last_spec x .uniq rfl hx1 i (hx H L) ⟨gi L⟩
 have a2 : ((x.l.map Ad.v).length + 1) * 32 ≤ maxBytes := by simp [maxBytes]; omega
 have a2' : (x.l.length + 1) * 32 ≤ maxBytes := by simp [maxBytes]; omega
 have u := under_ads x.l
 have u2 := under_ads (addI x o a s).l
 have a1 : x.l.map Ad.v ++ [AVal.agg [.int .i64 o, .int .i64 a, .int .i64 (IntKind.i64.wrap (a + s)), .bool (addE x a)]] = (addI x o a s).l.map Ad.v := by simp [addI]
 have hd : W n_index_Index_Add [.ptr i 0, .int .i64 o, .int .i64 a, .int .i64 s] H = some (.bool true, H.set i ((addI x o a s).B .uniq)) := by
  have hB : (addI x o a s).B .uniq = .cells [.int .i64 x.base, .int .i64 x.every, .list 4 ((addI x o a s).l.map Ad.v) .uniq] := rfl
  rw [hB]
  cases hla : lastE x.l with
  | none =>
   have he : addE x a = true := by unfold addE; rw [hla]
   rw [he] at a1
   rw [hla] at hl
   simp only [lastV, Option.getD_none, Option.isSome_none] at hl
   rcases List.eq_nil_or_concat x.l with h0 | ⟨l, q, h0⟩
   ·have hpos : ¬ ((x.l.length : Int) > 0) := by rw [h0]; simp
    refine W_fnS rfl rfl ?_
    simp only [go_sem, c_index_Index_Add, gi, gs, gi', gs', hth, hb, pt_set, hx_getS, hx_setS, apV, c1, c2, c3, e2, hpos, hl, a1, a2', apO, apF, u, u2, simprocAttr]
   ·rw [List.concat_eq_append] at h0
    have hpos : (x.l.length : Int) > 0 := by rw [h0]; simp
    have e3 : IntKind.i64.wrap ((x.l.length : Int) - 1) = ((x.l.length - 1 : Nat) : Int) := by rw [wrap_id (by unfold I64; omega)]; omega
    have e4 : (x.l.map Ad.v)[((x.l.length - 1 : Nat) : Int).toNat]? = some q.v := by rw [h0]; simp
    have e5 : (0 : Int) ≤ ((x.l.length - 1 : Nat) : Int) := by omega
    have e7 : ((x.l.length - 1 : Nat) : Int) < (x.l.length : Int) := by omega
    rw [h0] at h
    simp only [List.getLast?_append, List.getLast?_singleton, Option.some_or, Bool.and_eq_true, decide_eq_true_eq] at h
    refine W_fnS rfl rfl ?_
    ·simp only [go_sem, c_index_Index_Add, gi, gs, gi', gs', hth, hb, pt_set, hx_getS, hx_setS, apV, c1, c2, c3, e2, hpos, e3, e4, e5, e7, h.1, h.2, hl, a1, a2', apO, apF, u, u2, simprocAttr]
  | some e =>
   rw [hla] at hl
   simp only [lastV, Option.getD_some, Option.isSome_some] at hl
   have hne : x.l ≠ [] := by intro h0; rw [h0] at hla; cases hla
   rcases List.eq_nil_or_concat x.l with h0 | ⟨l, q, h0⟩
   ·exact absurd h0 hne
   ·rw [List.concat_eq_append] at h0
    have hpos : (x.l.length : Int) > 0 := by rw [h0]; simp
    have e3 : IntKind.i64.wrap ((x.l.length : Int) - 1) = ((x.l.length - 1 : Nat) : Int) := by rw [wrap_id (by unfold I64; omega)]; omega
    have e4 : (x.l.map Ad.v)[((x.l.length - 1 : Nat) : Int).toNat]? = some q.v := by rw [h0]; simp
    have e5 : (0 : Int) ≤ ((x.l.length - 1 : Nat) : Int) := by omega
    have e7 : ((x.l.length - 1 : Nat) : Int) < (x.l.length : Int) := by omega
    rw [h0] at h
    simp only [List.getLast?_append, List.getLast?_singleton, Option.some_or, Bool.and_eq_true, decide_eq_true_eq] at h
    refine W_fnS rfl rfl ?_
    ·by_cases he : IntKind.i64.wrap (a - e.at_) ≥ x.every
     ·have he' : addE x a = true := by unfold addE; rw [hla]; simpa using he
      rw [he'] at a1
      simp only [go_sem, c_index_Index_Add, gi, gs, gi', gs', hth, hb, pt_set, hx_getS, hx_setS, apV, c1, c2, c3, e2, hpos, e3, e4, e5, e7, h.1, h.2, hl, a1, a2', apO, apF, u, u2, he, simprocAttr]
     ·have he' : addE x a = false := by unfold addE; rw [hla]; simpa using he
      rw [he'] at a1
      simp only [go_sem, c_index_Index_Add, gi, gs, gi', gs', hth, hb, pt_set, hx_getS, hx_setS, apV, c1, c2, c3, e2, hpos, e3, e4, e5, e7, h.1, h.2, hl, a1, a2', apO, apF, u, u2, he, simprocAttr]
 exact hd
theorem search_loop (n k : Nat) (hn : n < 1000000000) (g : FuncId) (a b : List AVal) (p : Nat → Bool) (H : Heap) (hg : ∀ m, m < n → W g (a.map AVal.strip ++ [.int .i64 (m : Nat)] ++ b.map AVal.strip) H = some (.bool (p m), H))
  (h0 : ∀ m, m < k → p m = false) (h1 : ∀ m, k ≤ m → m < n → p m = true) : ∀ (d i j : Nat), j - i ≤ d → i ≤ k → k ≤ j → j ≤ n →
  loopA W loopW (.ghost (.kill k_sort_Search_0) l_sort_Search_0) [(1, .fn g a b), (5, .int .i64 (i : Nat)), (6, .int .i64 (j : Nat))] H = some (.exit 0, [(5, .int .i64 (k : Nat))], H) := by
 intro d
 induction d with
 | zero =>
  intro i j hd hi hj hjn
  have e : i = k := by omega
  have c1 : ¬ (((i : Nat) : Int) < ((j : Nat) : Int)) := by omega
  refine loop_step l_sort_Search_0.eq_1 k_sort_Search_0.eq_1 (by kernel_rfl) ?_
  simp only [go_sem, c1, simprocAttr]
  rw [e]
 | succ d ih =>
  intro i j hd hi hj hjn
  by_cases hij : i < j
  ·have c1 : (((i : Nat) : Int) < ((j : Nat) : Int)) := by omega
   have e1 : IntKind.i64.wrap (((i : Nat) : Int) + ((j : Nat) : Int)) = (i + j : Nat) := by rw [wrap_id (by unfold I64; omega)]; omega
   have e2 : IntKind.u64.wrap ((i + j : Nat) : Int) = (i + j : Nat) := by rw [Num.wu64]; omega
   have e3 : shr .u64 ((i + j : Nat) : Int) 1 = ((i + j) / 2 : Nat) := by
    have : shr .u64 ((i + j : Nat) : Int) 1 = ((i + j : Nat) : Int) / 2 := rfl
    rw [this]; omega
   have e4 : IntKind.i64.wrap (((i + j) / 2 : Nat) : Int) = ((i + j) / 2 : Nat) := wrap_id (by unfold I64; omega)
   have e5 : IntKind.i64.wrap ((((i + j) / 2 : Nat) : Int) + 1) = ((i + j) / 2 + 1 : Nat) := by rw [wrap_id (by unfold I64; omega)]; omega
   have hm := hg ((i + j) / 2) (by omega)
   simp only [List.append_assoc, List.cons_append, List.nil_append] at hm
   cases hp : p ((i + j) / 2) with
   | true =>
    rw [hp] at hm
    have hk : k ≤ (i + j) / 2 := by
     rcases Nat.lt_or_ge ((i + j) / 2) k with h | h
     ·rw [h0 _ h] at hp; cases hp
     ·exact h
    have hN := ih i ((i + j) / 2) (by omega) hi hk (by omega)
    refine loop_step l_sort_Search_0.eq_1 k_sort_Search_0.eq_1 (by kernel_rfl) ?_
    simp only [go_sem, c1, e1, e2, e3, e4, e5, hm, simprocAttr]
    exact hN
   | false =>
    rw [hp] at hm
    have hk : (i + j) / 2 + 1 ≤ k := by
     rcases Nat.lt_or_ge ((i + j) / 2) k with h | h
     ·exact h
     ·rw [h1 _ h (by omega)] at hp; cases hp
    have hN := ih ((i + j) / 2 + 1) j (by omega) hk hj hjn
    refine loop_step l_sort_Search_0.eq_1 k_sort_Search_0.eq_1 (by kernel_rfl) ?_
    simp only [go_sem, c1, e1, e2, e3, e4, e5, hm, simprocAttr]
    exact hN
  ·have e : i = k := by omega
   have c1 : ¬ (((i : Nat) : Int) < ((j : Nat) : Int)) := by omega
   refine loop_step l_sort_Search_0.eq_1 k_sort_Search_0.eq_1 (by kernel_rfl) ?_
   simp only [go_sem, c1, simprocAttr]
   rw [e]
theorem search_spec (n k : Nat) (hn : n < 1000000000) (g : FuncId) (a b : List AVal) (p : Nat → Bool) (H : Heap) (hg : ∀ m, m < n → W g (a.map AVal.strip ++ [.int .i64 (m : Nat)] ++ b.map AVal.strip) H = some (.bool (p m), H))
  (hk : k ≤ n) (h0 : ∀ m, m < k → p m = false) (h1 : ∀ m, k ≤ m → m < n → p m = true) : W n_sort_Search [.int .i64 (n : Nat), .fn g a b] H = some (.int .i64 (k : Nat), H) := by
 have hN := search_loop n k hn g a b p H hg h0 h1 n 0 n (by omega) (by omega) hk (Nat.le_refl _)
 rw [show ((0 : Nat) : Int) = 0 from rfl] at hN
 refine W_fn0 rfl rfl ?_
 simp only [go_sem, c_sort_Search, hN, trim_same, simprocAttr]
def findP : List En → Int → Int → Int
 | [], _, at_ => at_
 | e :: l, off, at_ => findP l off (if e.1 ≤ off then e.2 else at_)
theorem findP_app (off) : ∀ (A B : List En) (at_), findP (A ++ B) off at_ = findP B off (findP A off at_)
 | [], B, at_ => rfl
 | e :: A, B, at_ => by rw [List.cons_append, findP, findP, findP_app off A B]
theorem findP_gt (off) : ∀ (B : List En) (at_), (∀ e ∈ B, off < e.1) → findP B off at_ = at_
 | [], at_, _ => rfl
 | e :: B, at_, h => by
  rw [findP, if_neg (by have := h e (by simp); omega)]
  exact findP_gt off B at_ fun e' h' => h e' (List.mem_cons_of_mem _ h')
def Srt : List En → Prop
 | [] => True
 | e :: l => (∀ e' ∈ l, e.1 < e'.1) ∧ Srt l
theorem srt_split (off : Int) : ∀ (l : List En), Srt l → ∃ A B, l = A ++ B ∧ (∀ e ∈ A, e.1 ≤ off) ∧ (∀ e ∈ B, off < e.1)
 | [], _ => ⟨[], [], rfl, by simp, by simp⟩
 | e :: l, h => by
  obtain ⟨A, B, h1, h2, h3⟩ := srt_split off l h.2
  by_cases he : e.1 ≤ off
  ·exact ⟨e :: A, B, by rw [h1]; rfl, by intro x hx; rcases List.mem_cons.1 hx with rfl | hx; exact he; exact h2 x hx, h3⟩
  ·refine ⟨[], e :: l, rfl, by simp, ?_⟩
   intro x hx
   rcases List.mem_cons.1 hx with rfl | hx
   ·omega
   ·have := h.1 x hx; omega
theorem find1_spec (E : List En) (off : Int) (p q : Nat) (H : Heap) (hp : Old H p (.cells [.list 2 (E.map enV) .full])) (hq : Old H q (.cells [.int .i64 off])) (m : Nat) (e : En) (he : E[m]? = some e) :
  W n_index_Index_Find_1 [.int .i64 (m : Nat), .ptr p 0, .ptr q 0] H = some (.bool (decide (e.1 > off)), H) := by
 have gp := hp.get
 have gq := hq.get
 have h3 : (E.map enV)[((m : Nat) : Int).toNat]? = some (enV e) := by rw [Int.toNat_natCast, List.getElem?_map, he]; rfl
 have h2 : (0 : Int) ≤ ((m : Nat) : Int) := by omega
 refine W_fn rfl rfl ?_
 simp only [go_sem, c_index_Index_Find_1, gp, gq, h2, h3, simprocAttr]
theorem find_spec (x : Ix) (fl : Fl) (hfl : Flag x fl) (hx1 : x.l.length < 1000000000) (i : Nat) (H : Heap) (hi : Old H i (x.B fl)) (hs : Srt (ents x.l)) (off : Int) :
  W n_index_Index_Find [.ptr i 0, .int .i64 off] H = some (.int .i64 (findP (ents x.l) off 0), H) := by
 have gi := hi.get
 have he := fun L => entries_spec x fl hfl hx1 i (hx H L) ⟨gi L⟩
 obtain ⟨A, B, hAB, hA, hB⟩ := srt_split off _ hs
 have hlen := ents_len x.l
 have e2 : ((ents x.l).map enV).length = (ents x.l).length := by simp
 have hf : ∀ m e, (ents x.l)[m]? = some e → W n_index_Index_Find_1 [.int .i64 (m : Nat), .ptr (pt H 1) 0, .ptr (pt H 0) 0] (hx H [.cells [.int .i64 off], .cells [.list 2 ((ents x.l).map enV) .full]]) = some (.bool (decide (e.1 > off)), hx H [.cells [.int .i64 off], .cells [.list 2 ((ents x.l).map enV) .full]]) :=
  fun m e hm => find1_spec (ents x.l) off _ _ _ ⟨by rw [hx_get]; rfl⟩ ⟨by rw [hx_get]; rfl⟩ m e hm
 have hS := search_spec (ents x.l).length A.length (by omega) n_index_Index_Find_1 [] [.ptr (pt H 1) 0, .ptr (pt H 0) 0] (fun m => decide (((ents x.l)[m]?.getD (0, 0)).1 > off)) (hx H [.cells [.int .i64 off], .cells [.list 2 ((ents x.l).map enV) .full]])
  (fun m hm => by
   obtain ⟨e, he⟩ : ∃ e, (ents x.l)[m]? = some e := ⟨_, List.getElem?_eq_getElem hm⟩
   have := hf m e he
   rw [he]; exact this)
  (by rw [hAB]; simp) (fun m hm => by
   rw [hAB, List.getElem?_append_left hm, List.getElem?_eq_getElem hm]
   have := hA _ (List.getElem_mem hm)
   simp; exact this) (fun m hm hn => by
   rw [hAB, List.length_append] at hn
   rw [hAB, List.getElem?_append_right hm, List.getElem?_eq_getElem (by omega)]
   have := hB _ (List.getElem_mem (show m - A.length < B.length by omega))
   simp; exact this)
 have hF : findP (ents x.l) off 0 = findP A off 0 := by rw [hAB, findP_app, findP_gt off B _ hB]
 rw [hF]
 refine W_fn rfl rfl ?_
 rcases List.eq_nil_or_concat A with h0 | ⟨A', e, h0⟩
 ·rw [h0] at hS ⊢
  rw [show ((([] : List En).length : Nat) : Int) = 0 from rfl] at hS
  simp only [go_sem, c_index_Index_Find, he, e2, hS, findP, simprocAttr]
 ·rw [List.concat_eq_append] at h0
  have hk : ¬ ((A.length : Int) = 0) := by rw [h0]; simp; omega
  have e3 : IntKind.i64.wrap ((A.length : Int) - 1) = ((A.length - 1 : Nat) : Int) := by
   have : A.length ≤ (ents x.l).length := by rw [hAB]; simp
   have : 1 ≤ A.length := by rw [h0]; simp
   rw [wrap_id (by unfold I64; omega)]; omega
  have e4 : ((ents x.l).map enV)[((A.length - 1 : Nat) : Int).toNat]? = some (enV e) := by rw [hAB, h0]; simp
  have e5 : (0 : Int) ≤ ((A.length - 1 : Nat) : Int) := by omega
  have hF2 : findP A off 0 = e.2 := by
   rw [h0, findP_app]
   show (if e.1 ≤ off then e.2 else _) = _
   rw [if_pos (hA e (by rw [h0]; simp))]
  rw [hF2]
  simp only [go_sem, c_index_Index_Find, he, e2, hS, hk, e3, e4, e5, simprocAttr]
end Go.Abs
