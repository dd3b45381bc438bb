import Derived.Test.YtheaccppdikjgaaGreatDoorK26c
import Derived.Deep.LoopGhost
namespace Go.Abs
open Go
set_option linter.unusedVariables false
set_option linter.unusedSimpArgs false
structure MS where
  id1 : Nat
  ops1 : Array Oper
  b0 : Nat
  id2 : Nat
  ops2 : Array Oper
  okt : Nat
  b1 : Nat
  b2 : Nat
  id3 : Nat
  ops3 : Array Oper
  rest : Code
def MS.code (s : MS) : Code :=
  .seq (.region s.id1 s.ops1 false) (.block s.b0 (.loop (.seq (.region s.id2 s.ops2 false) (.seq (.cond (.tmp s.okt) .skip (.exit s.b1)) (.block s.b2 (.seq (.region s.id3 s.ops3 false) s.rest))))))
def mShape : Code → Option MS
  | .seq (.region id1 ops1 false) (.block b0 (.loop (.seq (.region id2 ops2 false) (.seq (.cond (.tmp okt) .skip (.exit b1)) (.block b2 (.seq (.region id3 ops3 false) rest)))))) =>
    some ⟨id1, ops1, b0, id2, ops2, okt, b1, b2, id3, ops3, rest⟩
  | _ => none
theorem mShape_eq {c : Code} {s : MS} (h : mShape c = some s) : c = s.code := by
  unfold mShape at h
  split at h
  · simp only [Option.some.injEq] at h; subst h; rfl
  · cases h
def isMapT (P : Program) (t : TypeId) : Bool :=
  match P.underlying t with
  | some (.map _ _) => true
  | _ => false
def chkRange (P : Program) (nt : Nat) (I : MInfo) (o : Oper) : Bool :=
  (match o.op with | .range t (.tmp u) => u == I.mt && isMapT P t | _ => false) && decide (o.dst = some I.it) && decide (I.it < nt) && o.guard.isNone
def chkNext (nt : Nat) (I : MInfo) (o : Oper) : Bool :=
  (match o.op with | .next (.tmp u) false => u == I.it | _ => false) && decide (o.dst = some I.nx) && decide (I.nx < nt) && o.guard.isNone
def chkEntry (nt : Nat) (I : MInfo) (o : Oper) : Bool :=
  (match o.op with | .entry (.tmp u) => u == I.it | _ => false) && decide (o.dst = some I.en) && decide (I.en < nt) && o.guard.isNone
def chkM (P : Program) (nt : Nat) (I : MInfo) (s : MS) : Bool :=
  s.okt == I.ok && s.b1 == s.b0 && chkOps P nt s.ops1 s.ops1.toList.dropLast I.pre && (match s.ops1.toList.getLast? with | some o => chkRange P nt I o | none => false) &&
  (match s.ops2.toList with | o :: os => chkNext nt I o && chkOps P nt s.ops2 os I.r2 | [] => false) &&
  (match s.ops3.toList with | o :: os => chkEntry nt I o && chkOps P nt s.ops3 os I.r3 | [] => false)
theorem get_dels (e : Env) : ∀ (ts : List Nat) (t : Nat), (e.dels ts).get t = e.get t ∨ (e.dels ts).get t = .any := by
  intro ts
  induction ts generalizing e with
  | nil => intro t; exact .inl rfl
  | cons s ts ih =>
    intro t
    rcases ih (e.del s) t with h | h
    · rw [show e.dels (s :: ts) = (e.del s).dels ts from rfl, h, Env.get_del']
      by_cases hs : t = s
      · subst hs; exact .inr (upd_eq _ _ _)
      · exact .inl (upd_ne _ _ hs)
    · exact .inr h
theorem Free.slots {E G w r env env' tm tm' H H'} (h : Free E G ⟨env, tm, [], H⟩ w r) (hs : ∀ t i a, ownC (env' t) (tm' t) i = some a → ownC (env t) (tm t) i = some a)
    (hH : ∀ p a, (∀ t i, p ≠ .slot t i) → ownP G ⟨env', tm', [], H'⟩ w p = some a → ownP G ⟨env, tm, [], H⟩ w p = some a) : Free E G ⟨env', tm', [], H'⟩ w r :=
  ⟨h.new, fun p a ha => by
    cases p with
    | slot t i => exact h.own (.slot t i) a (hs t i a ha)
    | fly k i => simp [ownP] at ha
    | cell id x => exact h.own (.cell id x) a (hH _ a (by simp) ha)
    | box id => exact h.own (.box id) a (hH _ a (by simp) ha), h.D⟩
theorem Free.kills {E G w r tm H} {e : Env} (h : Free E G ⟨e.get, tm, [], H⟩ w r) (ts : List Nat) : Free E G ⟨(e.dels ts).get, tm, [], H⟩ w r := by
  refine h.slots (fun t i a ha => ?_) (fun p a hp ha => by cases p <;> first | exact ha | exact absurd rfl (hp _ _))
  rcases get_dels e ts t with h1 | h1
  · rwa [h1] at ha
  · rw [h1] at ha; simp only [ownC, own0] at ha; split at ha <;> cases ha
theorem Free.put {E G w r H V v} {e : Env} {a : Act} (h : Free E G ⟨e.get, tmOf a, [], H⟩ w r) (d : Nat) (hd : d < a.tmps.size) (hV : ∀ i, ownC V v i = none) :
    Free E G ⟨(e.put d V).get, tmOf (a.put (some d) v), [], H⟩ w r := by
  refine h.slots (fun t i b hb => ?_) (fun p b hp hb => by cases p <;> first | exact hb | exact absurd rfl (hp _ _))
  rw [tmOf_put v hd] at hb
  have := putO_get e (some d) V t
  simp only [Env.putO, Option.some.injEq] at this
  rw [this] at hb
  by_cases ht : d = t
  · subst ht; rw [if_pos rfl, upd_eq, hV] at hb; cases hb
  · rw [if_neg ht, upd_ne _ _ (Ne.symm ht)] at hb; exact hb
theorem under_get {n : Nat} {e : Env} (h : (e.all fun p => p.2.under n) = true) (t : Nat) : (e.get t).under n = true := by
  induction e with
  | nil => rfl
  | cons p e ih =>
    obtain ⟨k, v⟩ := p
    simp only [List.all_cons, Bool.and_eq_true] at h
    simp only [Env.get]
    split
    · exact h.1
    · exact ih h.2
theorem tuple_own {V : List AVal} (h : ∀ X ∈ V, X.plain = true) (v : Value) (i : Nat) : ownC (.tuple V) v i = none := by
  simp only [ownC]
  split
  · split
    · rename_i X hX
      have hp := h X (List.mem_of_getElem? hX)
      have := ownC_plain hp (Array.getD ‹Array Value› i undef) 0
      cases X <;> first | rfl | (simpa [ownC] using this) | (simp [AVal.plain] at hp)
    · rfl
  · rfl
theorem Rv.ptr_inv2 {G w id off v} (h : Rv G w (.ptr id off) v) : v = .pointer (some (at_ (G.μ id) off)) := by cases h; rfl
section
variable {P : Program}
theorem St.putT {E G H w} {e : Env} {a : Act} (h : St E G ⟨e.get, tmOf a, [], H⟩ w) {d : Nat} (hd : d < a.tmps.size) {V : AVal} {v : Value} (hT : Rt G w V v) (hV : ∀ i, ownC V v i = none) :
    St E G ⟨(e.put d V).get, tmOf (a.put (some d) v), [], H⟩ w := by
  have h1 : St E G ⟨e.get, tmOf a, [(V, v)], H⟩ w := h.res hT 0 (fun i b hb => by rw [hV] at hb; cases hb)
  exact h1.putO (some d) (fun t ht => by simp only [Option.some.injEq] at ht; subst ht; exact hd)
theorem iter_val {E G H w} {e : Env} {a : Act} (h : St E G ⟨e.get, tmOf a, [], H⟩ w) {t i : Nat} (hi : isIter e t i = true) : a.eval (.tmp t) = .pointer (some (at_ (G.μ i) 0)) := by
  have hs := h.slot t
  unfold isIter at hi
  split at hi
  · rename_i j he
    rw [beq_iff_eq] at hi; subst hi
    simp only [he] at hs
    have hr : Rv G w (.ptr i 0) (tmOf a t) := hs
    exact hr.ptr_inv2
  · cases hi
theorem b_val {E G H w} {e : Env} {a : Act} (h : St E G ⟨e.get, tmOf a, [], H⟩ w) {t : Nat} {b : Bool} (hi : isB e t b = true) : a.eval (.tmp t) = .bool b := by
  have hs := h.slot t
  unfold isB at hi
  split at hi
  · rename_i c he
    rw [beq_iff_eq] at hi; subst hi
    simp only [he] at hs
    exact Rv.bool_inv (show Rv G w (.bool c) (tmOf a t) from hs)
  · cases hi
theorem Rv.map_inv2 {G : Gh} {w : World} {id : Nat} {v : Value} (h : Rv G w (.map (some id)) v) : v = .map (some (G.μ id)) := by cases h; rfl
theorem mloop_ok {call : CallF} (hcall : ∀ f, FnOK P f (call f)) {run : Env → Heap → R} {nt : Nat} {I : MInfo} {s : MS} (hc : chkM P nt I s = true)
    (hrest : ∀ (E : Ent) (a : Act) (G : Gh) (w : World) (e e' : Env) (H H' : Heap) (Q : Exit → Act → World → Prop), nt ≤ a.tmps.size → a.defers = [] → St E G ⟨e.get, tmOf a, [], H⟩ w → run e H = some (.normal, e', H') →
      (∀ G' a' w', nt ≤ a'.tmps.size → a'.defers = [] → St E G' ⟨e'.get, tmOf a', [], H'⟩ w' → Q .normal a' w') → s.rest.wp P Q a w)
    {E : Ent} {a : Act} {G : Gh} {w : World} {e e' : Env} {H H' : Heap} {Q : Exit → Act → World → Prop} (hsz : nt ≤ a.tmps.size) (hd : a.defers = []) (h : St E G ⟨e.get, tmOf a, [], H⟩ w)
    (hx : mloopA call run I e H = some (e', H')) (hQ : ∀ G' a' w', nt ≤ a'.tmps.size → a'.defers = [] → St E G' ⟨e'.get, tmOf a', [], H'⟩ w' → Q .normal a' w') : s.code.wp P Q a w := by
  unfold chkM at hc
  simp only [Bool.and_eq_true, beq_iff_eq] at hc
  obtain ⟨⟨⟨⟨⟨hok, hb01⟩, hc1⟩, hc1l⟩, hc2⟩, hc3⟩ := hc
  -- the three first operations
  split at hc1l
  case h_2 => cases hc1l
  rename_i or hor
  split at hc2
  case h_2 => cases hc2
  rename_i on os2 hops2
  split at hc3
  case h_2 => cases hc3
  rename_i oe os3 hops3
  rw [Bool.and_eq_true] at hc2 hc3
  obtain ⟨hcn, hc2⟩ := hc2
  obtain ⟨hce, hc3⟩ := hc3
  unfold chkRange at hc1l
  unfold chkNext at hcn
  unfold chkEntry at hce
  simp only [Bool.and_eq_true, decide_eq_true_eq, Option.isNone_iff_eq_none] at hc1l hcn hce
  obtain ⟨⟨⟨hr1, hr2⟩, hr3⟩, hr4⟩ := hc1l
  obtain ⟨⟨⟨hn1, hn2⟩, hn3⟩, hn4⟩ := hcn
  obtain ⟨⟨⟨he1, he2⟩, he3⟩, he4⟩ := hce
  split at hr1
  case h_2 => cases hr1
  rename_i tr ur hopr
  rw [Bool.and_eq_true, beq_iff_eq] at hr1
  obtain ⟨rfl, hmt⟩ := hr1
  split at hn1
  case h_2 => cases hn1
  rename_i un hopn
  rw [beq_iff_eq] at hn1; subst hn1
  split at he1
  case h_2 => cases he1
  rename_i ue hope
  rw [beq_iff_eq] at he1; subst he1
  obtain ⟨kt, et, hty⟩ : ∃ kt et, P.underlying tr = some (.map kt et) := by
    unfold isMapT at hmt; split at hmt
    · rename_i kt et hu; exact ⟨kt, et, hu⟩
    · cases hmt
  -- what the reader does
  unfold mloopA at hx
  obtain ⟨⟨e1, H1⟩, hpre, hx⟩ := Option.bind_eq_some_iff.1 hx
  simp only at hx
  split at hx
  case h_2 => cases hx
  rename_i m hmv
  split at hx
  case h_2 => cases hx
  rename_i es hm
  obtain ⟨⟨e3, H3⟩, hrun, hlast⟩ := Option.bind_eq_some_iff.1 hx
  simp only at hlast
  have hall := mrun_all hrun
  have hl1 : s.ops1.toList = s.ops1.toList.dropLast ++ [or] := by
    have hne : s.ops1.toList ≠ [] := by intro hnil; rw [hnil] at hor; cases hor
    have := List.dropLast_concat_getLast hne
    rw [List.getLast?_eq_some_getLast hne] at hor
    simp only [Option.some.injEq] at hor
    rw [hor] at this
    exact this.symm
  generalize s.ops1.toList.dropLast = os1 at hc1 hl1
  have hsz1 : s.ops1.size = os1.length + 1 := by
    have := congrArg List.length hl1
    simpa using this
  have hget1 : ∀ (j : Nat) o, os1[j]? = some o → s.ops1[0 + j]? = some o := by
    intro j o hj
    rw [Nat.zero_add, ← Array.getElem?_toList, hl1, List.getElem?_append_left (List.getElem?_eq_some_iff.1 hj).1]; exact hj
  have hgetr : s.ops1[os1.length]? = some or := by
    rw [← Array.getElem?_toList, hl1, List.getElem?_append_right (Nat.le_refl _)]; simp
  have hget2 : s.ops2[0]? = some on := by rw [← Array.getElem?_toList, hops2]; rfl
  have hget3 : s.ops3[0]? = some oe := by rw [← Array.getElem?_toList, hops3]; rfl
  have hrng2 : List.range s.ops2.size = 0 :: List.range' 1 os2.length := by
    have : s.ops2.size = os2.length + 1 := by simpa using congrArg List.length hops2
    rw [this, List.range_eq_range', List.range'_succ]
  have hrng3 : List.range s.ops3.size = 0 :: List.range' 1 os3.length := by
    have : s.ops3.size = os3.length + 1 := by simpa using congrArg List.length hops3
    rw [this, List.range_eq_range', List.range'_succ]
  have hrng1 : List.range s.ops1.size = List.range' 0 os1.length ++ [os1.length] := by
    rw [hsz1, List.range_succ, List.range_eq_range']
  refine wp_seq (wp_region ?_)
  rw [hrng1]
  refine aops_pre hcall [os1.length] os1 I.pre 0 a G w e e1 H H1 hget1 hc1 hsz h hpre fun G1 a1 w1 hs1 hd1 hst1 => ?_
  rw [wpOps_cons]
  have hslot := hst1.slot I.mt
  simp only [hmv] at hslot
  have hmval : a1.eval (.tmp I.mt) = .map (some (G1.μ m)) := (show Rv G1 w1 (.map (some m)) (tmOf a1 I.mt) from hslot).map_inv2
  obtain ⟨ms, c, hbm, hms, hstamp, _⟩ := hst1.box m _ hm
  have hrunR : (execOp a1.eval or).run P w1 = .ok (.value (.pointer (some (at_ w1.heap.size 0)))) (w1.alloc (.mapIter (some (G1.μ m)) c #[] c)) := by
    simp [execOp, hopr, hmval, Instr.range, run_underlying hty, MapKept.run_getObj_map hbm]
  refine op_hand hgetr hr4 hrunR ?_
  obtain ⟨G2, hμ, hμ', hst2', hfree2'⟩ := hst1.newFree (.mapIter (some (G1.μ m)) c #[] c)
  have hml : m < H1.length := (List.getElem?_eq_some_iff.1 hm).1
  have hits : I.it < a1.tmps.size := by omega
  have hst2 := hst2'.putO (some I.it) (fun t ht => by simp only [Option.some.injEq] at ht; subst ht; exact hits)
  have hfree2 := hfree2'.put (V := .ptr H1.length 0) (v := .pointer (some (at_ w1.heap.size 0))) I.it hits (fun i => ownC_plain rfl _ i)
  rw [hr2]
  show wpOps P s.ops1 _ [] _ _
  simp only [wpOps]
  show (Code.block _ _).wp P Q _ _
  have hd2 : (a1.put (some I.it) (.pointer (some (at_ w1.heap.size 0)))).defers = [] := by rw [put_defers, hd1, hd]
  have hs2 : nt ≤ (a1.put (some I.it) (.pointer (some (at_ w1.heap.size 0)))).tmps.size := by rw [put_size]; exact hs1
  have hbm2 : (w1.alloc (.mapIter (some (G1.μ m)) c #[] c)).heap[G1.μ m]? = some (.map ms c) := by
    rw [heap_alloc_lt (Array.getElem?_eq_some_iff.1 hbm).1]; exact hbm
  have hr2' : (w1.alloc (.mapIter (some (G1.μ m)) c #[] c)).heap[w1.heap.size]? = some (.mapIter (some (G1.μ m)) c #[] c) := heap_alloc_new _ _
  generalize a1.put (some I.it) (.pointer (some (at_ w1.heap.size 0))) = a2 at *
  generalize w1.alloc (.mapIter (some (G1.μ m)) c #[] c) = w2 at *
  generalize hbmeq : G1.μ m = bm at *
  generalize hreq : w1.heap.size = r at *
  have hm2 : (H1 ++ [Box.dead])[m]? = some (.map es) := by rw [List.getElem?_append_left hml]; exact hm
  have hi2 : H1.length < (H1 ++ [Box.dead]).length := by simp
  have hmi : m < H1.length := hml
  generalize hieq : H1.length = i at *
  have hputO : e1.putO (some I.it) (.ptr i 0) = e1.put I.it (.ptr i 0) := rfl
  rw [hputO] at hst2
  generalize e1.put I.it (.ptr i 0) = e2 at *
  generalize H1 ++ [Box.dead] = H2 at *
  clear hputO hst1 hst2' hfree2' hslot hmval hrunR hm hmv hpre hbm hget1 hc1 hgetr hrng1 hl1 hsz1 hor hd1 hs1 hits
  have hbr : bm ≠ r := by intro e; rw [e, hr2'] at hbm2; cases hbm2
  let bo : Nat → Nat := fun k => ((ms[k]?).map (·.born)).getD 0
  have hbo : ∀ (k : Nat) x, ms[k]? = some x → bo k = x.born := fun k x hk => by simp only [bo, hk]; rfl
  have hlesN : ∀ (k : Nat), k < es.length → ∃ x, ms[k]? = some x := fun k hk => ⟨ms[k]'(by omega), by simp [show k < ms.size by omega]⟩
  have hborn : ∀ (j k : Nat), j < es.length → k < es.length → bo j = bo k → j = k := by
    intro j k hj hk e
    obtain ⟨x, hx⟩ := hlesN j hj
    obtain ⟨y, hy⟩ := hlesN k hk
    rw [hbo j x hx, hbo k y hy] at e
    exact nodup_at hstamp.2.1 (a := x.born) (by rw [List.getElem?_map, Array.getElem?_toList, hx]; rfl) (by rw [List.getElem?_map, Array.getElem?_toList, hy, e]; rfl)
  refine wp_block (wp_loop_ghost (fun n a w => ∃ G e H path, nt ≤ a.tmps.size ∧ a.defers = [] ∧ St E G ⟨e.get, tmOf a, [], H⟩ w ∧ mfold (mstep call run I i m es) es path e2 H2 = some (e, H) ∧ path.Nodup ∧ (∀ k ∈ path, k < es.length) ∧
      n = ((List.range es.length).filter (fun k => !path.contains k)).length ∧ G.μ m = bm ∧ G.μ i = r ∧ i < H.length ∧ H[m]? = some (.map es) ∧ w.heap[bm]? = some (.map ms c) ∧
      w.heap[r]? = some (.mapIter (some bm) c (path.map bo).toArray c) ∧ Free E G ⟨e.get, tmOf a, [], H⟩ w r) _
    ⟨G2, e2, H2, [], hs2, hd2, hst2, rfl, List.nodup_nil, by simp, rfl, by rw [hμ' m hmi, hbmeq], hμ, hi2, hm2, hbm2, hr2', hfree2⟩ ?_)
  clear hst2 hs2 hd2 hfree2 hr2' hbm2 hm2 hi2 hsz hd h
  rintro n a w ⟨G, e, H, path, hsz, hd, hst, hfold, hnd, hlt, rfl, hGm, hGi, hiH, hHm, hbm, hr, hfree⟩
  have hk := hst.kills I.kA e
  have hfk := hfree.kills (e := e) I.kA
  refine wp_seq (wp_region ?_)
  rw [hrng2, wpOps_cons]
  have hnxs : I.nx < a.tmps.size := by omega
  have hold : ∀ x ∈ ms.toList, x.born < c := hstamp.1
  rcases run_next_at (P := P) w on.type r bm c c (path.map bo).toArray ms c hr hbm hold (Nat.le_refl _) with ⟨h0, hrunN⟩ | ⟨en, hen, w', hw', hrunN⟩
  · -- nothing is left
    have hperm : path.Perm (List.range es.length) := by
      refine path_all hnd hlt fun k hk => ?_
      obtain ⟨x, hx⟩ := hlesN k hk
      have hxl : x ∉ (leftOf ms (path.map bo).toArray).toList := by
        have : (leftOf ms (path.map bo).toArray).toList = [] := by simpa using h0
        rw [this]; simp
      have hxm : x ∈ ms := Array.mem_of_getElem? hx
      have : x.born ∈ path.map bo := by
        refine Classical.byContradiction fun hno => hxl ?_
        unfold leftOf
        rw [Array.mem_toList_iff, Array.mem_filter]
        exact ⟨hxm, by simpa using hno⟩
      obtain ⟨j, hj, hj2⟩ := List.mem_map.1 this
      rw [← hbo k x hx] at hj2
      rw [← hborn j k (hlt j hj) hk hj2]; exact hj
    have heq := hall path hperm
    rw [hfold] at heq
    simp only [Option.some.injEq, Prod.mk.injEq] at heq
    obtain ⟨rfl, rfl⟩ := heq
    unfold mlast at hlast
    obtain ⟨hit, hlast⟩ := ite_some hlast
    obtain ⟨⟨e4, H4⟩, hr2x, hlast⟩ := Option.bind_eq_some_iff.1 hlast
    obtain ⟨hokf, hlast⟩ := ite_some hlast
    simp only [Option.some.injEq, Prod.mk.injEq] at hlast
    obtain ⟨rfl, rfl⟩ := hlast
    have hval := iter_val hk hit
    rw [hGi] at hval
    have hrunO : (execOp a.eval on).run P w = .ok (.value (.tuple #[.bool false])) w := by
      simp [execOp, hopn, hval, hrunN]
    refine op_hand hget2 hn4 hrunO ?_
    rw [hn2]
    have hp := hk.putT hnxs (V := .tuple [.bool false]) (v := .tuple #[.bool false]) ⟨_, rfl, rfl, fun i X hX => by
      match i, hX with
      | 0, hX => simp at hX; subst hX; exact Rt0.ofRv (.bool false)
      | i + 1, hX => simp at hX⟩ (tuple_own (by simp [AVal.plain]) _)
    refine aops_ok hcall os2 I.r2 1 _ G w _ e4 _ H4 (by rw [hops2]; rfl) hc2 (by rw [put_size]; exact hsz) hp hr2x fun G4 a4 w4 hs4 hd4 hst4 => ?_
    show (Code.seq _ _).wp P _ _ _
    refine wp_seq (wp_cond (t := false) (by rw [hok]; exact b_val hst4 hokf) ?_)
    simp only [Bool.false_eq_true, if_false]
    refine wp_exit ?_
    rw [hb01]
    show if s.b0 = s.b0 then Q .normal a4 w4 else Q (.exit s.b0) a4 w4
    rw [if_pos rfl]
    exact hQ G4 a4 w4 hs4 (by rw [hd4, put_defers, hd]) (hst4.kills I.kB e4)
  · -- one more
    have hen1 : en ∈ ms ∧ en.born ∉ path.map bo := by
      unfold leftOf at hen
      rw [Array.mem_toList_iff, Array.mem_filter] at hen
      exact ⟨hen.1, by simpa using hen.2⟩
    obtain ⟨hem, hennot⟩ := hen1
    obtain ⟨j, hj⟩ := Array.mem_iff_getElem?.1 hem
    have hjl : j < es.length := by have := (Array.getElem?_eq_some_iff.1 hj).1; omega
    have hjp : j ∉ path := fun hjp => hennot (by rw [← hbo j en hj]; exact List.mem_map.2 ⟨j, hjp, rfl⟩)
    obtain ⟨p, hp⟩ : ∃ p, es[j]? = some p := ⟨es[j], List.getElem?_eq_getElem hjl⟩
    obtain ⟨hnd', hlt', rest, hperm⟩ := path_more hnd hlt hjl hjp
    have heq := hall _ hperm
    rw [mfold_app, hfold] at heq
    simp only [Option.bind_some, mfold, hp] at heq
    obtain ⟨⟨e', H'⟩, hstep, _⟩ := Option.bind_eq_some_iff.1 heq
    have hfold' : mfold (mstep call run I i m es) es (path ++ [j]) e2 H2 = some (e', H') := by
      rw [mfold_app, hfold]
      simp only [Option.bind_some, mfold, hp, hstep]
    unfold mstep at hstep
    obtain ⟨hcond, hstep⟩ := ite_some hstep
    simp only [Bool.and_eq_true] at hcond
    obtain ⟨⟨hit, hak⟩, hav⟩ := hcond
    obtain ⟨⟨e4, H4⟩, hr2x, hstep⟩ := Option.bind_eq_some_iff.1 hstep
    obtain ⟨hcond2, hstep⟩ := ite_some hstep
    rw [Bool.and_eq_true] at hcond2
    obtain ⟨hokt, hit4⟩ := hcond2
    obtain ⟨⟨e5, H5⟩, hr3x, hstep⟩ := Option.bind_eq_some_iff.1 hstep
    obtain ⟨⟨out, e6, H6⟩, hrx, hstep⟩ := Option.bind_eq_some_iff.1 hstep
    unfold mback at hstep
    split at hstep
    case h_2 => cases hstep
    rename_i heqo
    simp only [Prod.mk.injEq] at heqo
    obtain ⟨rfl, rfl, rfl⟩ := heqo
    obtain ⟨hcond3, hstep⟩ := ite_some hstep
    simp only [Bool.and_eq_true, decide_eq_true_eq] at hcond3
    obtain ⟨⟨⟨hlen6, hund6⟩, htrim6⟩, hdead6⟩ := hcond3
    simp only [Option.some.injEq, Prod.mk.injEq] at hstep
    obtain ⟨rfl, rfl⟩ := hstep
    have hval := iter_val hk hit
    rw [hGi] at hval
    let w3 := Go.ChangeMaps.setBlock w' r (.mapIter (some bm) c ((path.map bo).toArray.push en.born) c)
    have hrunO : (execOp a.eval on).run P w = .ok (.value (.tuple #[.bool true, en.key, en.val])) w3 := by
      simp [execOp, hopn, hval, hrunN, w3]
    refine op_hand hget2 hn4 hrunO ?_
    rw [hn2]
    have hw3 : w3.heap = w.heap.setIfInBounds r (.mapIter (some bm) c ((path.map bo).toArray.push en.born) c) ∧ w3.os = w.os ∧ w3.tape = w.tape ∧ w3.output = w.output := by
      rcases hw' with rfl | rfl <;> exact ⟨rfl, rfl, rfl, rfl⟩
    obtain ⟨hst3, hfree3, hr3w, hne3⟩ := hk.setFree hfk hr (by intro c e fr h; cases h) hw3.1 hw3.2.1 hw3.2.2.1 hw3.2.2.2
    have hbm3 : w3.heap[bm]? = some (.map ms c) := by rw [hne3 bm hbr]; exact hbm
    generalize w3 = w3 at *
    have hseen : (path.map bo).toArray.push en.born = ((path ++ [j]).map bo).toArray := by
      rw [List.map_append, List.map_cons, List.map_nil, hbo j en hj]; simp
    rw [hseen] at hr3w
    -- what the map has
    have hRall : ∀ (k : Nat) (q : AVal × AVal) (x : MapEntry), es[k]? = some q → ms[k]? = some x → Rv G w3 q.1 x.key ∧ Rv G w3 q.2 x.val := by
      obtain ⟨ms', c', h1, _, _, h4⟩ := hst3.box m _ hHm
      rw [hGm, hbm3] at h1
      simp only [Option.some.injEq, Obj.map.injEq] at h1
      obtain ⟨rfl, rfl⟩ := h1
      exact h4
    have hRj := hRall j p en hp hj
    have htup : ∀ (G0 : Gh) (w0 : World), Rv G0 w0 p.1 en.key → Rv G0 w0 p.2 en.val → ∀ Z z, Rv G0 w0 Z z → True := fun _ _ _ _ _ _ _ => trivial
    have hpl1 : p.1.strip.plain = true := AVal.plain_strip _ (fun vs e => by rw [e] at hak; simp [AVal.argOK] at hak)
    have hpl2 : p.2.strip.plain = true := AVal.plain_strip _ (fun vs e => by rw [e] at hav; simp [AVal.argOK] at hav)
    have hp3 := hst3.putT hnxs (V := .tuple [.bool true, p.1.strip, p.2.strip]) (v := .tuple #[.bool true, en.key, en.val]) ⟨_, rfl, rfl, fun i X hX => by
      match i, hX with
      | 0, hX => simp at hX; subst hX; exact Rt0.ofRv (.bool true)
      | 1, hX => simp at hX; subst hX; exact Rt0.ofRv hRj.1.strip
      | 2, hX => simp at hX; subst hX; exact Rt0.ofRv hRj.2.strip
      | i + 3, hX => simp at hX⟩ (tuple_own (by intro X hX; simp only [List.mem_cons, List.not_mem_nil, or_false] at hX; rcases hX with rfl | rfl | rfl; exact rfl; exact hpl1; exact hpl2) _)
    have hfp3 := hfree3.put (V := .tuple [.bool true, p.1.strip, p.2.strip]) (v := .tuple #[.bool true, en.key, en.val]) I.nx hnxs (tuple_own (by intro X hX; simp only [List.mem_cons, List.not_mem_nil, or_false] at hX; rcases hX with rfl | rfl | rfl; exact rfl; exact hpl1; exact hpl2) _)
    have hs3 : nt ≤ (a.put (some I.nx) (.tuple #[.bool true, en.key, en.val])).tmps.size := by rw [put_size]; exact hsz
    have hd3 : (a.put (some I.nx) (.tuple #[.bool true, en.key, en.val])).defers = [] := by rw [put_defers, hd]
    generalize a.put (some I.nx) (.tuple #[.bool true, en.key, en.val]) = a3 at *
    generalize hE3 : (e.dels I.kA).put I.nx (.tuple [.bool true, p.1.strip, p.2.strip]) = e3' at *
    -- the round by itself, the map taken away
    have hmown := hp3.ok _ _ (own_box_map hHm)
    have hmnew := hp3.new _ _ (own_box_map hHm)
    have hmdis := fun q a hq ha => hp3.dis q (.box m) a _ hq ha (own_box_map (G := G) (S := ⟨e3'.get, tmOf a3, [], H⟩) (w := w3) hHm)
    rw [hGm] at hmown hmnew
    simp only [hGm] at hmdis
    have hdr := hp3.dropBox (m := m)
    have hHml : m < H.length := (List.getElem?_eq_some_iff.1 hHm).1
    have hsetget : ∀ id', (H.set m Box.dead)[id']? = if m = id' then some Box.dead else H[id']? := by
      intro id'; rw [List.getElem?_set]; split <;> simp_all
    have hdrcarry : ∀ q a, ownP G ⟨e3'.get, tmOf a3, [], H.set m .dead⟩ w3 q = some a → q ≠ .box m ∧ ownP G ⟨e3'.get, tmOf a3, [], H⟩ w3 q = some a := by
      intro q a ha
      cases q with
      | slot t i => exact ⟨by simp, ha⟩
      | fly k i => simp [ownP] at ha
      | cell id x =>
        refine ⟨by simp, ?_⟩
        simp only [ownP, hsetget] at ha
        by_cases hc : m = id
        · simp [hc] at ha
        · simp only [hc, if_false] at ha; exact ha
      | box id =>
        simp only [ownP, hsetget] at ha
        by_cases hc : m = id
        · simp [hc] at ha
        · simp only [hc, if_false] at ha; exact ⟨by simp [Ne.symm hc], ha⟩
    have hnoR : ¬ (entOf G ⟨e3'.get, tmOf a3, [], H.set m .dead⟩ w3).own r := by
      rintro ⟨q, a, hq, e⟩
      exact hfp3.own q a (hdrcarry q a hq).2 e
    have hnoM : ¬ (entOf G ⟨e3'.get, tmOf a3, [], H.set m .dead⟩ w3).own bm := by
      rintro ⟨q, a, hq, e⟩
      exact hmdis q a (hdrcarry q a hq).1 (hdrcarry q a hq).2 e
    have hrlt : r < w3.heap.size := (Array.getElem?_eq_some_iff.1 hr3w).1
    have hmlt : bm < w3.heap.size := (Array.getElem?_eq_some_iff.1 hbm3).1
    refine aops_ok hcall os2 I.r2 1 a3 G w3 e3' e4 _ H4 (by rw [hops2]; rfl) hc2 hs3 hdr.enterS hr2x fun G4 a4 w4 hs4 hd4 hst4 => ?_
    show (Code.seq _ _).wp P _ _ _
    refine wp_seq (wp_cond (t := true) (by rw [hok]; exact b_val hst4 hokt) ?_)
    simp only [if_true]
    refine wp_skip ?_
    show (Code.block _ _).wp P _ _ _
    refine wp_block (wp_seq (wp_region ?_))
    rw [hrng3, wpOps_cons]
    have hGi4 : G4.μ i = r := by
      rw [(hst4.fr.μ i (by show i < G.n; rw [hdr.n]; simpa using hiH)).1]; exact hGi
    have hval4 := iter_val hst4 hit4
    rw [hGi4] at hval4
    have hr4w : w4.heap[r]? = some (.mapIter (some bm) c ((path.map bo).toArray.push en.born) c) := by
      rw [hst4.fr.heap r hrlt hnoR, hseen]; exact hr3w
    have hbm4 : w4.heap[bm]? = some (.map ms c) := by rw [hst4.fr.heap bm hmlt hnoM]; exact hbm3
    have hrunE : (execOp a4.eval oe).run P w4 = .ok (.value (.tuple #[en.key, en.val])) w4 := by
      have := run_entry_at (P := P) w4 r bm c (path.map bo).toArray ms c en hr4w hbm4 (by simpa using hem) hstamp.2.1
      simp [execOp, hope, hval4, this]
    refine op_hand hget3 he4 hrunE ?_
    rw [he2]
    have ge4 : GE G w3 G4 w4 := ⟨hst4.fr.n, hst4.fr.D, fun id hid => (hst4.fr.μ id hid).1, fun id hid => (hst4.fr.μ id hid).2.1, fun id hid => (hst4.fr.μ id hid).2.2, hst4.fr.cell, hst4.fr.still⟩
    have hens : I.en < a4.tmps.size := by omega
    have hp4 := hst4.putT hens (V := .tuple [p.1.strip, p.2.strip]) (v := .tuple #[en.key, en.val]) ⟨_, rfl, rfl, fun i X hX => by
      match i, hX with
      | 0, hX => simp at hX; subst hX; exact Rt0.ofRv (hRj.1.stay ge4).strip
      | 1, hX => simp at hX; subst hX; exact Rt0.ofRv (hRj.2.stay ge4).strip
      | i + 2, hX => simp at hX⟩ (tuple_own (by simp [hpl1, hpl2]) _)
    refine aops_ok hcall os3 I.r3 1 _ G4 w4 _ e5 _ H5 (by rw [hops3]; rfl) hc3 (by rw [put_size]; exact hs4) hp4 hr3x fun G5 a5 w5 hs5 hd5 hst5 => ?_
    show s.rest.wp P _ _ _
    refine hrest _ a5 G5 w5 e5 e6 H5 H6 _ hs5 (by rw [hd5, put_defers, hd4, hd3]) hst5 hrx fun G6 a6 w6 hs6 hd6 hst6 => ?_
    -- back
    replace hst6 := hst6.kills I.kA e6
    generalize e6.dels I.kA = e6 at *
    have hlset : (H.set m Box.dead).length = H.length := by simp
    have htr := St.trimS (H0 := H.set m .dead) (by show G.n = _; rw [hdr.n]) (fun id B hB => hdr.box id B hB) (by rw [hlset]; exact hlen6) (fun t => by rw [hlset]; exact under_get hund6 t) (by rw [hlset]; exact htrim6) hst6
    rw [hlset] at htr
    have ge6 : GE G w3 (G6.cut H.length) w6 := ⟨htr.fr.n, htr.fr.D, fun id hid => (htr.fr.μ id hid).1, fun id hid => (htr.fr.μ id hid).2.1, fun id hid => (htr.fr.μ id hid).2.2, htr.fr.cell, htr.fr.still⟩
    have hGm6 : (G6.cut H.length).μ m = bm := by
      rw [(htr.fr.μ m (by show m < G.n; rw [hdr.n]; simpa using hHml)).1]; exact hGm
    have hGi6 : (G6.cut H.length).μ i = r := by
      rw [(htr.fr.μ i (by show i < G.n; rw [hdr.n]; simpa using hiH)).1]; exact hGi
    have hbm6 : w6.heap[bm]? = some (.map ms c) := by rw [htr.fr.heap bm hmlt hnoM]; exact hbm3
    have hr6 : w6.heap[r]? = some (.mapIter (some bm) c ((path ++ [j]).map bo).toArray c) := by rw [htr.fr.heap r hrlt hnoR]; exact hr3w
    have hown6 : ∀ b, b < w3.heap.size → ¬ (entOf G ⟨e3'.get, tmOf a3, [], H.set m .dead⟩ w3).own b → ∀ p a, ownP (G6.cut H.length) ⟨e6.get, tmOf a6, [], H6.take H.length⟩ w6 p = some a → a.1 ≠ b := by
      intro b hb hno p a ha e
      exact hno (by rw [← e]; exact htr.new p a ha (by rw [e]; exact hb))
    have hD6 : ∀ b, b < w3.heap.size → ¬ (entOf G ⟨e3'.get, tmOf a3, [], H.set m .dead⟩ w3).own b → (∀ o, ¬ G.D b o) → ∀ o, ¬ (G6.cut H.length).D b o := by
      intro b hb hno hnd o hd
      rcases htr.fr.Dn b o hd hb with h1 | h1
      · exact hnd o h1
      · exact hno h1
    have hlv := hdr.leaveS htr
    have hback := hlv.backMap (m := m) (es := es) (ms := ms) (c := c) (by
        unfold isDead at hdead6
        split at hdead6
        · rename_i hq; rw [List.getElem?_take, if_pos hHml]; exact hq
        · cases hdead6) (by rw [hGm6]; exact hbm6) hms hstamp (fun k q x hq hx => ⟨((hRall k q x hq hx).1).stay ge6, ((hRall k q x hq hx).2).stay ge6⟩)
      (by rw [hGm6]; exact hown6 bm hmlt hnoM) (by rw [hGm6]; exact hD6 bm hmlt hnoM (fun o => hmown.D o (Nat.zero_le _))) (by rw [hGm6]; exact hmnew)
    show ∃ n', n' < _ ∧ _
    refine ⟨_, path_less hjl hjp, G6.cut H.length, e6, _, path ++ [j], hs6, hd6, hback, hfold', hnd', hlt', rfl, hGm6, hGi6, ?_, ?_, hbm6, hr6, ?_⟩
    · rw [List.length_set, List.length_take]; omega
    · rw [List.getElem?_set]; simp; omega
    · refine ⟨hfree.new, fun p a ha => ?_, hD6 r hrlt hnoR hfp3.D⟩
      have hsetget6 : ∀ id', ((H6.take H.length).set m (.map es))[id']? = if m = id' then some (.map es) else (H6.take H.length)[id']? := by
        intro id'; rw [List.getElem?_set]
        split
        · rename_i e; subst e; simp [List.length_take]; omega
        · rfl
      cases p with
      | slot t i => exact hown6 r hrlt hnoR (.slot t i) a ha
      | fly k i => simp [ownP] at ha
      | cell id x =>
        refine hown6 r hrlt hnoR (.cell id x) a ?_
        simp only [ownP, hsetget6] at ha
        by_cases hc : m = id
        · simp [hc] at ha
        · simp only [hc, if_false] at ha; exact ha
      | box id =>
        simp only [ownP, hsetget6] at ha
        by_cases hc : m = id
        · subst hc
          simp only [if_true, Option.some.injEq] at ha
          rw [← ha, hGm6]; exact hbr
        · simp only [hc, if_false] at ha
          exact hown6 r hrlt hnoR (.box id) a ha
end
end Go.Abs
