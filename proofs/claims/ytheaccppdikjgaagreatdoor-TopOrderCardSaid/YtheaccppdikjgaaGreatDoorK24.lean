import Derived.Test.YtheaccppdikjgaaGreatDoorK23
import Derived.Test.YtheaccppdikjgaaGreatDoorK23g
import Derived.Test.YtheaccppdikjgaaGreatDoorKA
namespace Go.Abs
open Go
set_option linter.unusedVariables false
set_option linter.unusedSimpArgs false
section
variable {P : Program}
theorem parts_zip (ρ : Operand → Value) : ∀ (l : List (Nat × Operand)), l.map (fun (p : Nat × Operand) => (p.1, ρ p.2)) = (l.map (·.1)).zip ((l.map (·.2)).map ρ)
 | [] => rfl
 | (i, x) :: l => by simp [parts_zip ρ l]
theorem parts_arr (ρ : Operand → Value) (parts : Array (Nat × Operand)) : (parts.map fun (i, x) => (i, ρ x)) = ((parts.toList.map (·.1)).zip ((parts.toList.map (·.2)).map ρ)).toArray := by
 apply Array.ext'
 simp only [Array.toList_map, ← parts_zip]
theorem opt_map (ρ : Operand → Value) (o : Option Operand) : (o.toList.map ρ) = (o.map ρ).toList := by cases o <;> rfl
set_option maxHeartbeats 1600000 in
theorem ev_ok {call : CallF} (hcall : ∀ f, FnOK P f (call f)) {o : Oper} {k : K} (hk : chkK P o.op k = true) (a : Act) {E G env H w} {vs : List AVal} (hl : vs.length = (opds o.op).length)
  (h : St E G ⟨env, tmOf a, vs.zip ((opds o.op).map a.eval), H⟩ w) {V : AVal} {H' : Heap} (he : ev call k vs H = some (V, H')) : Yield P E env (tmOf a) (execOp a.eval o) w V H' := by
 obtain ⟨dst, op, type, pos, after, guard⟩ := o
 simp only at hk hl h
 unfold chkK at hk
 split at hk
 ·-- move
  rename_i x
  obtain ⟨X, rfl⟩ := len1 (l := vs) hl
  simp only [ev, Option.some.injEq, Prod.mk.injEq] at he; obtain ⟨rfl, rfl⟩ := he
  exact Yield.val rfl h
 ·rename_i x
  obtain ⟨X, rfl⟩ := len1 (l := vs) hl
  simp only [ev, Option.some.injEq, Prod.mk.injEq] at he; obtain ⟨rfl, rfl⟩ := he
  exact Yield.val rfl h
 ·-- pick
  rename_i c x y
  obtain ⟨C, X, Y, rfl⟩ := len3 (l := vs) hl
  simp only [ev] at he
  split at he
  ·rename_i t
   simp only [Option.some.injEq, Prod.mk.injEq] at he; obtain ⟨rfl, rfl⟩ := he
   have hc := Rv.bool_inv (show Rv G w (.bool t) (a.eval c) from h.fly 0 _ _ rfl)
   cases t
   ·exact Yield.val (v := a.eval y) (by simp [execOp, hc, asBool]) (h.one (k := 2) rfl)
   ·exact Yield.val (v := a.eval x) (by simp [execOp, hc, asBool]) (h.one (k := 1) rfl)
  ·cases he
 ·-- alloc
  rename_i t cs
  have : vs = [] := List.length_eq_zero_iff.1 hl
  subst this
  simp only [ev, Option.some.injEq, Prod.mk.injEq] at he; obtain ⟨rfl, rfl⟩ := he
  exact (alloc_ok (agg := true) (chkZero_zi (zero := .agg cs) hk rfl) rfl h).yield rfl
 ·-- box
  rename_i t x
  obtain ⟨X, rfl⟩ := len1 (l := vs) hl
  simp only [ev] at he
  obtain ⟨hkn, he2⟩ := ite_some he
  simp only [Option.some.injEq, Prod.mk.injEq] at he2; obtain ⟨rfl, rfl⟩ := he2
  exact (box_ok hkn h).yield rfl
 ·-- build
  rename_i t parts zero ps
  simp only [Bool.and_eq_true] at hk
  obtain ⟨hk1, hk2⟩ := hk
  split at hk2
  ·rename_i pl hpl
   simp only [ev] at he
   obtain ⟨cs, hf, e⟩ := Option.map_eq_some_iff.1 he
   simp only [Prod.mk.injEq] at e; obtain ⟨rfl, rfl⟩ := e
   have hd := build_ok (P := P) (E := E) (G := G) (env := env) (tm := tmOf a) (H := H) (w := w) (chkZero_zi (zero := .agg zero) hk1 rfl) rfl
    (fun z i parts cells hi hz hf => placesOf_ok hpl z i parts cells hi hz hf) (parts.toList.map (·.1)) ps (chkPlaces_eq hk2) vs ((parts.toList.map (·.2)).map a.eval)
    (by simpa [opds, Op.operands] using hl) hf (by simpa [opds, Op.operands] using h)
   refine hd.yield ?_
   simp only [execOp]
   rw [parts_arr]
  ·cases hk2
 ·-- buildSlice
  rename_i t len parts sz zero len' ix
  split at hk
  ·rename_i e he'
   simp only [Bool.and_eq_true, beq_iff_eq, decide_eq_true_eq, Bool.or_eq_true] at hk
   obtain ⟨⟨⟨⟨⟨rfl, rfl⟩, h3⟩, h4⟩, h5⟩, h6⟩ := hk
   obtain ⟨agg, ti⟩ := typeSz_ti h3
   simp only [ev] at he
   obtain ⟨els, hf, e⟩ := Option.map_eq_some_iff.1 he
   simp only [Prod.mk.injEq] at e; obtain ⟨rfl, rfl⟩ := e
   have hd := buildSlice_ok .full (P := P) (E := E) (G := G) (env := env) (tm := tmOf a) (H := H) (w := w) (elemOf_eq he') ti
    (fun hne => chkZero_zi (by rcases h4 with h4 | h4; exact absurd h4 hne; exact h4) rfl) h5 (by simpa using h6) (parts.toList.map (·.1)) vs ((parts.toList.map (·.2)).map a.eval)
    (by simpa [opds, Op.operands] using hl) hf (by simpa [opds, Op.operands] using h)
   refine hd.yield ?_
   simp only [execOp]
   rw [parts_arr]
  ·cases hk
 ·-- load
  rename_i t x agg n take
  obtain ⟨X, rfl⟩ := len1 (l := vs) hl
  simp only [ev] at he
  exact (load_ok (typeOK_ti hk) h he).yield rfl
 ·-- store
  rename_i t x y n
  obtain ⟨X, Y, rfl⟩ := len2 (l := vs) hl
  simp only [ev] at he
  obtain ⟨agg, ti⟩ := typeSz_ti hk
  obtain ⟨w', h1, rfl, h3⟩ := store_ok ti h he
  refine .inr (.inl ⟨w', G, ?_, ?_⟩)
  ·show (Bind.bind (Instr.storeAt t (a.eval x) (a.eval y)) fun _ => Pure.pure Next.skip).run P w = _
   simp [h1]
  ·refine h3.shuffle rfl h3.slot ?_ id ?_ (fun _ _ _ _ _ _ e => e)
   ·intro k V v hk'
    cases k with
    | zero => simp at hk'; obtain ⟨rfl, rfl⟩ := hk'; exact ⟨#[], rfl, rfl, fun i X hX => by simp at hX⟩
    | succ k => simp at hk'
   ·intro p b hp
    cases p with
    | fly k i =>
     cases k with
     | zero => simp [ownP, ownC] at hp; revert hp; split <;> simp
     | succ k => simp [ownP] at hp
    | _ => exact hp
 ·-- nilCheck
  rename_i x
  obtain ⟨X, rfl⟩ := len1 (l := vs) hl
  have hx := h.fly 0 _ _ rfl
  simp only [ev] at he
  split at he
  all_goals first | (cases he; done) | skip
  all_goals simp only [Option.some.injEq, Prod.mk.injEq] at he; obtain ⟨rfl, rfl⟩ := he
  ·obtain ⟨ad, hq⟩ : ∃ ad, a.eval x = .pointer (some ad) := by
    have hx3 := show Rv G w (.ptr _ _) (a.eval x) from hx
    generalize a.eval x = xv at hx3; cases hx3; exact ⟨_, rfl⟩
   exact Yield.val (v := a.eval x) (by simp [execOp, hq]) h
  ·obtain ⟨ad, hq⟩ : ∃ ad, a.eval x = .pointer (some ad) := by
    have hx3 := show Rv G w (.rptr _) (a.eval x) from hx
    generalize a.eval x = xv at hx3; cases hx3; exact ⟨_, rfl⟩
   exact Yield.val (v := a.eval x) (by simp [execOp, hq]) h
  ·obtain ⟨ad, hq⟩ : ∃ ad, a.eval x = .pointer (some ad) := by
    have hx3 := show Rv G w (.eptr _ _ _) (a.eval x) from hx
    generalize a.eval x = xv at hx3; cases hx3; exact ⟨_, rfl⟩
   exact Yield.val (v := a.eval x) (by simp [execOp, hq]) h
 ·-- bin
  rename_i op' t x y t2 op2 bk
  obtain ⟨X, Y, rfl⟩ := len2 (l := vs) hl
  rw [Bool.and_eq_true, decide_eq_true_eq] at hk
  obtain ⟨rfl, hk⟩ := hk
  simp only [ev] at he
  obtain ⟨V', hV, e⟩ := Option.map_eq_some_iff.1 he
  simp only [Prod.mk.injEq] at e; obtain ⟨rfl, rfl⟩ := e
  exact (bin_ok hk h hV).yield rfl
 ·-- un
  rename_i op' t x op2
  obtain ⟨X, rfl⟩ := len1 (l := vs) hl
  simp only [decide_eq_true_eq] at hk; subst hk
  simp only [ev] at he
  obtain ⟨V', hV, e⟩ := Option.map_eq_some_iff.1 he
  simp only [Prod.mk.injEq] at e; obtain ⟨rfl, rfl⟩ := e
  have hx := h.fly 0 _ _ rfl
  obtain ⟨v, h1, h2, h3⟩ := un_ok (P := P) hV (hx.arg (by cases X <;> first | rfl | (simp [evUn] at hV)))
  exact (Does.pure h h1 h2 h3).yield rfl
 ·-- toInt
  rename_i src dst' x k'
  obtain ⟨X, rfl⟩ := len1 (l := vs) hl
  simp only [Bool.and_eq_true] at hk
  simp only [ev] at he
  split at he
  ·rename_i k0 n
   simp only [Option.some.injEq, Prod.mk.injEq] at he; obtain ⟨rfl, rfl⟩ := he
   have hx := Rv.int_inv (show Rv G w (.int k0 n) (a.eval x) from h.fly 0 _ _ rfl)
   have := toInt_ok (P := P) (k0 := k0) (n := n) hk.1 (isInt_eq hk.2) h
   rw [← hx] at this
   exact this.yield rfl
  ·cases he
 ·-- toStr
  rename_i src dst' x
  obtain ⟨X, rfl⟩ := len1 (l := vs) hl
  simp only [Bool.and_eq_true] at hk
  obtain ⟨hk1, hk2⟩ := hk
  split at hk1
  ·rename_i e he'
   simp only [ev] at he
   split at he
   ·rename_i sz xs fl
    obtain ⟨rfl, he2⟩ := ite_some he
    obtain ⟨s, hs, e2⟩ := Option.map_eq_some_iff.1 he2
    simp only [Prod.mk.injEq] at e2; obtain ⟨rfl, rfl⟩ := e2
    exact (toStr_ok (elemOf_eq he') (isStr_eq hk2) (isByte_eq hk1) h rfl hs).yield rfl
   ·cases he
  ·cases hk1
 ·-- strStr
  rename_i src dst' x
  obtain ⟨X, rfl⟩ := len1 (l := vs) hl
  simp only [Bool.and_eq_true] at hk
  simp only [ev] at he
  split at he
  ·rename_i s
   simp only [Option.some.injEq, Prod.mk.injEq] at he; obtain ⟨rfl, rfl⟩ := he
   have hx := Rv.str_inv (show Rv G w (.str s) (a.eval x) from h.fly 0 _ _ rfl)
   have := strStr_ok (P := P) (s := s) (isStr_eq hk.1) (isStr_eq hk.2) h
   rw [← hx] at this
   exact this.yield rfl
  ·cases he
 ·-- toBytes
  rename_i src dst' x
  obtain ⟨X, rfl⟩ := len1 (l := vs) hl
  simp only [Bool.and_eq_true] at hk
  obtain ⟨hk1, hk2⟩ := hk
  split at hk2
  ·rename_i e he'
   simp only [ev] at he
   split at he
   ·rename_i s
    obtain ⟨hmx, he2⟩ := ite_some he
    simp only [Option.some.injEq, Prod.mk.injEq] at he2; obtain ⟨rfl, rfl⟩ := he2
    have hx := Rv.str_inv (show Rv G w (.str s) (a.eval x) from h.fly 0 _ _ rfl)
    have := toBytes_ok (P := P) (s := s) hk1 (elemOf_eq he') (isByte_eq hk2) hmx h
    rw [← hx] at this
    exact this.yield rfl
   ·cases he
  ·cases hk2
 ·-- mkfn
  rename_i f first captured f' n
  simp only [Bool.and_eq_true, beq_iff_eq] at hk
  obtain ⟨rfl, rfl⟩ := hk
  simp only [ev] at he
  obtain ⟨hok, he2⟩ := ite_some he
  simp only [Option.some.injEq, Prod.mk.injEq] at he2; obtain ⟨rfl, rfl⟩ := he2
  have hlen : vs.length = first.size + captured.size := by simpa [opds, Op.operands] using hl
  have hd := mkfn_ok (P := P) (E := E) (G := G) (env := env) (tm := tmOf a) (H := H) (w := w) (f := f) (vs1 := vs.take first.size) (vs2 := vs.drop first.size)
   (cv1 := first.toList.map a.eval) (cv2 := captured.toList.map a.eval) (by simp; omega) (by simp; omega) (by rw [List.take_append_drop]; exact hok)
   (by rw [List.take_append_drop]; simpa [opds, Op.operands] using h)
  refine hd.yield ?_
  simp only [execOp]
  congr 2 <;> (apply Array.ext'; simp)
 ·-- mkslice
  rename_i t x y sz zero bytes
  obtain ⟨X, Y, rfl⟩ := len2 (l := vs) hl
  split at hk
  ·rename_i e he'
   simp only [Bool.and_eq_true, decide_eq_true_eq] at hk
   obtain ⟨⟨hk1, hk2⟩, hk3⟩ := hk
   split at hk1
   ·rename_i i hi
    simp only [beq_iff_eq] at hk1
    simp only [ev] at he
    split at he
    ·rename_i l c
     obtain ⟨⟨g1, g2, g3⟩, he2⟩ := ite_some he
     simp only [Option.some.injEq, Prod.mk.injEq] at he2; obtain ⟨rfl, rfl⟩ := he2
     have hx := Rv.int_inv (show Rv G w (.int .i64 l) (a.eval x) from h.fly 0 _ _ rfl)
     have hy := Rv.int_inv (show Rv G w (.int .i64 c) (a.eval y) from h.fly 1 _ _ rfl)
     have := mkslice_ok (agg := true) (P := P) (elemOf_eq he') hi hk1 (chkZero_zi (zero := zero) hk2 rfl) g1 g2 g3 hk3 h
     rw [← hx, ← hy] at this
     exact this.yield rfl
    ·cases he
   ·cases hk1
  ·cases hk
 ·-- slice
  rename_i t x lo hi mx sz l h' m
  simp only [Bool.and_eq_true, beq_iff_eq] at hk
  obtain ⟨⟨⟨hk1, rfl⟩, rfl⟩, rfl⟩ := hk
  split at hk1
  ·rename_i e he'
   obtain ⟨agg, ti⟩ := typeSz_ti hk1
   have hops : opds (.slice t x lo hi mx) = x :: (lo.toList ++ hi.toList ++ mx.toList) := by simp [opds, Op.operands]
   rw [hops] at hl h
   match vs, hl with
   | X :: bs, hl =>
    simp only [ev] at he
    obtain ⟨V', hV, e2⟩ := Option.map_eq_some_iff.1 he
    simp only [Prod.mk.injEq] at e2; obtain ⟨rfl, rfl⟩ := e2
    have hd := slice_ok (P := P) (E := E) (G := G) (env := env) (tm := tmOf a) (H := H) (w := w) (elemOf_eq he') ti (lo.map a.eval) (hi.map a.eval) (mx.map a.eval) (x := X) (xv := a.eval x) (bs := bs)
     (by simp only [List.length_cons, List.length_append, ← opt_map, List.length_map] at hl ⊢; omega) (by simpa [← opt_map] using h) (V := V') (by simpa using hV)
    exact hd.yield rfl
  ·cases hk1
 ·-- sslice
  rename_i t x lo hi mx l h'
  simp only [Bool.and_eq_true, beq_iff_eq] at hk
  obtain ⟨⟨⟨hk1, rfl⟩, rfl⟩, hmx⟩ := hk
  obtain rfl : mx = none := by simpa using hmx
  have hops : opds (.slice t x lo hi none) = x :: (lo.toList ++ hi.toList) := by simp [opds, Op.operands]
  rw [hops] at hl h
  match vs, hl with
  | X :: bs, hl =>
   simp only [ev] at he
   split at he
   ·rename_i s
    obtain ⟨⟨l, r, m⟩, hb, e2⟩ := Option.map_eq_some_iff.1 he
    simp only [Prod.mk.injEq] at e2; obtain ⟨rfl, rfl⟩ := e2
    have hd := sslice_ok (P := P) (E := E) (G := G) (env := env) (tm := tmOf a) (H := H) (w := w) (isStr_eq hk1) (lo.map a.eval) (hi.map a.eval) (x := .str s) (xv := a.eval x) (bs := bs)
     (by simp only [List.length_cons, List.length_append, ← opt_map, List.length_map] at hl ⊢; omega) (by simpa [← opt_map] using h) (s := s) rfl (l := l) (r := r) (m := m) (by simpa using hb)
    exact hd.yield rfl
   ·cases he
 ·-- addOff
  rename_i t x fi off
  obtain ⟨X, rfl⟩ := len1 (l := vs) hl
  split at hk
  ·rename_i f hf
   simp only [Bool.and_eq_true, beq_iff_eq] at hk
   obtain ⟨rfl, hk⟩ := hk
   split at hk
   ·rename_i i hi
    simp only [Bool.and_eq_true, bne_iff_ne] at hk
    obtain ⟨agg, ti⟩ := typeSz_ti hk.2
    obtain ⟨fs, hu, hfi⟩ := fieldOf_eq hf
    simp only [ev] at he
    obtain ⟨V', hV, e2⟩ := Option.map_eq_some_iff.1 he
    simp only [Prod.mk.injEq] at e2; obtain ⟨rfl, rfl⟩ := e2
    exact (addOff_ok hu hfi ti hk.1 h hV).yield rfl
   ·cases hk
  ·cases hk
 ·-- field
  rename_i t x fi agg off n
  obtain ⟨X, rfl⟩ := len1 (l := vs) hl
  split at hk
  ·rename_i f hf
   simp only [Bool.and_eq_true, beq_iff_eq] at hk
   obtain ⟨rfl, hk⟩ := hk
   obtain ⟨fs, hu, hfi⟩ := fieldOf_eq hf
   simp only [ev] at he
   split at he
   ·rename_i cs
    obtain ⟨V', hV, e2⟩ := Option.map_eq_some_iff.1 he
    simp only [Prod.mk.injEq] at e2; obtain ⟨rfl, rfl⟩ := e2
    exact (field_ok hu hfi (typeOK_ti hk) h hV).yield rfl
   ·cases he
  ·cases hk
 ·-- ixAddr
  rename_i t x i sz
  obtain ⟨X, I, rfl⟩ := len2 (l := vs) hl
  split at hk
  ·rename_i e he'
   obtain ⟨agg, ti⟩ := typeSz_ti hk
   simp only [ev] at he
   split at he
   ·rename_i sz' xs fl k i'
    obtain ⟨⟨rfl, g1, g2⟩, he2⟩ := ite_some he
    obtain ⟨X', hX, e2⟩ := Option.map_eq_some_iff.1 he2
    simp only [Prod.mk.injEq] at e2; obtain ⟨rfl, rfl⟩ := e2
    have hi := Rv.int_inv (show Rv G w (.int k i') (a.eval i) from h.fly 1 _ _ rfl)
    have := ixAddr_ok (P := P) (k := k) (elemOf_eq he') ti g1 g2 hX (fly := [(.list sz' xs fl, a.eval x), (.int k i', a.eval i)]) rfl h
    rw [← hi] at this
    exact this.yield rfl
   ·rename_i id k i'
    split at he
    ·rename_i sz' xs hH
     obtain ⟨⟨rfl, g1, g2⟩, he2⟩ := ite_some he
     simp only [Option.some.injEq, Prod.mk.injEq] at he2; obtain ⟨rfl, rfl⟩ := he2
     have hi := Rv.int_inv (show Rv G w (.int k i') (a.eval i) from h.fly 1 _ _ rfl)
     have := ixBox_ok (P := P) (k := k) (elemOf_eq he') ti g1 g2 hH (fly := [(.lbox id, a.eval x), (.int k i', a.eval i)]) rfl h
     rw [← hi] at this
     exact this.yield rfl
    ·cases he
   ·cases he
  ·cases hk
 ·-- ixArr
  rename_i t x i len sz
  obtain ⟨X, I, rfl⟩ := len2 (l := vs) hl
  split at hk
  ·rename_i n e he'
   simp only [Bool.and_eq_true, beq_iff_eq] at hk
   obtain ⟨rfl, hk⟩ := hk
   obtain ⟨agg, ti⟩ := typeSz_ti hk
   simp only [ev] at he
   split at he
   ·rename_i k i'
    obtain ⟨⟨g1, g2⟩, he2⟩ := ite_some he
    obtain ⟨V', hV, e2⟩ := Option.map_eq_some_iff.1 he2
    simp only [Prod.mk.injEq] at e2; obtain ⟨rfl, rfl⟩ := e2
    have hi := Rv.int_inv (show Rv G w (.int k i') (a.eval i) from h.fly 1 _ _ rfl)
    have := ixArr_ok (P := P) (k := k) (arrOf_eq he') ti g1 g2 (fly := [(X, a.eval x), (.int k i', a.eval i)]) rfl h hV
    rw [← hi] at this
    exact this.yield rfl
   ·cases he
  ·cases hk
 ·-- ixStr
  rename_i t x i
  obtain ⟨X, I, rfl⟩ := len2 (l := vs) hl
  simp only [ev] at he
  split at he
  ·rename_i s k i'
   obtain ⟨g1, he2⟩ := ite_some he
   obtain ⟨b, hb, e2⟩ := Option.map_eq_some_iff.1 he2
   simp only [Prod.mk.injEq] at e2; obtain ⟨rfl, rfl⟩ := e2
   have hi := Rv.int_inv (show Rv G w (.int k i') (a.eval i) from h.fly 1 _ _ rfl)
   have hx := Rv.str_inv (show Rv G w (.str s) (a.eval x) from h.fly 0 _ _ rfl)
   have := ixStr_ok (P := P) (k := k) (isStr_eq hk) g1 hb h
   rw [← hi, ← hx] at this
   exact this.yield rfl
  ·cases he
 ·-- ixAgg
  rename_i t x i agg len sz
  obtain ⟨X, I, rfl⟩ := len2 (l := vs) hl
  split at hk
  ·rename_i n e he'
   simp only [Bool.and_eq_true, beq_iff_eq] at hk
   obtain ⟨rfl, hk⟩ := hk
   simp only [ev] at he
   split at he
   ·rename_i cs k i'
    obtain ⟨⟨g1, g2⟩, he2⟩ := ite_some he
    obtain ⟨V', hV, e2⟩ := Option.map_eq_some_iff.1 he2
    simp only [Prod.mk.injEq] at e2; obtain ⟨rfl, rfl⟩ := e2
    have hi := Rv.int_inv (show Rv G w (.int k i') (a.eval i) from h.fly 1 _ _ rfl)
    have := ixAgg_ok (P := P) (k := k) (arrOf_eq he') (typeOK_ti hk) g1 g2 (fly := [(.agg cs, a.eval x), (.int k i', a.eval i)]) rfl h hV
    rw [← hi] at this
    exact this.yield rfl
   ·cases he
  ·cases hk
 ·-- append
  rename_i c sz bytes u
  obtain ⟨callee, args, argTypes⟩ := c
  simp only at hk
  split at hk
  ·rename_i x1 x2 x3 t tx xa xb ht ha
   have ht' : argTypes = #[t, tx] := Array.ext' ht
   have ha' : args = #[xa, xb] := Array.ext' ha
   subst ht'; subst ha'
   obtain ⟨X, Y, rfl⟩ := len2 (l := vs) hl
   split at hk
   ·rename_i e he'
    simp only [Bool.and_eq_true, decide_eq_true_eq] at hk
    obtain ⟨⟨⟨⟨⟨hk1, hk2⟩, hk3⟩, hk4⟩, hk5⟩, hk6⟩ := hk
    split at hk2
    ·rename_i i hi
     simp only [beq_iff_eq] at hk2
     simp only [ev] at he
     split at he
     ·rename_i sz' ys fl
      obtain ⟨⟨rfl, hfl⟩, he2⟩ := ite_some he
      obtain ⟨V', hV, e2⟩ := Option.map_eq_some_iff.1 he2
      simp only [Prod.mk.injEq] at e2; obtain ⟨rfl, rfl⟩ := e2
      obtain ⟨e', hte⟩ := Option.isSome_iff_exists.1 hk1
      have hy : Rv G w (.list sz' ys fl) (a.eval xb) := (h.fly 1 _ _ rfl).arg (by cases fl <;> first | rfl | exact absurd rfl hfl)
      have := append_ok (P := P) (ty := type) (agg := true) (tx := tx) (elemOf_eq he') hi hk2 hk3 (by simpa using hk4) (chkZero_zi (zero := .agg (zeroOf P e)) hk6 rfl) hk5 hV h (srcA_list (elemOf_eq hte) hy)
      exact this.yield (by simp [execOp, resolve, invoke, builtin])
     ·rename_i id
      split at he
      ·rename_i sz' ys hH
       obtain ⟨rfl, he2⟩ := ite_some he
       obtain ⟨V', hV, e2⟩ := Option.map_eq_some_iff.1 he2
       simp only [Prod.mk.injEq] at e2; obtain ⟨rfl, rfl⟩ := e2
       obtain ⟨e', hte⟩ := Option.isSome_iff_exists.1 hk1
       have hy : RU G w sz' ys (a.eval xb) := by
        obtain ⟨_, hru⟩ := h.box id _ hH
        have hr : Rv G w (.lbox id) (a.eval xb) := h.fly 1 _ _ rfl
        generalize a.eval xb = v at hr
        cases hr with
        | lbox _ _ _ => exact hru
       have := append_ok (P := P) (ty := type) (agg := true) (tx := tx) (elemOf_eq he') hi hk2 hk3 (by simpa using hk4) (chkZero_zi (zero := .agg (zeroOf P e)) hk6 rfl) hk5 hV h (srcA_box (elemOf_eq hte) hy)
       exact this.yield (by simp [execOp, resolve, invoke, builtin])
      ·cases he
     ·cases he
    ·cases hk2
   ·cases hk
  ·cases hk
 ·-- appendStr
  rename_i c bytes u
  obtain ⟨callee, args, argTypes⟩ := c
  simp only at hk
  split at hk
  ·rename_i x1 x2 x3 t tx xa xb ht ha
   have ht' : argTypes = #[t, tx] := Array.ext' ht
   have ha' : args = #[xa, xb] := Array.ext' ha
   subst ht'; subst ha'
   obtain ⟨X, Y, rfl⟩ := len2 (l := vs) hl
   split at hk
   ·rename_i e he'
    simp only [Bool.and_eq_true, decide_eq_true_eq] at hk
    obtain ⟨⟨⟨⟨hk1, hk2⟩, hk3⟩, hk4⟩, hk6⟩ := hk
    split at hk2
    ·rename_i i hi
     simp only [beq_iff_eq] at hk2
     simp only [ev] at he
     split at he
     ·rename_i s
      obtain ⟨V', hV, e2⟩ := Option.map_eq_some_iff.1 he
      simp only [Prod.mk.injEq] at e2; obtain ⟨rfl, rfl⟩ := e2
      have hy := Rv.str_inv (show Rv G w (.str s) (a.eval xb) from h.fly 1 _ _ rfl)
      have hsrc : SrcA P G w 1 (encBytes s) tx (a.eval xb) := by rw [hy]; exact srcA_str (isStr_eq hk1)
      have := append_ok (P := P) (ty := type) (agg := true) (tx := tx) (elemOf_eq he') hi hk2 hk3 (by simpa using hk4) (chkZero_zi (zero := .agg (zeroOf P e)) hk6 rfl) (by omega) hV h hsrc
      exact this.yield (by simp [execOp, resolve, invoke, builtin])
     ·cases he
    ·cases hk2
   ·cases hk
  ·cases hk
 ·-- len
  rename_i c s
  obtain ⟨callee, args, argTypes⟩ := c
  simp only at hk
  split at hk
  ·rename_i x1 x2 x3 t xa ht ha
   have ht' : argTypes = #[t] := Array.ext' ht
   have ha' : args = #[xa] := Array.ext' ha
   subst ht'; subst ha'
   obtain ⟨X, rfl⟩ := len1 (l := vs) hl
   have hh : St E G ⟨env, tmOf a, [(X, a.eval xa)], H⟩ w := h
   have fin : Does P E env (tmOf a) (Builtin.len_ #[t] type #[a.eval xa]) w V H' := by
    simp only [ev] at he
    split at he
    ·cases s
     ·simp only [Bool.false_eq_true, if_false, Option.some.injEq, Prod.mk.injEq] at he; obtain ⟨rfl, rfl⟩ := he
      simp only [Bool.false_eq_true, if_false] at hk
      obtain ⟨e', hte⟩ := Option.isSome_iff_exists.1 hk
      exact len_list_ok (elemOf_eq hte) (fly := [(_, a.eval xa)]) rfl hh
     ·simp at he
    ·rename_i s'
     cases s
     ·simp at he
     ·simp only [if_true, Option.some.injEq, Prod.mk.injEq] at he; obtain ⟨rfl, rfl⟩ := he
      have hx := Rv.str_inv (show Rv G w (.str s') (a.eval xa) from h.fly 0 _ _ rfl)
      have := len_str_ok (P := P) (ty := type) (s := s') (isStr_eq (t := t) (by simpa using hk)) hh
      rw [← hx] at this
      exact this
    ·split at he
     ·rename_i hH
      cases s
      ·simp only [Bool.false_eq_true, if_false, Option.some.injEq, Prod.mk.injEq] at he; obtain ⟨rfl, rfl⟩ := he
       simp only [Bool.false_eq_true, if_false] at hk
       obtain ⟨e', hte⟩ := Option.isSome_iff_exists.1 hk
       exact len_box_ok (elemOf_eq hte) hH (fly := [(_, a.eval xa)]) rfl hh
      ·simp at he
     ·cases he
    ·cases he
   exact fin.yield (by simp [execOp, resolve, invoke, builtin])
  ·cases hk
 ·-- max, min
  rename_i c isMax
  obtain ⟨callee, args, argTypes⟩ := c
  simp only [ev] at he
  obtain ⟨V', hV, e2⟩ := Option.map_eq_some_iff.1 he
  simp only [Prod.mk.injEq] at e2; obtain ⟨rfl, rfl⟩ := e2
  simp only at hk
  split at hk
  ·subst hk
   have hops : opds (.call ⟨.builtin .max, args, argTypes⟩) = args.toList := by simp [opds, Call.operands]
   rw [hops] at hl h
   have := mm_ok (P := P) (isMax := true) (ts := argTypes) (ty := type) (cv := args.toList.map a.eval) (by simpa using hl) h hV
   refine this.yield ?_
   have harr : (args.toList.map a.eval).toArray = args.map a.eval := by apply Array.ext'; simp
   simp [execOp, resolve, invoke, builtin, harr]
  ·have hk' : isMax = false := by simpa using hk
   subst hk'
   have hops : opds (.call ⟨.builtin .min, args, argTypes⟩) = args.toList := by simp [opds, Call.operands]
   rw [hops] at hl h
   have := mm_ok (P := P) (isMax := false) (ts := argTypes) (ty := type) (cv := args.toList.map a.eval) (by simpa using hl) h hV
   refine this.yield ?_
   have harr : (args.toList.map a.eval).toArray = args.map a.eval := by apply Array.ext'; simp
   simp [execOp, resolve, invoke, builtin, harr]
  ·cases hk
 ·-- call
  rename_i c f own
  obtain ⟨callee, args, argTypes⟩ := c
  simp only at hk
  split at hk
  ·rename_i g
   simp only [beq_iff_eq] at hk; subst hk
   have hops : opds (.call ⟨.value (.func f), args, argTypes⟩) = args.toList := by simp [opds]
   rw [hops] at hl h
   simp only [ev] at he
   have harr : (args.toList.map a.eval).toArray = args.map a.eval := by apply Array.ext'; simp
   cases own with
   | true =>
    simp only [if_true] at he
    obtain ⟨h1, h2⟩ := call_own (hcall f) (argv := args.toList.map a.eval) (by simpa using hl) h he
    refine .inr (.inr ⟨f, _, ?_, h2⟩)
    rw [← h1]
    simp [execOp, resolve, invoke, Act.eval, Deferred.ofValue, harr]
   | false =>
   simp only [Bool.false_eq_true, if_false] at he
   obtain ⟨hok, he2⟩ := ite_some he
   obtain ⟨h1, h2⟩ := call_ok (hcall f) (argv := args.toList.map a.eval) (by simpa using hl) (vals_of vs _ [] (by simpa using hl) (by simpa using h) |>.strips hok) h he2
   refine .inr (.inr ⟨f, _, ?_, h2⟩)
   rw [← h1]
   have harr : (args.toList.map a.eval).toArray = args.map a.eval := by apply Array.ext'; simp
   simp [execOp, resolve, invoke, Act.eval, Deferred.ofValue, harr]
  ·cases hk
 ·-- callv
  rename_i c
  obtain ⟨callee, args, argTypes⟩ := c
  simp only at hk
  split at hk
  ·rename_i t
   have hops : opds (.call ⟨.value (.tmp t), args, argTypes⟩) = .tmp t :: args.toList := by simp [opds, Call.operands]
   rw [hops] at hl h
   match vs, hl with
   | F :: xs, hl =>
    simp only [ev] at he
    split at he
    ·rename_i g fa fb
     obtain ⟨hok, he2⟩ := ite_some he
     have hF : Rv G w (.fn g fa fb) (a.eval (.tmp t)) := h.fly 0 _ _ rfl
     generalize hfv : a.eval (.tmp t) = fv at hF
     cases hF with
     | fn _ _ _ va vb ha hb hva hvb =>
      have hxs := (vals_of (.fn g fa fb :: xs) ((Operand.tmp t :: args.toList).map a.eval) [] (by simpa using hl) (by simpa using h)).c
      obtain ⟨_, _, e3, _, hxs⟩ := hxs
      cases e3
      have hxs' := hxs.strips hok
      have hlx : xs.length = args.size := by simpa using hl
      have hs1 : ∀ (l : List AVal) (arr : Array Value), arr.size = l.length → (∀ (j : Nat) Y, l[j]? = some Y → Rv G w Y (arr.getD j undef)) → ∀ (i : Nat) V v, (l.map AVal.strip)[i]? = some V → arr.toList[i]? = some v → Rv G w V v ∧ V.plain = true := by
       intro l arr hs hr i V v hV hv
       simp only [List.getElem?_map, Option.map_eq_some_iff] at hV
       obtain ⟨Z, hZ, rfl⟩ := hV
       have hi : i < arr.size := by have := (List.getElem?_eq_some_iff.1 hZ).1; omega
       have e4 : arr.getD i undef = v := by
        have : arr.toList[i]? = some arr[i] := by simp [hi]
        rw [this] at hv; cases hv; simp [hi]
       have := hr i Z hZ
       rw [e4] at this
       exact ⟨this.strip, this.plain_strip⟩
      have app : ∀ {A B : List AVal} {u v : List Value}, A.length = u.length → (∀ (i : Nat) V x, A[i]? = some V → u[i]? = some x → Rv G w V x ∧ V.plain = true) →
        (∀ (i : Nat) V x, B[i]? = some V → v[i]? = some x → Rv G w V x ∧ V.plain = true) → ∀ (i : Nat) V x, (A ++ B)[i]? = some V → (u ++ v)[i]? = some x → Rv G w V x ∧ V.plain = true := by
       intro A B u v hAu h1 h2 i V x hV hx
       by_cases hi : i < A.length
       ·rw [List.getElem?_append_left hi] at hV
        rw [List.getElem?_append_left (by omega)] at hx
        exact h1 i V x hV hx
       ·rw [List.getElem?_append_right (by omega)] at hV
        rw [List.getElem?_append_right (by omega)] at hx
        exact h2 _ V x hV (by rw [hAu]; exact hx)
      have hall := app (by simp; omega) (app (by simp; omega) (hs1 fa va ha hva) hxs') (hs1 fb vb hb hvb)
      have hmap : (fa.map AVal.strip ++ xs.map AVal.strip ++ fb.map AVal.strip) = (fa ++ xs ++ fb).map AVal.strip := by simp
      rw [hmap] at he2 hall
      obtain ⟨h1, h2⟩ := call_ok (hcall g) (args := fa ++ xs ++ fb) (argv := va.toList ++ args.toList.map a.eval ++ vb.toList) (by simp; omega) hall h he2
      refine .inr (.inr ⟨g, _, ?_, h2⟩)
      rw [← h1]
      simp only [execOp, resolve, hfv, Deferred.ofValue, invoke]
      simp [invoke]
      congr 2
      apply Array.ext'; simp
    ·cases he
  ·cases hk
 ·-- cap
  rename_i c
  obtain ⟨callee, args, argTypes⟩ := c
  simp only at hk
  split at hk
  ·rename_i x1 x2 x3 t xa ht ha
   have ht' : argTypes = #[t] := Array.ext' ht
   have ha' : args = #[xa] := Array.ext' ha
   subst ht'; subst ha'
   obtain ⟨X, rfl⟩ := len1 (l := vs) hl
   have hh : St E G ⟨env, tmOf a, [(X, a.eval xa)], H⟩ w := h
   simp only [ev] at he
   split at he
   ·obtain ⟨rfl, he2⟩ := ite_some he
    simp only [Option.some.injEq, Prod.mk.injEq] at he2; obtain ⟨rfl, rfl⟩ := he2
    obtain ⟨e', hte⟩ := Option.isSome_iff_exists.1 hk
    exact (cap_ok (P := P) (ty := type) (elemOf_eq hte) (fly := [(_, a.eval xa)]) rfl hh).yield (by simp [execOp, resolve, invoke, builtin])
   ·cases he
  ·cases hk
 ·-- lslice
  rename_i t x lo hi mx sz
  simp only [Bool.and_eq_true] at hk
  obtain ⟨⟨⟨hk1, hk2⟩, hk3⟩, hk4⟩ := hk
  split at hk1
  ·rename_i e he'
   obtain ⟨agg, ti⟩ := typeSz_ti hk1
   cases hi with
   | some _ => cases hk3
   | none =>
   cases mx with
   | some _ => cases hk4
   | none =>
   cases lo with
   | none => cases hk2
   | some lo =>
   have hops : opds (.slice t x (some lo) none none) = [x, lo] := by simp [opds, Op.operands]
   rw [hops] at hl h
   obtain ⟨X, Y, rfl⟩ := len2 (l := vs) hl
   simp only [ev] at he
   split at he
   ·rename_i id
    split at he
    ·rename_i sz' xs hH
     obtain ⟨rfl, he2⟩ := ite_some he
     obtain ⟨l, hn, he3⟩ := Option.bind_eq_some_iff.1 he2
     obtain ⟨hl', he4⟩ := ite_some he3
     simp only [Option.some.injEq, Prod.mk.injEq] at he4; obtain ⟨rfl, rfl⟩ := he4
     exact (lslice_ok (P := P) (elemOf_eq he') ti hH (by simpa using h) hn hl').yield rfl
    ·cases he
   ·cases he
  ·cases hk1
 ·-- clear
  rename_i c sz zero
  obtain ⟨callee, args, argTypes⟩ := c
  simp only at hk
  split at hk
  ·rename_i x1 x2 x3 t xa ht ha
   have ht' : argTypes = #[t] := Array.ext' ht
   have ha' : args = #[xa] := Array.ext' ha
   subst ht'; subst ha'
   obtain ⟨X, rfl⟩ := len1 (l := vs) hl
   have hh : St E G ⟨env, tmOf a, [(X, a.eval xa)], H⟩ w := h
   split at hk
   ·rename_i e he'
    simp only [Bool.and_eq_true, decide_eq_true_eq] at hk
    simp only [ev] at he
    split at he
    ·rename_i id lo
     split at he
     ·rename_i sz' xs hH
      obtain ⟨⟨rfl, _⟩, he2⟩ := ite_some he
      simp only [Option.some.injEq, Prod.mk.injEq] at he2; obtain ⟨rfl, rfl⟩ := he2
      exact (clear_does (P := P) (ty := type) (elemOf_eq he') (chkZero_zi (zero := zero) hk.2 rfl) hk.1 hH hh).yield (by simp [execOp, resolve, invoke, builtin])
     ·cases he
    ·cases he
   ·cases hk
  ·cases hk
 ·-- cut
  rename_i t x lo hi mx sz
  simp only [Bool.and_eq_true] at hk
  obtain ⟨⟨⟨hk1, hk2⟩, hk3⟩, hk4⟩ := hk
  split at hk1
  ·rename_i e he'
   obtain ⟨agg, ti⟩ := typeSz_ti hk1
   cases lo with
   | some _ => cases hk2
   | none =>
   cases mx with
   | some _ => cases hk4
   | none =>
   cases hi with
   | none => cases hk3
   | some hi =>
   have hops : opds (.slice t x none (some hi) none) = [x, hi] := by simp [opds, Op.operands]
   rw [hops] at hl h
   obtain ⟨X, Y, rfl⟩ := len2 (l := vs) hl
   simp only [ev] at he
   obtain ⟨V', hV, e2⟩ := Option.map_eq_some_iff.1 he
   simp only [Prod.mk.injEq] at e2; obtain ⟨rfl, rfl⟩ := e2
   exact (cut_ok (P := P) (elemOf_eq he') ti (by simpa using h) hV).yield rfl
  ·cases hk1
 ·-- grow
  rename_i c sz zero bytes
  obtain ⟨callee, args, argTypes⟩ := c
  simp only at hk
  split at hk
  ·rename_i x1 x2 x3 t tn xa xb ht ha
   have ht' : argTypes = #[t, tn] := Array.ext' ht
   have ha' : args = #[xa, xb] := Array.ext' ha
   subst ht'; subst ha'
   obtain ⟨X, Y, rfl⟩ := len2 (l := vs) hl
   split at hk
   ·rename_i e he'
    simp only [Bool.and_eq_true, decide_eq_true_eq] at hk
    obtain ⟨⟨⟨⟨⟨hk1, hk2⟩, hk3⟩, hk4⟩, hk5⟩, hk6⟩ := hk
    split at hk1
    case h_2 => cases hk1
    rename_i kn htn
    split at hk2
    ·rename_i i hi
     simp only [beq_iff_eq] at hk2
     simp only [ev] at he
     split at he
     ·obtain ⟨⟨rfl, rfl, rfl, h0, hmax⟩, he2⟩ := ite_some he
      simp only [Option.some.injEq, Prod.mk.injEq] at he2; obtain ⟨rfl, rfl⟩ := he2
      have hh : St E G ⟨env, tmOf a, [(.list _ [] .full, a.eval xa), (.int .i64 _, a.eval xb)], H⟩ w := h
      exact (grow_ok (P := P) (ty := type) (elemOf_eq he') htn hi hk2 hk3 (by simpa using hk4) (chkZero_zi (zero := zero) hk6 rfl) hk5 h0 hmax hh).yield (by simp [execOp, resolve, invoke, builtin])
     ·cases he
    ·cases hk2
   ·cases hk
  ·cases hk
 ·-- buildU
  rename_i t len parts sz zero len' ix
  split at hk
  ·rename_i e he'
   simp only [Bool.and_eq_true, beq_iff_eq, decide_eq_true_eq, Bool.or_eq_true] at hk
   obtain ⟨⟨⟨⟨⟨rfl, rfl⟩, h3⟩, h4⟩, h5⟩, h6⟩ := hk
   obtain ⟨agg, ti⟩ := typeSz_ti h3
   simp only [ev] at he
   obtain ⟨els, hf, e⟩ := Option.map_eq_some_iff.1 he
   simp only [Prod.mk.injEq] at e; obtain ⟨rfl, rfl⟩ := e
   have hd := buildSlice_ok .uniq (P := P) (E := E) (G := G) (env := env) (tm := tmOf a) (H := H) (w := w) (elemOf_eq he') ti
    (fun hne => chkZero_zi (by rcases h4 with h4 | h4; exact absurd h4 hne; exact h4) rfl) h5 (by simpa using h6) (parts.toList.map (·.1)) vs ((parts.toList.map (·.2)).map a.eval)
    (by simpa [opds, Op.operands] using hl) hf (by simpa [opds, Op.operands] using h)
   refine hd.yield ?_
   simp only [execOp]
   rw [parts_arr]
  ·cases hk
 ·-- mark
  rename_i src dst' x
  obtain ⟨X, rfl⟩ := len1 (l := vs) hl
  simp only [Bool.and_eq_true, decide_eq_true_eq] at hk
  obtain ⟨rfl, hk2⟩ := hk
  split at hk2
  ·rename_i e he'
   simp only [ev] at he
   split at he
   ·obtain ⟨⟨rfl, rfl, hne⟩, he2⟩ := ite_some he
    simp only [Option.some.injEq, Prod.mk.injEq] at he2; obtain ⟨rfl, rfl⟩ := he2
    exact (mark_ok (P := P) (elemOf_eq he') (isByte_eq hk2) hne h).yield rfl
   ·cases he
  ·cases hk2
 ·-- mkmap
  rename_i t r
  obtain rfl : r = none := by simpa using hk
  have : vs = [] := by simpa [opds, Op.operands] using hl
  subst this
  simp only [ev, Option.some.injEq, Prod.mk.injEq] at he
  obtain ⟨rfl, rfl⟩ := he
  exact (mkmap_ok (t := t) h).yield rfl
 ·-- lookup
  rename_i t m x ok k zero ok'
  obtain ⟨M, X, rfl⟩ := len2 (l := vs) hl
  simp only [Bool.and_eq_true, beq_iff_eq] at hk
  obtain ⟨rfl, hk⟩ := hk
  split at hk
  ·rename_i et ht
   obtain ⟨kt, hu, hkt⟩ := mapOfT_eq ht
   simp only [ev] at he
   obtain ⟨V', hV, e2⟩ := Option.map_eq_some_iff.1 he
   simp only [Prod.mk.injEq] at e2; obtain ⟨rfl, rfl⟩ := e2
   exact (lookup_ok (k' := k) hu hkt (chkZW_zw hk) h hV).yield rfl
  ·cases hk
 ·-- mapSet
  rename_i t m x y k
  obtain ⟨M, X, Y, rfl⟩ := len3 (l := vs) hl
  simp only [ev] at he
  obtain ⟨et, ht⟩ := Option.isSome_iff_exists.1 hk
  obtain ⟨kt, hu, hkt⟩ := mapOfT_eq ht
  obtain ⟨w', h1, rfl, h3⟩ := mapSet_ok hu hkt h he
  refine .inr (.inl ⟨w', G, ?_, ?_⟩)
  ·show (Bind.bind (Instr.mapUpdate t (a.eval m) (a.eval x) (a.eval y)) fun _ => Pure.pure Next.skip).run P w = _
   simp [h1]
  ·refine h3.shuffle rfl h3.slot ?_ id ?_ (fun _ _ _ _ _ _ e => e)
   ·intro k V v hk'
    cases k with
    | zero => simp at hk'; obtain ⟨rfl, rfl⟩ := hk'; exact ⟨#[], rfl, rfl, fun i X hX => by simp at hX⟩
    | succ k => simp at hk'
   ·intro p b hp
    cases p with
    | fly k i =>
     cases k with
     | zero => simp [ownP, ownC] at hp; revert hp; split <;> simp
     | succ k => simp [ownP] at hp
    | _ => exact hp
 ·-- mapSet
  rename_i t m x y k
  obtain ⟨M, X, Y, rfl⟩ := len3 (l := vs) hl
  simp only [ev] at he
  obtain ⟨et, ht⟩ := Option.isSome_iff_exists.1 hk
  obtain ⟨kt, hu, hkt⟩ := mapOfT_eq ht
  obtain ⟨w', h1, rfl, h3⟩ := mapSet_ok hu hkt h he
  refine .inr (.inl ⟨w', G, ?_, ?_⟩)
  ·show (Bind.bind (Instr.mapUpdate t (a.eval m) (a.eval x) (a.eval y)) fun _ => Pure.pure Next.skip).run P w = _
   simp [h1]
  ·refine h3.shuffle rfl h3.slot ?_ id ?_ (fun _ _ _ _ _ _ e => e)
   ·intro k V v hk'
    cases k with
    | zero => simp at hk'; obtain ⟨rfl, rfl⟩ := hk'; exact ⟨#[], rfl, rfl, fun i X hX => by simp at hX⟩
    | succ k => simp at hk'
   ·intro p b hp
    cases p with
    | fly k i =>
     cases k with
     | zero => simp [ownP, ownC] at hp; revert hp; split <;> simp
     | succ k => simp [ownP] at hp
    | _ => exact hp
 ·-- mkmeth
  rename_i m a0 b0 m'
  simp only [Bool.and_eq_true, decide_eq_true_eq, beq_iff_eq] at hk
  obtain ⟨⟨rfl, h1⟩, h2⟩ := hk
  obtain ⟨x, rfl⟩ : ∃ x, a0 = #[x] := by
   obtain ⟨l⟩ := a0
   match l, h1 with
   | [x], _ => exact ⟨x, rfl⟩
  obtain rfl : b0 = #[] := Array.eq_empty_of_size_eq_zero h2
  obtain ⟨X, rfl⟩ := len1 (l := vs) hl
  have hh : St E G ⟨env, tmOf a, [(X, a.eval x)], H⟩ w := h
  simp only [ev] at he
  obtain ⟨hok, he2⟩ := ite_some he
  simp only [Option.some.injEq, Prod.mk.injEq] at he2; obtain ⟨rfl, rfl⟩ := he2
  have hr := ((hh.fly 0 X (a.eval x) rfl).arg hok).strip
  exact (Does.pure (s := Instr.makeFunc (.method m) #[a.eval x] #[]) hh rfl (.meth m _ _ hr) rfl).yield (by simp [execOp])
 ·-- methCheck
  rename_i x m tb
  obtain ⟨X, rfl⟩ := len1 (l := vs) hl
  simp only [ev] at he
  split at he
  ·rename_i m' u v0
   obtain ⟨⟨rfl, hs⟩, he2⟩ := ite_some he
   simp only [Option.some.injEq, Prod.mk.injEq] at he2; obtain ⟨rfl, rfl⟩ := he2
   obtain ⟨f, hf⟩ := Option.isSome_iff_exists.1 hs
   have hm := lookTb_ok hk hf
   have hx : Rv G w (.meth m' (.iface u v0)) (a.eval x) := h.fly 0 _ _ rfl
   generalize hfv : a.eval x = fv at hx
   cases hx with
   | meth _ _ y hy =>
    cases hy with
    | iface _ _ z hz =>
     have hna := run_nilAhead hm (P.types.size + Made.depth - 1) z w
     have hd : P.types.size + Made.depth - 1 + 1 = P.types.size + Made.depth := by unfold Made.depth; omega
     rw [hd] at hna
     refine Yield.val (v := a.eval x) ?_ h
     simp [execOp, hfv, hna]
  ·cases he
 ·-- invoke
  rename_i c tb
  obtain ⟨callee, args, argTypes⟩ := c
  simp only at hk
  split at hk
  ·rename_i t m
   have hops : opds (.call ⟨.invoke (.tmp t) m, args, argTypes⟩) = .tmp t :: args.toList := by simp [opds, Call.operands]
   rw [hops] at hl h
   match vs, hl with
   | F :: xs, hl =>
    simp only [ev] at he
    split at he
    ·rename_i u v0
     split at he
     ·rename_i f hf
      obtain ⟨hok, he2⟩ := ite_some he
      rw [Bool.and_eq_true] at hok
      have hF : Rv G w (.iface u v0) (a.eval (.tmp t)) := h.fly 0 _ _ rfl
      generalize hfv : a.eval (.tmp t) = fv at hF
      cases hF with
      | iface _ _ x hx =>
       have hm : methOK P u m f = true := lookTb_ok hk hf
       have hxs := (vals_of (.iface u v0 :: xs) ((Operand.tmp t :: args.toList).map a.eval) [] (by simpa using hl) (by simpa using h)).c
       obtain ⟨_, _, e3, _, hxs⟩ := hxs
       cases e3
       have hxs' := hxs.strips hok.2
       have hlx : xs.length = args.size := by simpa using hl
       have hv0 : Rv G w v0.strip x ∧ v0.strip.plain = true := by
        exact ⟨hx.strip, AVal.plain_strip _ (fun vs e => by subst e; simp [AVal.argOK] at hok)⟩
       have hall : ∀ (i : Nat) V y, ((v0 :: xs).map AVal.strip)[i]? = some V → (x :: args.toList.map a.eval)[i]? = some y → Rv G w V y ∧ V.plain = true := by
        intro i V y hV hy
        cases i with
        | zero => simp at hV hy; subst hV; subst hy; exact hv0
        | succ i => exact hxs' i V y (by simpa using hV) (by simpa using hy)
       rw [show v0.strip :: xs.map AVal.strip = (v0 :: xs).map AVal.strip from rfl] at he2
       obtain ⟨h1, h2⟩ := call_ok (hcall f) (args := v0 :: xs) (argv := x :: args.toList.map a.eval) (by simp; omega) hall h he2
       refine .inr (.inr ⟨f, _, ?_, h2⟩)
       rw [← h1]
       have hme := run_method hm (P.types.size + Made.depth - 1) x w
       have hd : P.types.size + Made.depth - 1 + 1 = P.types.size + Made.depth := by unfold Made.depth; omega
       rw [hd] at hme
       have e0 : (#[Value.iface u x] ++ Array.map a.eval args)[0]? = some (.iface u x) := by rw [Array.getElem?_append_left (by simp)]; rfl
       have e1 : #[x] ++ (Array.map a.eval args).extract 0 args.size = (x :: args.toList.map a.eval).toArray := by
        apply Array.ext'
        simp
        exact List.take_of_length_le (by simp)
       simp [execOp, resolve, invoke, callMethod, hfv, e0, hme, e1]
     ·cases he
    ·cases he
  ·cases hk
 ·-- isNil
  rename_i op' t x y t2 neg
  obtain ⟨X, Y, rfl⟩ := len2 (l := vs) hl
  simp only [Bool.and_eq_true] at hk
  obtain ⟨⟨hk1, hk2⟩, hk3⟩ := hk
  split at hk2
  ·split at hk3
   ·rename_i ms hu
    have hh : St E G ⟨env, tmOf a, [(X, a.eval x), (Y, .nilIface)], H⟩ w := h
    simp only [ev] at he
    split at he
    ·simp only [Option.some.injEq, Prod.mk.injEq] at he; obtain ⟨rfl, rfl⟩ := he
     exact (isNil_ok (xo := x) hk1 hu hh (.inl ⟨_, _, rfl, rfl⟩)).yield (by simp [execOp, Act.eval])
    ·simp only [Option.some.injEq, Prod.mk.injEq] at he; obtain ⟨rfl, rfl⟩ := he
     exact (isNil_ok (xo := x) hk1 hu hh (.inr ⟨rfl, rfl⟩)).yield (by simp [execOp, Act.eval])
    ·cases he
   ·cases hk3
  ·cases hk2
 ·-- lookupG
  rename_i t m x ok kd zero ok'
  obtain ⟨M, X, rfl⟩ := len2 (l := vs) hl
  simp only [Bool.and_eq_true, beq_iff_eq] at hk
  obtain ⟨rfl, hk⟩ := hk
  split at hk
  ·rename_i et ht
   obtain ⟨kt, hu, hkt⟩ := mapOfG_eq ht
   simp only [ev] at he
   obtain ⟨V', hV, e2⟩ := Option.map_eq_some_iff.1 he
   simp only [Prod.mk.injEq] at e2; obtain ⟨rfl, rfl⟩ := e2
   exact (lookupG_ok hu hkt (chkZW_zw hk) h hV).yield rfl
  ·cases hk
 ·-- mapSetG
  rename_i t m x y kd
  obtain ⟨M, X, Y, rfl⟩ := len3 (l := vs) hl
  simp only [ev] at he
  obtain ⟨et, ht⟩ := Option.isSome_iff_exists.1 hk
  obtain ⟨kt, hu, hkt⟩ := mapOfG_eq ht
  obtain ⟨w', h1, rfl, h3⟩ := mapSetG_ok hu hkt h he
  refine .inr (.inl ⟨w', G, ?_, ?_⟩)
  ·show (Bind.bind (Instr.mapUpdate t (a.eval m) (a.eval x) (a.eval y)) fun _ => Pure.pure Next.skip).run P w = _
   simp [h1]
  ·refine h3.shuffle rfl h3.slot ?_ id ?_ (fun _ _ _ _ _ _ e => e)
   ·intro k V v hk'
    cases k with
    | zero => simp at hk'; obtain ⟨rfl, rfl⟩ := hk'; exact ⟨#[], rfl, rfl, fun i X hX => by simp at hX⟩
    | succ k => simp at hk'
   ·intro p b hp
    cases p with
    | fly k i =>
     cases k with
     | zero => simp [ownP, ownC] at hp; revert hp; split <;> simp
     | succ k => simp [ownP] at hp
    | _ => exact hp
 ·-- mapSetG
  rename_i t m x y kd
  obtain ⟨M, X, Y, rfl⟩ := len3 (l := vs) hl
  simp only [ev] at he
  obtain ⟨et, ht⟩ := Option.isSome_iff_exists.1 hk
  obtain ⟨kt, hu, hkt⟩ := mapOfG_eq ht
  obtain ⟨w', h1, rfl, h3⟩ := mapSetG_ok hu hkt h he
  refine .inr (.inl ⟨w', G, ?_, ?_⟩)
  ·show (Bind.bind (Instr.mapUpdate t (a.eval m) (a.eval x) (a.eval y)) fun _ => Pure.pure Next.skip).run P w = _
   simp [h1]
  ·refine h3.shuffle rfl h3.slot ?_ id ?_ (fun _ _ _ _ _ _ e => e)
   ·intro k V v hk'
    cases k with
    | zero => simp at hk'; obtain ⟨rfl, rfl⟩ := hk'; exact ⟨#[], rfl, rfl, fun i X hX => by simp at hX⟩
    | succ k => simp at hk'
   ·intro p b hp
    cases p with
    | fly k i =>
     cases k with
     | zero => simp [ownP, ownC] at hp; revert hp; split <;> simp
     | succ k => simp [ownP] at hp
    | _ => exact hp
 ·-- delG
  rename_i c kd
  obtain ⟨callee, args, argTypes⟩ := c
  simp only at hk
  split at hk
  ·rename_i x1 x2 x3 t tl xa xb ht ha
   have ha' : args = #[xa, xb] := Array.ext' ha
   subst ha'
   obtain ⟨M, X, rfl⟩ := len2 (l := vs) hl
   have hh : St E G ⟨env, tmOf a, [(M, a.eval xa), (X, a.eval xb)], H⟩ w := h
   have ht0 : argTypes[0]? = some t := by
    rw [← Array.getElem?_toList, ht]; rfl
   obtain ⟨et, htm⟩ := Option.isSome_iff_exists.1 hk
   obtain ⟨kt, hu, hkt⟩ := mapOfG_eq htm
   simp only [ev] at he
   exact (delG_ok (P := P) (ty := type) hu ht0 hkt hh he).yield (by simp [execOp, resolve, invoke, builtin])
  ·cases hk
 ·-- lenM
  rename_i c
  obtain ⟨callee, args, argTypes⟩ := c
  simp only at hk
  split at hk
  ·rename_i x1 x2 x3 t xa ht ha
   have ht' : argTypes = #[t] := Array.ext' ht
   have ha' : args = #[xa] := Array.ext' ha
   subst ht'; subst ha'
   obtain ⟨X, rfl⟩ := len1 (l := vs) hl
   have hh : St E G ⟨env, tmOf a, [(X, a.eval xa)], H⟩ w := h
   split at hk
   ·rename_i kt et hu
    simp only [ev] at he
    split at he
    ·split at he
     ·rename_i es hH
      simp only [Option.some.injEq, Prod.mk.injEq] at he; obtain ⟨rfl, rfl⟩ := he
      exact (lenM_ok (P := P) (ty := type) hu hH hh).yield (by simp [execOp, resolve, invoke, builtin])
     ·cases he
    ·cases he
   ·cases hk
  ·cases hk
 ·-- runeStr
  rename_i src dst' x
  obtain ⟨X, rfl⟩ := len1 (l := vs) hl
  rw [Bool.and_eq_true] at hk
  obtain ⟨hk1, hk2⟩ := hk
  split at hk1
  ·rename_i k1 hu
   simp only [ev] at he
   split at he
   ·rename_i k0 n
    obtain ⟨⟨h0, h1⟩, he2⟩ := ite_some he
    simp only [Option.some.injEq, Prod.mk.injEq] at he2; obtain ⟨rfl, rfl⟩ := he2
    have hx := Rv.int_inv (show Rv G w (.int k0 n) (a.eval x) from h.fly 0 _ _ rfl)
    have := runeStr_ok (P := P) (k := k0) hu (isStr_eq hk2) h0 h1 h
    rw [← hx] at this
    exact this.yield rfl
   ·cases he
  ·cases hk1
 ·-- srange
  rename_i t x
  obtain ⟨X, rfl⟩ := len1 (l := vs) hl
  simp only [ev] at he
  split at he
  ·rename_i s
   simp only [Option.some.injEq, Prod.mk.injEq] at he; obtain ⟨rfl, rfl⟩ := he
   have hx := Rv.str_inv (show Rv G w (.str s) (a.eval x) from h.fly 0 _ _ rfl)
   have := srange_ok (P := P) (s := s) (isStr_eq hk) h
   rw [← hx] at this
   exact this.yield rfl
  ·cases he
 ·-- snext
  rename_i x b
  obtain ⟨X, rfl⟩ := len1 (l := vs) hl
  subst hk
  simp only [ev] at he
  exact (snext_ok (P := P) (ty := type) h he).yield rfl
 ·-- buildF
  rename_i t parts zero ps
  simp only [Bool.and_eq_true] at hk
  obtain ⟨hk1, hk2⟩ := hk
  split at hk2
  ·rename_i pl hpl
   simp only [ev] at he
   obtain ⟨cs, hf, e⟩ := Option.map_eq_some_iff.1 he
   simp only [Prod.mk.injEq] at e; obtain ⟨rfl, rfl⟩ := e
   have hd := buildF_ok (P := P) (E := E) (G := G) (env := env) (tm := tmOf a) (H := H) (w := w) (chkZero_zi (zero := .agg zero) hk1 rfl) rfl
    (fun z i parts cells hi hz hf => placesOf_ok hpl z i parts cells hi hz hf) (parts.toList.map (·.1)) ps (chkPlaces_eq hk2) vs ((parts.toList.map (·.2)).map a.eval)
    (by simpa [opds, Op.operands] using hl) hf (by simpa [opds, Op.operands] using h)
   refine hd.yield ?_
   simp only [execOp]
   rw [parts_arr]
  ·cases hk2
 ·-- bad
  simp only [ev] at he
  cases he
 ·-- mkiface
  rename_i t x t'
  obtain ⟨X, rfl⟩ := len1 (l := vs) hl
  simp only [Bool.and_eq_true, beq_iff_eq] at hk
  obtain ⟨rfl, hk⟩ := hk
  simp only [ev] at he
  obtain ⟨hok, he2⟩ := ite_some he
  simp only [Option.some.injEq, Prod.mk.injEq] at he2; obtain ⟨rfl, rfl⟩ := he2
  split at hk
  ·cases hk
  ·rename_i d hn hd
   exact (mkiface_ok hd (fun ms e => hn ms e) hok h).yield rfl
  ·cases hk
 ·cases hk
end
end Go.Abs
