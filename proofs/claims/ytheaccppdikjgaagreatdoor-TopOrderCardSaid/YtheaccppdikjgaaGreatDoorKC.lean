import Derived.Test.YtheaccppdikjgaaGreatDoorK31
import Derived.Laws.Cover3
namespace Go.Abs
open Go Go.RowKit
set_option linter.unusedVariables false
set_option linter.unusedSimpArgs false
def cloneFl (u : Bool) : Fl := if u then .uniq else .own
def cloneSem (sz bytes : Nat) (u : Bool := false) : List AVal → Heap → Option (AVal × Heap)
 | [.list s xs .ro], H => if s = sz ∧ xs.length * bytes ≤ maxBytes then some (.list sz xs (cloneFl u), H) else none
 | [.lbox id], H => match H[id]? with
  | some (.arr s xs) => if s = sz ∧ xs.length * bytes ≤ maxBytes then some (.list sz xs (cloneFl u), H) else none
  | _ => none
 | _, _ => none
structure CShape where
 o0 : Array Oper
 o1 : Array Oper
 ct : Nat
 o2 : Array Oper
 o3 : Array Oper
def cloneShape : Code → Option CShape
 | .seq (.region _ o0 false) (.seq (.seq (.region _ o1 false) (.cond (.tmp ct) (.seq (.region _ o2 false) .ret) .skip)) (.seq (.region _ o3 false) .ret)) => some ⟨o0, o1, ct, o2, o3⟩
 | _ => none
theorem cloneShape_eq {c : Code} {s : CShape} (h : cloneShape c = some s) : ∃ i0 i1 i2 i3,
  c = .seq (.region i0 s.o0 false) (.seq (.seq (.region i1 s.o1 false) (.cond (.tmp s.ct) (.seq (.region i2 s.o2 false) .ret) .skip)) (.seq (.region i3 s.o3 false) .ret)) := by
 unfold cloneShape at h
 split at h
 ·cases h; exact ⟨_, _, _, _, rfl⟩
 ·cases h
def cl0 (sz : Nat) : List AOp := [⟨some 2, none, .move, [.val (.list sz [] .full)]⟩]
def cl1 : AOp := ⟨some 3, none, .move, [.tmp 0 false]⟩
def cl3 (sz bytes : Nat) (zero : AVal) (u : Bool) : List AOp :=
 [⟨some 5, none, .buildSlice sz zero 0 [], []⟩, ⟨some 6, none, .move, [.tmp 0 false]⟩, ⟨some 7, none, .append sz bytes u, [.tmp 5 true, .tmp 6 true]⟩, ⟨some 2, none, .move, [.tmp 7 true]⟩]
def chkIsNil (P : Program) (nt ct : Nat) (q : Oper) : Bool :=
 (match q.op with
  | .binOp .eql t (.tmp 3) (.const (.slice none 0 0)) _ => (elemOf P t).isSome
  | _ => false) && decide (q.dst = some ct) && q.guard.isNone && decide (ct = 4) && decide (4 < nt)
def chkClone (P : Program) (f : FuncId) (sz bytes : Nat) (zero : AVal) (u : Bool := false) : Bool :=
 match P.funcs[f]? with
 | some fn => match fn.body with
  | some c => match cloneShape c with
   | some s => chkOps P fn.ntmps s.o0 s.o0.toList (cl0 sz) &&
    (match s.o1.toList with
     | [p, q] => chkAOp P fn.ntmps s.o1 p cl1 && chkIsNil P fn.ntmps s.ct q
     | _ => false) &&
    chkOps P fn.ntmps s.o2 s.o2.toList (cl0 sz) && chkOps P fn.ntmps s.o3 s.o3.toList (cl3 sz bytes zero u) && chkRes P fn.results.toList [.tmp 2] && !(fn.name == "runtime.NumGoroutine")
   | none => false
  | none => false
 | none => false
section
variable {P : Program}
theorem chkIsNil_ok {nt ct : Nat} {q : Oper} (h : chkIsNil P nt ct q = true) : (∃ t e u, q.op = .binOp .eql t (.tmp 3) (.const (.slice none 0 0)) u ∧ P.underlying t = some (.slice e)) ∧ q.dst = some 4 ∧ q.guard = none ∧ ct = 4 ∧ 4 < nt := by
 unfold chkIsNil at h
 simp only [Bool.and_eq_true, decide_eq_true_eq] at h
 obtain ⟨⟨⟨⟨h1, h2⟩, h3⟩, h4⟩, h5⟩ := h
 subst h4
 refine ⟨?_, h2, by simpa using h3, rfl, h5⟩
 split at h1
 ·rename_i t u hq
  obtain ⟨e, he⟩ := Option.isSome_iff_exists.1 h1
  exact ⟨t, e, u, hq, elemOf_eq he⟩
 ·cases h1
theorem St.fullOwn {E G env tm H w sz xs v} (h : St E G ⟨env, tm, [(.list sz xs .full, v)], H⟩ w) : St E G ⟨env, tm, [(.list sz xs .own, v)], H⟩ w := by
 have hr : Rv G w (.list sz xs .full) v := h.fly 0 _ _ rfl
 refine h.res (k := 0) ?_ ?_
 ·cases hr with
  | list _ _ _ b o len cap f g1 g2 g3 g4 g5 g6 g7 g8 => exact Rv.list sz xs .own b o len cap f g1 g2 (by simp) g4 g5 g6 g7 g8
  | nilList => exact Rv.nilList sz .own
 ·intro i a ha
  exfalso
  simp only [ownC] at ha
  split at ha
  ·cases hr with
   | list _ _ _ b o len cap f g1 g2 g3 g4 g5 g6 g7 g8 =>
    have := g3 rfl
    simp [own0, this] at ha
   | nilList => simp [own0] at ha
  ·cases ha
theorem St.fullUniq {E G env tm H w sz v} (h : St E G ⟨env, tm, [(.list sz [] .full, v)], H⟩ w) : St E G ⟨env, tm, [(.list sz [] .uniq, v)], H⟩ w := by
 have hr : Rv G w (.list sz [] .full) v := h.fly 0 _ _ rfl
 refine h.res (k := 0) ?_ ?_
 ·cases hr with
  | list _ _ _ b o len cap f g1 g2 g3 g4 g5 g6 g7 g8 => exact .inr ⟨b, o, len, cap, f, rfl, g1, g2, g4, g5, g6, g8⟩
  | nilList => exact .inl ⟨rfl, rfl⟩
 ·intro i a ha
  exfalso
  simp only [ownC] at ha
  split at ha
  ·cases hr with
   | list _ _ _ b o len cap f g1 g2 g3 g4 g5 g6 g7 g8 =>
    have := g3 rfl
    simp at g1
    simp [own0, this, ← g1] at ha
   | nilList => simp [own0] at ha
  ·cases ha
theorem clone_ok {f : FuncId} {sz bytes : Nat} {zero : AVal} {u : Bool} (hc : chkClone P f sz bytes zero u = true) : FnOK P f (cloneSem sz bytes u) := by
 intro G H args argv w V H' hl h hs
 -- what it is given
 obtain ⟨X, xs, v, rfl, rfl, hlen, hX, hs⟩ : ∃ X xs v, args = [X] ∧ argv = [v] ∧ xs.length * bytes ≤ maxBytes ∧ (X = .list sz xs .ro ∨ ∃ id, X = .lbox id ∧ H[id]? = some (.arr sz xs)) ∧ some (.list sz xs (cloneFl u), H) = some (V, H') := by
  unfold cloneSem at hs
  split at hs
  ·rename_i s xs
   obtain ⟨⟨rfl, h1⟩, h2⟩ := ite_some hs
   match argv, hl with
   | [v], _ => exact ⟨_, xs, v, rfl, rfl, h1, .inl rfl, h2⟩
  ·rename_i id
   split at hs
   ·rename_i s xs hH
    obtain ⟨⟨rfl, h1⟩, h2⟩ := ite_some hs
    match argv, hl with
    | [v], _ => exact ⟨_, xs, v, rfl, rfl, h1, .inr ⟨id, rfl, hH⟩, h2⟩
   ·cases hs
  ·cases hs
 simp only [Option.some.injEq, Prod.mk.injEq] at hs
 obtain ⟨rfl, rfl⟩ := hs
 unfold chkClone at hc
 split at hc
 case h_2 => cases hc
 rename_i fn hf
 split at hc
 case h_2 => cases hc
 rename_i c hb
 split at hc
 case h_2 => cases hc
 rename_i s hshape
 simp only [Bool.and_eq_true, Bool.not_eq_true'] at hc
 obtain ⟨⟨⟨⟨⟨hc0, hc1⟩, hc2⟩, hc3⟩, hc4⟩, hc5⟩ := hc
 split at hc1
 case h_2 => cases hc1
 rename_i p q ho1
 rw [Bool.and_eq_true] at hc1
 obtain ⟨⟨t, e, u9, hq1, hte⟩, hq2, hq3, hct, hnt⟩ := chkIsNil_ok hc1.2
 obtain ⟨i0, i1, i2, i3, rfl⟩ := cloneShape_eq hshape
 refine ⟨⟨fn, hf, by simpa using hc5, by rw [hb]; rfl⟩, ?_⟩
 have hcall : ∀ f, FnOK P f ((fun _ _ _ => none : CallF) f) := fun f G H args argv w V H' _ _ hr => by cases hr
 refine calls_of_wp hf hb ?_
 have hst0 := St.begin (argv := [v]) rfl h (fn.ntmps - 1)
 have hsz0 : fn.ntmps ≤ (({ tmps := [v].toArray ++ Array.replicate (fn.ntmps - 1) undef, defers := [] } : Act)).tmps.size := by simp; omega
 show Code.wp P _ _ { tmps := [v].toArray ++ Array.replicate (fn.ntmps - 1) undef, defers := [] } w
 generalize ha0 : ({ tmps := [v].toArray ++ Array.replicate (fn.ntmps - 1) undef, defers := [] } : Act) = a0 at hst0 hsz0 ⊢
 have hd0 : a0.defers = [] := by rw [← ha0]
 have e0 : initEnv 0 [X] = [(0, X)] := rfl
 rw [e0] at hst0
 -- the result stands in 2
 have fin : ∀ (fl : Fl) (G' : Gh) (a' : Act) (w' : World) (e' : Env), fl = cloneFl u ∨ (fl = .full ∧ xs = []) → e'.get 2 = .list sz xs fl → a'.defers = [] → St (entOf G (bare ([X].zip [v]) H) w) G' ⟨e'.get, tmOf a', [], H⟩ w' →
   bodyPost P fn (fun e w' => ∃ v1 G1, e = .returned v1 ∧ St (entOf G (bare ([X].zip [v]) H) w) G1 (bare [(.list sz xs (cloneFl u), v1)] H) w') .ret a' w' := by
  intro fl G' a' w' e' hfl he hd hst
  obtain ⟨vs, env', g1, g2, g3⟩ := res_ok (P := P) (tmps := a'.tmps) fn.results.toList [.tmp 2] e' [] [.list sz xs fl] hc4 (by simp only [getRes, he, Option.map_some]) hst
  have g4 := tup_ok g2 rfl (by simpa using g3)
  have g5 : St (entOf G (bare ([X].zip [v]) H) w) G' (bare [(.list sz xs (cloneFl u), if h : vs.toArray.size = 1 then vs.toArray[0] else .tuple vs.toArray)] H) w' := by
   rcases hfl with rfl | ⟨rfl, rfl⟩
   ·exact g4
   ·cases u with
    | false => exact g4.fullOwn
    | true => exact g4.fullUniq
  refine ⟨hd, _, ?_, _, G', rfl, g5⟩
  simp only [results]
  rw [Array.mapM_eq_mapM_toList]
  simp only [bind_map_left, Sem.run_bind]
  exact (congrArg (fun r => Result.andThen r _) g1).trans rfl
 refine wp_seq (region_ok (xs := cl0 sz) (e' := [(0, X), (2, .list sz [] .full)]) (H' := H) hcall hc0 hsz0 hst0 rfl fun G1 a1 w1 hs1 hd1 hst1 => ?_)
 refine wp_seq (wp_seq (wp_region ?_))
 have hsz1 : s.o1.size = 2 := by rw [← Array.length_toList, ho1]; rfl
 have hp : s.o1[0]? = some p := by rw [← Array.getElem?_toList, ho1]; rfl
 have hq : s.o1[1]? = some q := by rw [← Array.getElem?_toList, ho1]; rfl
 rw [hsz1, show List.range 2 = [0, 1] from rfl, wpOps_cons]
 refine aop_ok hcall hp hc1.1 hs1 hst1 (e' := [(0, X), (2, .list sz [] .full), (3, X)]) (H' := H) (by rcases hX with rfl | ⟨id, rfl, _⟩ <;> rfl) fun G2 a2 w2 hs2 hd2 hst2 => ?_
 rw [wpOps_cons]
 obtain ⟨ad, len, cap, hv3, hnil⟩ : ∃ ad len cap, tmOf a2 3 = .slice ad len cap ∧ (ad = none → xs = []) := by
  rcases hX with rfl | ⟨id, rfl, hH⟩
  ·have h3 : Rv G2 w2 (.list sz xs .ro) (tmOf a2 3) := hst2.slot 3
   generalize tmOf a2 3 = x at h3
   cases h3 with
   | list _ _ _ b o len cap f g1 g2 g3 g4 g5 g6 g7 g8 => exact ⟨_, _, _, rfl, fun e => by cases e⟩
   | nilList => exact ⟨_, _, _, rfl, fun _ => rfl⟩
  ·have h3 : Rv G2 w2 (.lbox id) (tmOf a2 3) := hst2.slot 3
   obtain ⟨_, hru⟩ := hst2.box id _ hH
   generalize tmOf a2 3 = x at h3
   cases h3 with
   | lbox _ _ _ =>
    rcases hru with ⟨hx, hsl⟩ | ⟨b, o, len, cap, f, hsl, _⟩
    ·exact ⟨_, _, _, hsl, fun _ => hx⟩
    ·exact ⟨_, _, _, hsl, fun e => by cases e⟩
 have hev : a2.eval (.tmp 3) = .slice ad len cap := hv3
 have hrun : (execOp a2.eval q).run P w2 = .ok (.value (.bool ad.isNone)) w2 := by
  obtain ⟨d0, op0, ty0, p0, af0, g0⟩ := q
  simp only at hq1; subst hq1
  have hg : (eqGuard .eql t (.tmp 3) (.const (.slice none 0 0)) (.slice ad len cap) (.slice none 0 0)).run P w2 = .ok () w2 := rfl
  have heq : (binOp .eql t (.slice ad len cap) (.slice none 0 0)).run P w2 = .ok (.bool ad.isNone) w2 :=
   eql_run rfl (run_equal_slice_nil w2 t e ad len cap hte)
  have hc' : a2.eval (.const (.slice none 0 0)) = .slice none 0 0 := rfl
  simp only [execOp, hev, hc', Sem.run_bind, hg, heq, Result.andThen]
  rfl
 unfold wpOp
 simp only [hq]
 rw [if_pos (by simp [Region.wanted, hq3])]
 refine .inl ?_
 unfold Oper.wp
 rw [hrun, Oper.upon_value, hq2]
 show Exit.then _ _ .normal _ _
 have hst3 : St (entOf G (bare ([X].zip [v]) H) w) G2 ⟨(Env.putO [(0, X), (2, .list sz [] .full), (3, X)] (some 4) (.bool ad.isNone)).get, tmOf (a2.put (some 4) (.bool ad.isNone)), [], H⟩ w2 := by
  have := (hst2.add (V := .bool ad.isNone) (.bool _) rfl)
  rw [List.nil_append] at this
  exact this.putO (some 4) (fun t ht => by cases ht; omega)
 have hs3 : fn.ntmps ≤ (a2.put (some 4) (.bool ad.isNone)).tmps.size := by rw [put_size]; exact hs2
 have hd3 : (a2.put (some 4) (.bool ad.isNone)).defers = [] := by rw [put_defers, hd2, hd1, hd0]
 generalize a2.put (some 4) (.bool ad.isNone) = a3 at hst3 hs3 hd3 ⊢
 have hcv : a3.eval (.tmp s.ct) = .bool ad.isNone := by
  rw [hct]
  exact Rv.bool_inv (show Rv G2 w2 (.bool ad.isNone) (tmOf a3 4) from hst3.slot 4)
 refine wp_cond hcv ?_
 cases ad with
 | none =>
  have hx := hnil rfl
  subst hx
  simp only [Option.isNone_none, if_true]
  refine wp_seq (region_ok (xs := cl0 sz) (e' := [(0, X), (2, .list sz [] .full), (3, X), (4, .bool true)]) (H' := H) hcall hc2 hs3 hst3 rfl fun G4 a4 w4 hs4 hd4 hst4 => ?_)
  exact wp_ret (fin .full G4 a4 w4 _ (.inr ⟨rfl, rfl⟩) rfl (hd4.trans hd3) hst4)
 | some ad =>
  simp only [Option.isNone_some, Bool.false_eq_true, if_false]
  refine wp_skip ?_
  show Code.wp P _ _ a3 w2
  have hap : evAppend sz bytes u (.list sz [] .full) xs = some (.list sz xs (cloneFl u)) := by
   cases u <;> simp [evAppend, cloneFl, hlen]
  have happ : ∃ e4, aops (fun _ _ _ => none) (cl3 sz bytes zero u) (Env.putO [(0, X), (2, .list sz [] .full), (3, X)] (some 4) (.bool false)) H = some (e4, H) ∧ e4.get 2 = .list sz xs (cloneFl u) := by
   refine ⟨[(0, X), (2, .list sz xs (cloneFl u)), (3, X), (4, .bool false), (5, .list sz [] .full), (6, X), (7, if u then .any else .list sz xs .ro)], ?_, rfl⟩
   rcases hX with rfl | ⟨id, rfl, hH⟩
   ·simp only [cl3, go_sem, List.replicate_zero, fillS, hap, reduceCtorEq, ne_eq, not_false_eq_true, Bool.false_eq_true, ↓reduceIte, Nat.reduceAdd, Nat.reduceEqDiff, Nat.reduceLT, List.nil_append]
    cases u <;> rfl
   ·have hap2 : ∀ x, ev (fun _ _ _ => none) (K.append sz bytes u) [x, .lbox id] H = valA H (evAppend sz bytes u x xs) := fun x => e_appendB (h := hH) ..
    simp only [cl3, go_sem, hap2, List.replicate_zero, fillS, hap, reduceCtorEq, ne_eq, not_false_eq_true, Bool.false_eq_true, ↓reduceIte, Nat.reduceAdd, Nat.reduceEqDiff, Nat.reduceLT, List.nil_append]
    cases u <;> rfl
  obtain ⟨e4, happ, he4⟩ := happ
  refine wp_seq (region_ok hcall hc3 hs3 hst3 happ fun G4 a4 w4 hs4 hd4 hst4 => ?_)
  exact wp_ret (fin (cloneFl u) G4 a4 w4 _ (.inl rfl) he4 (hd4.trans hd3) hst4)
end
end Go.Abs
namespace Go.Abs
open Go Go.RowKit
set_option linter.unusedVariables false
set_option linter.unusedSimpArgs false
def allU (call : CallF) (un : List Nat) (H : Heap) (tr : List Came) : Bool := tr.all fun c => !un.contains c.i || c.again call H
def allR (call : CallF) (un : List Nat) (c : Came) (tr : List Came) : Bool := tr.all fun c' => !un.contains c'.i || c.again call c'.H
def dr3 (b : Bool) (tr : List Came) (e : Env) (H : Heap) : Option (List Came × Env × Heap) := if b = true then some (tr, e, H) else none
def dr2 (call : CallF) (i : Nat) (d : Option Nat) (k : K) (w : Bool) (un : List Nat) (tr : List Came) (vs : List AVal) (e : Env) (H : Heap) : Option (AVal × Heap) → Option (List Came × Env × Heap)
 | some (V, H') =>
  if w = true then dr3 (allU call un H' tr) (⟨i, k, some vs, V, H⟩ :: tr) (e.putO d V) H'
  else dr3 (sameH H' H && allR call un ⟨i, k, some vs, V, H⟩ tr) (⟨i, k, some vs, V, H⟩ :: tr) (e.putO d V) H
 | none => none
def dr1 (call : CallF) (i : Nat) (d : Option Nat) (k : K) (w : Bool) (un : List Nat) (tr : List Came) (H : Heap) : Option (List AVal × Env) → Option (List Came × Env × Heap)
 | some (vs, e) => dr2 call i d k w un tr vs e H (ev call k vs H)
 | none => none
def drG (call : CallF) (i : Nat) (b : Bool) (d : Option Nat) (k : K) (xs : List Opd) (w : Bool) (un : List Nat) (tr : List Came) (e : Env) (H : Heap) : AVal → Option (List Came × Env × Heap)
 | .bool t => if t = b then dr1 call i d k w un tr H (e.rds xs) else some (⟨i, k, none, .tuple [], H⟩ :: tr, e.putO d (.tuple []), H)
 | .tuple _ => some (⟨i, k, none, .tuple [], H⟩ :: tr, e.putO d (.tuple []), H)
 | _ => none
def drA (call : CallF) (i : Nat) (os : List (AOp × DInfo)) : Option (List Came × Env × Heap) → Option (Env × Heap)
 | some (tr, e, H) => adraw call i os tr e H
 | none => none
section
variable (c : CallF)
theorem w_nil (i tr e H) : adraw c i [] tr e H = some (e, H) := rfl
theorem w_cons (i o d os tr e H) : adraw c i ((o, d) :: os) tr e H = drA c (i + 1) os (drawOp c i o d tr e H) := by
 simp only [adraw]; cases drawOp c i o d tr e H <;> rfl
theorem w_a (i os tr e H) : drA c i os (some (tr, e, H)) = adraw c i os tr e H := rfl
theorem dr1_eq (i d k w un tr e xs H) : ((Env.rds e xs).bind fun (vs, e) => (ev c k vs H).bind fun (V, H') =>
  let cm : Came := { i, k := k, vs := some vs, v := V, H }
  if w = true then
   if tr.all fun c' => !un.contains c'.i || c'.again c H' then some (cm :: tr, e.putO d V, H') else none
  else
   if sameH H' H && tr.all fun c' => !un.contains c'.i || cm.again c c'.H then some (cm :: tr, e.putO d V, H) else none) = dr1 c i d k w un tr H (e.rds xs) := by
 cases e.rds xs with
 | none => rfl
 | some p =>
  rcases p with ⟨vs, e⟩
  simp only [Option.bind_some, dr1]
  cases ev c k vs H with
  | none => rfl
  | some q =>
   rcases q with ⟨V, H'⟩
   simp only [Option.bind_some, dr2, dr3, allU, allR]
   rfl
theorem w_free (i d k xs w un tr e H) : drawOp c i ⟨d, none, k, xs⟩ ⟨w, un⟩ tr e H = dr1 c i d k w un tr H (e.rds xs) := by
 simp only [drawOp, wantedA]; exact dr1_eq c i d k w un tr e xs H
theorem w_guard (i d g b k xs w un tr e H) : drawOp c i ⟨d, some (g, b), k, xs⟩ ⟨w, un⟩ tr e H = drG c i b d k xs w un tr e H (e.get g) := by
 simp only [drawOp, wantedA]
 cases e.get g <;> first | rfl | skip
 rename_i t
 cases t <;> cases b <;> simp only [drG] <;> first | exact dr1_eq c i d k w un tr e xs H | rfl
theorem w_gTT (i d k xs w un tr e H) : drG c i true d k xs w un tr e H (.bool true) = dr1 c i d k w un tr H (e.rds xs) := rfl
theorem w_gFF (i d k xs w un tr e H) : drG c i false d k xs w un tr e H (.bool false) = dr1 c i d k w un tr H (e.rds xs) := rfl
theorem w_gTF (i d k xs w un tr e H) : drG c i true d k xs w un tr e H (.bool false) = some (⟨i, k, none, .tuple [], H⟩ :: tr, e.putO d (.tuple []), H) := rfl
theorem w_gFT (i d k xs w un tr e H) : drG c i false d k xs w un tr e H (.bool true) = some (⟨i, k, none, .tuple [], H⟩ :: tr, e.putO d (.tuple []), H) := rfl
theorem w_gN (i b d k xs w un tr e H vs) : drG c i b d k xs w un tr e H (.tuple vs) = some (⟨i, k, none, .tuple [], H⟩ :: tr, e.putO d (.tuple []), H) := rfl
theorem w_1 (i d k w un tr H vs e) : dr1 c i d k w un tr H (some (vs, e)) = dr2 c i d k w un tr vs e H (ev c k vs H) := rfl
theorem w_2T (i d k un tr vs e H V H') : dr2 c i d k true un tr vs e H (some (V, H')) = dr3 (allU c un H' tr) (⟨i, k, some vs, V, H⟩ :: tr) (e.putO d V) H' := rfl
theorem w_2F (i d k un tr vs e H V) : dr2 c i d k false un tr vs e H (some (V, H)) = dr3 (allR c un ⟨i, k, some vs, V, H⟩ tr) (⟨i, k, some vs, V, H⟩ :: tr) (e.putO d V) H := by
 simp only [dr2, sameH_refl, Bool.true_and, Bool.false_eq_true, if_false]
theorem w_3 (tr e H) : dr3 true tr e H = some (tr, e, H) := rfl
theorem all_true {α : Type} : ∀ l : List α, (l.all fun _ => true) = true
 | [] => rfl
 | _ :: l => by simp
theorem u_none (H tr) : allU c [] H tr = true := by simp [allU]
theorem r_none (cm tr) : allR c [] cm tr = true := by simp [allR]
def orU (call : CallF) (b : Bool) (k : K) (vs : Option (List AVal)) (v : AVal) (H : Heap) : Bool :=
 if b = true then (match vs with | some vs => stays (ev call k vs H) v H | none => true) else true
theorem or_F (k vs v H) : orU c false k vs v H = true := rfl
theorem or_T (k vs v H) : orU c true k (some vs) v H = stays (ev c k vs H) v H := rfl
theorem or_N (k v H) : orU c true k none v H = true := rfl
theorem u_nil (un H) : allU c un H [] = true := rfl
theorem u_cons (un H i k vs v H0 tr) : allU c un H (⟨i, k, vs, v, H0⟩ :: tr) = (orU c (un.contains i) k vs v H && allU c un H tr) := by
 simp only [allU, List.all_cons, orU, Came.again]
 cases un.contains i <;> rfl
theorem ar_nil (un cm) : allR c un cm [] = true := rfl
theorem ar_cons (un i0 k vs v H0 i k' vs' v' H tr) : allR c un ⟨i0, k, vs, v, H0⟩ (⟨i, k', vs', v', H⟩ :: tr) = (orU c (un.contains i) k vs v H && allR c un ⟨i0, k, vs, v, H0⟩ tr) := by
 simp only [allR, List.all_cons, orU, Came.again]
 cases un.contains i <;> rfl
theorem stays_same (v H) : stays (some (v, H)) v H = true := by
 simp [stays, same_refl, sameH_refl]
end
theorem ct_cons (a b : Nat) (l : List Nat) : (b :: l).contains a = if a = b then true else l.contains a := by
 simp only [List.contains_cons]
 by_cases h : a = b <;> simp [h]
theorem ct_nil (a : Nat) : ([] : List Nat).contains a = false := rfl
attribute [go_sem] w_nil w_cons w_a w_free w_guard w_gTT w_gFF w_gTF w_gFT w_gN w_1 w_2T w_2F w_3 u_none r_none or_F or_T or_N u_nil u_cons ar_nil ar_cons stays_same ct_cons ct_nil
end Go.Abs
