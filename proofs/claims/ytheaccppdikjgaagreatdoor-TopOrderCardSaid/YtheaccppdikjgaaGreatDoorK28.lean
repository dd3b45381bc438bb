import Derived.Test.YtheaccppdikjgaaGreatDoorK27
namespace Go.Abs
open Go
set_option linter.unusedVariables false
set_option linter.unusedSimpArgs false
structure Lim {α : Type} (F : Nat → Option α) (x : Option α) : Prop where
 mono : ∀ n r, F n = some r → F (n + 1) = some r
 up : ∀ r, x = some r → ∃ n, F n = some r
theorem Lim.le {α : Type} {F : Nat → Option α} {x} (h : Lim F x) {m n : Nat} {r} (hmn : m ≤ n) (hr : F m = some r) : F n = some r := by
 induction hmn with
 | refl => exact hr
 | step _ ih => exact h.mono _ _ ih
theorem Lim.const {α : Type} (x : Option α) : Lim (fun _ => x) x := ⟨fun _ _ h => h, fun _ h => ⟨0, h⟩⟩
theorem Lim.bind {α β : Type} {F : Nat → Option α} {x} (h : Lim F x) {G : Nat → α → Option β} {g : α → Option β} (hg : ∀ a, Lim (fun n => G n a) (g a)) : Lim (fun n => (F n).bind (G n)) (x.bind g) := by
 constructor
 ·intro n r hr
  obtain ⟨a, h1, h2⟩ := Option.bind_eq_some_iff.1 hr
  exact Option.bind_eq_some_iff.2 ⟨a, h.mono n a h1, (hg a).mono n r h2⟩
 ·intro r hr
  obtain ⟨a, h1, h2⟩ := Option.bind_eq_some_iff.1 hr
  obtain ⟨n, hn⟩ := h.up a h1
  obtain ⟨m, hm⟩ := (hg a).up r h2
  exact ⟨max n m, Option.bind_eq_some_iff.2 ⟨a, h.le (Nat.le_max_left _ _) hn, (hg a).le (Nat.le_max_right _ _) hm⟩⟩
theorem Lim.map {α β : Type} {F : Nat → Option α} {x} (h : Lim F x) (g : α → β) : Lim (fun n => (F n).map g) (x.map g) := by
 simp only [Option.map_eq_bind]
 exact h.bind fun a => .const _
structure BLim (b : Nat → Bool) (B : Bool) : Prop where
 mono : ∀ n, b n = true → b (n + 1) = true
 up : B = true → ∃ n, b n = true
theorem BLim.le {b B} (h : BLim b B) {m n : Nat} (hmn : m ≤ n) (hr : b m = true) : b n = true := by
 induction hmn with
 | refl => exact hr
 | step _ ih => exact h.mono _ ih
theorem BLim.const (B : Bool) : BLim (fun _ => B) B := ⟨fun _ h => h, fun h => ⟨0, h⟩⟩
theorem BLim.and {b B c C} (h : BLim b B) (h' : BLim c C) : BLim (fun n => b n && c n) (B && C) := by
 constructor
 ·intro n hr; rw [Bool.and_eq_true] at hr ⊢; exact ⟨h.mono n hr.1, h'.mono n hr.2⟩
 ·intro hr
  rw [Bool.and_eq_true] at hr
  obtain ⟨n, hn⟩ := h.up hr.1
  obtain ⟨m, hm⟩ := h'.up hr.2
  exact ⟨max n m, by rw [h.le (Nat.le_max_left _ _) hn, h'.le (Nat.le_max_right _ _) hm]; rfl⟩
theorem BLim.or {b B} (c : Bool) (h : BLim b B) : BLim (fun n => c || b n) (c || B) := by
 cases c
 ·simpa using h
 ·simpa using BLim.const true
theorem BLim.all {α : Type} : ∀ (l : List α) (f : Nat → α → Bool) (F : α → Bool), (∀ a, BLim (fun n => f n a) (F a)) → BLim (fun n => l.all (f n)) (l.all F)
 | [], _, _, _ => .const true
 | a :: l, f, F, h => (h a).and (BLim.all l f F h)
theorem Lim.ite {α : Type} {b B} (hb : BLim b B) {F : Nat → Option α} {x} (h : Lim F x) : Lim (fun n => if b n then F n else none) (if B then x else none) := by
 constructor
 ·intro n r hr
  obtain ⟨h1, h2⟩ := ite_some hr
  rw [if_pos (hb.mono n h1)]; exact h.mono n r h2
 ·intro r hr
  obtain ⟨h1, h2⟩ := ite_some hr
  obtain ⟨n, hn⟩ := hb.up h1
  obtain ⟨m, hm⟩ := h.up r h2
  exact ⟨max n m, by rw [if_pos (hb.le (Nat.le_max_left _ _) hn)]; exact h.le (Nat.le_max_right _ _) hm⟩
abbrev CLim (c : Nat → CallF) (C : CallF) : Prop := ∀ f a H, Lim (fun n => c n f a H) (C f a H)
theorem ev_lim {c C} (h : CLim c C) (k : K) (vs : List AVal) (H : Heap) : Lim (fun n => ev (c n) k vs H) (ev C k vs H) := by
 by_cases h1 : ∃ f own, k = .call f own
 ·obtain ⟨f, own, rfl⟩ := h1
  simp only [ev]
  cases own
  ·simp only [Bool.false_eq_true, if_false]; exact Lim.ite (.const _) (h _ _ _)
  ·simpa using h _ _ _
 ·by_cases h2 : ∃ g a b xs, k = .callv ∧ vs = .fn g a b :: xs
  ·obtain ⟨g, a, b, xs, rfl, rfl⟩ := h2
   simp only [ev]
   exact Lim.ite (.const _) (h _ _ _)
  ·by_cases h3 : ∃ tb t v xs, k = .invoke tb ∧ vs = .iface t v :: xs
   ·obtain ⟨tb, t, v, xs, rfl, rfl⟩ := h3
    simp only [ev]
    cases lookTb tb t with
    | none => exact .const _
    | some f => exact Lim.ite (.const _) (h _ _ _)
   have : ∀ n, ev (c n) k vs H = ev C k vs H := by
    intro n
    cases k
    case call f own => exact absurd ⟨f, own, rfl⟩ h1
    case callv =>
     cases vs with
     | nil => rfl
     | cons f xs => cases f <;> first | rfl | exact absurd ⟨_, _, _, _, rfl, rfl⟩ h2
    case invoke tb =>
     cases vs with
     | nil => rfl
     | cons f xs => cases f <;> first | rfl | exact absurd ⟨_, _, _, _, rfl, rfl⟩ h3
    all_goals (rcases vs with _ | ⟨x, _ | ⟨y, _ | ⟨z, _ | ⟨z1, r⟩⟩⟩⟩ <;> rfl)
   simp only [this]
   exact .const _
theorem again_lim {c C} (h : CLim c C) (cm : Came) (H : Heap) : BLim (fun n => cm.again (c n) H) (cm.again C H) := by
 unfold Came.again
 split
 ·rename_i vs _
  have := ev_lim h cm.k vs H
  constructor
  ·intro n hn
   unfold stays at hn ⊢
   split at hn
   ·rename_i v' H' hr
    rw [this.mono n _ hr]; exact hn
   ·cases hn
  ·intro hr
   unfold stays at hr
   split at hr
   ·rename_i v' H' hr'
    obtain ⟨n, hn⟩ := this.up _ hr'
    refine ⟨n, ?_⟩
    unfold stays
    rw [hn]; exact hr
   ·cases hr
 ·exact .const _
theorem aop_lim {c C} (h : CLim c C) (o : AOp) (e : Env) (H : Heap) : Lim (fun n => aop (c n) o e H) (aop C o e H) := by
 unfold aop
 split
 ·exact Lim.bind (.const _) fun _ => (ev_lim h _ _ _).map _
 ·exact .const _
 ·exact .const _
theorem aops_lim {c C} (h : CLim c C) : ∀ (os : List AOp) (e : Env) (H : Heap), Lim (fun n => aops (c n) os e H) (aops C os e H)
 | [], e, H => .const _
 | o :: os, e, H => by
  simp only [aops]
  exact (aop_lim h o e H).bind fun _ => aops_lim h os _ _
theorem aseg_lim {c C} (h : CLim c C) (s : Bool × List AOp) (e : Env) (H : Heap) : Lim (fun n => aseg (c n) s e H) (aseg C s e H) := by
 unfold aseg
 split
 ·split
  ·exact (aops_lim h _ _ _).bind fun _ => .const _
  ·exact .const _
 ·exact aops_lim h _ _ _
theorem asegs_lim {c C} (h : CLim c C) : ∀ (ss : List (Bool × List AOp)) (e : Env) (H : Heap), Lim (fun n => asegs (c n) ss e H) (asegs C ss e H)
 | [], e, H => .const _
 | s :: ss, e, H => by
  simp only [asegs]
  exact (aseg_lim h s e H).bind fun _ => asegs_lim h ss _ _
theorem drawOp_lim {c C} (h : CLim c C) (i : Nat) (o : AOp) (d : DInfo) (tr : List Came) (e : Env) (H : Heap) : Lim (fun n => drawOp (c n) i o d tr e H) (drawOp C i o d tr e H) := by
 unfold drawOp
 split
 ·refine Lim.bind (.const _) fun _ => (ev_lim h _ _ _).bind fun _ => ?_
  simp only
  split
  ·exact Lim.ite (BLim.all _ _ _ fun cm => BLim.or _ (again_lim h cm _)) (.const _)
  ·exact Lim.ite ((BLim.const _).and (BLim.all _ _ _ fun cm => BLim.or _ (again_lim h _ _))) (.const _)
 ·exact .const _
 ·exact .const _
theorem adraw_lim {c C} (h : CLim c C) : ∀ (os : List (AOp × DInfo)) (i : Nat) (tr : List Came) (e : Env) (H : Heap), Lim (fun n => adraw (c n) i os tr e H) (adraw C i os tr e H)
 | [], i, tr, e, H => .const _
 | (o, d) :: os, i, tr, e, H => by
  simp only [adraw]
  exact (drawOp_lim h i o d tr e H).bind fun _ => adraw_lim h os _ _ _ _
theorem sameR_lim {F : Nat → Option (Env × Heap)} {x} (h : Lim F x) (q : Env × Heap) : BLim (fun n => sameR (F n) q) (sameR x q) := by
 constructor
 ·intro n hn
  unfold sameR at hn ⊢
  split at hn
  ·rename_i p hr
   rw [h.mono n _ hr]; exact hn
  ·cases hn
 ·intro hr
  unfold sameR at hr
  split at hr
  ·rename_i p
   obtain ⟨n, hn⟩ := h.up _ rfl
   refine ⟨n, ?_⟩
   unfold sameR
   rw [hn]; exact hr
  ·cases hr
theorem mfold_lim {s : Nat → MStep} {S : MStep} (h : ∀ p e H, Lim (fun n => s n p e H) (S p e H)) (es : List (AVal × AVal)) : ∀ (is : List Nat) (e : Env) (H : Heap), Lim (fun n => mfold (s n) es is e H) (mfold S es is e H)
 | [], e, H => .const _
 | i :: is, e, H => by
  simp only [mfold]
  exact Lim.bind (.const _) fun p => (h p e H).bind fun r => mfold_lim h es is r.1 r.2
theorem mrun_lim {s : Nat → MStep} {S : MStep} (h : ∀ p e H, Lim (fun n => s n p e H) (S p e H)) (es : List (AVal × AVal)) (e : Env) (H : Heap) : Lim (fun n => mrun (s n) es e H) (mrun S es e H) := by
 unfold mrun
 exact (mfold_lim h es _ e H).bind fun r => Lim.ite (BLim.all _ _ _ fun is => sameR_lim (mfold_lim h es is e H) r) (.const _)
theorem mstep_lim {c C} (h : CLim c C) {run : Nat → Env → Heap → R} {Run : Env → Heap → R} (hr : ∀ e H, Lim (fun n => run n e H) (Run e H)) (I : MInfo) (i m : Nat) (es : List (AVal × AVal)) (p : AVal × AVal) (e : Env) (H : Heap) :
  Lim (fun n => mstep (c n) (run n) I i m es p e H) (mstep C Run I i m es p e H) := by
 unfold mstep
 refine Lim.ite (.const _) ((aops_lim h _ _ _).bind fun q => Lim.ite (.const _) ((aops_lim h _ _ _).bind fun q => (hr _ _).bind fun r => .const _))
theorem mlast_lim {c C} (h : CLim c C) (I : MInfo) (i : Nat) (e : Env) (H : Heap) : Lim (fun n => mlast (c n) I i e H) (mlast C I i e H) := by
 unfold mlast
 exact Lim.ite (.const _) ((aops_lim h _ _ _).bind fun q => .const _)
theorem mloopA_lim {c C} (h : CLim c C) {run : Nat → Env → Heap → R} {Run : Env → Heap → R} (hr : ∀ e H, Lim (fun n => run n e H) (Run e H)) (I : MInfo) (e : Env) (H : Heap) :
  Lim (fun n => mloopA (c n) (run n) I e H) (mloopA C Run I e H) := by
 unfold mloopA
 refine (aops_lim h _ _ _).bind fun q => ?_
 split
 ·split
  ·exact (mrun_lim (fun p e H => mstep_lim h hr I _ _ _ p e H) _ _ _).bind fun r => mlast_lim h I _ _ _
  ·exact .const _
 ·exact .const _
abbrev LoopF := (Env → Heap → R) → Env → Heap → R
abbrev LLim (l : Nat → LoopF) (L : LoopF) : Prop := ∀ (s : Nat → Env → Heap → R) (S : Env → Heap → R), (∀ e H, Lim (fun n => s n e H) (S e H)) → ∀ e H, Lim (fun n => l n (s n) e H) (L S e H)
theorem aexec_lim {c C} (h : CLim c C) {l : Nat → LoopF} {L : LoopF} (hl : LLim l L) : ∀ (x : ACode) (e : Env) (H : Heap), Lim (fun n => aexec (c n) (l n) x e H) (aexec C L x e H)
 | .skip, e, H => .const _
 | .region xs, e, H => by simp only [aexec]; exact (aops_lim h xs e H).map _
 | .regionS ss, e, H => by simp only [aexec]; exact (asegs_lim h ss e H).map _
 | .draw xs, e, H => by simp only [aexec]; exact (adraw_lim h xs 0 [] e H).map _
 | .ghost g x, e, H => by simp only [aexec]; exact Lim.bind (.const _) fun _ => aexec_lim h hl x _ _
 | .seq x y, e, H => by
  simp only [aexec]
  refine (aexec_lim h hl x e H).bind fun r => ?_
  obtain ⟨o, e, H⟩ := r
  cases o
  ·exact aexec_lim h hl y e H
  ·exact .const _
  ·exact .const _
 | .cond cc x y, e, H => by
  simp only [aexec]
  split
  ·rename_i t _
   cases t
   ·simpa using aexec_lim h hl y e H
   ·simpa using aexec_lim h hl x e H
  ·exact .const _
 | .block id x, e, H => by simp only [aexec]; exact (aexec_lim h hl x e H).map _
 | .loop x, e, H => by
  simp only [aexec]
  exact hl (fun n e H => aexec (c n) (l n) x e H) (fun e H => aexec C L x e H) (fun e H => aexec_lim h hl x e H) e H
 | .mloop I x, e, H => by
  simp only [aexec]
  exact (mloopA_lim h (run := fun n e H => aexec (c n) (l n) x e H) (Run := fun e H => aexec C L x e H) (fun e H => aexec_lim h hl x e H) I e H).map _
 | .exit id, e, H => .const _
 | .ret, e, H => .const _
 | .stuck, e, H => .const _
theorem runFn_lim {c C} (h : CLim c C) {l : Nat → LoopF} {L : LoopF} (hl : LLim l L) (fn : AFunc) (args : List AVal) (H : Heap) : Lim (fun n => runFn (c n) (l n) fn args H) (runFn C L fn args H) := by
 simp only [runFn]
 exact (aexec_lim h hl fn.body _ H).bind fun _ => .const _
theorem iter_lim {s : Nat → Env → Heap → R} {S : Env → Heap → R} (h : ∀ e H, Lim (fun n => s n e H) (S e H)) : ∀ (m : Nat) (e : Env) (H : Heap), Lim (fun n => iter m (s n) e H) (iter m S e H)
 | 0, e, H => .const _
 | m + 1, e, H => by
  simp only [iter]
  refine (h e H).bind fun r => ?_
  obtain ⟨o, e, H⟩ := r
  cases o
  ·exact iter_lim h m e H
  ·exact .const _
  ·exact .const _
theorem iter_more {S : Env → Heap → R} : ∀ (m : Nat) (e : Env) (H : Heap) (r), iter m S e H = some r → iter (m + 1) S e H = some r
 | 0, e, H, r, h => by simp [iter] at h
 | m + 1, e, H, r, h => by
  rw [iter] at h ⊢
  obtain ⟨⟨o, e1, H1⟩, h1, h2⟩ := Option.bind_eq_some_iff.1 h
  refine Option.bind_eq_some_iff.2 ⟨_, h1, ?_⟩
  cases o
  ·exact iter_more m e1 H1 r h2
  ·exact h2
  ·exact h2
abbrev Sems := FuncId → Option (List AVal → Heap → Option (AVal × Heap))
def callN (tbl : FuncId → Option AFunc) (ext : Sems) : Nat → CallF
 | 0, _, _, _ => none
 | n + 1, f, args, H => match ext f with
  | some s => s args H
  | none => match tbl f with
   | some fn => runFn (callN tbl ext n) (iter n) fn args H
   | none => none
section
variable {tbl : FuncId → Option AFunc} {ext : Sems}
theorem callN_more : ∀ (n : Nat) f args H r, callN tbl ext n f args H = some r → callN tbl ext (n + 1) f args H = some r
 | 0, f, args, H, r, h => by simp [callN] at h
 | n + 1, f, args, H, r, h => by
  rw [callN] at h ⊢
  cases hx : ext f with
  | some s => rw [hx] at h; exact h
  | none =>
   rw [hx] at h
   simp only at h ⊢
   cases ht : tbl f with
   | none => rw [ht] at h; cases h
   | some fn =>
    rw [ht] at h
    simp only at h ⊢
    have hc : CLim (fun k => if k = 0 then callN tbl ext n else callN tbl ext (n + 1)) (callN tbl ext (n + 1)) := by
     intro f a H
     constructor
     ·intro k r hr
      cases k with
      | zero => exact callN_more n f a H r hr
      | succ k => exact hr
     ·intro r hr; exact ⟨1, hr⟩
    have hl : LLim (fun k => iter (if k = 0 then n else n + 1)) (iter (n + 1)) := by
     intro s S hs e H
     constructor
     ·intro k r hr
      cases k with
      | zero => exact (iter_lim hs (n + 1) e H).mono 0 r (iter_more n e H r hr)
      | succ k => exact (iter_lim hs (n + 1) e H).mono (k + 1) r hr
     ·intro r hr
      obtain ⟨k, hk⟩ := (iter_lim hs (n + 1) e H).up r hr
      exact ⟨k + 1, (iter_lim hs (n + 1) e H).mono k r hk⟩
    exact (runFn_lim hc hl fn args H).mono 0 r h
theorem callN_le {m n : Nat} (h : m ≤ n) {f args H r} (hr : callN tbl ext m f args H = some r) : callN tbl ext n f args H = some r := by
 induction h with
 | refl => exact hr
 | step _ ih => exact callN_more _ _ _ _ _ ih
open Classical in
noncomputable def callW (tbl : FuncId → Option AFunc) (ext : Sems) : CallF := fun f args H =>
 if h : ∃ n r, callN tbl ext n f args H = some r then some (Classical.choose (Classical.choose_spec h)) else none
theorem callW_of {n : Nat} {f args H r} (h : callN tbl ext n f args H = some r) : callW tbl ext f args H = some r := by
 have hx : ∃ n r, callN tbl ext n f args H = some r := ⟨n, r, h⟩
 unfold callW
 rw [dif_pos hx]
 have h2 := Classical.choose_spec (Classical.choose_spec hx)
 have h3 := callN_le (Nat.le_max_left n (Classical.choose hx)) h
 have h4 := callN_le (Nat.le_max_right n (Classical.choose hx)) h2
 rw [h3] at h4
 exact h4.symm
theorem callW_to {f args H r} (h : callW tbl ext f args H = some r) : ∃ n, callN tbl ext n f args H = some r := by
 unfold callW at h
 split at h
 ·rename_i hx
  refine ⟨Classical.choose hx, ?_⟩
  rw [← h]
  exact Classical.choose_spec (Classical.choose_spec hx)
 ·cases h
theorem callW_lim : CLim (callN tbl ext) (callW tbl ext) := fun f a H => ⟨fun n r h => callN_more n f a H r h, fun r h => callW_to h⟩
open Classical in
noncomputable def loopW : LoopF := fun S e H => if h : ∃ n r, iter n S e H = some r then some (Classical.choose (Classical.choose_spec h)) else none
theorem iter_le {S : Env → Heap → R} {m n : Nat} (h : m ≤ n) {e H r} (hr : iter m S e H = some r) : iter n S e H = some r := by
 induction h with
 | refl => exact hr
 | step _ ih => exact iter_more _ _ _ _ ih
theorem loopW_of {S : Env → Heap → R} {n : Nat} {e H r} (h : iter n S e H = some r) : loopW S e H = some r := by
 have hx : ∃ n r, iter n S e H = some r := ⟨n, r, h⟩
 unfold loopW
 rw [dif_pos hx]
 have h2 := Classical.choose_spec (Classical.choose_spec hx)
 have h3 := iter_le (Nat.le_max_left n (Classical.choose hx)) h
 have h4 := iter_le (Nat.le_max_right n (Classical.choose hx)) h2
 rw [h3] at h4
 exact h4.symm
theorem loopW_to {S : Env → Heap → R} {e H r} (h : loopW S e H = some r) : ∃ n, iter n S e H = some r := by
 unfold loopW at h
 split at h
 ·rename_i hx
  refine ⟨Classical.choose hx, ?_⟩
  rw [← h]
  exact Classical.choose_spec (Classical.choose_spec hx)
 ·cases h
theorem loopW_ok : LoopOK loopW := fun _ _ _ _ h => loopW_to h
theorem iter_ok (n : Nat) : LoopOK (iter n) := fun _ _ _ _ h => ⟨n, h⟩
theorem loopW_lim : LLim iter loopW := by
 intro s S hs e H
 constructor
 ·intro n r h
  exact (iter_lim hs (n + 1) e H).mono n r (iter_more n e H r h)
 ·intro r h
  obtain ⟨m, hm⟩ := loopW_to h
  obtain ⟨k, hk⟩ := (iter_lim hs m e H).up r hm
  exact ⟨max m k, iter_le (Nat.le_max_left _ _) ((iter_lim hs m e H).le (Nat.le_max_right _ _) hk)⟩
theorem loopW_step {S : Env → Heap → R} {e H r} (h : (S e H).bind (fun r => match r with
  | (.normal, e, H) => loopW S e H
  | r => some r) = some r) : loopW S e H = some r := by
 obtain ⟨⟨o, e1, H1⟩, h1, h2⟩ := Option.bind_eq_some_iff.1 h
 cases o
 ·obtain ⟨n, hn⟩ := loopW_to h2
  refine loopW_of (n := n + 1) ?_
  rw [iter, h1]; exact hn
 ·refine loopW_of (n := 1) ?_
  rw [iter, h1]; exact h2
 ·refine loopW_of (n := 1) ?_
  rw [iter, h1]; exact h2
theorem callW_fn {f : FuncId} {fn : AFunc} (hx : ext f = none) (ht : tbl f = some fn) {args H r} (h : runFn (callW tbl ext) loopW fn args H = some r) : callW tbl ext f args H = some r := by
 obtain ⟨n, hn⟩ := (runFn_lim callW_lim loopW_lim fn args H).up r h
 refine callW_of (n := n + 1) ?_
 rw [callN, hx]
 simp only [ht]
 exact hn
theorem callW_ext {f : FuncId} {s} (hx : ext f = some s) {args H r} (h : s args H = some r) : callW tbl ext f args H = some r := by
 refine callW_of (n := 1) ?_
 rw [callN, hx]; exact h
theorem callW_ok {P : Program} (hm : P.follows .mixedOrders = true) (ht : ∀ f fn, tbl f = some fn → chkFn P f fn = true) (hx : ∀ f s, ext f = some s → FnOK P f s) (f : FuncId) : FnOK P f (callW tbl ext f) := by
 have all : ∀ n f, FnOK P f (callN tbl ext n f) := by
  intro n
  induction n with
  | zero => intro f G H args argv w V H' _ _ hr; simp [callN] at hr
  | succ n ih =>
   intro f G H args argv w V H' hl h hr
   rw [callN] at hr
   cases he : ext f with
   | some s => rw [he] at hr; exact hx f s he G H args argv w V H' hl h hr
   | none =>
    rw [he] at hr
    simp only at hr
    cases hf : tbl f with
    | none => rw [hf] at hr; cases hr
    | some fn => rw [hf] at hr; exact fn_ok hm ih (iter_ok n) (ht f fn hf) G H args argv w V H' hl h hr
 intro G H args argv w V H' hl h hr
 obtain ⟨n, hn⟩ := callW_to hr
 exact all n f G H args argv w V H' hl h hn
end
end Go.Abs
