import Derived.Test.YtfefcopajgdjiaaK32
namespace Go.Abs
open Go Go.RowKit
set_option linter.unusedVariables false
set_option linter.unusedSimpArgs false

/-! ## Drawn regions by rewriting -/

/-- What came up may come behind this. -/
def allU (call : CallF) (un : List Nat) (H : Heap) (tr : List Came) : Bool := tr.all fun c => !un.contains c.i || c.again call H
/-- It may come ahead of these. -/
def allR (call : CallF) (un : List Nat) (c : Came) (tr : List Came) : Bool := tr.all fun c' => !un.contains c'.i || c.again call c'.H
def dr3 (b : Bool) (tr : List Came) (e : Env) (H : Heap) : Option (List Came × Env × Heap) := if b = true then some (tr, e, H) else none
def dr2 (call : CallF) (i : Nat) (d : Option Nat) (k : K) (w : Bool) (un : List Nat) (tr : List Came) (vs : List AVal) (e : Env) (H : Heap) : Option (AVal × Heap) → Option (List Came × Env × Heap)
 | some (V, H') =>
  if w = true then dr3 (allU call un H' tr) (⟨i, k, some vs, V, H⟩ :: tr) (e.putO d V) H'
  else dr3 (sameH H' H && allR call un ⟨i, k, some vs, V, H⟩ tr) (⟨i, k, some vs, V, H⟩ :: tr) (e.putO d V) H
 | none => none
def dr1 (call : CallF) (i : Nat) (d : Option Nat) (k : K) (w : Bool) (un : List Nat) (tr : List Came) (H : Heap) : Option (List AVal × Env) → Option (List Came × Env × Heap)
 | some (vs, e) => dr2 call i d k w un tr vs e H (ev call k vs H)
 | none => none
def drG (call : CallF) (i : Nat) (b : Bool) (d : Option Nat) (k : K) (xs : List Opd) (w : Bool) (un : List Nat) (tr : List Came) (e : Env) (H : Heap) : AVal → Option (List Came × Env × Heap)
 | .bool t => if t = b then dr1 call i d k w un tr H (e.rds xs) else some (⟨i, k, none, .tuple [], H⟩ :: tr, e.putO d (.tuple []), H)
 | .tuple _ => some (⟨i, k, none, .tuple [], H⟩ :: tr, e.putO d (.tuple []), H)
 | _ => none
def drA (call : CallF) (i : Nat) (os : List (AOp × DInfo)) : Option (List Came × Env × Heap) → Option (Env × Heap)
 | some (tr, e, H) => adraw call i os tr e H
 | none => none

section
variable (c : CallF)
theorem w_nil (i tr e H) : adraw c i [] tr e H = some (e, H) := rfl
theorem w_cons (i o d os tr e H) : adraw c i ((o, d) :: os) tr e H = drA c (i + 1) os (drawOp c i o d tr e H) := by
 simp only [adraw]; cases drawOp c i o d tr e H <;> rfl
theorem w_a (i os tr e H) : drA c i os (some (tr, e, H)) = adraw c i os tr e H := rfl
theorem dr1_eq (i d k w un tr e xs H) : ((Env.rds e xs).bind fun (vs, e) => (ev c k vs H).bind fun (V, H') =>
  let cm : Came := { i, k := k, vs := some vs, v := V, H }
  if w = true then
   if tr.all fun c' => !un.contains c'.i || c'.again c H' then some (cm :: tr, e.putO d V, H') else none
  else
   if sameH H' H && tr.all fun c' => !un.contains c'.i || cm.again c c'.H then some (cm :: tr, e.putO d V, H) else none) = dr1 c i d k w un tr H (e.rds xs) := by
 cases e.rds xs with
 | none => rfl
 | some p =>
  rcases p with ⟨vs, e⟩
  simp only [Option.bind_some, dr1]
  cases ev c k vs H with
  | none => rfl
  | some q =>
   rcases q with ⟨V, H'⟩
   simp only [Option.bind_some, dr2, dr3, allU, allR]
   rfl
theorem w_free (i d k xs w un tr e H) : drawOp c i ⟨d, none, k, xs⟩ ⟨w, un⟩ tr e H = dr1 c i d k w un tr H (e.rds xs) := by
 simp only [drawOp, wantedA]; exact dr1_eq c i d k w un tr e xs H
theorem w_guard (i d g b k xs w un tr e H) : drawOp c i ⟨d, some (g, b), k, xs⟩ ⟨w, un⟩ tr e H = drG c i b d k xs w un tr e H (e.get g) := by
 simp only [drawOp, wantedA]
 cases e.get g <;> first | rfl | skip
 rename_i t
 cases t <;> cases b <;> simp only [drG] <;> first | exact dr1_eq c i d k w un tr e xs H | rfl
theorem w_gTT (i d k xs w un tr e H) : drG c i true d k xs w un tr e H (.bool true) = dr1 c i d k w un tr H (e.rds xs) := rfl
theorem w_gFF (i d k xs w un tr e H) : drG c i false d k xs w un tr e H (.bool false) = dr1 c i d k w un tr H (e.rds xs) := rfl
theorem w_gTF (i d k xs w un tr e H) : drG c i true d k xs w un tr e H (.bool false) = some (⟨i, k, none, .tuple [], H⟩ :: tr, e.putO d (.tuple []), H) := rfl
theorem w_gFT (i d k xs w un tr e H) : drG c i false d k xs w un tr e H (.bool true) = some (⟨i, k, none, .tuple [], H⟩ :: tr, e.putO d (.tuple []), H) := rfl
theorem w_gN (i b d k xs w un tr e H vs) : drG c i b d k xs w un tr e H (.tuple vs) = some (⟨i, k, none, .tuple [], H⟩ :: tr, e.putO d (.tuple []), H) := rfl
theorem w_1 (i d k w un tr H vs e) : dr1 c i d k w un tr H (some (vs, e)) = dr2 c i d k w un tr vs e H (ev c k vs H) := rfl
theorem w_2T (i d k un tr vs e H V H') : dr2 c i d k true un tr vs e H (some (V, H')) = dr3 (allU c un H' tr) (⟨i, k, some vs, V, H⟩ :: tr) (e.putO d V) H' := rfl
theorem w_2F (i d k un tr vs e H V) : dr2 c i d k false un tr vs e H (some (V, H)) = dr3 (allR c un ⟨i, k, some vs, V, H⟩ tr) (⟨i, k, some vs, V, H⟩ :: tr) (e.putO d V) H := by
 simp only [dr2, sameH_refl, Bool.true_and, Bool.false_eq_true, if_false]
theorem w_3 (tr e H) : dr3 true tr e H = some (tr, e, H) := rfl
theorem all_true {α : Type} : ∀ l : List α, (l.all fun _ => true) = true
 | [] => rfl
 | _ :: l => by simp
theorem u_none (H tr) : allU c [] H tr = true := by simp [allU]
theorem r_none (cm tr) : allR c [] cm tr = true := by simp [allR]
def orU (call : CallF) (b : Bool) (k : K) (vs : Option (List AVal)) (v : AVal) (H : Heap) : Bool :=
 if b = true then (match vs with | some vs => stays (ev call k vs H) v H | none => true) else true
theorem or_F (k vs v H) : orU c false k vs v H = true := rfl
theorem or_T (k vs v H) : orU c true k (some vs) v H = stays (ev c k vs H) v H := rfl
theorem or_N (k v H) : orU c true k none v H = true := rfl
theorem u_nil (un H) : allU c un H [] = true := rfl
theorem u_cons (un H i k vs v H0 tr) : allU c un H (⟨i, k, vs, v, H0⟩ :: tr) = (orU c (un.contains i) k vs v H && allU c un H tr) := by
 simp only [allU, List.all_cons, orU, Came.again]
 cases un.contains i <;> rfl
theorem ar_nil (un cm) : allR c un cm [] = true := rfl
theorem ar_cons (un i0 k vs v H0 i k' vs' v' H tr) : allR c un ⟨i0, k, vs, v, H0⟩ (⟨i, k', vs', v', H⟩ :: tr) = (orU c (un.contains i) k vs v H && allR c un ⟨i0, k, vs, v, H0⟩ tr) := by
 simp only [allR, List.all_cons, orU, Came.again]
 cases un.contains i <;> rfl
theorem stays_same (v H) : stays (some (v, H)) v H = true := by
 simp [stays, same_refl, sameH_refl]
end
theorem ct_cons (a b : Nat) (l : List Nat) : (b :: l).contains a = if a = b then true else l.contains a := by
 simp only [List.contains_cons]
 by_cases h : a = b <;> simp [h]
theorem ct_nil (a : Nat) : ([] : List Nat).contains a = false := rfl

attribute [go_sem] w_nil w_cons w_a w_free w_guard w_gTT w_gFF w_gTF w_gFT w_gN w_1 w_2T w_2F w_3 u_none r_none or_F or_T or_N u_nil u_cons ar_nil ar_cons stays_same ct_cons ct_nil

end Go.Abs
