import Derived.Test.YtheaccppdikjgaaGreatDoorKB
namespace Go.Abs
open Go Go.RowKit
set_option linter.unusedVariables false
set_option linter.unusedSimpArgs false
def rg : List (Nat × Nat) → List Nat
 | [] => []
 | (a, b) :: r => List.range' a (b + 1 - a) ++ rg r
def inRg : List (Nat × Nat) → Nat → Bool
 | [], _ => false
 | (a, b) :: r, t => (decide (a ≤ t) && decide (t ≤ b)) || inRg r t
def Env.delR (rs : List (Nat × Nat)) : Env → Env
 | [] => []
 | (k, w) :: e => if inRg rs k then Env.delR rs e else (k, w) :: Env.delR rs e
theorem rg_inR : ∀ (rs : List (Nat × Nat)) (t : Nat), (rg rs).contains t = inRg rs t
 | [], t => rfl
 | (a, b) :: r, t => by
  have h1 : (List.range' a (b + 1 - a)).contains t = (decide (a ≤ t) && decide (t ≤ b)) := by
   rw [Bool.eq_iff_iff, List.contains_iff_mem, List.mem_range'_1, Bool.and_eq_true, decide_eq_true_eq, decide_eq_true_eq]
   omega
  rw [rg, inRg, ← rg_inR r t, ← h1]
  simp only [List.contains_eq_mem, List.mem_append]
  by_cases h2 : t ∈ List.range' a (b + 1 - a) <;> by_cases h3 : t ∈ rg r <;> simp [h2, h3]
theorem dels_rg (e : Env) (rs : List (Nat × Nat)) : e.dels (rg rs) = e.delR rs := by
 rw [dels_filter]
 induction e with
 | nil => rfl
 | cons p e ih =>
  obtain ⟨k, w⟩ := p
  rw [List.filter_cons, ih]
  simp only [Env.delR, rg_inR]
  cases inRg rs k <;> rfl
def delX (rs : List (Nat × Nat)) (k : Nat) (w : AVal) (e : Env) : Bool → Env
 | true => e.delR rs
 | false => (k, w) :: e.delR rs
theorem dr_nil (rs) : Env.delR rs [] = [] := rfl
theorem dr_cons (rs k w e) : Env.delR rs ((k, w) :: e) = delX rs k w e (inRg rs k) := by
 simp only [Env.delR]
 cases inRg rs k <;> rfl
theorem dx_T (rs k w e) : delX rs k w e true = e.delR rs := rfl
theorem dx_F (rs k w e) : delX rs k w e false = (k, w) :: e.delR rs := rfl
theorem ir_nil (t) : inRg [] t = false := rfl
theorem ir_cons (a b r t) : inRg ((a, b) :: r) t = ((decide (a ≤ t) && decide (t ≤ b)) || inRg r t) := rfl
def τ (n : Nat) : Opd := .tmp n false
def σ (n : Nat) : Opd := .tmp n true
def ν (v : AVal) : Opd := .val v
def ι (n : Int) : Opd := .val (.int .i64 n)
def α (d : Nat) (k : K) (xs : List Opd) : AOp := ⟨some d, none, k, xs⟩
def β (k : K) (xs : List Opd) : AOp := ⟨none, none, k, xs⟩
def γ (g : Nat) (o : AOp) : AOp := ⟨o.dst, some (g, true), o.k, o.xs⟩
def δ (g : Nat) (o : AOp) : AOp := ⟨o.dst, some (g, false), o.k, o.xs⟩
def ρ (d s : Nat) : AOp := ⟨some d, none, .move, [.tmp s false]⟩
def ς (d s : Nat) : AOp := ⟨some d, none, .move, [.tmp s true]⟩
def ξ (d s : Nat) : AOp := ⟨some d, none, .nilCheck, [.tmp s false]⟩
def ο (d n s : Nat) : AOp := ⟨some d, none, .addOff n, [.tmp s false]⟩
def ζ (d s : Nat) : AOp := ⟨some d, none, .load false 1 false, [.tmp s false]⟩
def ε (op : BinOp) : K := .bin op .plain
def φ (o : AOp) : AOp × DInfo := (o, ⟨false, []⟩)
def ψ (o : AOp) : AOp × DInfo := (o, ⟨true, []⟩)
def κ (rs : List (Nat × Nat)) (c : ACode) : ACode := .ghost (.kill (rg rs)) c
def ω (os : List AOp) : ACode := .region os
def η (os : List (AOp × DInfo)) : ACode := .draw os
attribute [go_sem] τ σ ν ι α β γ δ ρ ς ξ ο ζ ε φ ψ κ ω η dels_rg dr_nil dr_cons dx_T dx_F ir_nil ir_cons
section
variable {c : CallF}
theorem lt_nil (t) : lookTb [] t = none := rfl
theorem lt_cons (u f r t) : lookTb ((u, f) :: r) t = if u = t then some f else lookTb r t := rfl
theorem e_invoke (tb t v xs H) : ev c (.invoke tb) (.iface t v :: xs) H = (lookTb tb t).bind fun f => gd (v.argOK && xs.all AVal.argOK) (c f (v.strip :: xs.map AVal.strip) H) := by
 simp only [ev]
 cases lookTb tb t with
 | none => rfl
 | some f =>
  simp only [Option.bind_some, gd]
theorem e_nilI (n t v y H) : ev c (.isNil n) [.iface t v, y] H = some (.bool n, H) := rfl
theorem e_nilN (n y H) : ev c (.isNil n) [.niliface, y] H = some (.bool (!n), H) := rfl
theorem e_lookupG (kd z ok m x H) : ev c (.lookupG kd z ok) [m, x] H = valA H (evLookupG kd z ok m x H) := by
 simp only [ev]; first | rfl | (generalize evLookupG kd z ok m x H = q; cases q <;> rfl)
theorem e_mapSetG (kd m x v H) : ev c (.mapSetG kd) [m, x, v] H = evMapSetG kd m x v H := rfl
theorem e_delG (kd m x H) : ev c (.delG kd) [m, x] H = evDelG kd m x H := rfl
def lnM (H : Heap) : Option Box → Option (AVal × Heap)
 | some (.map es) => some (.int .i64 es.length, H)
 | _ => none
theorem e_lenM (id H) : ev c .lenM [.map (some id)] H = lnM H H[id]? := by
 simp only [ev]
 cases h : H[id]? with
 | none => rfl
 | some B => cases B <;> rfl
theorem lnM_s (H es) : lnM H (some (.map es)) = some (.int .i64 es.length, H) := rfl
theorem e_runeStr (k n H) : ev c .runeStr [.int k n] H = gd (decide (0 ≤ n)) (gd (decide (n < 128)) (some (.str [UInt8.ofNat n.toNat], H))) := by
 simp only [ev, gd]
 by_cases h1 : 0 ≤ n <;> by_cases h2 : n < 128 <;> simp [h1, h2]
theorem h_srange (s H N) : ev c .srange [.str s] (hx H N) = some (.ptr (pt H N.length) 0, hx H (N ++ [.iter s 0])) := by
 simp only [ev, hx, pt, List.length_append, List.append_assoc]
def snB (id : Nat) (H : Heap) : Option Box → Option (AVal × Heap)
 | some (.iter s pos) =>
  if pos < s.length then
   some (.tuple [.bool true, .int .i64 (pos : Nat), .int .i32 ((Utf8.decode (bytesOf s) pos).1 : Nat)], H.set id (.iter s (pos + (Utf8.decode (bytesOf s) pos).2)))
  else some (.tuple [.bool false], H)
 | _ => none
theorem e_snext (id H) : ev c .snext [.ptr id 0] H = snB id H H[id]? := by
 simp only [ev, evSnext]
 cases h : H[id]? with
 | none => rfl
 | some B => cases B <;> rfl
end
attribute [go_sem] lt_nil lt_cons e_invoke e_nilI e_nilN e_lookupG e_mapSetG e_delG e_lenM lnM_s e_runeStr h_srange e_snext
end Go.Abs
