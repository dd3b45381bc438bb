import Derived.Test.YtheaccppdikjgaaGreatDoorK35
import Derived.SizedLaws
import Derived.ChangeSlices
import Derived.OpenShut
namespace Go.Abs
open Go Go.RowKit Go.ChangeShapes Go.WideShapes
set_option linter.unusedVariables false
set_option linter.unusedSimpArgs false
structure Old (H : Heap) (i : Nat) (B : Box) : Prop where
 g : H[i]? = some B
theorem Old.get {H i B} (h : Old H i B) (L : Heap) : (hx H L)[i]? = some B := hx_old h.g L
theorem Old.set {H i B} (h : Old H i B) (L : Heap) (B' : Box) : (hx H L).set i B' = hx (H.set i B') L := hx_olds h.g L B'
theorem Old.get' {H i B} (h : Old H i B) (L : Heap) (B' : Box) : (hx (H.set i B') L)[i]? = some B' := hx_old (hx_oldt h.g B') L
theorem Old.set' {H i B} (h : Old H i B) (L : Heap) (B' B'' : Box) : (hx (H.set i B') L).set i B'' = hx (H.set i B'') L := by
 rw [hx_olds (hx_oldt h.g B') L B'', List.set_set]
theorem pt_set (H : Heap) (i k : Nat) (B : Box) : pt (H.set i B) k = pt H k := by unfold pt; rw [List.length_set]
theorem hx_getS (H L : Heap) (i k : Nat) (B : Box) : (hx (H.set i B) L)[pt H k]? = L[k]? := by rw [← pt_set H i k B, hx_get]
theorem hx_setS (H L : Heap) (i k : Nat) (B B' : Box) : (hx (H.set i B) L).set (pt H k) B' = hx (H.set i B) (L.set k B') := by rw [← pt_set H i k B, hx_set]
theorem trimOK_set (n : Nat) : ∀ (H : Heap) (i : Nat) (B : Box) (X : Heap), B.under n = true → trimOK n H (H.set i B ++ X) = true
 | [], i, B, X, _ => by cases X <;> rfl
 | C :: H, 0, B, X, h => by simp [trimOK, h, trimOK_app]
 | C :: H, i + 1, B, X, h => by simp [trimOK, Box.same_refl, trimOK_set n H i B X h]
def trimY (H L : Heap) (i : Nat) (B : Box) (v : AVal) : Bool → Option (AVal × Heap)
 | true => some (v, H.set i B)
 | false => trim false (hx H []) v (hx (H.set i B) L)
def Box.flatB : Box → Bool
 | .cells cs => AVal.underL 0 cs
 | .map es => es.all fun p => p.1.under 0 && p.2.under 0
 | .iter _ _ => true
 | _ => false
theorem Box.flatB_under {B : Box} (h : B.flatB = true) (n : Nat) : B.under n = true := by
 cases B with
 | cells cs => exact underL_mono cs (Nat.zero_le n) h
 | iter s p => rfl
 | map es =>
  simp only [Box.under, Box.flatB, List.all_eq_true, Bool.and_eq_true] at h ⊢
  exact fun p hp => ⟨under_mono _ (Nat.zero_le n) (h p hp).1, under_mono _ (Nat.zero_le n) (h p hp).2⟩
 | _ => cases h
theorem h_trimS (H L i B v) : trim false (hx H []) v (hx (H.set i B) L) = trimY H L i B v (v.under 0 && B.flatB) := by
 cases h : (v.under 0 && B.flatB) with
 | false => rfl
 | true =>
  rw [Bool.and_eq_true] at h
  show _ = some (v, H.set i B)
  have h1 := under_mono v (Nat.zero_le H.length) h.1
  have h2 := trimOK_set H.length H i B L (Box.flatB_under h.2 _)
  rw [hx_nil]; unfold hx trim
  cases L with
  | nil => rw [if_neg (by decide), if_pos (by simp)]; simp
  | cons C L =>
   rw [if_neg (by decide), if_neg (by simp), h1, h2, if_pos (by decide), ← List.length_set (as := H) (i := i) (a := B)]
   simp
theorem h_trimST (H L i B v) : trimY H L i B v true = some (v, H.set i B) := rfl
theorem flatB_c (cs) : Box.flatB (.cells cs) = AVal.underL 0 cs := rfl
theorem W_fnG {tbl ext} {f : Nat} {fn : AFunc} (hx' : ext f = none) (ht : tbl f = some fn) {args r} {H : Heap} (h : runFn (callW tbl ext) loopW fn args (hx H []) = some r) : callW tbl ext f args H = some r := by
 rw [hx_nil] at h; exact callW_fn hx' ht h
attribute [go_sem] pt_set hx_getS hx_setS h_trimS h_trimST flatB_c List.set_set
theorem wf_i64 {n : Int} (h : (Lit.int .i64 n).wf = true) : I64 n := by
 simp only [Lit.wf, Bool.and_eq_true, decide_eq_true_eq] at h
 have h1 : IntKind.i64.min = -9223372036854775808 := rfl
 have h2 : IntKind.i64.max = 9223372036854775807 := rfl
 unfold I64; omega
theorem wf_u8 {n : Int} (h : (Lit.int .u8 n).wf = true) : 0 ≤ n ∧ n < 256 := by
 simp only [Lit.wf, Bool.and_eq_true, decide_eq_true_eq] at h
 have h1 : IntKind.u8.min = 0 := rfl
 have h2 : IntKind.u8.max = 255 := rfl
 omega
def Stands (w : World) (V : AVal) (v : Value) : Prop := Rv (G0 w) w V v ∧ V.plain = true
theorem st_nil {w : World} : ∀ (i : Nat) V v, ([] : List AVal)[i]? = some V → ([] : List Value)[i]? = some v → Rv (G0 w) w V v ∧ V.plain = true := fun i V v h => by simp at h
theorem st_cons {w : World} {V v} {Vs : List AVal} {vs : List Value} (h : Stands w V v) (hs : ∀ (i : Nat) V v, Vs[i]? = some V → vs[i]? = some v → Rv (G0 w) w V v ∧ V.plain = true) :
  ∀ (i : Nat) V' v', (V :: Vs)[i]? = some V' → (v :: vs)[i]? = some v' → Rv (G0 w) w V' v' ∧ V'.plain = true := by
 intro i V' v' hV hv
 cases i with
 | zero => simp at hV hv; subst hV; subst hv; exact h
 | succ i => exact hs i V' v' (by simpa using hV) (by simpa using hv)
theorem st_int {w : World} (k n) : Stands w (.int k n) (.int k n) := ⟨.int k n, rfl⟩
theorem st_bool {w : World} (b) : Stands w (.bool b) (.bool b) := ⟨.bool b, rfl⟩
theorem st_str {w : World} (s : ByteArray) : Stands w (.str s.data.toList) (.string s) := ⟨.str s.data.toList, rfl⟩
theorem open_row {H : Type} {enc : TypeId × Value → H} {P : Program} {W : World} {base : Nat} {held : Bool} {t e : TypeId} {k : IntKind} {a : Option Addr} {len cap : Nat} {d : DataW H} {ps : List MemPlace}
  (hu : P.underlying t = some (.slice e)) (he : P.underlying e = some (.int k)) (hc : P.cellsOf e = 1) (hv : Value.okWide P W .any base t (.slice a len cap))
  (h : DataW.Trod enc P W 0 (fun _ => true) held t (.slice a len cap) d ps) : ∃ l : List Int, Stands W (.list 1 (ints k l) .ro) (.slice a len cap) ∧ l.length = len ∧ ∀ n ∈ l, (Lit.int k n).wf = true := by
 obtain ⟨fuel, hf⟩ := h
 have hsp : ∀ x, a = some x → x.spot = none := by
  intro x hx; subst hx
  simp only [Value.okWide, hu, Cell.okWide, Cell.ok] at hv
  exact hv.2.2.2.1
 rcases open_ints hu he hc hf with ⟨hcs, _⟩ | ⟨x, l, c, zs, hcs, _, hl, hm, hz, _, hcell, hwz⟩
 ·simp [Value.cells] at hcs
  obtain ⟨rfl, rfl, rfl⟩ := hcs
  exact ⟨[], ⟨rv_ints (zs := []) hsp (.inl ⟨rfl, rfl, rfl, rfl⟩), rfl⟩, rfl, by simp⟩
 ·simp [Value.cells] at hcs
  obtain ⟨rfl, rfl, rfl⟩ := hcs
  simp at hz
  exact ⟨zs.take len, ⟨rv_ints hsp (.inr ⟨x, rfl, hl, hz, hcell⟩), rfl⟩, by rw [List.length_take]; omega, fun n hn => hwz n (List.mem_of_mem_take hn)⟩
theorem sized_row {H : Type} {enc : TypeId × Value → H} {P : Program} {W : World} {base : Nat} {spare : Nat → Bool} {held : Bool} {t e : TypeId} {k : IntKind} {a : Option Addr} {len cap : Nat} {d : DataW H} {ps : List MemPlace} {ts : List TypeId} {ds : List (DataW H)} {j : Nat}
  (hsz : (DataW.weightsEach P ts ds).all (· ≤ reachBytes) = true) (ht : ts[j]? = some t) (hd : ds[j]? = some d) (hu : P.underlying t = some (.slice e)) (he : P.underlying e = some (.int k)) (hc : P.cellsOf e = 1) {B : Nat} (hB : P.bytesOf e = B)
  (h : DataW.Trod enc P W base spare held t (.slice a len cap) d ps) : len * B ≤ 140737488351232 := by
 obtain ⟨fuel, hf⟩ := h
 rcases open_ints hu he hc hf with ⟨hcs, _⟩ | ⟨x, l, c, zs, hcs, _, hl, _, hz, hx, _, _⟩
 ·simp [Value.cells] at hcs
  obtain ⟨rfl, rfl, rfl⟩ := hcs
  simp
 ·simp [Value.cells] at hcs
  obtain ⟨rfl, rfl, rfl⟩ := hcs
  obtain ⟨hx, _⟩ := Prod.mk.inj hx
  subst hx
  have z := sized_slice hsz ht hd hu
  rw [hB] at z
  have hl2 : len ≤ zs.length := by
   rw [hz]
   split
   ·exact hl
   ·exact Nat.le_refl _
  have h1 : (lits (H := H) k (zs.take len)).length + (lits (H := H) k (zs.drop len)).length = zs.length := by
   simp [lits]
   omega
  rw [h1] at z
  exact Nat.le_trans (Nat.mul_le_mul_right _ hl2) z
end Go.Abs
