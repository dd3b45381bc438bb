import Derived.Test.YtheaccppdikjgaaGreatDoorK15
namespace Go.Abs
open Go
set_option linter.unusedVariables false
set_option linter.unusedSimpArgs false
section
variable {P : Program}
theorem cap_ok {E G env tm fly H w} {t e ty : TypeId} (hu : P.underlying t = some (.slice e)) {sz : Nat} {xs : List AVal} {xv : Value} (hfly : fly[0]? = some (.list sz xs .full, xv)) (h : St E G ⟨env, tm, fly, H⟩ w) :
  Does P E env tm (Builtin.cap_ #[t] ty #[xv]) w (.int .i64 xs.length) H := by
 have hx := h.fly 0 _ xv hfly
 have hr : Rv G w (.list sz xs .full) xv := hx.arg rfl
 obtain ⟨a, rfl⟩ : ∃ a, xv = .slice a xs.length xs.length := by
  cases hr with
  | list _ _ _ b o len cap f g1 g2 g3 => have := g3 rfl; subst g1; subst this; exact ⟨_, rfl⟩
  | nilList => exact ⟨_, rfl⟩
 refine Does.pure h (v := .int .i64 xs.length) ?_ (.int _ _) rfl
 simp [Builtin.cap_, run_underlying hu, goInt]
theorem run_cut {w : World} {t e : TypeId} {agg : Bool} {sz : Nat} (hu : P.underlying t = some (.slice e)) (ti : TI P e agg sz) {k : IntKind} {i : Int} {base : Option Addr} (hb : base = none ∨ ∃ b o, base = some (at_ b o)) {len cap : Nat} (h0 : 0 ≤ i) (h1 : i ≤ cap) :
  (Instr.sliceAt t (.slice base len cap) none (some (.int k i)) none).run P w = .ok (.slice base i.toNat cap) w := by
 have hrun : (Instr.sliceBounds true len cap none (some (.int k i)) none).run P w = .ok (0, i.toNat, cap) w := by
  simp [Instr.sliceBounds, run_sliceBound w k i cap _ h0 h1]
 have : (if cap = 0 then base else base.map (·.add (0 * sz))) = base := by
  split
  ·rfl
  ·rcases hb with rfl | ⟨b, o, rfl⟩
   ·rfl
   ·simp [add_at]
 simp [Instr.sliceAt, Instr.slice, run_underlying hu, hrun, ti.sizeOf]
 simpa using this
theorem cut_ok {E G env tm H w} {t e : TypeId} {agg : Bool} {sz : Nat} (hu : P.underlying t = some (.slice e)) (ti : TI P e agg sz)
  {x hv : AVal} {xv hvv : Value} (h : St E G ⟨env, tm, [(x, xv), (hv, hvv)], H⟩ w) {V : AVal} (he : evCut sz x hv = some V) : Does P E env tm (Instr.sliceAt t xv none (some hvv) none) w V H := by
 unfold evCut at he
 split at he
 case h_2 => cases he
 rename_i sz' xs fl
 obtain ⟨rfl, he⟩ := ite_some he
 obtain ⟨n, hn, he⟩ := Option.bind_eq_some_iff.1 he
 obtain ⟨k, i, rfl, h0, h1, rfl⟩ := natOf_rv hn (h.fly 1 hv hvv rfl)
 have hx := h.fly 0 _ xv rfl
 split at he
 ·-- for itself
  simp only [Option.some.injEq] at he; subst he
  have hown : ∀ a, own0 (.list sz' xs .uniq) xv = some a → ownP G ⟨env, tm, [(.list sz' xs .uniq, xv), (hv, .int k i)], H⟩ w (.fly 0 0) = some a := by
   intro a ha; simpa [ownP, ownC] using ha
  rcases (show RU G w sz' xs xv from hx) with ⟨rfl, rfl⟩ | ⟨b, o, len, cap, f, rfl, g1, g2, g3, g4, g5, g6⟩
  ·have : i = 0 := by simp at h1; omega
   subst this
   refine ⟨_, w, G, run_cut hu ti (.inl rfl) (Int.le_refl _) (by simp), h.res (show RU G w sz' (([] : List AVal).take (Int.toNat 0)) (.slice none 0 0) from .inl ⟨by simp, rfl⟩) 0 (fun q a ha => ?_)⟩
   simp only [ownC] at ha
   split at ha <;> simp [own0] at ha
  ·subst g1
   have hin : i.toNat ≤ xs.length := by omega
   have hmul : i.toNat * sz' ≤ xs.length * sz' := Nat.mul_le_mul_right _ hin
   refine ⟨_, w, G, run_cut hu ti (.inr ⟨b, o, rfl⟩) h0 (by omega), h.res (V := .list sz' (xs.take i.toNat) .uniq) (.inr ⟨b, o, i.toNat, cap, f, rfl, by simp; omega, by omega, fun X hX => g3 X (List.mem_of_mem_take hX), fun q X j Y hX hY => ?_, fun k hk => g5 k (by omega), fun k hk => g6 k (by omega)⟩) 0 (fun q a ha => ?_)⟩
   ·rw [List.getElem?_take] at hX
    split at hX
    ·exact g4 q X j Y hX hY
    ·cases hX
   ·simp only [ownC] at ha
    split at ha
    ·rename_i hq
     subst hq
     apply hown
     simpa [own0] using ha
    ·cases ha
 ·-- as long as it is
  obtain ⟨hnl, he⟩ := ite_some he
  simp only [Option.some.injEq] at he; subst he
  have hr : Rv G w (.list sz' xs .full) xv := hx.arg rfl
  cases hr with
  | list _ _ _ b o len cap f g1 g2 g3 g4 g5 g6 g7 g8 =>
   have hc := g3 rfl
   subst g1; subst hc
   have := run_cut (P := P) (w := w) hu ti (k := k) (base := some (at_ b o)) (len := xs.length) (cap := xs.length) (.inr ⟨b, o, rfl⟩) h0 h1
   rw [hnl] at this
   exact Does.pure h this (Rv.list sz' xs .full b o _ _ f rfl g2 g3 g4 g5 g6 g7 g8) rfl
  | nilList =>
   have := run_cut (P := P) (w := w) hu ti (k := k) (base := none) (len := 0) (cap := 0) (.inl rfl) h0 h1
   rw [hnl] at this
   exact Does.pure h this (Rv.nilList sz' .full) rfl
 ·cases he
theorem run_append_made (w : World) (t tn ty e : TypeId) (i : TypeInfo) (z : Value) (kn : IntKind) (ht : P.underlying t = some (.slice e)) (htn : P.underlying tn = some (.int kn)) (hi : P.info? e = some i) (hz : i.zero = some z)
  (base : Option Addr) (n : Nat) (h0 : 0 < n) (hs0 : 0 < i.size) (h63 : (n : Int) ≤ 9223372036854775807) (h48 : n * i.bytes ≤ 281474976710656) (hfit : Builtin.nextslicecap n 0 * i.bytes ≤ 281474976710656) :
  (Builtin.append_ #[t, tn] ty #[.slice base 0 0, .int .i64 n]).run P w =
   .ok (.slice (some ⟨w.heap.size, 0, none⟩) n (grownCap w n 0 e)) (w.drew.alloc (.cells (Builtin.zeroCells z.cells n ++ Builtin.zeroCells z.cells (grownCap w n 0 e - n)) e)) := by
 have hn : n ≠ 0 := by omega
 have hw : IntKind.i64.wrap (n : Int) = n := by rw [IntKind.wrap_i64]; omega
 have h63' : ¬ (9223372036854775807 < (n : Int)) := by omega
 have h48' : ¬ (281474976710656 < Builtin.nextslicecap n 0 * i.bytes) := by omega
 have h48i : ¬ (281474976710656 < (n : Int) * (i.bytes : Int)) := by
  rw [← Int.natCast_mul]; omega
 have hneg : ¬ ((n : Int) < 0) := by omega
 have hns : ¬ (n = 0 ∨ i.size = 0) := by omega
 have hold : (Builtin.firstCells i.size 0 (.slice base 0 0)).run P w.drew = .ok #[] w.drew := by
  cases base with
  | none => exact run_firstCells_none w.drew _ _ _ _
  | some a => exact run_firstCells_some w.drew i.size 0 a 0 0 [] (by simp) (by simp)
 simp [Builtin.append_, run_underlying ht, run_underlying htn, sizeOf, typeInfo, zeroValue, hi, hz, hw, asInt, asIntOf, hneg, h48i, hn, hns, h63', h48', Question.forced, hold, newRow, grownCap]
 intro hh
 have := Nat.mul_pos h0 hs0
 omega
theorem grow_ok {E G env tm H w} {t tn e ty : TypeId} {kn : IntKind} {sz bytes : Nat} {i : TypeInfo} {zero : AVal} (hu : P.underlying t = some (.slice e)) (htn : P.underlying tn = some (.int kn)) (hi : P.info? e = some i) (hib : i.bytes = bytes) (hbp : 0 < bytes) (hbs : bytes ≤ 2 ^ 20)
  (hz : ZI P e zero sz) (hsp : 0 < sz) {xv nv : Value} {n : Int} (h0 : 0 < n) (hmax : n * bytes ≤ (maxBytes : Nat)) (h : St E G ⟨env, tm, [(.list sz [] .full, xv), (.int .i64 n, nv)], H⟩ w) :
  Does P E env tm (Builtin.append_ #[t, tn] ty #[xv, nv]) w (.list sz (List.replicate n.toNat zero) .uniq) H := by
 obtain ⟨i', z, hi', hiz, hs, hzs, hzl, hzc⟩ := hz.z
 rw [hi] at hi'; cases hi'
 subst hib
 have hx : Rv G w (.list sz [] .full) xv := (h.fly 0 _ xv rfl).arg rfl
 have hnv := Rv.int_inv (show Rv G w (.int .i64 n) nv from h.fly 1 _ nv rfl)
 subst hnv
 obtain ⟨base, rfl⟩ : ∃ base, xv = .slice base 0 0 := by
  cases hx with
  | list _ _ _ b o len cap f g1 g2 g3 => simp at g1; subst g1; have := g3 rfl; subst this; exact ⟨_, rfl⟩
  | nilList => exact ⟨_, rfl⟩
 obtain ⟨m, rfl⟩ : ∃ m : Nat, n = m := ⟨n.toNat, by omega⟩
 have hm0 : 0 < m := by omega
 have hmb : m * i.bytes ≤ 140737488355328 := by
  have : ((m * i.bytes : Nat) : Int) ≤ 140737488355328 := by rw [Int.natCast_mul]; exact hmax
  omega
 have hmm : m ≤ m * i.bytes := Nat.le_mul_of_pos_right _ hbp
 have hfit : Builtin.nextslicecap m 0 * i.bytes ≤ 281474976710656 := by
  have h1 := nextcap_le (need := m) (old := 0) hm0
  have h2 : Builtin.nextslicecap m 0 * i.bytes ≤ (2 * m) * i.bytes := Nat.mul_le_mul_right _ h1
  rw [Nat.mul_assoc] at h2
  omega
 have hrun := run_append_made w t tn ty e i z kn hu htn hi hiz base m hm0 (by omega) (by omega) (by omega) hfit
 have hL := lay_zeros (G := G) (w := w) (n := m) hzs hzl hzc
 let cap' := grownCap w m 0 e
 have hcap' : m ≤ cap' := Nat.le_add_right _ _
 have hsz1 : (Builtin.zeroCells z.cells m).size = m * sz := by simp [Builtin.zeroCells, hzs]
 have hsz2 : (Builtin.zeroCells z.cells (cap' - m)).size = (cap' - m) * sz := by simp [Builtin.zeroCells, hzs]
 have hz1 : Builtin.zeroCells z.cells m = (Array.range (m * sz)).map (fun k => z.cells[k % z.cells.size]!) := by
  simp [Builtin.zeroCells, hzs]
 obtain ⟨G', hG⟩ := h.newData (w' := w.drew.alloc (.cells (Builtin.zeroCells z.cells m ++ Builtin.zeroCells z.cells (cap' - m)) e)) _ e (0, 0) rfl (.ofPush rfl rfl rfl rfl) sz (List.replicate m zero) .uniq m cap'
  (fun k => ((Array.range (m * sz)).map (fun k => z.cells[k % z.cells.size]!)).getD k undef) (by simp) hcap' (by simp) (fun X hX => by rw [(List.mem_replicate.1 hX).2]; exact hzl)
  (fun i X j Y hX hY => (hL.v i X j Y hX hY).1) (fun k hk => by
   rw [Array.getElem?_append_left (by omega), hz1]
   simp [hk]) (fun k hk => hL.one k (by
    rw [List.length_replicate]; exact hk)) (by
   rw [Array.size_append, hsz1, hsz2, ← Nat.add_mul]
   exact Nat.le_of_eq (by congr 1; omega)) (.inl rfl)
 exact ⟨_, _, G', hrun, by simpa using hG⟩
end
end Go.Abs
