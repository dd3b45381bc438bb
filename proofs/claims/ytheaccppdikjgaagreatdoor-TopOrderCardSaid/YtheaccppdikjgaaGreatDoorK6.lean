import Derived.Test.YtheaccppdikjgaaGreatDoorK5
namespace Go.Abs
open Go
set_option linter.unusedVariables false
set_option linter.unusedSimpArgs false
structure TI (P : Program) (t : TypeId) (agg : Bool) (n : Nat) : Prop where
 i : ∃ i, P.info? t = some i ∧ i.size = n
 d : ∃ d, P.underlying t = some d ∧ (match d with | .struct _ | .array _ _ => true | _ => false) = agg
section
variable {P : Program}
theorem TI.sizeOf {t agg n} (h : TI P t agg n) (w : World) : (sizeOf t).run P w = .ok n w := by
 obtain ⟨i, hi, rfl⟩ := h.i
 simp [Go.sizeOf, typeInfo, hi]
theorem TI.isAgg {t agg n} (h : TI P t agg n) (w : World) : (isAgg t).run P w = .ok agg w := by
 obtain ⟨d, hd, rfl⟩ := h.d
 cases d <;> simp [Go.isAgg, run_underlying hd]
theorem TI.loadVar {t agg n} (h : TI P t agg n) {w : World} {b o : Nat} {f : Nat → Value} (hc : ∀ j, j < n → w.cell? (at_ b (o + j)) = some (f j)) (h1 : agg = false → n = 1) :
  (loadVar t (at_ b o)).run P w = .ok (if agg then .agg ((List.range n).map f).toArray else f 0) w := by
 cases agg
 ·have := h1 rfl; subst this
  have h0 := hc 0 (by omega)
  simp only [Nat.add_zero] at h0
  simp [Go.loadVar, h.isAgg, h0]
 ·simp [Go.loadVar, h.isAgg, h.sizeOf, run_loadCells w (at_ b o) n f (fun j hj => by rw [add_at]; exact hc j hj)]
theorem Rt0.ofRv {G w V v} (h : Rv G w V v) : Rt0 G w V v := by
 by_cases hu : ∃ sz xs, V = .list sz xs .uniq
 ·obtain ⟨sz, xs, rfl⟩ := hu
  cases h with
  | list _ _ _ b' o' len cap f' g1 g2 g3 g4 g5 g6 g7 g8 => exact .inr ⟨b', o', len, cap, f', rfl, g1, g2, g4, g5, g6, g8⟩
  | nilList => exact .inl ⟨rfl, rfl⟩
 ·refine .of h ?_
  cases V <;> try rfl
  rename_i sz xs fl
  cases fl <;> first | rfl | exact absurd ⟨_, _, rfl⟩ hu
theorem ld_vals {G w agg n cs V} {f : Nat → Value} (h : ldCells agg n cs = some V) (hf : ∀ j Y, cs[j]? = some Y → Rt0 G w Y (f j)) :
  Rv G w V (if agg then .agg ((List.range n).map f).toArray else f 0) ∧ V.plain = true ∧ n ≤ cs.length ∧ (agg = false → n = 1) := by
 unfold ldCells at h
 split at h
 ·rename_i hc
  obtain ⟨hn, hu⟩ := hc
  have hu' : ∀ (j : Nat) (Y : AVal), j < n → cs[j]? = some Y → Y.hasU = false := by
   intro j Y hj hY
   have := List.all_eq_true.1 hu Y (List.mem_take_iff_getElem.2 ⟨j, by
    obtain ⟨h1, h2⟩ := List.getElem?_eq_some_iff.1 hY
    exact ⟨by omega, h2⟩⟩)
   simpa using this
  have hnt : ∀ (j : Nat) (Y : AVal), cs[j]? = some Y → ∀ vs, Y ≠ AVal.tuple vs := fun j Y hY vs e => by subst e; exact Rv.not_tuple (hf j _ hY)
  cases agg
  ·simp only [Bool.false_eq_true, if_false] at h
   split at h
   ·rename_i h1; subst h1
    simp only [Option.map_eq_some_iff] at h
    obtain ⟨Y, hY, rfl⟩ := h
    have hY0 : cs[0]? = some Y := by cases cs <;> simp_all
    have ht := hnt 0 Y hY0
    have hU := hu' 0 Y (by omega) hY0
    have hs : Y.share = Y.share0 := by cases Y <;> first | rfl | exact absurd rfl (ht _)
    have hU' : Y.isU = false := by cases Y <;> first | exact absurd rfl (ht _) | simpa [AVal.hasU] using hU
    refine ⟨?_, ?_, hn, fun _ => rfl⟩
    ·rw [hs]; simpa using (hf 0 Y hY0).share0 hU'
    ·rw [hs]; cases Y <;> first | rfl | exact absurd rfl (ht _) | (rename_i fl; cases fl <;> rfl)
   ·cases h
  ·simp only [if_true, Option.some.injEq] at h; subst h
   refine ⟨?_, rfl, hn, fun h => by cases h⟩
   refine .agg _ _ (by simp [hn]) (fun j Y hY => ?_)
   simp only [List.getElem?_map, Option.map_eq_some_iff] at hY
   obtain ⟨Z, hZ, rfl⟩ := hY
   rw [List.getElem?_take] at hZ
   split at hZ
   ·rename_i hj
    have ht := hnt j Z hZ
    have hU := hu' j Z hj hZ
    have hU' : Z.isU = false := by cases Z <;> first | exact absurd rfl (ht _) | simpa [AVal.hasU] using hU
    have : ((List.range n).map f).toArray.getD j undef = f j := by simp [hj]
    rw [this]
    exact ((hf j Z hZ).rv hU').strip
   ·cases hZ
 ·cases h
theorem drop_get {cs : List AVal} {k j : Nat} : (cs.drop k)[j]? = cs[k + j]? := by simp [List.getElem?_drop]
theorem St.shuffleH {E G S S' w} (h : St E G S w) (hH : S'.H.length = S.H.length) (slot : ∀ t, Rt G w (S'.env t) (S'.tm t))
  (fly : ∀ (k : Nat) V v, S'.fly[k]? = some (V, v) → Rt G w V v) (box : ∀ (id : Nat) B, S'.H[id]? = some B → BoxR G w id B) (π : Pos → Pos)
  (hπ : ∀ p a, ownP G S' w p = some a → ownP G S w (π p) = some a)
  (inj : ∀ p q a b, ownP G S' w p = some a → ownP G S' w q = some b → π p = π q → p = q) : St E G S' w where
 n := by rw [hH]; exact h.n
 Db := h.Db
 slot := slot
 fly := fly
 box := box
 ok := fun p a hp => h.ok _ _ (hπ p a hp)
 dis := fun p q a b hpq ha hb => h.dis _ _ a b (fun e => hpq (inj p q a b ha hb e)) (hπ p a ha) (hπ q b hb)
 fr := h.fr
 new := fun p a hp => h.new _ _ (hπ p a hp)
theorem load_ok {E G env tm H w p pv agg n take V H'} {t : TypeId} (ti : TI P t agg n) (h : St E G ⟨env, tm, [(p, pv)], H⟩ w) (he : evLoad agg n take p H = some (V, H')) :
  Does P E env tm (Instr.loadAt t pv) w V H' := by
 have hp := h.fly 0 p pv rfl
 unfold evLoad at he
 split at he
 ·-- what stays
  rename_i cs
  simp only [Option.map_eq_some_iff, Prod.mk.injEq] at he
  obtain ⟨V', hV, rfl, rfl⟩ := he
  cases (show Rv G w (.rptr cs) pv from hp) with
  | rptr _ b o f hv hm hd =>
   obtain ⟨h1, h2, h3, h4⟩ := ld_vals (G := G) (w := w) (f := f) hV (fun j Y hY => .ofRv (hv j Y hY))
   refine Does.pure h ?_ h1 h2
   simp only [Instr.loadAt, Instr.sureAddr, Sem.run_bind]
   exact ti.loadVar (fun j hj => hm j (by omega)) h4
 ·-- a box
  rename_i id off
  split at he
  ·rename_i cs hH
   have hid : G.μ id = G.μ id := rfl
   obtain ⟨rfl⟩ : pv = .pointer (some (at_ (G.μ id) off)) := by cases (show Rv G w (.ptr id off) pv from hp); rfl
   have hb := h.box id _ hH
   have hcell : ∀ j Y, (cs.drop off)[j]? = some Y → w.cell? (at_ (G.μ id) (off + j)) = some (cellv w (G.μ id) (off + j)) ∧ Rt0 G w Y (cellv w (G.μ id) (off + j)) := by
    intro j Y hY
    rw [drop_get] at hY
    obtain ⟨v, hv, hr⟩ := hb (off + j) Y hY
    have : cellv w (G.μ id) (off + j) = v := by simp [cellv, hv]
    exact ⟨by rw [this]; exact hv, by rw [this]; exact hr⟩
   split at he
   ·split at he
    ·cases he
    ·rename_i htk hagg
     split at he
     ·rename_i hn; subst hn
      have hagg' : agg = false := by simpa using hagg
      subst hagg'
      simp only [Option.map_eq_some_iff, Prod.mk.injEq] at he
      obtain ⟨V', hV, rfl, rfl⟩ := he
      have hV0 : (cs.drop off)[0]? = some V' := by rw [drop_get]; exact hV
      obtain ⟨hc, hr⟩ := hcell 0 V' hV0
      simp only [Nat.add_zero] at hc hr
      have hVt : ∀ us, V' ≠ .tuple us := fun us e => by subst e; exact Rv.not_tuple hr
      have hown : ∀ v i, ownC V' v i = if i = 0 then own0 V' v else none := by
       intro v i; cases V' <;> first | rfl | exact absurd rfl (hVt _)
      have hlt : off < cs.length := (List.getElem?_eq_some_iff.1 hV).1
      have hidlt : id < H.length := (List.getElem?_eq_some_iff.1 hH).1
      refine ⟨cellv w (G.μ id) off, w, G, ?_, ?_⟩
      ·simp only [Instr.loadAt, Instr.sureAddr, Sem.run_bind]
       have := ti.loadVar (w := w) (b := G.μ id) (o := off) (f := fun _ => cellv w (G.μ id) off) (fun j hj => by
        have : j = 0 := by omega
        subst this; exact hc) (fun _ => rfl)
       simpa using this
      ·refine h.shuffleH (by simp) h.slot ?_ ?_ (fun q => match q with | .fly _ _ => .cell id off | q => q) ?_ ?_
       ·intro k X v hk
        cases k with
        | zero => simp at hk; obtain ⟨rfl, rfl⟩ := hk; exact .of0 hr hVt
        | succ k => simp at hk
       ·intro id' B hB
        rw [List.getElem?_set] at hB
        split at hB
        ·rename_i hq; subst hq
         simp only [hidlt, if_true, Option.some.injEq] at hB
         subst hB
         intro j X hX
         rw [List.getElem?_set] at hX
         split at hX
         ·rename_i hq; subst hq
          simp only [hlt, if_true, Option.some.injEq] at hX
          subst hX
          refine ⟨_, hc, ?_⟩
          have := (Rt.of0 hr hVt).demote
          exact this.rt0 (fun us e => by cases V' <;> simp [AVal.demote] at e; rename_i fl; cases fl <;> simp at e)
         ·exact hb j X hX
        ·exact h.box id' B hB
       ·intro q a hq
        cases q with
        | fly k i =>
         cases k with
         | zero =>
          simp only [ownP, List.getElem?_cons_zero] at hq
          rw [hown] at hq
          split at hq
          ·simp only [ownP, hH, hV]; exact hq
          ·cases hq
         | succ k => simp [ownP] at hq
        | slot => exact hq
        | cell id' off' =>
         simp only [ownP] at hq ⊢
         rw [List.getElem?_set] at hq
         split at hq
         ·rename_i cs' hcs'
          split at hcs'
          ·rename_i hq'; subst hq'
           simp only [hidlt, if_true, Option.some.injEq, Box.cells.injEq] at hcs'
           subst hcs'
           rw [List.getElem?_set] at hq
           split at hq
           ·rename_i X hX
            split at hX
            ·rename_i hq'; subst hq'
             simp only [hlt, if_true, Option.some.injEq] at hX
             subst hX; rw [own0_demote] at hq; cases hq
            ·simp only [hH, hX]; exact hq
           ·cases hq
          ·simp only [hcs']; exact hq
         ·cases hq
        | box id' =>
         simp only [ownP] at hq ⊢
         rw [List.getElem?_set] at hq
         by_cases hq' : id = id'
         ·subst hq'
          simp only [if_true, hidlt] at hq
          simp only [hH]
          simpa using hq
         ·simp only [hq', if_false] at hq; exact hq
       ·intro q r a b hq hr' hqr
        have flyi : ∀ k i a, ownP G ⟨env, tm, [(V', cellv w (G.μ id) off)], H.set id (.cells (cs.set off V'.demote))⟩ w (.fly k i) = some a → k = 0 ∧ i = 0 := by
         intro k i a hh
         cases k with
         | zero =>
          simp only [ownP, List.getElem?_cons_zero] at hh
          rw [hown] at hh
          split at hh
          ·exact ⟨rfl, by assumption⟩
          ·cases hh
         | succ k => simp [ownP] at hh
        have nocell : ∀ a, ownP G ⟨env, tm, [(V', cellv w (G.μ id) off)], H.set id (.cells (cs.set off V'.demote))⟩ w (.cell id off) ≠ some a := by
         intro a
         simp only [ownP, List.getElem?_set, if_true, hidlt, hlt, own0_demote]
         simp
        cases q with
        | fly k i =>
         cases r with
         | fly k' i' =>
          obtain ⟨rfl, rfl⟩ := flyi _ _ _ hq
          obtain ⟨rfl, rfl⟩ := flyi _ _ _ hr'
          rfl
         | cell id' off' => simp only at hqr; cases hqr; exact absurd hr' (nocell _)
         | _ => cases hqr
        | cell id' off' =>
         cases r with
         | fly k' i' => simp only at hqr; cases hqr; exact absurd hq (nocell _)
         | _ => exact hqr
        | _ => cases r <;> first | exact hqr | cases hqr
     ·cases he
   ·simp only [Option.map_eq_some_iff, Prod.mk.injEq] at he
    obtain ⟨V', hV, rfl, rfl⟩ := he
    obtain ⟨h1, h2, h3, h4⟩ := ld_vals (G := G) (w := w) (f := fun j => cellv w (G.μ id) (off + j)) hV (fun j Y hY => (hcell j Y hY).2)
    refine Does.pure h ?_ h1 h2
    simp only [Instr.loadAt, Instr.sureAddr, Sem.run_bind]
    exact ti.loadVar (fun j hj => by
     obtain ⟨Y, hY⟩ : ∃ Y, (cs.drop off)[j]? = some Y := ⟨_, List.getElem?_eq_getElem (by omega)⟩
     exact (hcell j Y hY).1) h4
  ·cases he
 ·rename_i id i j
  split at he
  ·rename_i sz xs hH
   simp only [Option.bind_eq_some_iff, Option.map_eq_some_iff, Prod.mk.injEq] at he
   obtain ⟨X, hX, V', hV, rfl, rfl⟩ := he
   obtain ⟨hsz, hru⟩ := h.box id _ hH
   cases (show Rv G w (.eptr id i j) pv from hp) with
   | eptr _ _ _ b o len cap hlt hs =>
    rcases hru with ⟨rfl, _⟩ | ⟨b', o', len', cap', f, hsl, h1, h2, h3, h4, h5, h6⟩
    ·simp at hX
    ·rw [hs] at hsl; cases hsl
     rw [hsz]
     have hXsz : X.cells.length = sz := h3 X (List.mem_of_getElem? hX)
     obtain ⟨g1, g2, g3, g4⟩ := ld_vals (G := G) (w := w) (f := fun q => f (i * sz + (j + q))) hV (fun q Y hY => by
      rw [drop_get] at hY
      exact .ofRv (h4 i X (j + q) Y hX hY))
     refine Does.pure h ?_ g1 g2
     simp only [Instr.loadAt, Instr.sureAddr, Sem.run_bind]
     have hi : i < xs.length := (List.getElem?_eq_some_iff.1 hX).1
     refine ti.loadVar (fun q hq => ?_) g4
     have hjq : j + q < sz := by simp only [List.length_drop] at g3; omega
     have hlt' : i * sz + (j + q) < len * sz := by
      have : (i + 1) * sz ≤ len * sz := Nat.mul_le_mul_right _ (by omega)
      rw [Nat.add_mul] at this; omega
     have := h5 _ hlt'
     rw [← this]; congr 2; omega
  ·cases he
 ·cases he
end
end Go.Abs
