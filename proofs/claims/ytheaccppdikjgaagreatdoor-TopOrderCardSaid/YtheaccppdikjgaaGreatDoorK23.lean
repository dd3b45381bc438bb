import Derived.Test.YtheaccppdikjgaaGreatDoorK22
namespace Go.Abs
open Go
set_option linter.unusedVariables false
set_option linter.unusedSimpArgs false
theorem len1 {α : Type} {l : List α} (h : l.length = 1) : ∃ x, l = [x] := List.length_eq_one_iff.1 h
theorem len2 {α : Type} {l : List α} (h : l.length = 2) : ∃ x y, l = [x, y] := by
 match l, h with | [x, y], _ => exact ⟨x, y, rfl⟩
theorem len3 {α : Type} {l : List α} (h : l.length = 3) : ∃ x y z, l = [x, y, z] := by
 match l, h with | [x, y, z], _ => exact ⟨x, y, z, rfl⟩
theorem Yield.val {P : Program} {E G env tm H w V v} {s : Sem Next} (hr : s.run P w = .ok (.value v) w) (h : St E G ⟨env, tm, [(V, v)], H⟩ w) : Yield P E env tm s w V H :=
 .inl ⟨v, w, G, hr, h⟩
theorem St.one {E G env tm fly H w} (h : St E G ⟨env, tm, fly, H⟩ w) {k : Nat} {V v} (hk : fly[k]? = some (V, v)) : St E G ⟨env, tm, [(V, v)], H⟩ w :=
 h.res (h.fly k V v hk) k (fun i a ha => by simp only [ownP, hk]; exact ha)
section
variable {P : Program}
theorem guard_ok {op : BinOp} {t : TypeId} {x y : Operand} {xv yv : Value} (w : World) (h : (∃ k n, xv = .int k n) ∨ (∃ s, xv = .string s) ∨ (∃ b, xv = .bool b) ∨ (∃ p, xv = .pointer p)) :
  (eqGuard op t x y xv yv).run P w = .ok () w := by
 unfold eqGuard
 rcases h with ⟨k, n, rfl⟩ | ⟨s, rfl⟩ | ⟨s, rfl⟩ | ⟨s, rfl⟩ <;> cases op <;> first | rfl | (cases yv <;> rfl)
theorem bin_ok {op : BinOp} {bk : BK} {t : TypeId} {x y : Operand} {E G env tm H w} {X Y : AVal} {xv yv : Value} {V : AVal}
  (hk : (match bk with
   | .plain => true
   | .bool => (match P.underlying t with | some .bool => true | _ => false)
   | .ptr => (match P.underlying t with | some (.pointer _) => true | _ => false)
   | .agg ks => (match cksOf P 20 t with | some ks' => decide (ks' = ks) | none => false) && aggT P t && !P.eqGuardType P.depth t) = true)
  (h : St E G ⟨env, tm, [(X, xv), (Y, yv)], H⟩ w) (he : evBin op bk X Y = some V) : Does P E env tm (do eqGuard op t x y xv yv; binOp op t xv yv) w V H := by
 have fin : ∀ {v}, (eqGuard op t x y xv yv).run P w = .ok () w → (binOp op t xv yv).run P w = .ok v w → Rv G w V v → V.plain = true → Does P E env tm (do eqGuard op t x y xv yv; binOp op t xv yv) w V H := by
  intro v h1 h2 h3 h4
  exact Does.pure h (by simp [h1, h2]) h3 h4
 have hX := h.fly 0 X xv rfl
 have hY := h.fly 1 Y yv rfl
 cases bk with
 | plain =>
  simp only [evBin] at he
  split at he
  ·rename_i k a k' b
   have e1 := Rv.int_inv (show Rv G w (.int k a) xv from hX); have e2 := Rv.int_inv (show Rv G w (.int k' b) yv from hY)
   subst e1; subst e2
   split at he
   ·obtain ⟨v, h1, h2, h3⟩ := shift_ok (P := P) (k' := k') (.inl rfl) he t w
    exact fin (guard_ok w (.inl ⟨_, _, rfl⟩)) h1 (h2 _ _) h3
   ·obtain ⟨v, h1, h2, h3⟩ := shift_ok (P := P) (k' := k') (.inr rfl) he t w
    exact fin (guard_ok w (.inl ⟨_, _, rfl⟩)) h1 (h2 _ _) h3
   ·obtain ⟨hkk, he2⟩ := ite_some he
    subst hkk
    obtain ⟨v, h1, h2, h3⟩ := arith_ok (P := P) he2 t w
    exact fin (guard_ok w (.inl ⟨_, _, rfl⟩)) h1 (h2 _ _) h3
  ·rename_i a b
   have e1 := Rv.str_inv (show Rv G w (.str a) xv from hX); have e2 := Rv.str_inv (show Rv G w (.str b) yv from hY)
   subst e1; subst e2
   obtain ⟨v, h1, h2, h3⟩ := str_ok (P := P) he t w
   exact fin (guard_ok w (.inr (.inl ⟨_, rfl⟩))) h1 (h2 _ _) h3
  ·cases he
 | bool =>
  simp only at hk
  split at hk
  ·rename_i hu
   simp only [evBin] at he
   split at he
   ·rename_i a b
    have e1 := Rv.bool_inv (show Rv G w (.bool a) xv from hX); have e2 := Rv.bool_inv (show Rv G w (.bool b) yv from hY)
    subst e1; subst e2
    obtain ⟨v, h1, h2, h3⟩ := bool_ok (P := P) hu w he
    exact fin (guard_ok w (.inr (.inr (.inl ⟨_, rfl⟩)))) h1 (h2 _ _) h3
   ·cases he
  ·cases hk
 | ptr =>
  simp only at hk
  split at hk
  ·rename_i e hu
   simp only [evBin] at he
   have hn : (∃ b, isNil X = some b) ∧ ∃ b, isNil Y = some b := by
    unfold nilBin at he
    cases h1 : isNil X with
    | none => rw [h1] at he; cases he
    | some a => cases h2 : isNil Y with
     | none => rw [h1, h2] at he; cases he
     | some b => exact ⟨⟨_, rfl⟩, _, rfl⟩
   obtain ⟨⟨bx, hnx⟩, by', hny⟩ := hn
   have hxr : Rv G w X xv := by
    refine hX.arg ?_
    cases X <;> first | rfl | (simp [isNil] at hnx)
   have hyr : Rv G w Y yv := by
    refine hY.arg ?_
    cases Y <;> first | rfl | (simp [isNil] at hny)
   have hx' : ∃ p, xv = .pointer p := by
    cases hxr <;> first | exact ⟨_, rfl⟩ | (simp [isNil] at hnx)
   obtain ⟨v, h1, h2, h3⟩ := nil_ok (P := P) (t := t) (by rw [hu]; simp [Program.pointee, hu]) he hxr hyr
   exact fin (guard_ok w (.inr (.inr (.inr hx')))) h1 h2 h3
  ·cases hk
 | agg ks =>
  simp only [Bool.and_eq_true, Bool.not_eq_true'] at hk
  obtain ⟨⟨hk1, hk2⟩, hk3⟩ := hk
  split at hk1
  ·rename_i ks' hks
   simp only [decide_eq_true_eq] at hk1; subst hk1
   simp only [evBin] at he
   split at he
   ·rename_i a b
    obtain ⟨v, h1, h2, h3⟩ := agg_ok (P := P) hks (by omega) hk2 (show Rv G w (.agg a) xv from hX) (show Rv G w (.agg b) yv from hY) he
    refine fin ?_ h1 h2 h3
    cases (show Rv G w (.agg a) xv from hX)
    cases (show Rv G w (.agg b) yv from hY)
    exact run_eqGuard_agg w op t x y _ _ hk3
   ·cases he
  ·cases hk1
end
end Go.Abs
