import Derived.Test.YtheaccppdikjgaaGreatDoorK4
namespace Go.Abs
open Go
set_option linter.unusedVariables false
set_option linter.unusedSimpArgs false
def AVal.plain : AVal → Bool
 | .list _ _ .own => false
 | .list _ _ .uniq => false
 | .tuple _ => false
 | _ => true
theorem AVal.plain_isU {V : AVal} (h : V.plain = true) : V.isU = false := by
 cases V <;> try rfl
 rename_i sz xs fl; cases fl <;> first | rfl | (simp [AVal.plain] at h)
theorem ownC_plain {V : AVal} (h : V.plain = true) (v : Value) (i : Nat) : ownC V v i = none := by
 cases V
 case list sz xs fl => cases fl <;> simp_all [AVal.plain, ownC, own0]
 all_goals simp_all [AVal.plain, ownC, own0]
theorem AVal.plain_strip (V : AVal) (h : ∀ vs, V ≠ .tuple vs) : V.strip.plain = true := by
 cases V <;> first | rfl | exact absurd rfl (h _)
theorem St.res {E G env tm fly H w V v} (h : St E G ⟨env, tm, fly, H⟩ w) (hT : Rt G w V v) (k : Nat)
  (own : ∀ i a, ownC V v i = some a → ownP G ⟨env, tm, fly, H⟩ w (.fly k i) = some a) : St E G ⟨env, tm, [(V, v)], H⟩ w := by
 refine h.shuffle rfl h.slot ?_ (fun p => match p with | .fly _ i => .fly k i | p => p) ?_ ?_
 ·intro k' V' v' hk
  cases k' with
  | zero => simp at hk; obtain ⟨rfl, rfl⟩ := hk; exact hT
  | succ k' => simp at hk
 ·intro p a hp
  cases p with
  | fly k' i =>
   cases k' with
   | zero => exact own i a hp
   | succ k' => simp [ownP] at hp
  | _ => exact hp
 ·intro p q a b hp hq hpq
  cases p with
  | fly k1 i =>
   cases q with
   | fly k2 j =>
    simp only [Pos.fly.injEq, true_and] at hpq
    subst hpq
    cases k1 <;> cases k2 <;> first | rfl | (simp [ownP] at hp; done) | (simp [ownP] at hq; done)
   | _ => cases hpq
  | _ => cases q <;> first | exact hpq | cases hpq
theorem St.pure {E G env tm fly H w V v} (h : St E G ⟨env, tm, fly, H⟩ w) (hT : Rv G w V v) (hp : V.plain = true) : St E G ⟨env, tm, [(V, v)], H⟩ w :=
 h.res (Rt.of hT (AVal.plain_isU hp)) 0 (fun i a ha => by rw [ownC_plain hp] at ha; cases ha)
def Does (P : Program) (E : Ent) (env : Nat → AVal) (tm : Nat → Value) (s : Sem Value) (w : World) (V : AVal) (H' : Heap) : Prop :=
 ∃ v w' G', s.run P w = .ok v w' ∧ St E G' ⟨env, tm, [(V, v)], H'⟩ w'
theorem Does.pure {P E G env tm fly H w V v} {s : Sem Value} (h : St E G ⟨env, tm, fly, H⟩ w) (hr : s.run P w = .ok v w) (hT : Rv G w V v) (hp : V.plain = true) :
  Does P E env tm s w V H := ⟨v, w, G, hr, h.pure hT hp⟩
theorem arith_ok {P : Program} {op k a b V} (h : arith op k a b = some V) (t : TypeId) (w : World) :
  ∃ v, (binOp op t (.int k a) (.int k b)).run P w = .ok v w ∧ (∀ G w, Rv G w V v) ∧ V.plain = true := by
 cases op <;> simp only [arith] at h <;> try (cases h; done)
 case quo =>
  split at h
  ·cases h
  ·cases h; exact ⟨_, by simp only [binOp, ne_eq, not_true_eq_false, if_false, Op.intDiv, *]; rfl, fun _ _ => .int _ _, rfl⟩
 case rem =>
  split at h
  ·cases h
  ·cases h; exact ⟨_, by simp only [binOp, ne_eq, not_true_eq_false, if_false, Op.intDiv, *]; rfl, fun _ _ => .int _ _, rfl⟩
 all_goals (cases h; refine ⟨_, by simp only [binOp, ne_eq, not_true_eq_false, if_false]; rfl, fun _ _ => ?_, rfl⟩; first | exact .int _ _ | exact .bool _)
theorem shift_ok {P : Program} {op k k' a b V} (hop : op = .shl ∨ op = .shr) (h : shiftA op k a b = some V) (t : TypeId) (w : World) :
  ∃ v, (binOp op t (.int k a) (.int k' b)).run P w = .ok v w ∧ (∀ G w, Rv G w V v) ∧ V.plain = true := by
 unfold shiftA at h
 split at h
 ·cases h
 ·rename_i hb
  rcases hop with rfl | rfl <;> cases h <;> exact ⟨_, by simp only [binOp, Op.shift, if_neg hb]; rfl, fun _ _ => .int _ _, rfl⟩
theorem toList_mk (s : List UInt8) : (⟨⟨s⟩⟩ : ByteArray).toList = s := by rw [ByteArray.toList_eq]
theorem size_mk (s : List UInt8) : (⟨⟨s⟩⟩ : ByteArray).size = s.length := rfl
theorem append_mk (s t : List UInt8) : (⟨⟨s⟩⟩ : ByteArray) ++ ⟨⟨t⟩⟩ = ⟨⟨s ++ t⟩⟩ := by
 apply ByteArray.ext; apply Array.ext'; simp
theorem str_ok {P : Program} {op x y V} (h : strBin op x y = some V) (t : TypeId) (w : World) :
  ∃ v, (binOp op t (.string ⟨⟨x⟩⟩) (.string ⟨⟨y⟩⟩)).run P w = .ok v w ∧ (∀ G w, Rv G w V v) ∧ V.plain = true := by
 cases op <;> simp only [strBin] at h <;> try (cases h; done)
 case add =>
  split at h
  ·rename_i hl
   cases h
   refine ⟨.string ⟨⟨x ++ y⟩⟩, ?_, fun _ _ => .str _, rfl⟩
   have : ¬ ((x.length : Int) + (y.length : Int) > 9223372036854775807) := by unfold maxBytes at hl; omega
   simp only [binOp, Op.stringOp, size_mk, append_mk]
   rw [if_neg (by have : IntKind.max .i64 = 9223372036854775807 := rfl; omega)]
   rfl
  ·cases h
 all_goals (cases h; exact ⟨_, by simp only [binOp, Op.stringOp, toList_mk]; rfl, fun _ _ => .bool _, rfl⟩)
theorem un_ok {P : Program} {op x V G w xv} (h : evUn op x = some V) (hx : Rv G w x xv) :
  ∃ v, (Op.unary op xv).run P w = .ok v w ∧ Rv G w V v ∧ V.plain = true := by
 unfold evUn at h
 split at h
 ·cases hx; cases h; exact ⟨_, rfl, .int _ _, rfl⟩
 ·cases hx; simp only [arith, Option.some.injEq] at h; subst h; exact ⟨_, rfl, .int _ _, rfl⟩
 ·cases hx; cases h; exact ⟨_, rfl, .bool _, rfl⟩
 ·cases h
theorem pure_run (P : Program) (v : Value) (w : World) : (Pure.pure v : Sem Value).run P w = .ok v w := rfl
theorem eql_run {P : Program} {t : TypeId} {x y : Value} {w : World} {b : Bool} (h : binOp .eql t x y = (do pure (.bool (← Op.equal t x y)) : Sem Value))
  (he : (Op.equal t x y).run P w = .ok b w) : (binOp .eql t x y).run P w = .ok (.bool b) w := by
 rw [h]; simp [he]
theorem neq_run {P : Program} {t : TypeId} {x y : Value} {w : World} {b : Bool} (h : binOp .neq t x y = (do pure (.bool (!(← Op.equal t x y))) : Sem Value))
  (he : (Op.equal t x y).run P w = .ok b w) : (binOp .neq t x y).run P w = .ok (.bool !b) w := by
 rw [h]; simp [he]
theorem run_equalIn_nil_ptr {P : Program} (d : Nat) {t e : TypeId} (ht : P.underlying t = some (.pointer e)) (q : Option Addr) (w : World) :
  (Op.equalIn (d + 1) t (.pointer none) (.pointer q)).run P w = .ok q.isNone w := by
 cases q <;> simp [Op.equalIn, run_underlying ht]
theorem nil_ok {P : Program} {op x y V G w xv yv} {t : TypeId} (ht : P.underlying t = some (.pointer (P.pointee t))) (h : nilBin op x y = some V) (hx : Rv G w x xv) (hy : Rv G w y yv) :
  ∃ v, (binOp op t xv yv).run P w = .ok v w ∧ Rv G w V v ∧ V.plain = true := by
 have isn : ∀ {x xv a}, isNil x = some a → Rv G w x xv → ∃ p, xv = .pointer p ∧ p.isNone = a := by
  intro x xv a h hx
  cases hx <;> simp only [isNil, Option.some.injEq, reduceCtorEq] at h <;> subst h <;> exact ⟨_, rfl, rfl⟩
 unfold nilBin at h
 split at h
 ·cases h
 ·rename_i a ha
  split at h
  ·cases h
  ·rename_i b hb
   split at h
   ·rename_i hab
    obtain ⟨p, rfl, rfl⟩ := isn ha hx
    obtain ⟨q, rfl, rfl⟩ := isn hb hy
    have he : (Op.equal t (.pointer p) (.pointer q)).run P w = .ok (p.isNone && q.isNone) w := by
     cases q with
     | none => rw [run_equal_pointer_nil w t p ht]; simp
     | some q => cases p with
      | none => exact run_equalIn_nil_ptr 9999 ht (some q) w
      | some p => simp at hab
    split at h
    ·cases h; refine ⟨.bool (p.isNone && q.isNone), ?_, .bool _, rfl⟩
     exact eql_run rfl he
    ·cases h; refine ⟨.bool !(p.isNone && q.isNone), ?_, .bool _, rfl⟩
     exact neq_run rfl he
    ·cases h
   ·cases h
theorem bool_ok {P : Program} {op} {a b : Bool} {V} {t : TypeId} (ht : P.underlying t = some .bool) (w : World)
  (h : (match op with | BinOp.eql => some (AVal.bool (a == b)) | BinOp.neq => some (.bool (a != b)) | _ => none) = some V) :
  ∃ v, (binOp op t (.bool a) (.bool b)).run P w = .ok v w ∧ (∀ G w, Rv G w V v) ∧ V.plain = true := by
 split at h
 ·cases h; exact ⟨.bool (a == b), eql_run rfl (run_equal_bool w t a b ht), fun _ _ => .bool _, rfl⟩
 ·cases h; exact ⟨.bool (a != b), neq_run rfl (run_equal_bool w t a b ht), fun _ _ => .bool _, rfl⟩
 ·cases h
end Go.Abs
