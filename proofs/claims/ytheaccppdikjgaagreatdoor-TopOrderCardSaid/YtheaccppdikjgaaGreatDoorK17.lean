import Derived.Test.YtheaccppdikjgaaGreatDoorK16
import Derived.ChangeKeysEq
namespace Go.Abs
open Go
set_option linter.unusedVariables false
set_option linter.unusedSimpArgs false
def cksFieldsF (P : Program) (rec : TypeId → Option (List CK)) : List Field → Nat → Option (List CK)
  | [], _ => some []
  | f :: fs, off => (rec f.type).bind fun ks =>
    if f.name ≠ "_" ∧ f.offset = off ∧ P.cellsOf f.type = ks.length ∧ (P.info? f.type).isSome then (cksFieldsF P rec fs (off + ks.length)).map (ks ++ ·) else none
def cksOf (P : Program) : Nat → TypeId → Option (List CK)
  | 0, _ => none
  | d + 1, t => match P.underlying t with
    | some (.int k) => some [.int k]
    | some .string => some [.str]
    | some .bool => some [.bool]
    | some (.struct fs) => if P.stoodInHeld t then none else cksFieldsF P (cksOf P d) fs.toList 0
    | some (.array len e) => (cksOf P d e).bind fun ks => if P.cellsOf e = ks.length ∧ (P.info? e).isSome then some (List.replicate len ks).flatten else none
    | _ => none
abbrev cksFields (P : Program) (d : Nat) : List Field → Nat → Option (List CK) := cksFieldsF P (cksOf P d)
def eqV : List CK → List Value → List Value → Option Bool
  | [], [], [] => some true
  | .int k :: ks, .int k1 a :: xs, .int k2 b :: ys => if k1 = k ∧ k2 = k then (eqV ks xs ys).map ((a == b) && ·) else none
  | .str :: ks, .string a :: xs, .string b :: ys => (eqV ks xs ys).map ((a.toList == b.toList) && ·)
  | .bool :: ks, .bool a :: xs, .bool b :: ys => (eqV ks xs ys).map ((a == b) && ·)
  | _, _, _ => none
theorem eqV_split : ∀ (ks1 ks2 : List CK) (xs ys : List Value) (r : Bool), eqV (ks1 ++ ks2) xs ys = some r →
    ∃ r1 r2, eqV ks1 (xs.take ks1.length) (ys.take ks1.length) = some r1 ∧ eqV ks2 (xs.drop ks1.length) (ys.drop ks1.length) = some r2 ∧ r = (r1 && r2)
  | [], ks2, xs, ys, r, h => ⟨true, r, by simp [eqV], by simpa using h, by simp⟩
  | k :: ks1, ks2, xs, ys, r, h => by
    rw [List.cons_append] at h
    cases k <;> cases xs with
      | nil => simp [eqV] at h
      | cons x xs => cases ys with
        | nil => cases x <;> simp [eqV] at h
        | cons y ys =>
          cases x <;> cases y <;> simp only [eqV, reduceCtorEq] at h <;> try (simp at h; done)
          all_goals first
            | (obtain ⟨hk, h⟩ := ite_some h
               obtain ⟨r', h', rfl⟩ := Option.map_eq_some_iff.1 h
               obtain ⟨r1, r2, h1, h2, rfl⟩ := eqV_split ks1 ks2 xs ys r' h'
               refine ⟨_ && r1, r2, ?_, by simpa using h2, (Bool.and_assoc _ _ _).symm⟩
               simp only [List.length_cons, List.take_succ_cons, eqV]
               rw [if_pos hk, h1]; rfl)
            | (obtain ⟨r', h', rfl⟩ := Option.map_eq_some_iff.1 h
               obtain ⟨r1, r2, h1, h2, rfl⟩ := eqV_split ks1 ks2 xs ys r' h'
               refine ⟨_ && r1, r2, ?_, by simpa using h2, (Bool.and_assoc _ _ _).symm⟩
               simp only [List.length_cons, List.take_succ_cons, eqV]
               rw [h1]; rfl)
theorem eqV_length : ∀ (ks : List CK) (xs ys : List Value) (r : Bool), eqV ks xs ys = some r → xs.length = ks.length ∧ ys.length = ks.length
  | [], xs, ys, r, h => by cases xs <;> cases ys <;> simp_all [eqV]
  | k :: ks, xs, ys, r, h => by
    cases k <;> cases xs with
      | nil => simp [eqV] at h
      | cons x xs => cases ys with
        | nil => cases x <;> simp [eqV] at h
        | cons y ys =>
          cases x <;> cases y <;> simp only [eqV, reduceCtorEq] at h <;> try (simp at h; done)
          all_goals first
            | (obtain ⟨hk, h⟩ := ite_some h
               simp only [Option.map_eq_some_iff] at h
               obtain ⟨r', h', rfl⟩ := h
               have := eqV_length ks xs ys r' h'
               simpa using this)
            | (simp only [Option.map_eq_some_iff] at h
               obtain ⟨r', h', rfl⟩ := h
               have := eqV_length ks xs ys r' h'
               simpa using this)
def aggT (P : Program) (t : TypeId) : Bool :=
  match P.underlying t with
  | some (.struct _) => true
  | some (.array _ _) => true
  | _ => false
def mkv (P : Program) (t : TypeId) (xs : List Value) : Value := if aggT P t then .agg xs.toArray else xs.headD undef
section
variable {P : Program}
theorem part_mkv {t : TypeId} {n off : Nat} {xs : List Value} {d : TypeDesc} (hu : P.underlying t = some d) (hi : (P.info? t).isSome = true) (hc : P.cellsOf t = n) (hn : off + n ≤ xs.length) (h1 : aggT P t = false → n = 1) (w : World) :
    (part t xs.toArray off).run P w = .ok (mkv P t ((xs.drop off).take n)) w := by
  obtain ⟨i, hi⟩ := Option.isSome_iff_exists.1 hi
  have hs : i.size = n := by simpa [Program.cellsOf, hi] using hc
  have ti : TI P t (aggT P t) n := ⟨⟨i, hi, hs⟩, ⟨d, hu, by unfold aggT; rw [hu]; cases d <;> rfl⟩⟩
  cases ha : aggT P t
  · have := h1 ha; subst this
    rw [ha] at ti
    have hlt : off < xs.length := by omega
    simp only [part, Sem.run_bind, ti.isAgg, Result.andThen_ok, Bool.false_eq_true, if_false, mkv, ha]
    rw [List.getElem?_toArray, List.getElem?_eq_getElem hlt, List.drop_eq_getElem_cons hlt]
    rfl
  · rw [ha] at ti
    simp only [part, Sem.run_bind, ti.isAgg, Result.andThen_ok, if_true, ti.sizeOf, Sem.run_pure, mkv, ha]
    congr 2
    apply Array.ext'
    simp [List.drop_take]
theorem eq_run : ∀ (d : Nat) (t : TypeId) (ks : List CK), cksOf P d t = some ks → ∀ (D : Nat), d ≤ D → ∀ (xs ys : List Value) (r : Bool), eqV ks xs ys = some r → ∀ w : World,
    (Op.equalIn D t (mkv P t xs) (mkv P t ys)).run P w = .ok r w
  | 0, _, _, h, _, _, _, _, _, _, _ => by simp [cksOf] at h
  | d + 1, t, ks, h, D, hD, xs, ys, r, hr, w => by
    obtain ⟨D, rfl⟩ : ∃ q, D = q + 1 := ⟨D - 1, by omega⟩
    unfold cksOf at h
    have one : ∀ {k : CK}, ks = [k] → xs = [xs.headD undef] ∧ ys = [ys.headD undef] := by
      intro k hk
      obtain ⟨h1, h2⟩ := eqV_length ks xs ys r hr
      rw [hk] at h1 h2
      obtain ⟨x, rfl⟩ := List.length_eq_one_iff.1 h1
      obtain ⟨y, rfl⟩ := List.length_eq_one_iff.1 h2
      exact ⟨rfl, rfl⟩
    split at h
    · rename_i k hu
      simp only [Option.some.injEq] at h; subst h
      obtain ⟨e1, e2⟩ := one rfl
      rw [e1, e2] at hr
      have ha : aggT P t = false := by simp [aggT, hu]
      simp only [mkv, ha, Bool.false_eq_true, if_false]
      generalize xs.headD undef = x at hr ⊢
      generalize ys.headD undef = y at hr ⊢
      cases x <;> cases y <;> simp only [eqV, reduceCtorEq] at hr
      obtain ⟨⟨rfl, rfl⟩, hr⟩ := ite_some hr
      simp at hr; subst hr
      exact run_equalIn_int w D t _ _ _ _ hu
    · rename_i hu
      simp only [Option.some.injEq] at h; subst h
      obtain ⟨e1, e2⟩ := one rfl
      rw [e1, e2] at hr
      have ha : aggT P t = false := by simp [aggT, hu]
      simp only [mkv, ha, Bool.false_eq_true, if_false]
      generalize xs.headD undef = x at hr ⊢
      generalize ys.headD undef = y at hr ⊢
      cases x <;> cases y <;> simp only [eqV, reduceCtorEq] at hr
      simp at hr; subst hr
      exact run_equalIn_string w D t _ _ hu
    · rename_i hu
      simp only [Option.some.injEq] at h; subst h
      obtain ⟨e1, e2⟩ := one rfl
      rw [e1, e2] at hr
      have ha : aggT P t = false := by simp [aggT, hu]
      simp only [mkv, ha, Bool.false_eq_true, if_false]
      generalize xs.headD undef = x at hr ⊢
      generalize ys.headD undef = y at hr ⊢
      cases x <;> cases y <;> simp only [eqV, reduceCtorEq] at hr
      simp at hr; subst hr
      exact run_equalIn_bool w D t _ _ hu
    · rename_i fs hu
      split at h
      · cases h
      rename_i hst
      have ha : aggT P t = true := by simp [aggT, hu]
      simp only [mkv, ha, if_true]
      have hfo : P.fieldsOf t = fs := by simp [Program.fieldsOf, hu]
      rw [run_equalIn_struct w D t _ _ (by rw [hfo]; exact hu) (by simpa using hst), hfo]
      -- field by field
      have go : ∀ (fl : List Field) (off : Nat) (ks : List CK), cksFields P d fl off = some ks → ∀ r, eqV ks (xs.drop off) (ys.drop off) = some r →
          (Op.eqFields D xs.toArray ys.toArray fl).run P w = .ok r w := by
        intro fl
        induction fl with
        | nil => intro off ks h r hr; simp only [cksFields, cksFieldsF, Option.some.injEq] at h; subst h
                 cases hx : xs.drop off <;> cases hy : ys.drop off <;> rw [hx, hy] at hr <;> simp [eqV] at hr
                 subst hr; rfl
        | cons f fl ih =>
          intro off ks h r hr
          simp only [cksFields, cksFieldsF, Option.bind_eq_some_iff] at h
          obtain ⟨ks1, hk1, h⟩ := h
          obtain ⟨⟨g1, g2, g3, g4⟩, h⟩ := ite_some h
          simp only [Option.map_eq_some_iff] at h
          obtain ⟨ks2, hk2, rfl⟩ := h
          obtain ⟨r1, r2, q1, q2, rfl⟩ := eqV_split ks1 ks2 _ _ _ hr
          have hlx := (eqV_length _ _ _ _ hr).1
          have hly := (eqV_length _ _ _ _ hr).2
          simp only [List.length_drop, List.length_append] at hlx hly
          rw [List.drop_drop] at q2
          rw [List.drop_drop] at q2
          have hr2 := ih (off + ks1.length) ks2 hk2 r2 q2
          obtain ⟨df, hdf⟩ : ∃ df, P.underlying f.type = some df := by
            cases d with
            | zero => simp [cksOf] at hk1
            | succ d =>
              unfold cksOf at hk1
              cases hq : P.underlying f.type with
              | none => simp [hq] at hk1
              | some df => exact ⟨df, rfl⟩
          have hag : aggT P f.type = false → ks1.length = 1 := by
            intro hag
            cases d with
            | zero => simp [cksOf] at hk1
            | succ d =>
              unfold cksOf at hk1
              unfold aggT at hag
              rw [hdf] at hk1 hag
              cases df <;> simp at hk1 hag <;> subst hk1 <;> rfl
          by_cases hks : ks1.length = 0
          · have hk0 : ks1 = [] := List.length_eq_zero_iff.1 hks
            subst hk0
            have hp : ∀ zs : List Value, off ≤ zs.length → (part f.type zs.toArray off).run P w = .ok (mkv P f.type ((zs.drop off).take 0)) w := fun zs hz =>
              part_mkv hdf g4 (by simpa using g3) (by omega) (fun h => by have := hag h; simp at this) w
            by_cases hox : off ≤ xs.length ∧ off ≤ ys.length
            · have he := eq_run d f.type [] hk1 D (by omega) _ _ r1 q1 w
              simp only [List.length_nil] at he
              simp only [Op.eqFields, g1, ne_eq, not_false_eq_true, if_true, Sem.run_bind, g2, hp xs hox.1, hp ys hox.2, Result.andThen_ok, he]
              cases r1
              · simp
              · simpa using hr2
            · -- nothing is left
              have ho1 : ¬ (off ≤ xs.length) ∨ ¬ (off ≤ ys.length) := by omega
              have hsz : P.cellsOf f.type = 0 := by simpa using g3
              have hp' : ∀ zs : List Value, (part f.type zs.toArray off).run P w = .ok (mkv P f.type ((zs.drop off).take 0)) w := by
                intro zs
                obtain ⟨i, hi⟩ := Option.isSome_iff_exists.1 g4
                have hs : i.size = 0 := by simpa [Program.cellsOf, hi] using hsz
                have hagt : aggT P f.type = true := by
                  cases hq : aggT P f.type
                  · have := hag hq; simp at this
                  · rfl
                have ti : TI P f.type true 0 := ⟨⟨i, hi, hs⟩, ⟨df, hdf, by unfold aggT at hagt; rw [hdf] at hagt; cases df <;> simp_all⟩⟩
                simp only [part, Sem.run_bind, ti.isAgg, Result.andThen_ok, if_true, ti.sizeOf, Sem.run_pure, mkv, hagt]
                congr 2
                apply Array.ext'
                simp
              have he := eq_run d f.type [] hk1 D (by omega) _ _ r1 q1 w
              simp only [List.length_nil] at he
              simp only [Op.eqFields, g1, ne_eq, not_false_eq_true, if_true, Sem.run_bind, g2, hp' xs, hp' ys, Result.andThen_ok, he]
              cases r1
              · simp
              · simpa using hr2
          · have hp : ∀ zs : List Value, off + ks1.length ≤ zs.length → (part f.type zs.toArray off).run P w = .ok (mkv P f.type ((zs.drop off).take ks1.length)) w := fun zs hz =>
              part_mkv hdf g4 g3 hz hag w
            have he := eq_run d f.type ks1 hk1 D (by omega) _ _ r1 q1 w
            simp only [Op.eqFields, g1, ne_eq, not_false_eq_true, if_true, Sem.run_bind, g2, hp xs (by omega), hp ys (by omega), Result.andThen_ok, he]
            cases r1
            · simp
            · simpa using hr2
      exact go fs.toList 0 ks h r (by simpa using hr)
    · rename_i len e hu
      simp only [Option.bind_eq_some_iff] at h
      obtain ⟨ks1, hk1, h⟩ := h
      obtain ⟨⟨g3, g4⟩, h⟩ := ite_some h
      simp only [Option.some.injEq] at h; subst h
      have ha : aggT P t = true := by simp [aggT, hu]
      simp only [mkv, ha, if_true]
      obtain ⟨i, hi⟩ := Option.isSome_iff_exists.1 g4
      rw [run_equalIn_array w D _ _ hu hi, g3]
      obtain ⟨df, hdf⟩ : ∃ df, P.underlying e = some df := by
        cases d with
        | zero => simp [cksOf] at hk1
        | succ d =>
          unfold cksOf at hk1
          cases hq : P.underlying e with
          | none => simp [hq] at hk1
          | some df => exact ⟨df, rfl⟩
      have hag : aggT P e = false → ks1.length = 1 := by
        intro hag
        cases d with
        | zero => simp [cksOf] at hk1
        | succ d =>
          unfold cksOf at hk1
          unfold aggT at hag
          rw [hdf] at hk1 hag
          cases df <;> simp at hk1 hag <;> subst hk1 <;> rfl
      have go : ∀ (n a : Nat) r, eqV (List.replicate n ks1).flatten (xs.drop (a * ks1.length)) (ys.drop (a * ks1.length)) = some r →
          (a + n) * ks1.length ≤ xs.length → (a + n) * ks1.length ≤ ys.length →
          (Op.eqItems D e ks1.length xs.toArray ys.toArray (List.range' a n)).run P w = .ok r w := by
        intro n
        induction n with
        | zero =>
          intro a r hr hx hy
          simp only [List.replicate_zero, List.flatten_nil] at hr
          have := eqV_length _ _ _ _ hr
          have e1 : xs.drop (a * ks1.length) = [] := List.length_eq_zero_iff.1 this.1
          have e2 : ys.drop (a * ks1.length) = [] := List.length_eq_zero_iff.1 this.2
          rw [e1, e2] at hr
          simp [eqV] at hr; subst hr
          simp [Op.eqItems]
        | succ n ih =>
          intro a r hr hx hy
          rw [List.replicate_succ, List.flatten_cons] at hr
          obtain ⟨r1, r2, q1, q2, rfl⟩ := eqV_split ks1 _ _ _ _ hr
          rw [List.drop_drop, List.drop_drop, show a * ks1.length + ks1.length = (a + 1) * ks1.length by rw [Nat.add_mul, Nat.one_mul]] at q2
          have hle : a * ks1.length + ks1.length ≤ (a + (n + 1)) * ks1.length := by
            rw [show a * ks1.length + ks1.length = (a + 1) * ks1.length by rw [Nat.add_mul, Nat.one_mul]]
            exact Nat.mul_le_mul_right _ (by omega)
          have hr2 := ih (a + 1) r2 q2 (by rw [show a + 1 + n = a + (n + 1) by omega]; exact hx) (by rw [show a + 1 + n = a + (n + 1) by omega]; exact hy)
          have hp : ∀ zs : List Value, a * ks1.length + ks1.length ≤ zs.length → (part e zs.toArray (a * ks1.length)).run P w = .ok (mkv P e ((zs.drop (a * ks1.length)).take ks1.length)) w := fun zs hz =>
            part_mkv hdf g4 g3 hz hag w
          have he := eq_run d e ks1 hk1 D (by omega) _ _ r1 q1 w
          simp only [List.range'_succ, Op.eqItems, Sem.run_bind, hp xs (by omega), hp ys (by omega), Result.andThen_ok, he]
          cases r1
          · simp
          · simpa using hr2
      have hl := eqV_length _ _ _ _ hr
      have hfl : (List.replicate len ks1).flatten.length = len * ks1.length := by simp
      have := go len 0 r (by simpa using hr) (by rw [Nat.zero_add]; omega) (by rw [Nat.zero_add]; omega)
      rwa [← List.range_eq_range'] at this
    · cases h
termination_by d => d
theorem eqV_of {G w} : ∀ (ks : List CK) (as bs : List AVal) (xs ys : List Value) (r : Bool), eqCells ks as bs = some r → xs.length = as.length → ys.length = bs.length →
    (∀ (j : Nat) Y, as[j]? = some Y → Rv G w Y (xs.getD j undef)) → (∀ (j : Nat) Y, bs[j]? = some Y → Rv G w Y (ys.getD j undef)) → eqV ks xs ys = some r
  | [], as, bs, xs, ys, r, h, h1, h2, _, _ => by
    cases as <;> cases bs <;> simp [eqCells] at h
    subst h
    have e1 : xs = [] := List.length_eq_zero_iff.1 (by simpa using h1)
    have e2 : ys = [] := List.length_eq_zero_iff.1 (by simpa using h2)
    subst e1; subst e2; rfl
  | k :: ks, as, bs, xs, ys, r, h, h1, h2, ha, hb => by
    cases as with
    | nil => cases k <;> simp [eqCells] at h
    | cons a as =>
    cases bs with
    | nil => cases k <;> cases a <;> simp [eqCells] at h
    | cons b bs =>
    cases xs with
    | nil => simp at h1
    | cons x xs =>
    cases ys with
    | nil => simp at h2
    | cons y ys =>
    have hx := ha 0 a rfl
    have hy := hb 0 b rfl
    simp only [List.getD_cons_zero] at hx hy
    have ih := fun r' h' => eqV_of ks as bs xs ys r' h' (by simpa using h1) (by simpa using h2) (fun j Y hj => by simpa using ha (j + 1) Y (by simpa using hj)) (fun j Y hj => by simpa using hb (j + 1) Y (by simpa using hj))
    cases k <;> cases a <;> cases b <;> simp only [eqCells, reduceCtorEq] at h
    · obtain ⟨⟨rfl, rfl⟩, hh⟩ := ite_some h
      obtain ⟨r', h', rfl⟩ := Option.map_eq_some_iff.1 hh
      rw [hx.int_inv, hy.int_inv]
      simp [eqV, ih r' h']
    · obtain ⟨r', h', rfl⟩ := Option.map_eq_some_iff.1 h
      rw [hx.str_inv, hy.str_inv]
      simp [eqV, ih r' h', toList_mk]
    · obtain ⟨r', h', rfl⟩ := Option.map_eq_some_iff.1 h
      rw [hx.bool_inv, hy.bool_inv]
      simp [eqV, ih r' h']
theorem agg_ok {op : BinOp} {t : TypeId} {d : Nat} {ks : List CK} (hk : cksOf P d t = some ks) (hd : d ≤ 10000) (hat : aggT P t = true) {G w} {a b : List AVal} {xv yv : Value}
    (hx : Rv G w (.agg a) xv) (hy : Rv G w (.agg b) yv) {V : AVal}
    (he : (match op with | BinOp.eql => (eqCells ks a b).map AVal.bool | BinOp.neq => (eqCells ks a b).map fun t => AVal.bool !t | _ => none) = some V) :
    ∃ v, (binOp op t xv yv).run P w = .ok v w ∧ Rv G w V v ∧ V.plain = true := by
  cases hx with
  | agg _ xa hxs hxv =>
  cases hy with
  | agg _ ya hys hyv =>
  have main : ∀ r, eqCells ks a b = some r → (Op.equal t (.agg xa) (.agg ya)).run P w = .ok r w := by
    intro r hr
    have h1 := eqV_of (G := G) (w := w) ks a b xa.toList ya.toList r hr (by simpa using hxs) (by simpa using hys)
      (fun j Y hY => by have := hxv j Y hY; simpa [List.getD, Array.getD_eq_getD_getElem?] using this) (fun j Y hY => by have := hyv j Y hY; simpa [List.getD, Array.getD_eq_getD_getElem?] using this)
    have h2 := eq_run d t ks hk 10000 hd _ _ r h1 w
    rw [show Op.equal t (.agg xa) (.agg ya) = Op.equalIn 10000 t (.agg xa) (.agg ya) from rfl]
    simpa [mkv, hat] using h2
  split at he
  · simp only [Option.map_eq_some_iff] at he
    obtain ⟨r, hr, rfl⟩ := he
    exact ⟨_, eql_run rfl (main r hr), .bool _, rfl⟩
  · simp only [Option.map_eq_some_iff] at he
    obtain ⟨r, hr, rfl⟩ := he
    exact ⟨_, neq_run rfl (main r hr), .bool _, rfl⟩
  · cases he
end
end Go.Abs
