import Derived.Test.YtheaccppdikjgaaGreatDoorKA
namespace Go.Abs
open Go
set_option linter.unusedVariables false
set_option linter.unusedSimpArgs false
section
variable {P : Program}
theorem toInt_ok {E G env tm fly H w} {src dst : TypeId} {k k0 : IntKind} {n : Int} (hs : (P.underlying src).isSome = true) (hd : P.underlying dst = some (.int k)) (h : St E G ⟨env, tm, fly, H⟩ w) :
  Does P E env tm (convert src dst (.int k0 n)) w (.int k (k.wrap n)) H := by
 obtain ⟨ds, hs⟩ := Option.isSome_iff_exists.1 hs
 refine Does.pure h (v := .int k (k.wrap n)) ?_ (.int _ _) rfl
 simp [convert, run_underlying hs, run_underlying hd, Conv.intToInt]
theorem strStr_ok {E G env tm fly H w} {src dst : TypeId} {s : List UInt8} (hs : P.underlying src = some .string) (hd : P.underlying dst = some .string) (h : St E G ⟨env, tm, fly, H⟩ w) :
  Does P E env tm (convert src dst (.string ⟨⟨s⟩⟩)) w (.str s) H := by
 refine Does.pure h (v := .string ⟨⟨s⟩⟩) ?_ (.str _) rfl
 simp [convert, run_underlying hs, run_underlying hd]
theorem part_ok {G w} {t : TypeId} {agg : Bool} {n off : Nat} {cs : List AVal} {V : AVal} {arr : Array Value} (ti : TI P t agg n) (hs : arr.size = cs.length)
  (hv : ∀ j Y, cs[j]? = some Y → Rv G w Y (arr.getD j undef)) (h : ldCells agg n (cs.drop off) = some V) :
  ∃ v, (part t arr off).run P w = .ok v w ∧ Rv G w V v ∧ V.plain = true := by
 obtain ⟨h1, h2, h3, h4⟩ := ld_vals (G := G) (w := w) (f := fun j => arr.getD (off + j) undef) h (fun j Y hY => by rw [drop_get] at hY; exact .ofRv (hv _ Y hY))
 refine ⟨_, ?_, h1, h2⟩
 rw [List.length_drop] at h3
 cases agg
 ·have := h4 rfl; subst this
  have hlt : off < arr.size := by omega
  simp [part, ti.isAgg, hlt]
 ·simp only [part, Sem.run_bind, ti.isAgg, Result.andThen_ok, if_true, ti.sizeOf, Sem.run_pure]
  congr 2
  apply Array.ext
  ·simp; omega
  ·intro i hi1 hi2
   simp at hi1 hi2
   simp [show off + i < arr.size by omega]
theorem field_ok {E G env tm H w} {xt : TypeId} {fs : Array Field} {f : Field} {fi : Nat} {agg : Bool} {n : Nat} (hu : P.underlying xt = some (.struct fs)) (hf : fs[fi]? = some f) (ti : TI P f.type agg n)
  {cs : List AVal} {xv : Value} {V : AVal} (h : St E G ⟨env, tm, [(.agg cs, xv)], H⟩ w) (he : ldCells agg n (cs.drop f.offset) = some V) :
  Does P E env tm (Instr.field xt xv fi) w V H := by
 cases (show Rv G w (.agg cs) xv from h.fly 0 _ xv rfl) with
 | agg _ arr hs hv =>
  obtain ⟨v, h1, h2, h3⟩ := part_ok ti hs hv he
  refine Does.pure h (v := v) ?_ h2 h3
  simp [Instr.field, run_underlying hu, hf, asAgg, h1]
theorem ixAgg_ok {E G env tm H w} {xt e : TypeId} {len : Nat} {agg : Bool} {sz : Nat} (hu : P.underlying xt = some (.array len e)) (ti : TI P e agg sz)
  {cs : List AVal} {xv : Value} {k : IntKind} {i : Int} (h0 : 0 ≤ i) (h1 : i < len) {V : AVal} {fly : List (AVal × Value)} (hfly : fly[0]? = some (.agg cs, xv)) (h : St E G ⟨env, tm, fly, H⟩ w)
  (he : ldCells agg sz (cs.drop (i.toNat * sz)) = some V) :
  Does P E env tm (Instr.index xt xv (.int k i)) w V H := by
 cases (show Rv G w (.agg cs) xv from h.fly 0 _ xv hfly) with
 | agg _ arr hs hv =>
  obtain ⟨v, g1, g2, g3⟩ := part_ok ti hs hv he
  refine Does.pure h (v := v) ?_ g2 g3
  simp [Instr.index, run_underlying hu, asIntOf, h0, h1, ti.sizeOf, g1]
theorem ixStr_ok {E G env tm fly H w} {xt : TypeId} (hu : P.underlying xt = some .string) {s : List UInt8} {k : IntKind} {i : Int} {b : UInt8} (h0 : 0 ≤ i) (hb : s[i.toNat]? = some b) (h : St E G ⟨env, tm, fly, H⟩ w) :
  Does P E env tm (Instr.index xt (.string ⟨⟨s⟩⟩) (.int k i)) w (.int .u8 (b.toNat : Int)) H := by
 refine Does.pure h (v := .int .u8 (b.toNat : Int)) ?_ (.int _ _) rfl
 have e : (⟨⟨s⟩⟩ : ByteArray)[i.toNat]? = some b := by
  have hl := (List.getElem?_eq_some_iff.1 hb)
  obtain ⟨h1, h2⟩ := hl
  rw [getElem?_pos (⟨⟨s⟩⟩ : ByteArray) i.toNat (by show _ < s.length; exact h1)]
  congr 1
 simp [Instr.index, run_underlying hu, asIntOf, h0, e]
theorem ixAddr_ok {E G env tm H w} {xt e : TypeId} {agg : Bool} {sz : Nat} (hu : P.underlying xt = some (.slice e)) (ti : TI P e agg sz)
  {xs : List AVal} {fl : Fl} {xv : Value} {k : IntKind} {i : Int} (h0 : 0 ≤ i) (hfl : fl ≠ .uniq) {X : AVal} (hX : xs[i.toNat]? = some X) {fly : List (AVal × Value)}
  (hfly : fly[0]? = some (.list sz xs fl, xv)) (h : St E G ⟨env, tm, fly, H⟩ w) :
  Does P E env tm (Instr.indexAt xt xv (.int k i)) w (.rptr X.cells) H := by
 have hr : Rv G w (.list sz xs fl) xv := (h.fly 0 _ xv hfly).arg (by cases fl <;> first | rfl | exact absurd rfl hfl)
 cases hr with
 | list _ _ _ b o len cap f g1 g2 g3 g4 g5 g6 g7 g8 =>
  have hil : i.toNat < len := by rw [← g1]; exact (List.getElem?_eq_some_iff.1 hX).1
  have hXs := g4 X (List.mem_of_getElem? hX)
  have hbd : ∀ j, j < sz → i.toNat * sz + j < len * sz := by
   intro j hj
   have : (i.toNat + 1) * sz ≤ len * sz := Nat.mul_le_mul_right _ (by omega)
   rw [Nat.add_mul] at this; omega
  refine Does.pure h (v := .pointer (some (at_ b (o + i.toNat * sz)))) ?_ (.rptr _ b (o + i.toNat * sz) (fun j => f (i.toNat * sz + j)) (fun j Y hY => g5 _ X j Y hX hY) ?_ ?_) rfl
  ·have hil' : i < len := by omega
   simp [Instr.indexAt, run_underlying hu, asIntOf, h0, hil', ti.sizeOf, add_at]
  ·intro j hj
   have := g6 _ (hbd j (by omega)); rwa [← Nat.add_assoc] at this
  ·intro j hj
   have := g7 _ (hbd j (by omega)); rwa [← Nat.add_assoc] at this
 | nilList => simp at hX
theorem ixBox_ok {E G env tm H w} {xt e : TypeId} {agg : Bool} {sz : Nat} (hu : P.underlying xt = some (.slice e)) (ti : TI P e agg sz)
  {id : Nat} {xs : List AVal} {xv : Value} {k : IntKind} {i : Int} (h0 : 0 ≤ i) (hi : i < xs.length) (hH : H[id]? = some (.arr sz xs)) {fly : List (AVal × Value)}
  (hfly : fly[0]? = some (.lbox id, xv)) (h : St E G ⟨env, tm, fly, H⟩ w) :
  Does P E env tm (Instr.indexAt xt xv (.int k i)) w (.eptr id i.toNat 0) H := by
 have hr : Rv G w (.lbox id) xv := h.fly 0 _ xv hfly
 obtain ⟨hsz, hru⟩ := h.box id _ hH
 cases hr with
 | lbox _ hid hs =>
  rcases hru with ⟨rfl, _⟩ | ⟨b, o, len, cap, f, hsl, g1, g2, g3, g4, g5, g6⟩
  ·simp at hi; omega
  ·have he := Rv.eptr (G := G) (w := w) id i.toNat 0 b o len cap hid hsl
   rw [hsl]
   refine Does.pure h (v := .pointer (some (at_ b (o + i.toNat * sz)))) ?_ (by rw [hsz] at he; simpa using he) rfl
   have hil' : i < len := by omega
   simp [Instr.indexAt, run_underlying hu, asIntOf, h0, hil', ti.sizeOf, add_at]
theorem Rv.addOff {G w x xv V d} (hx : Rv G w x xv) (h : addO d x = some V) : ∃ b o, xv = .pointer (some (at_ b o)) ∧ Rv G w V (.pointer (some (at_ b (o + d)))) ∧ V.plain = true := by
 cases hx <;> simp only [addO, Option.some.injEq, reduceCtorEq] at h <;> subst h
 ·exact ⟨_, _, rfl, .ptr _ _ ‹_›, rfl⟩
 ·rename_i id i j b o len cap hid hs
  refine ⟨_, _, rfl, ?_, rfl⟩
  have := Rv.eptr (G := G) (w := w) id i (j + d) b o len cap hid hs
  rwa [show o + i * G.sz id + (j + d) = o + i * G.sz id + j + d by omega] at this
 ·rename_i cs b o f hv hm hd
  refine ⟨_, _, rfl, .rptr _ b (o + d) (fun j => f (d + j)) (fun j Y hY => hv _ Y (by rwa [List.getElem?_drop] at hY)) (fun j hj => ?_) (fun j hj => ?_), rfl⟩
  ·have := hm (d + j) (by simp at hj; omega); rwa [← Nat.add_assoc] at this
  ·have := hd (d + j) (by simp at hj; omega); rwa [← Nat.add_assoc] at this
theorem addOff_ok {E G env tm H w} {st : TypeId} {fs : Array Field} {f : Field} {fi : Nat} {agg : Bool} {n : Nat} (hu : P.underlying st = some (.struct fs)) (hf : fs[fi]? = some f) (ti : TI P f.type agg n) (hn : n ≠ 0)
  {x : AVal} {xv : Value} {V : AVal} (h : St E G ⟨env, tm, [(x, xv)], H⟩ w)
  (he : addO f.offset x = some V) : Does P E env tm (Instr.fieldAt st xv fi) w V H := by
 have hx : Rv G w x xv := (h.fly 0 x xv rfl).arg (by cases x <;> first | rfl | cases he)
 obtain ⟨b, o, rfl, hV, hp⟩ := hx.addOff he
 refine Does.pure h ?_ hV hp
 simp [Instr.fieldAt, run_underlying hu, hf, Instr.sureAddr, fieldPlace, ti.sizeOf, hn, add_at]
theorem ixArr_ok {E G env tm fly H w} {xt e : TypeId} {len : Nat} {agg : Bool} {sz : Nat} (hu : P.underlying xt = some (.array len e)) (ti : TI P e agg sz)
  {x : AVal} {xv : Value} {k : IntKind} {i : Int} (h0 : 0 ≤ i) (hi : i < len) {V : AVal} (hfly : fly[0]? = some (x, xv)) (h : St E G ⟨env, tm, fly, H⟩ w)
  (he : addO (i.toNat * sz) x = some V) : Does P E env tm (Instr.indexAt xt xv (.int k i)) w V H := by
 have hx : Rv G w x xv := (h.fly 0 x xv hfly).arg (by cases x <;> first | rfl | cases he)
 obtain ⟨b, o, rfl, hV, hp⟩ := hx.addOff he
 refine Does.pure h ?_ hV hp
 simp [Instr.indexAt, run_underlying hu, asIntOf, Instr.sureAddr, h0, hi, ti.sizeOf, add_at]
theorem len_list_ok {E G env tm fly H w} {t e ty : TypeId} (hu : P.underlying t = some (.slice e)) {sz : Nat} {xs : List AVal} {fl : Fl} {xv : Value} (hfly : fly[0]? = some (.list sz xs fl, xv)) (h : St E G ⟨env, tm, fly, H⟩ w) :
  Does P E env tm (Builtin.len_ #[t] ty #[xv]) w (.int .i64 xs.length) H := by
 have hx := h.fly 0 _ xv hfly
 obtain ⟨a, c, rfl⟩ : ∃ a c, xv = .slice a xs.length c := by
  by_cases hq : fl = .uniq
  ·subst hq
   rcases (show RU G w sz xs xv from hx) with ⟨rfl, rfl⟩ | ⟨b, o, len, cap, f, rfl, rfl, _⟩ <;> exact ⟨_, _, rfl⟩
  ·have hr : Rv G w (.list sz xs fl) xv := hx.arg (by cases fl <;> first | rfl | exact absurd rfl hq)
   cases hr with
   | list _ _ _ b o len cap f g1 => subst g1; exact ⟨_, _, rfl⟩
   | nilList => exact ⟨_, _, rfl⟩
 refine Does.pure h (v := .int .i64 xs.length) ?_ (.int _ _) rfl
 simp [Builtin.len_, run_underlying hu, goInt]
theorem len_str_ok {E G env tm fly H w} {t ty : TypeId} (hu : P.underlying t = some .string) {s : List UInt8} (h : St E G ⟨env, tm, fly, H⟩ w) :
  Does P E env tm (Builtin.len_ #[t] ty #[.string ⟨⟨s⟩⟩]) w (.int .i64 s.length) H := by
 refine Does.pure h (v := .int .i64 s.length) ?_ (.int _ _) rfl
 simp [Builtin.len_, run_underlying hu, goInt, size_mk]
theorem len_box_ok {E G env tm fly H w} {t e ty : TypeId} (hu : P.underlying t = some (.slice e)) {id sz : Nat} {xs : List AVal} {xv : Value} (hH : H[id]? = some (.arr sz xs)) (hfly : fly[0]? = some (.lbox id, xv)) (h : St E G ⟨env, tm, fly, H⟩ w) :
  Does P E env tm (Builtin.len_ #[t] ty #[xv]) w (.int .i64 xs.length) H := by
 have hr : Rv G w (.lbox id) xv := h.fly 0 _ xv hfly
 obtain ⟨hsz, hru⟩ := h.box id _ hH
 cases hr with
 | lbox _ hid hs =>
  refine Does.pure h (v := .int .i64 xs.length) ?_ (.int _ _) rfl
  rcases hru with ⟨rfl, hsl⟩ | ⟨b, o, len, cap, f, hsl, g1, _⟩
  ·simp [Builtin.len_, run_underlying hu, goInt, hsl]
  ·simp [Builtin.len_, run_underlying hu, goInt, hsl, g1]
end
end Go.Abs
