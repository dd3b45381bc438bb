import Derived.Test.YtheaccppdikjgaaGreatDoorK21m
namespace Go.Abs
open Go
set_option linter.unusedVariables false
set_option linter.unusedSimpArgs false
mutual
def chkVal : AVal → Value → Bool
 | .bool b, .bool c => b == c
 | .int k n, .int k' m => decide (k = k') && decide (n = m)
 | .str s, .string b => decide (b.data.toList = s)
 | .nilp, .pointer none => true
 | .list _ [] .full, .slice none 0 0 => true
 | .list _ [] .ro, .slice none 0 0 => true
 | .nilfn, .nilFunc => true
 | .niliface, .nilIface => true
 | .map none, .map none => true
 | .agg cs, .agg arr => chkVals cs arr.toList
 | .fn f [] [], .func (.func g) a b => f == g && a.isEmpty && b.isEmpty
 | _, _ => false
def chkVals : List AVal → List Value → Bool
 | [], [] => true
 | V :: Vs, v :: vs => chkVal V v && chkVals Vs vs
 | _, _ => false
end
mutual
theorem chkVal_rv : ∀ (V : AVal) (v : Value), chkVal V v = true → (∀ G w, Rv G w V v) ∧ V.plain = true
 | .bool _, v, h => by
  cases v <;> simp only [chkVal, Bool.false_eq_true, beq_iff_eq] at h
  subst h; exact ⟨fun _ _ => .bool _, rfl⟩
 | .int _ _, v, h => by
  cases v <;> simp only [chkVal, Bool.false_eq_true, Bool.and_eq_true, decide_eq_true_eq] at h
  obtain ⟨rfl, rfl⟩ := h; exact ⟨fun _ _ => .int _ _, rfl⟩
 | .str _, v, h => by
  cases v <;> simp only [chkVal, Bool.false_eq_true, decide_eq_true_eq] at h
  subst h; exact ⟨fun _ _ => .str _, rfl⟩
 | .nilp, v, h => by
  cases v with
  | pointer p =>
   cases p with
   | none => exact ⟨fun _ _ => .nilp, rfl⟩
   | some p => simp [chkVal] at h
  | _ => simp [chkVal] at h
 | .list sz xs fl, v, h => by
  unfold chkVal at h
  split at h <;> first | (cases h; done) | skip
  all_goals (rename_i h1; first | (cases h1; exact ⟨fun _ _ => .nilList _ _, rfl⟩) | simp_all)
 | .nilfn, v, h => by
  cases v <;> simp only [chkVal, Bool.false_eq_true] at h
  exact ⟨fun _ _ => .nilfn, rfl⟩
 | .niliface, v, h => by
  cases v <;> simp only [chkVal, Bool.false_eq_true] at h
  exact ⟨fun _ _ => .niliface, rfl⟩
 | .map m, v, h => by
  cases m with
  | some m => simp [chkVal] at h
  | none =>
   cases v with
   | map r =>
    cases r with
    | none => exact ⟨fun _ _ => .nilmap, rfl⟩
    | some r => simp [chkVal] at h
   | _ => simp [chkVal] at h
 | .agg cs, v, h => by
  cases v <;> simp only [chkVal, Bool.false_eq_true] at h
  rename_i arr
  obtain ⟨h1, h2⟩ := chkVals_rv cs _ h
  refine ⟨fun G w => .agg cs arr (by simpa using h1.symm) (fun j Y hY => ?_), rfl⟩
  have hj : j < arr.size := by have := (List.getElem?_eq_some_iff.1 hY).1; simp at h1; omega
  have := (h2 j Y (arr.getD j undef) hY (by simp [hj])).1
  exact this G w
 | .fn f a b, v, h => by
  cases a with
  | cons _ _ => simp [chkVal] at h
  | nil =>
  cases b with
  | cons _ _ => simp [chkVal] at h
  | nil =>
  cases v with
  | func fn a b => ?_
  | _ => simp [chkVal] at h
  cases fn with
  | func g => ?_
  | _ => simp [chkVal] at h
  simp only [chkVal, Bool.and_eq_true, beq_iff_eq] at h
  obtain ⟨⟨rfl, h1⟩, h2⟩ := h
  simp only [Array.isEmpty_iff] at h1 h2
  subst h1; subst h2
  exact ⟨fun _ _ => .fn _ [] [] _ _ rfl rfl (fun j Y hY => by simp at hY) (fun j Y hY => by simp at hY), rfl⟩
 | .any, v, h => by simp [chkVal] at h
 | .ptr _ _, v, h => by simp [chkVal] at h
 | .eptr _ _ _, v, h => by simp [chkVal] at h
 | .rptr _, v, h => by simp [chkVal] at h
 | .lbox _, v, h => by simp [chkVal] at h
 | .lcut _ _, v, h => by simp [chkVal] at h
 | .tuple _, v, h => by simp [chkVal] at h
 | .iface _ _, v, h => by simp [chkVal] at h
 | .meth _ _, v, h => by simp [chkVal] at h
theorem chkVals_rv : ∀ (Vs : List AVal) (vs : List Value), chkVals Vs vs = true → Vs.length = vs.length ∧ ∀ (j : Nat) V v, Vs[j]? = some V → vs[j]? = some v → (∀ G w, Rv G w V v) ∧ V.plain = true
 | [], [], _ => ⟨rfl, fun j V v hV _ => by simp at hV⟩
 | V :: Vs, v :: vs, h => by
  simp only [chkVals, Bool.and_eq_true] at h
  obtain ⟨h1, h2⟩ := chkVals_rv Vs vs h.2
  refine ⟨by simp [h1], fun j V' v' hV hv => ?_⟩
  cases j with
  | zero => simp at hV hv; subst hV; subst hv; exact chkVal_rv _ _ h.1
  | succ j => exact h2 j V' v' (by simpa using hV) (by simpa using hv)
 | [], _ :: _, h => by simp [chkVals] at h
 | _ :: _, [], h => by simp [chkVals] at h
end
def chkZW (P : Program) (t : TypeId) (zero : AVal) : Bool :=
 match P.info? t with
 | some i => match i.zero with
  | some z => match zero, z with
   | .agg cs, .agg arr => chkVals cs arr.toList
   | x, z => chkVals [x] [z]
  | none => false
 | none => false
theorem chkZW_zw {P : Program} {t} {zero : AVal} (h : chkZW P t zero = true) : ZW P t zero := by
 unfold chkZW at h
 split at h
 ·rename_i i hi
  split at h
  ·rename_i z hz
   split at h
   ·rename_i cs arr
    obtain ⟨h1, h2⟩ := chkVals_rv _ _ h
    refine ⟨i, _, hi, hz, fun G w => .agg _ _ (by simpa using h1.symm) fun j Y hY => ?_⟩
    have hj : j < arr.size := by have := (List.getElem?_eq_some_iff.1 hY).1; simp at h1; omega
    exact (h2 j Y (arr.getD j undef) hY (by simp [hj])).1 G w
   ·obtain ⟨_, h2⟩ := chkVals_rv _ _ h
    exact ⟨i, _, hi, hz, (h2 0 _ _ rfl rfl).1⟩
  ·cases h
 ·cases h
def chkZero (P : Program) (t : TypeId) (cs : List AVal) (n : Nat) : Bool :=
 match P.info? t with
 | some i => match i.zero with
  | some z => i.size == n && cs.length == n && chkVals cs z.cells.toList && z.cells.all Value.oneCell'
  | none => false
 | none => false
theorem chkZero_zi {P : Program} {t cs n} {zero : AVal} (h : chkZero P t cs n = true) (hz : zero.cells = cs) : ZI P t zero n := by
 unfold chkZero at h
 split at h
 ·rename_i i hi
  split at h
  ·rename_i z hz'
   simp only [Bool.and_eq_true, beq_iff_eq] at h
   obtain ⟨⟨⟨h1, h2⟩, h3⟩, h4⟩ := h
   obtain ⟨h5, h6⟩ := chkVals_rv _ _ h3
   refine ⟨i, z, hi, hz', h1, by simp at h5; omega, by rw [hz]; exact h2, fun j Y hY => ?_⟩
   rw [hz] at hY
   have hj : j < z.cells.size := by have := (List.getElem?_eq_some_iff.1 hY).1; simp at h5; omega
   have := h6 j Y (z.cells.getD j undef) hY (by simp [hj])
   refine ⟨this.1, this.2, ?_⟩
   have h4' := (Array.all_eq_true.1 h4) j hj
   simpa [hj] using h4'
  ·cases h
 ·cases h
def absC : Value → AVal
 | .bool b => .bool b
 | .int k n => .int k n
 | .string s => .str s.data.toList
 | .pointer none => .nilp
 | .slice none 0 0 => .list 0 [] .full
 | .nilFunc => .nilfn
 | .nilIface => .niliface
 | .map none => .map none
 | _ => .any
def zeroOf (P : Program) (t : TypeId) : List AVal :=
 match P.info? t with
 | some i => match i.zero with
  | some z => z.cells.toList.map absC
  | none => []
 | none => []
def typeSz (P : Program) (t : TypeId) (n : Nat) : Bool := typeOK P t true n || typeOK P t false n
theorem typeSz_ti {P t n} (h : typeSz P t n = true) : ∃ agg, TI P t agg n := by
 unfold typeSz at h
 rw [Bool.or_eq_true] at h
 rcases h with h | h <;> exact ⟨_, typeOK_ti h⟩
def elemOf (P : Program) (t : TypeId) : Option TypeId :=
 match P.underlying t with
 | some (.slice e) => some e
 | _ => none
theorem elemOf_eq {P t e} (h : elemOf P t = some e) : P.underlying t = some (.slice e) := by
 unfold elemOf at h
 split at h
 ·cases h; assumption
 ·cases h
def isStr (P : Program) (t : TypeId) : Bool := match P.underlying t with | some .string => true | _ => false
theorem isStr_eq {P t} (h : isStr P t = true) : P.underlying t = some .string := by
 unfold isStr at h
 split at h
 ·assumption
 ·cases h
def isByte (P : Program) (t : TypeId) : Bool := match P.underlying t with | some (.int .u8) => true | _ => false
theorem isByte_eq {P t} (h : isByte P t = true) : P.underlying t = some (.int .u8) := by
 unfold isByte at h
 split at h
 ·assumption
 ·cases h
def isInt (P : Program) (t : TypeId) (k : IntKind) : Bool := match P.underlying t with | some (.int k') => decide (k' = k) | _ => false
theorem isInt_eq {P t k} (h : isInt P t k = true) : P.underlying t = some (.int k) := by
 unfold isInt at h
 split at h
 ·rename_i k' hk; simp only [decide_eq_true_eq] at h; rw [← h]; exact hk
 ·cases h
def fieldOf (P : Program) (t : TypeId) (fi : Nat) : Option Field :=
 match P.underlying t with
 | some (.struct fs) => fs[fi]?
 | _ => none
theorem fieldOf_eq {P t fi f} (h : fieldOf P t fi = some f) : ∃ fs, P.underlying t = some (.struct fs) ∧ fs[fi]? = some f := by
 unfold fieldOf at h
 split at h
 ·exact ⟨_, ‹_›, h⟩
 ·cases h
def arrOf (P : Program) (t : TypeId) : Option (Nat × TypeId) :=
 match P.underlying t with
 | some (.array n e) => some (n, e)
 | _ => none
theorem arrOf_eq {P t n e} (h : arrOf P t = some (n, e)) : P.underlying t = some (.array n e) := by
 unfold arrOf at h
 split at h
 ·cases h; assumption
 ·cases h
def placesOf (P : Program) (t : TypeId) : Option (Nat → Option (Nat × Nat)) :=
 match P.underlying t with
 | some (.struct fs) => (fs.toList.mapM fun f => (P.info? f.type).map fun i => (f.offset, i.size)).map fun ps i => ps[i]?
 | some (.array _ e) => (P.info? e).map fun ie i => some (i * ie.size, ie.size)
 | _ => none
theorem placesOf_ok {P : Program} {t : TypeId} {place : Nat → Option (Nat × Nat)} (h : placesOf P t = some place) (z : Value) (i : TypeInfo) (parts : List (Nat × Value)) (cells : Array Value)
  (hi : P.info? t = some i) (hz : i.zero = some z) (hf : Instr.fill place z.cells parts = some cells) : P.built t parts = some cells := by
 unfold placesOf at h
 unfold Program.built
 split at h
 ·rename_i fs hu
  obtain ⟨ps, hp, rfl⟩ := Option.map_eq_some_iff.1 h
  simp only [hi, hu, hz, hp]
  rw [show (fun i => ps[i]?) = fun x => ps.toArray[x]? by funext x; simp] at hf
  exact hf
 ·rename_i n e hu
  obtain ⟨ie, hie, rfl⟩ := Option.map_eq_some_iff.1 h
  simp only [hi, hu, hz, hie]
  exact hf
 ·cases h
def chkPlaces (place : Nat → Option (Nat × Nat)) : List (Nat × Operand) → List (Nat × Nat) → Bool
 | [], [] => true
 | (i, _) :: ix, p :: ps => (match place i with | some q => q.1 == p.1 && q.2 == p.2 | none => false) && chkPlaces place ix ps
 | _, _ => false
theorem chkPlaces_eq {place : Nat → Option (Nat × Nat)} : ∀ {ix : List (Nat × Operand)} {ps : List (Nat × Nat)}, chkPlaces place ix ps = true → (ix.map (·.1)).map place = ps.map some
 | [], [], _ => rfl
 | (i, x) :: ix, p :: ps, h => by
  simp only [chkPlaces, Bool.and_eq_true] at h
  obtain ⟨h1, h2⟩ := h
  have := chkPlaces_eq h2
  simp only [List.map_cons, this, List.cons.injEq, and_true]
  split at h1
  ·rename_i q hq
   simp only [Bool.and_eq_true, beq_iff_eq] at h1
   rw [hq, show q = p from Prod.ext h1.1 h1.2]
  ·cases h1
 | [], _ :: _, h => by simp [chkPlaces] at h
 | _ :: _, [], h => by simp [chkPlaces] at h
def mapOfT (P : Program) (t : TypeId) (k : IntKind) : Option TypeId :=
 match P.underlying t with
 | some (.map kt et) => if isInt P kt k then some et else none
 | _ => none
theorem mapOfT_eq {P : Program} {t k et} (h : mapOfT P t k = some et) : ∃ kt, P.underlying t = some (.map kt et) ∧ P.underlying kt = some (.int k) := by
 unfold mapOfT at h
 split at h
 ·rename_i kt et' hu
  split at h
  ·rename_i hi
   simp only [Option.some.injEq] at h; subst h
   exact ⟨kt, hu, isInt_eq hi⟩
  ·cases h
 ·cases h
def plainT (P : Program) (t : TypeId) : Bool := match P.underlying t with | some (.int _) => true | some .string => true | some .bool => true | _ => false
def keyTy (P : Program) (kt : TypeId) : KD → Bool
 | .str => isStr P kt
 | .agg ks => (match cksOf P 2 kt with | some ks' => decide (ks' = ks) | none => false) && (match P.underlying kt with | some (.struct fs) => fs.toList.all (fun f => plainT P f.type) | _ => false)
def mapOfG (P : Program) (t : TypeId) (kd : KD) : Option TypeId :=
 match P.underlying t with
 | some (.map kt et) => if keyTy P kt kd then some et else none
 | _ => none
theorem mapOfG_eq {P : Program} {t kd et} (h : mapOfG P t kd = some et) : ∃ kt, P.underlying t = some (.map kt et) ∧ keyTy P kt kd = true := by
 unfold mapOfG at h
 split at h
 ·rename_i kt et' hu
  split at h
  ·rename_i hi
   simp only [Option.some.injEq] at h; subst h
   exact ⟨kt, hu, hi⟩
  ·cases h
 ·cases h
def methOK (P : Program) (t : TypeId) (m : String) (f : FuncId) : Bool :=
 match P.info? t with
 | some i => match i.methods.find? (·.name == m) with
  | some r => r.path.isEmpty && (match r.func, P.underlying t with
   | some (g, ptr), some (.pointer _) => g == f && ptr
   | some (g, ptr), some _ => g == f && !ptr
   | _, _ => false)
  | none => false
 | none => false
def chkK (P : Program) (op : Op) (k : K) : Bool :=
 match op, k with
 | .move _, .move => true
 | .assign _, .move => true
 | .pick _ _ _, .pick => true
 | .alloc t, .alloc cs => chkZero P t cs cs.length
 | .box _ _, .box => true
 | .build t parts, .build zero ps => chkZero P t zero zero.length && (match placesOf P t with | some pl => chkPlaces pl parts.toList ps | none => false)
 | .buildSlice t len parts, .buildSlice sz zero len' ix =>
  (match elemOf P t with
   | some e => len == len' && decide (parts.toList.map (·.1) = ix) && typeSz P e sz && (len == 0 || chkZero P e zero.cells sz) && decide (0 < sz) && decide (len * sz ≤ 16777216)
   | none => false)
 | .load t _, .load agg n _ => typeOK P t agg n
 | .store t _ _, .store n => typeSz P t n
 | .nilCheck _, .nilCheck => true
 | .binOp op t _ _ _, .bin op' bk => decide (op = op') &&
  (match bk with
   | .plain => true
   | .bool => (match P.underlying t with | some .bool => true | _ => false)
   | .ptr => (match P.underlying t with | some (.pointer _) => true | _ => false)
   | .agg ks => (match cksOf P 20 t with | some ks' => decide (ks' = ks) | none => false) && aggT P t && !P.eqGuardType P.depth t)
 | .unOp op _ _, .un op' => decide (op = op')
 | .convert src dst _, .toInt k => (P.underlying src).isSome && isInt P dst k
 | .convert src dst _, .toStr => (match elemOf P src with | some e => isByte P e | none => false) && isStr P dst
 | .convert src dst _, .strStr => isStr P src && isStr P dst
 | .convert src dst _, .toBytes => (P.underlying src).isSome && (match elemOf P dst with | some e => isByte P e | none => false)
 | .makeFunc (.func f) first _, .mkfn f' n => f == f' && n == first.size
 | .makeSlice t _ _, .mkslice sz zero bytes =>
  (match elemOf P t with
   | some e => (match P.info? e with | some i => i.bytes == bytes | none => false) && chkZero P e zero.cells sz && decide (0 < bytes)
   | none => false)
 | .slice t _ lo hi mx, .slice sz l h m => (match elemOf P t with | some e => typeSz P e sz | none => false) && lo.isSome == l && hi.isSome == h && mx.isSome == m
 | .slice t _ lo hi mx, .sslice l h => isStr P t && lo.isSome == l && hi.isSome == h && mx.isNone
 | .fieldAddr t _ fi, .addOff off =>
  (match fieldOf P t fi with
   | some f => f.offset == off && (match P.info? f.type with | some i => i.size != 0 && typeSz P f.type i.size | none => false)
   | none => false)
 | .field t _ fi, .field agg off n => (match fieldOf P t fi with | some f => f.offset == off && typeOK P f.type agg n | none => false)
 | .indexAddr t _ _, .ixAddr sz => (match elemOf P t with | some e => typeSz P e sz | none => false)
 | .indexAddr t _ _, .ixArr len sz => (match arrOf P t with | some (n, e) => n == len && typeSz P e sz | none => false)
 | .index t _ _, .ixStr => isStr P t
 | .index t _ _, .ixAgg agg len sz => (match arrOf P t with | some (n, e) => n == len && typeOK P e agg sz | none => false)
 | .call c, .append sz bytes _ =>
  (match c.callee, c.argTypes.toList, c.args.toList with
   | .builtin .append, [t, tx], [_, _] =>
    (match elemOf P t with
    | some e => (elemOf P tx).isSome && (match P.info? e with | some i => i.bytes == bytes | none => false) && decide (0 < bytes) && decide (bytes ≤ 1048576) && decide (0 < sz) && chkZero P e (zeroOf P e) sz
    | none => false)
   | _, _, _ => false)
 | .call c, .appendStr bytes _ =>
  (match c.callee, c.argTypes.toList, c.args.toList with
   | .builtin .append, [t, tx], [_, _] =>
    (match elemOf P t with
    | some e => isStr P tx && (match P.info? e with | some i => i.bytes == bytes | none => false) && decide (0 < bytes) && decide (bytes ≤ 1048576) && chkZero P e (zeroOf P e) 1
    | none => false)
   | _, _, _ => false)
 | .call c, .len s =>
  (match c.callee, c.argTypes.toList, c.args.toList with
   | .builtin .len, [t], [_] => if s then isStr P t else (elemOf P t).isSome
   | _, _, _ => false)
 | .call c, .mm isMax => (match c.callee with | .builtin .max => isMax | .builtin .min => !isMax | _ => false)
 | .call c, .call f _ => (match c.callee with | .value (.func g) => f == g | _ => false)
 | .call c, .callv => (match c.callee with | .value (.tmp _) => true | _ => false)
 | .call c, .cap =>
  (match c.callee, c.argTypes.toList, c.args.toList with
   | .builtin .cap, [t], [_] => (elemOf P t).isSome
   | _, _, _ => false)
 | .slice t _ lo hi mx, .lslice sz => (match elemOf P t with | some e => typeSz P e sz | none => false) && lo.isSome && hi.isNone && mx.isNone
 | .call c, .clear sz zero =>
  (match c.callee, c.argTypes.toList, c.args.toList with
   | .builtin .clear, [t], [_] => (match elemOf P t with | some e => decide (0 < sz) && chkZero P e zero.cells sz | none => false)
   | _, _, _ => false)
 | .slice t _ lo hi mx, .cut sz => (match elemOf P t with | some e => typeSz P e sz | none => false) && lo.isNone && hi.isSome && mx.isNone
 | .call c, .grow sz zero bytes =>
  (match c.callee, c.argTypes.toList, c.args.toList with
   | .builtin .append, [t, tn], [_, _] =>
    (match elemOf P t with
    | some e => (match P.underlying tn with | some (.int _) => true | _ => false) && (match P.info? e with | some i => i.bytes == bytes | none => false) && decide (0 < bytes) && decide (bytes ≤ 1048576) && decide (0 < sz) && chkZero P e zero.cells sz
    | none => false)
   | _, _, _ => false)
 | .buildSlice t len parts, .buildU sz zero len' ix =>
  (match elemOf P t with
   | some e => len == len' && decide (parts.toList.map (·.1) = ix) && typeSz P e sz && (len == 0 || chkZero P e zero.cells sz) && decide (0 < sz) && decide (len * sz ≤ 16777216)
   | none => false)
 | .convert src dst _, .mark => decide (src = dst) && (match elemOf P dst with | some e => isByte P e | none => false)
 | .makeMap _ r, .mkmap => r.isNone
 | .lookup t _ _ ok, .lookup k zero ok' => ok == ok' && (match mapOfT P t k with | some et => chkZW P et zero | none => false)
 | .mapUpdate t _ _ _, .mapSet k => (mapOfT P t k).isSome
 | .insert t _ _ _, .mapSet k => (mapOfT P t k).isSome
 | .makeFunc (.method m) a b, .mkmeth m' => decide (m = m') && a.size == 1 && b.size == 0
 | .nilCheck _, .methCheck m tb => tb.all fun q => methOK P q.1 m q.2
 | .call c, .invoke tb => (match c.callee with | .invoke (.tmp _) m => tb.all fun q => methOK P q.1 m q.2 | _ => false)
 | .binOp op t _ y _, .isNil neg => ((decide (op = .eql) && !neg) || (decide (op = .neq) && neg)) && (match y with | .const .nilIface => true | _ => false) && (match P.underlying t with | some (.interface _) => true | _ => false)
 | .lookup t _ _ ok, .lookupG kd zero ok' => ok == ok' && (match mapOfG P t kd with | some et => chkZW P et zero | none => false)
 | .mapUpdate t _ _ _, .mapSetG kd => (mapOfG P t kd).isSome
 | .insert t _ _ _, .mapSetG kd => (mapOfG P t kd).isSome
 | .call c, .delG kd =>
  (match c.callee, c.argTypes.toList, c.args.toList with
   | .builtin .delete, t :: _, [_, _] => (mapOfG P t kd).isSome
   | _, _, _ => false)
 | .call c, .lenM =>
  (match c.callee, c.argTypes.toList, c.args.toList with
   | .builtin .len, [t], [_] => (match P.underlying t with | some (.map _ _) => true | _ => false)
   | _, _, _ => false)
 | .convert src dst _, .runeStr => (match P.underlying src with | some (.int _) => true | _ => false) && isStr P dst
 | .range t _, .srange => isStr P t
 | .next _ b, .snext => b
 | .build t parts, .buildF zero ps => chkZero P t zero zero.length && (match placesOf P t with | some pl => chkPlaces pl parts.toList ps | none => false)
 | _, .bad => true
 | .makeInterface t _, .mkiface t' => t == t' && (match P.underlying t with | some (.interface _) => false | some _ => true | none => false)
 | _, _ => false
def opds (op : Op) : List Operand :=
 match op with
 | .call c => (match c.callee with
  | .value (.func _) => c.args.toList
  | _ => c.operands.toList)
 | op => op.operands.toList
def chkOpd (nt : Nat) : Operand → Opd → Bool
 | .tmp t, .tmp t' _ => t == t'
 | .const v, .val V => chkVal V v
 | .func f, .val (.fn g [] []) => f == g
 | _, _ => false
def chkOpds (nt : Nat) : List Operand → List Opd → Bool
 | [], [] => true
 | x :: xs, y :: ys => chkOpd nt x y && chkOpds nt xs ys
 | _, _ => false
def tmOf (a : Act) : Nat → Value := fun t => a.tmps.getD t undef
theorem own0_plain {V : AVal} (h : V.plain = true) (v : Value) : own0 V v = none := by
 cases V <;> simp only [own0]
 rename_i fl; cases fl <;> first | rfl | simp [AVal.plain] at h
theorem chkOpd_ok {nt : Nat} {x : Operand} {y : Opd} (h : chkOpd nt x y = true) (a : Act) : opdv (tmOf a) y (a.eval x) := by
 unfold chkOpd at h
 split at h
 ·simp only [beq_iff_eq] at h; subst h; rfl
 ·obtain ⟨h1, h2⟩ := chkVal_rv _ _ h
  exact ⟨h1, AVal.plain_isU h2, own0_plain h2 _⟩
 ·simp only [beq_iff_eq] at h; subst h
  exact ⟨fun _ _ => .fn _ [] [] _ _ rfl rfl (fun j Y hY => by simp at hY) (fun j Y hY => by simp at hY), rfl, rfl⟩
 ·cases h
theorem rds_ok {E G H w} {nt : Nat} (a : Act) : ∀ (xs : List Operand) (ys : List Opd) (e e' : Env) (fly : List (AVal × Value)) (Vs : List AVal), chkOpds nt xs ys = true → e.rds ys = some (Vs, e') →
  St E G ⟨e.get, tmOf a, fly, H⟩ w → Vs.length = xs.length ∧ St E G ⟨e'.get, tmOf a, fly ++ Vs.zip (xs.map a.eval), H⟩ w
 | [], [], e, e', fly, Vs, _, hr, h => by
  simp only [Env.rds, Option.some.injEq, Prod.mk.injEq] at hr
  obtain ⟨rfl, rfl⟩ := hr
  exact ⟨rfl, by simpa using h⟩
 | x :: xs, y :: ys, e, e', fly, Vs, hc, hr, h => by
  simp only [chkOpds, Bool.and_eq_true] at hc
  simp only [Env.rds] at hr
  obtain ⟨V, hV, hr⟩ := Option.bind_eq_some_iff.1 hr
  obtain ⟨⟨Vs', e1⟩, hr1, hr2⟩ := Option.map_eq_some_iff.1 hr
  simp only [Prod.mk.injEq] at hr2
  obtain ⟨rfl, rfl⟩ := hr2
  have h1 := rd_ok h rfl hV (chkOpd_ok hc.1 a)
  obtain ⟨h2, h3⟩ := rds_ok a xs ys _ _ _ _ hc.2 hr1 h1
  exact ⟨by simp [h2], by simpa using h3⟩
 | [], _ :: _, _, _, _, _, hc, _, _ => by simp [chkOpds] at hc
 | _ :: _, [], _, _, _, _, hc, _, _ => by simp [chkOpds] at hc
end Go.Abs
