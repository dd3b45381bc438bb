import Derived.Test.YtheaccppdikjgaaGreatDoorK1
import Derived.Deep.AppendSrc
import Derived.Laws.Cells
import Derived.Laws.MakeOwn
import Derived.Laws.BytesString
import Derived.Laws.Slices
import Derived.Laws.Entries
import Derived.Laws.IdiomCopy
import Derived.Laws.Tables
import Derived.Laws.Strings3
import Derived.Laws.StructEq
import Derived.Laws.Pointers
import Derived.MapKept
namespace Go.Abs
open Go
set_option linter.unusedVariables false
set_option linter.unusedSimpArgs false
structure Gh where
 n : Nat
 D : Nat → Nat → Prop
 μ : Nat → Nat
 sl : Nat → Value
 sz : Nat → Nat
abbrev at_ (b o : Nat) : Addr := ⟨b, o, none⟩
inductive Rv (G : Gh) (w : World) : AVal → Value → Prop where
 | any (v : Value) : Rv G w .any v
 | bool (b : Bool) : Rv G w (.bool b) (.bool b)
 | int (k : IntKind) (n : Int) : Rv G w (.int k n) (.int k n)
 | str (s : List UInt8) : Rv G w (.str s) (.string ⟨⟨s⟩⟩)
 | nilp : Rv G w .nilp (.pointer none)
 | ptr (id off : Nat) (h : id < G.n) : Rv G w (.ptr id off) (.pointer (some (at_ (G.μ id) off)))
 | eptr (id i j b o len cap : Nat) (h : id < G.n) (hs : G.sl id = .slice (some (at_ b o)) len cap) :
   Rv G w (.eptr id i j) (.pointer (some (at_ b (o + i * G.sz id + j))))
 | rptr (cs : List AVal) (b o : Nat) (f : Nat → Value)
   (hv : ∀ j Y, cs[j]? = some Y → Rv G w Y (f j)) (hm : ∀ j, j < cs.length → w.cell? (at_ b (o + j)) = some (f j))
   (hd : ∀ j, j < cs.length → G.D b (o + j)) : Rv G w (.rptr cs) (.pointer (some (at_ b o)))
 | list (sz : Nat) (xs : List AVal) (fl : Fl) (b o len cap : Nat) (f : Nat → Value)
   (hlen : xs.length = len) (hcap : len ≤ cap) (hfull : fl = .full → cap = len)
   (hsz : ∀ X, X ∈ xs → X.cells.length = sz)
   (hv : ∀ i X j Y, xs[i]? = some X → X.cells[j]? = some Y → Rv G w Y (f (i * sz + j)))
   (hm : ∀ k, k < len * sz → w.cell? (at_ b (o + k)) = some (f k))
   (hd : ∀ k, k < len * sz → G.D b (o + k)) (h1 : ∀ k, k < len * sz → (f k).oneCell' = true) : Rv G w (.list sz xs fl) (.slice (some (at_ b o)) len cap)
 | nilList (sz : Nat) (fl : Fl) : Rv G w (.list sz [] fl) (.slice none 0 0)
 | lbox (id : Nat) (h : id < G.n) (hs : ∃ a l c, G.sl id = .slice a l c) : Rv G w (.lbox id) (G.sl id)
 | lcut (id lo b o len cap : Nat) (h : id < G.n) (hs : G.sl id = .slice (some (at_ b o)) len cap) (hl : lo < len) :
   Rv G w (.lcut id lo) (.slice (some (at_ b (o + lo * G.sz id))) (len - lo) (cap - lo))
 | agg (cs : List AVal) (arr : Array Value) (hs : arr.size = cs.length) (hv : ∀ j Y, cs[j]? = some Y → Rv G w Y (arr.getD j undef)) :
   Rv G w (.agg cs) (.agg arr)
 | fn (f : FuncId) (a b : List AVal) (va vb : Array Value) (ha : va.size = a.length) (hb : vb.size = b.length)
   (hva : ∀ j Y, a[j]? = some Y → Rv G w Y (va.getD j undef)) (hvb : ∀ j Y, b[j]? = some Y → Rv G w Y (vb.getD j undef)) :
   Rv G w (.fn f a b) (.func (.func f) va vb)
 | nilfn : Rv G w .nilfn .nilFunc
 | iface (t : TypeId) (V : AVal) (v : Value) (h : Rv G w V v) : Rv G w (.iface t V) (.iface t v)
 | niliface : Rv G w .niliface .nilIface
 | meth (m : String) (V : AVal) (v : Value) (h : Rv G w V v) : Rv G w (.meth m V) (.func (.method m) #[v] #[])
 | nilmap : Rv G w (.map none) (.map none)
 | map (id : Nat) (h : id < G.n) : Rv G w (.map (some id)) (.map (some (G.μ id)))
def RU (G : Gh) (w : World) (sz : Nat) (xs : List AVal) (v : Value) : Prop :=
 (xs = [] ∧ v = .slice none 0 0) ∨
 ∃ b o len cap, ∃ f : Nat → Value, v = .slice (some (at_ b o)) len cap ∧ xs.length = len ∧ len ≤ cap ∧ (∀ X, X ∈ xs → X.cells.length = sz) ∧
  (∀ i X j Y, xs[i]? = some X → X.cells[j]? = some Y → Rv G w Y (f (i * sz + j))) ∧ (∀ k, k < len * sz → w.cell? (at_ b (o + k)) = some (f k)) ∧
  (∀ k, k < len * sz → (f k).oneCell' = true)
def Rt0 (G : Gh) (w : World) (V : AVal) (v : Value) : Prop :=
 match V with
 | .list sz xs .uniq => RU G w sz xs v
 | V => Rv G w V v
def Rt (G : Gh) (w : World) (V : AVal) (v : Value) : Prop :=
 match V with
 | .tuple Vs => ∃ arr, v = .tuple arr ∧ arr.size = Vs.length ∧ ∀ i X, Vs[i]? = some X → Rt0 G w X (arr.getD i undef)
 | V => Rt0 G w V v
def FrOK (fr : Nat × Nat) (n : Nat) : Prop := fr.1 = fr.2 ∨ n ≤ fr.1
structure Still (w w' : World) : Prop where
 os : w'.os = w.os
 tape : w'.tape = w.tape
 output : w'.output = w.output
 shape : ∀ (b : Nat) (c : Array Value) (e : TypeId) (fr : Nat × Nat), w.heap[b]? = some (.cells c e fr) → ∃ c' fr', w'.heap[b]? = some (.cells c' e fr') ∧ c'.size = c.size ∧ (FrOK fr c.size → FrOK fr' c.size)
theorem Still.sameHeap {w w' : World} (h : w'.heap = w.heap) (ho : w'.os = w.os) (ht : w'.tape = w.tape) (hp : w'.output = w.output) : Still w w' :=
 ⟨ho, ht, hp, fun b c e fr hb => ⟨c, fr, by rw [h]; exact hb, rfl, id⟩⟩
theorem Still.refl (w : World) : Still w w := .sameHeap rfl rfl rfl rfl
theorem Still.trans {a b c : World} (h : Still a b) (k : Still b c) : Still a c := ⟨k.os.trans h.os, k.tape.trans h.tape, k.output.trans h.output, fun i x e fr hi => by
 obtain ⟨x', f', h1, h2, h5⟩ := h.shape i x e fr hi
 obtain ⟨x'', f'', h3, h4, h6⟩ := k.shape i x' e f' h1
 exact ⟨x'', f'', h3, h4.trans h2, fun hf => h2 ▸ h6 (h2 ▸ h5 hf)⟩⟩
theorem Still.ofPush {w w' : World} {o : Obj} (h : w'.heap = w.heap.push o) (ho : w'.os = w.os) (ht : w'.tape = w.tape) (hp : w'.output = w.output) : Still w w' :=
 ⟨ho, ht, hp, fun b c e fr hb => ⟨c, fr, by
  have hlt : b < w.heap.size := (Array.getElem?_eq_some_iff.1 hb).1
  rw [h, Array.getElem?_push, if_neg (Nat.ne_of_lt hlt)]; exact hb, rfl, id⟩⟩
structure GE (G : Gh) (w : World) (G' : Gh) (w' : World) : Prop where
 n : G.n ≤ G'.n
 D : ∀ b o, G.D b o → G'.D b o
 μ : ∀ id, id < G.n → G'.μ id = G.μ id
 sl : ∀ id, id < G.n → G'.sl id = G.sl id
 sz : ∀ id, id < G.n → G'.sz id = G.sz id
 cell : ∀ b o, G.D b o → w'.cell? (at_ b o) = w.cell? (at_ b o)
 still : Still w w'
theorem GE.refl (G : Gh) (w : World) : GE G w G w := ⟨Nat.le_refl _, fun _ _ h => h, fun _ _ => rfl, fun _ _ => rfl, fun _ _ => rfl, fun _ _ _ => rfl, .refl w⟩
theorem GE.trans {G w G' w' G'' w''} (h : GE G w G' w') (h' : GE G' w' G'' w'') : GE G w G'' w'' :=
 ⟨Nat.le_trans h.n h'.n, fun b o hd => h'.D _ _ (h.D _ _ hd), fun id hi => (h'.μ id (Nat.lt_of_lt_of_le hi h.n)).trans (h.μ id hi),
  fun id hi => (h'.sl id (Nat.lt_of_lt_of_le hi h.n)).trans (h.sl id hi), fun id hi => (h'.sz id (Nat.lt_of_lt_of_le hi h.n)).trans (h.sz id hi),
  fun b o hd => (h'.cell _ _ (h.D _ _ hd)).trans (h.cell _ _ hd), h.still.trans h'.still⟩
theorem Rv.stay {G w G' w'} (e : GE G w G' w') {V v} (h : Rv G w V v) : Rv G' w' V v := by
 induction h with
 | any v => exact .any v
 | bool b => exact .bool b
 | int k n => exact .int k n
 | str s => exact .str s
 | nilp => exact .nilp
 | ptr id off h => rw [← e.μ id h]; exact .ptr id off (Nat.lt_of_lt_of_le h e.n)
 | eptr id i j b o len cap h hs => rw [← e.sz id h]; exact .eptr id i j b o len cap (Nat.lt_of_lt_of_le h e.n) (by rw [e.sl id h, hs])
 | rptr cs b o f hv hm hd ih => exact .rptr cs b o f ih (fun j hj => by rw [e.cell _ _ (hd j hj)]; exact hm j hj) (fun j hj => e.D _ _ (hd j hj))
 | list sz xs fl b o len cap f hlen hcap hfull hsz hv hm hd h1 ih =>
  exact .list sz xs fl b o len cap f hlen hcap hfull hsz ih (fun k hk => by rw [e.cell _ _ (hd k hk)]; exact hm k hk) (fun k hk => e.D _ _ (hd k hk)) h1
 | nilList sz fl => exact .nilList sz fl
 | lbox id h hs => rw [← e.sl id h]; exact .lbox id (Nat.lt_of_lt_of_le h e.n) (by rw [e.sl id h]; exact hs)
 | lcut id lo b o len cap h hs hl => rw [← e.sz id h]; exact .lcut id lo b o len cap (Nat.lt_of_lt_of_le h e.n) (by rw [e.sl id h, hs]) hl
 | agg cs arr hs hv ih => exact .agg cs arr hs ih
 | fn f a b va vb ha hb _ _ iha ihb => exact .fn f a b va vb ha hb iha ihb
 | nilfn => exact .nilfn
 | iface t V v _ ih => exact .iface t V v ih
 | meth m V v _ ih => exact .meth m V v ih
 | niliface => exact .niliface
 | nilmap => exact .nilmap
 | map id h => rw [← e.μ id h]; exact .map id (Nat.lt_of_lt_of_le h e.n)
abbrev Own := Nat × Nat × Nat
def own0 (V : AVal) (v : Value) : Option Own :=
 match V with
 | .list sz _ .own => match v with
  | .slice (some a) len cap => if len < cap then some (a.block, a.off + len * sz, a.off + cap * sz) else none
  | _ => none
 | .list sz _ .uniq => match v with
  | .slice (some a) _ cap => if 0 < cap then some (a.block, a.off, a.off + cap * sz) else none
  | _ => none
 | _ => none
def ownC (V : AVal) (v : Value) (i : Nat) : Option Own :=
 match V with
 | .tuple vs => match v with
  | .tuple arr => match vs[i]? with
   | some X => own0 X (arr.getD i undef)
   | none => none
  | _ => none
 | V => if i = 0 then own0 V v else none
structure OwnOK (G : Gh) (w : World) (a : Own) : Prop where
 lt : a.1 < w.heap.size
 cells : a.2.2 = 0 ∨ ∃ c e fr, w.heap[a.1]? = some (.cells c e fr) ∧ a.2.2 ≤ c.size
 frozen : a.2.2 ≠ 0 → ∀ c e fr, w.heap[a.1]? = some (.cells c e fr) → FrOK fr c.size
 D : ∀ x, a.2.1 ≤ x → ¬ G.D a.1 x
inductive Pos where
 | slot (t i : Nat) | fly (k i : Nat) | cell (id off : Nat) | box (id : Nat)
 deriving DecidableEq
structure Sta where
 env : Nat → AVal
 tm : Nat → Value
 fly : List (AVal × Value)
 H : Heap
def cellv (w : World) (b o : Nat) : Value := (w.cell? (at_ b o)).getD undef
def ownP (G : Gh) (S : Sta) (w : World) : Pos → Option Own
 | .slot t i => ownC (S.env t) (S.tm t) i
 | .fly k i => match S.fly[k]? with
  | some (V, v) => ownC V v i
  | none => none
 | .cell id off => match S.H[id]? with
  | some (.cells cs) => match cs[off]? with
   | some V => own0 V (cellv w (G.μ id) off)
   | none => none
  | _ => none
 | .box id => match S.H[id]? with
  | some (.cells cs) => some (G.μ id, 0, cs.length)
  | some (.arr sz xs) => own0 (.list sz xs .uniq) (G.sl id)
  | some (.map _) => some (G.μ id, 0, 0)
  | some (.iter _ _) => some (G.μ id, 0, 0)
  | _ => none
def BoxR (G : Gh) (w : World) (id : Nat) : Box → Prop
 | .cells cs => ∀ j V, cs[j]? = some V → ∃ v, w.cell? (at_ (G.μ id) j) = some v ∧ Rt0 G w V v
 | .arr sz xs => G.sz id = sz ∧ RU G w sz xs (G.sl id)
 | .map es => ∃ ms c, w.heap[G.μ id]? = some (.map ms c) ∧ ms.size = es.length ∧ MapKept.Stamped ms c ∧
   ∀ (j : Nat) (p : AVal × AVal) (m : MapEntry), es[j]? = some p → ms[j]? = some m → Rv G w p.1 m.key ∧ Rv G w p.2 m.val
 | .iter s pos => ∃ sb, w.heap[G.μ id]? = some (.stringIter sb pos) ∧ sb.data.toList = s
 | .dead => True
structure Ent where
 w0 : World
 G0 : Gh
 own : Nat → Prop
structure Fr (E : Ent) (G : Gh) (w : World) : Prop where
 n : E.G0.n ≤ G.n
 μ : ∀ id, id < E.G0.n → G.μ id = E.G0.μ id ∧ G.sl id = E.G0.sl id ∧ G.sz id = E.G0.sz id
 D : ∀ b o, E.G0.D b o → G.D b o
 Dn : ∀ b o, G.D b o → b < E.w0.heap.size → E.G0.D b o ∨ E.own b
 size : E.w0.heap.size ≤ w.heap.size
 heap : ∀ b, b < E.w0.heap.size → ¬ E.own b → w.heap[b]? = E.w0.heap[b]?
 cell : ∀ b o, E.G0.D b o → w.cell? (at_ b o) = E.w0.cell? (at_ b o)
 still : Still E.w0 w
structure St (E : Ent) (G : Gh) (S : Sta) (w : World) : Prop where
 n : G.n = S.H.length
 Db : ∀ b o, G.D b o → b < w.heap.size
 slot : ∀ t, Rt G w (S.env t) (S.tm t)
 fly : ∀ (k : Nat) V v, S.fly[k]? = some (V, v) → Rt G w V v
 box : ∀ (id : Nat) B, S.H[id]? = some B → BoxR G w id B
 ok : ∀ p a, ownP G S w p = some a → OwnOK G w a
 dis : ∀ p q a b, p ≠ q → ownP G S w p = some a → ownP G S w q = some b → a.1 ≠ b.1
 fr : Fr E G w
 new : ∀ p a, ownP G S w p = some a → a.1 < E.w0.heap.size → E.own a.1
end Go.Abs
