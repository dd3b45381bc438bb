import Derived.Calls
import Derived.Orders
import GoSem.Core.Utf8
namespace Go.Abs
open Go
inductive Fl where
 | ro | full | own | uniq
 deriving DecidableEq, Repr
inductive AVal where
 | any
 | bool (b : Bool)
 | int (k : IntKind) (n : Int)
 | str (s : List UInt8)
 | nilp
 | ptr (id off : Nat)
 | eptr (id i j : Nat)
 | rptr (cs : List AVal)
 | list (sz : Nat) (xs : List AVal) (fl : Fl)
 | lbox (id : Nat)
 | lcut (id lo : Nat)
 | agg (cs : List AVal)
 | tuple (vs : List AVal)
 | fn (f : FuncId) (first captured : List AVal)
 | nilfn
 | iface (t : TypeId) (v : AVal)
 | niliface
 | map (id : Option Nat)
 | meth (m : String) (v : AVal)
 deriving Inhabited
namespace AVal
def cells : AVal → List AVal
 | .agg cs => cs
 | v => [v]
def isU : AVal → Bool
 | .list _ _ .uniq => true
 | _ => false
def hasU : AVal → Bool
 | .tuple vs => vs.any isU
 | v => v.isU
def share0 : AVal → AVal
 | .list sz xs .own => .list sz xs .ro
 | .list sz xs .uniq => .list sz xs .ro
 | v => v
def share : AVal → AVal
 | .tuple vs => .tuple (vs.map share0)
 | v => v.share0
def demote : AVal → AVal
 | .list sz xs .own => .list sz xs .ro
 | .list _ _ .uniq => .any
 | .tuple _ => .any
 | v => v
def strip1 : AVal → AVal
 | .list sz xs _ => .list sz xs .ro
 | v => v
def strip : AVal → AVal
 | .list sz xs _ => .list sz xs .ro
 | .agg cs => .agg (cs.map strip1)
 | v => v
def one : AVal → Bool
 | .any => false
 | .agg _ => false
 | .tuple _ => false
 | _ => true
def flat : AVal → List AVal
 | .agg cs => cs.map share0
 | v => [v]
def argOK : AVal → Bool
 | .tuple _ => false
 | v => !v.isU
def known : AVal → Bool
 | .agg _ => true
 | v => v.one
def withCells : AVal → List AVal → AVal
 | .agg _, cs => .agg cs
 | _, cs => cs.headD .any
mutual
def under (n : Nat) : AVal → Bool
 | .ptr id _ => id < n
 | .eptr id _ _ => id < n
 | .lbox id => id < n
 | .lcut id _ => id < n
 | .map (some id) => id < n
 | .rptr cs => underL n cs
 | .list _ xs _ => underL n xs
 | .agg cs => underL n cs
 | .tuple vs => underL n vs
 | .fn _ a b => underL n a && underL n b
 | .iface _ v => under n v
 | .meth _ v => under n v
 | _ => true
def underL (n : Nat) : List AVal → Bool
 | [] => true
 | v :: vs => under n v && underL n vs
end
end AVal
inductive Box where
 | cells (cs : List AVal)
 | arr (sz : Nat) (xs : List AVal)
 | map (es : List (AVal × AVal))
 | iter (s : List UInt8) (pos : Nat)
 | dead
 deriving Inhabited
abbrev Heap := List Box
abbrev Env := List (Nat × AVal)
def Env.get : Env → Nat → AVal
 | [], _ => .any
 | (k, v) :: e, t => if t = k then v else Env.get e t
def Env.put : Env → Nat → AVal → Env
 | [], t, v => [(t, v)]
 | (k, w) :: e, t, v => if t = k then (t, v) :: e else if t < k then (t, v) :: (k, w) :: e else (k, w) :: Env.put e t v
def Env.del : Env → Nat → Env
 | [], _ => []
 | (k, w) :: e, t => if t = k then Env.del e t else (k, w) :: Env.del e t
def Env.dels (e : Env) (ts : List Nat) : Env := ts.foldl Env.del e
def Env.putO (e : Env) : Option Nat → AVal → Env
 | some t, v => e.put t v
 | none, _ => e
inductive Opd where
 | tmp (t : Nat) (take : Bool)
 | proj (t i : Nat) (take : Bool)
 | val (v : AVal)
inductive CK where
 | int (k : IntKind) | str | bool
 deriving DecidableEq
inductive BK where
 | plain | bool | ptr | agg (ks : List CK)
inductive KD where
 | str | agg (ks : List CK)
 deriving DecidableEq
inductive K where
 | move | pick
 | alloc (cs : List AVal)
 | box
 | build (zero : List AVal) (ps : List (Nat × Nat))
 | buildSlice (sz : Nat) (zero : AVal) (len : Nat) (ix : List Nat)
 | load (agg : Bool) (n : Nat) (take : Bool)
 | store (n : Nat)
 | nilCheck
 | bin (op : BinOp) (bk : BK)
 | un (op : UnOp)
 | toInt (k : IntKind)
 | toStr
 | strStr
 | toBytes
 | mkfn (f : FuncId) (n : Nat)
 | mkslice (sz : Nat) (zero : AVal) (bytes : Nat)
 | slice (sz : Nat) (lo hi mx : Bool)
 | sslice (lo hi : Bool)
 | addOff (off : Nat)
 | field (agg : Bool) (off n : Nat)
 | ixAddr (sz : Nat)
 | ixArr (len sz : Nat)
 | ixStr
 | ixAgg (agg : Bool) (len sz : Nat)
 | append (sz bytes : Nat) (u : Bool)
 | appendStr (bytes : Nat) (u : Bool)
 | len (str : Bool)
 | mm (isMax : Bool)
 | call (f : FuncId) (own : Bool)
 | callv
 | mkiface (t : TypeId)
 | bad
 | cap
 | cut (sz : Nat)
 | grow (sz : Nat) (zero : AVal) (bytes : Nat)
 | mkmap
 | lookup (k : IntKind) (zero : AVal) (ok : Bool)
 | mapSet (k : IntKind)
 | buildU (sz : Nat) (zero : AVal) (len : Nat) (ix : List Nat)
 | mark
 | lslice (sz : Nat)
 | clear (sz : Nat) (zero : AVal)
 | invoke (tb : List (TypeId × FuncId))
 | isNil (neg : Bool)
 | mkmeth (m : String)
 | methCheck (m : String) (tb : List (TypeId × FuncId))
 | lookupG (kd : KD) (zero : AVal) (ok : Bool)
 | mapSetG (kd : KD)
 | delG (kd : KD)
 | lenM
 | runeStr
 | buildF (zero : List AVal) (ps : List (Nat × Nat))
 | srange
 | snext
structure AOp where
 dst : Option Nat
 guard : Option (Nat × Bool)
 k : K
 xs : List Opd
inductive Ghost where
 | kill (ts : List Nat)
 | freeze (t : Nat)
 | thaw (t : Nat)
 | back (t : Nat)
 | thawC (t off : Nat)
 | backC (t off : Nat)
 | freezeC (t off : Nat)
structure DInfo where
 w : Bool
 un : List Nat
structure MInfo where
 mt : Nat
 it : Nat
 nx : Nat
 en : Nat
 ok : Nat
 kA : List Nat
 kB : List Nat
 pre : List AOp
 r2 : List AOp
 r3 : List AOp
inductive ACode where
 | skip
 | region (ops : List AOp)
 | regionS (segs : List (Bool × List AOp))
 | draw (ops : List (AOp × DInfo))
 | ghost (g : Ghost) (c : ACode)
 | seq (a b : ACode)
 | cond (c : Opd) (a b : ACode)
 | block (id : Nat) (c : ACode)
 | loop (c : ACode)
 | mloop (I : MInfo) (c : ACode)
 | exit (id : Nat)
 | ret
 | stuck
inductive Out where
 | normal | exit (id : Nat) | ret
 deriving DecidableEq
inductive ARes where
 | tmp (t : Nat)
 | cell (t : Nat) (agg : Bool) (n : Nat)
structure AFunc where
 nt : Nat
 keep : Bool
 body : ACode
 res : List ARes
abbrev CallF := FuncId → List AVal → Heap → Option (AVal × Heap)
def maxBytes : Nat := 140737488355328
def arith (op : BinOp) (k : IntKind) (a b : Int) : Option AVal :=
 match op with
 | .add => some (.int k (k.wrap (a + b)))
 | .sub => some (.int k (k.wrap (a - b)))
 | .mul => some (.int k (k.wrap (a * b)))
 | .quo => if b = 0 then none else some (.int k (k.wrap (a.tdiv b)))
 | .rem => if b = 0 then none else some (.int k (a.tmod b))
 | .and => some (.int k (k.wrap (BitVec.ofInt k.bits a &&& BitVec.ofInt k.bits b).toNat))
 | .or => some (.int k (k.wrap (BitVec.ofInt k.bits a ||| BitVec.ofInt k.bits b).toNat))
 | .xor => some (.int k (k.wrap (BitVec.ofInt k.bits a ^^^ BitVec.ofInt k.bits b).toNat))
 | .andNot => some (.int k (k.wrap (BitVec.ofInt k.bits a &&& ~~~(BitVec.ofInt k.bits b)).toNat))
 | .eql => some (.bool (a == b))
 | .neq => some (.bool (a != b))
 | .lss => some (.bool (a < b))
 | .leq => some (.bool (a ≤ b))
 | .gtr => some (.bool (a > b))
 | .geq => some (.bool (a ≥ b))
 | .shl => none
 | .shr => none
def shiftA (op : BinOp) (k : IntKind) (a b : Int) : Option AVal :=
 if b < 0 then none else
 match op with
 | .shl => some (.int k (k.wrap (a * 2 ^ (min b.toNat k.bits))))
 | .shr => some (.int k (a.fdiv (2 ^ (min b.toNat k.bits))))
 | _ => none
def strBin (op : BinOp) (x y : List UInt8) : Option AVal :=
 match op with
 | .add => if x.length + y.length ≤ maxBytes then some (.str (x ++ y)) else none
 | .eql => some (.bool (x == y))
 | .neq => some (.bool !(x == y))
 | .lss => some (.bool (Op.bytesLess x y))
 | .leq => some (.bool (Op.bytesLess x y || x == y))
 | .gtr => some (.bool !(Op.bytesLess x y || x == y))
 | .geq => some (.bool !(Op.bytesLess x y))
 | _ => none
def eqCells : List CK → List AVal → List AVal → Option Bool
 | [], [], [] => some true
 | .int k :: ks, .int k1 a :: xs, .int k2 b :: ys => if k1 = k ∧ k2 = k then (eqCells ks xs ys).map ((a == b) && ·) else none
 | .str :: ks, .str a :: xs, .str b :: ys => (eqCells ks xs ys).map ((a == b) && ·)
 | .bool :: ks, .bool a :: xs, .bool b :: ys => (eqCells ks xs ys).map ((a == b) && ·)
 | _, _, _ => none
def isNil : AVal → Option Bool
 | .nilp => some true
 | .ptr .. => some false
 | .eptr .. => some false
 | .rptr .. => some false
 | _ => none
def nilBin (op : BinOp) (x y : AVal) : Option AVal :=
 match isNil x with
 | none => none
 | some a => match isNil y with
  | none => none
  | some b => if a || b then (match op with | .eql => some (.bool (a && b)) | .neq => some (.bool !(a && b)) | _ => none) else none
def evBin (op : BinOp) (bk : BK) (x y : AVal) : Option AVal :=
 match bk with
 | .plain => match x, y with
  | .int k a, .int k' b => match op with
   | .shl => shiftA .shl k a b
   | .shr => shiftA .shr k a b
   | _ => if k = k' then arith op k a b else none
  | .str a, .str b => strBin op a b
  | _, _ => none
 | .bool => match x, y with
  | .bool a, .bool b => match op with
   | .eql => some (.bool (a == b))
   | .neq => some (.bool (a != b))
   | _ => none
  | _, _ => none
 | .agg ks => match x, y with
  | .agg a, .agg b => match op with
   | .eql => (eqCells ks a b).map .bool
   | .neq => (eqCells ks a b).map fun t => .bool !t
   | _ => none
  | _, _ => none
 | .ptr => nilBin op x y
def evUn (op : UnOp) (x : AVal) : Option AVal :=
 match op, x with
 | .neg, .int k n => some (.int k (k.wrap (0 - n)))
 | .xor, .int k n => arith .xor k (if k.signed then -1 else k.max) n
 | .not, .bool b => some (.bool !b)
 | _, _ => none
def encBytes (s : List UInt8) : List AVal := s.map fun b => .int .u8 (b.toNat : Int)
def decBytes : List AVal → Option (List UInt8)
 | [] => some []
 | .int .u8 n :: xs => (decBytes xs).map (UInt8.ofNat n.toNat :: ·)
 | _ => none
def overwrite (cs : List AVal) (off : Nat) (ys : List AVal) : List AVal := cs.take off ++ ys ++ cs.drop (off + ys.length)
def fillA (cs : List AVal) : List (Nat × Nat) → List AVal → Option (List AVal)
 | [], [] => some cs
 | (off, n) :: ps, x :: xs =>
  if x.strip.cells.length = n ∧ off + n ≤ cs.length ∧ x.known ∧ x.argOK then fillA (overwrite cs off x.strip.cells) ps xs else none
 | _, _ => none
def AVal.strip1F : AVal → AVal
 | .list sz xs .full => .list sz xs .full
 | v => v.strip1
def AVal.stripF : AVal → AVal
 | .list sz xs .full => .list sz xs .full
 | .agg cs => .agg (cs.map strip1F)
 | v => v.strip
def fillAF (cs : List AVal) : List (Nat × Nat) → List AVal → Option (List AVal)
 | [], [] => some cs
 | (off, n) :: ps, x :: xs =>
  if x.stripF.cells.length = n ∧ off + n ≤ cs.length ∧ x.known ∧ x.argOK then fillAF (overwrite cs off x.stripF.cells) ps xs else none
 | _, _ => none
def fillS (sz : Nat) (els : List AVal) : List Nat → List AVal → Option (List AVal)
 | [], [] => some els
 | i :: ix, x :: xs => if x.strip.cells.length = sz ∧ i < els.length ∧ x.strip.cells.all AVal.one ∧ x.argOK then fillS sz (els.set i x.strip) ix xs else none
 | _, _ => none
def ldCells (agg : Bool) (n : Nat) (cs : List AVal) : Option AVal :=
 if n ≤ cs.length ∧ (cs.take n).all (fun c => !c.hasU) then
  if agg then some (.agg ((cs.take n).map AVal.strip))
  else if n = 1 then (cs.head?).map AVal.share else none
 else none
def evLoad (agg : Bool) (n : Nat) (take : Bool) (p : AVal) (H : Heap) : Option (AVal × Heap) :=
 match p with
 | .rptr cs => (ldCells agg n cs).map (·, H)
 | .ptr id off => match H[id]? with
  | some (.cells cs) =>
   if take then (if agg then none else if n = 1 then (cs[off]?).map fun V => (V, H.set id (.cells (cs.set off V.demote))) else none)
   else (ldCells agg n (cs.drop off)).map (·, H)
  | _ => none
 | .eptr id i j => match H[id]? with
  | some (.arr _ xs) => (xs[i]?).bind fun X => (ldCells agg n (X.cells.drop j)).map (·, H)
  | _ => none
 | _ => none
def evStore (n : Nat) (p v : AVal) (H : Heap) : Option (AVal × Heap) :=
 if v.flat.length = n ∧ 0 < n ∧ v.flat.all AVal.one then
  match p with
  | .ptr id off => match H[id]? with
   | some (.cells cs) =>
    if off + n ≤ cs.length then some (.tuple [], H.set id (.cells (overwrite cs off v.flat))) else none
   | _ => none
  | .eptr id i j => match H[id]? with
   | some (.arr sz xs) => match xs[i]? with
    | some X =>
     if j + n ≤ X.cells.length ∧ v.argOK then
      some (.tuple [], H.set id (.arr sz (xs.set i (X.withCells (overwrite X.cells j (v.flat.map AVal.strip)))))) else none
    | none => none
   | _ => none
  | _ => none
 else none
def natOf (len : Nat) : AVal → Option Nat
 | .int _ i => if 0 ≤ i ∧ i ≤ len then some i.toNat else none
 | _ => none
def bounds (len : Nat) (lo hi mx : Bool) (xs : List AVal) : Option (Nat × Nat × Option Nat) :=
 match lo, hi, mx, xs with
 | false, false, false, [] => some (0, len, none)
 | true, false, false, [l] => (natOf len l).map fun l => (l, len, none)
 | false, true, false, [h] => (natOf len h).map fun h => (0, h, none)
 | true, true, false, [l, h] => (natOf len h).bind fun h => (natOf h l).map fun l => (l, h, none)
 | false, true, true, [h, m] => (natOf len m).bind fun m => (natOf m h).map fun h => (0, h, some m)
 | true, true, true, [l, h, m] => (natOf len m).bind fun m => (natOf m h).bind fun h => (natOf h l).map fun l => (l, h, some m)
 | _, _, _, _ => none
def evSlice (sz : Nat) (lo hi mx : Bool) (x : AVal) (bs : List AVal) : Option AVal :=
 match x with
 | .list sz' xs fl =>
  if sz' = sz ∧ fl ≠ .uniq then (bounds xs.length lo hi mx bs).bind fun (l, h, m) =>
   match m with
   | some m => some (.list sz ((xs.take h).drop l) (if m = h then .full else .ro))
   | none => match hi, fl with
    | false, .full => some (.list sz (xs.drop l) .full)
    | false, .own => some (.list sz (xs.drop l) .own)
    | _, _ => some (.list sz ((xs.take h).drop l) .ro)
  else none
 | _ => none
def evCut (sz : Nat) (x hv : AVal) : Option AVal :=
 match x with
 | .list sz' xs fl => if sz' = sz then
   (natOf xs.length hv).bind fun h => match fl with
    | .uniq => some (.list sz (xs.take h) .uniq)
    | .full => if h = xs.length then some (.list sz xs .full) else none
    | _ => none
  else none
 | _ => none
def evAppend (sz bytes : Nat) (u : Bool) (x : AVal) (ys : List AVal) : Option AVal :=
 match x with
 | .list sz' xs fl =>
  if sz' = sz ∧ (xs.length + ys.length) * bytes ≤ maxBytes then
   match fl with
   | .ro => none
   | .full => some (.list sz (xs ++ ys) (if u && xs.isEmpty then .uniq else .own))
   | .own => some (.list sz (xs ++ ys) .own)
   | .uniq => some (.list sz (xs ++ ys) .uniq)
  else none
 | _ => none
def addO (off : Nat) : AVal → Option AVal
 | .ptr id o => some (.ptr id (o + off))
 | .eptr id i j => some (.eptr id i (j + off))
 | .rptr cs => some (.rptr (cs.drop off))
 | _ => none
def evMm (isMax : Bool) : List AVal → Option AVal
 | .int k a :: xs => xs.foldlM (fun (x : AVal) y => match x, y with
   | .int k x, .int k' y => if k = k' then some (.int k (if isMax then (if x < y then y else x) else (if y < x then y else x))) else none
   | _, _ => none) (.int k a)
 | _ => none
def keyOK (k : IntKind) : AVal → Bool
 | .int k' _ => k' = k
 | _ => false
def keyIs (x : Int) : AVal → Bool
 | .int _ y => y == x
 | _ => false
def findK (x : Int) (es : List (AVal × AVal)) : Option Nat := es.findIdx? fun p => keyIs x p.1
def lookA (zero : AVal) (ok : Bool) (es : List (AVal × AVal)) (r : Option Nat) : Option AVal :=
 let V := match r with | some i => (match es[i]? with | some p => p.2 | none => .any) | none => zero
 if V.argOK then some (if ok then .tuple [V.strip, .bool r.isSome] else V.strip) else none
def setA (es : List (AVal × AVal)) (p : AVal × AVal) : Option Nat → List (AVal × AVal)
 | some i => es.set i p
 | none => es ++ [p]
def evLookup (k : IntKind) (zero : AVal) (ok : Bool) (m key : AVal) (H : Heap) : Option AVal :=
 match m with
 | .map (some id) => match H[id]? with
  | some (.map es) => match key with
   | .int k' x => if k' = k ∧ es.all (fun p => keyOK k p.1) then lookA zero ok es (findK x es) else none
   | _ => none
  | _ => none
 | _ => none
def evMapSet (k : IntKind) (m key v : AVal) (H : Heap) : Option (AVal × Heap) :=
 match m with
 | .map (some id) => match H[id]? with
  | some (.map es) => match key with
   | .int k' x => if k' = k ∧ es.all (fun p => keyOK k p.1) ∧ v.argOK then some (.tuple [], H.set id (.map (setA es (.int k x, v.strip) (findK x es)))) else none
   | _ => none
  | _ => none
 | _ => none
mutual
def AVal.same : AVal → AVal → Bool
 | .any, .any => true
 | .bool a, .bool b => a == b
 | .int k a, .int k' b => decide (k = k') && decide (a = b)
 | .str a, .str b => decide (a = b)
 | .nilp, .nilp => true
 | .ptr a b, .ptr c d => decide (a = c) && decide (b = d)
 | .eptr a b c, .eptr d e f => decide (a = d) && decide (b = e) && decide (c = f)
 | .rptr a, .rptr b => AVal.sameL a b
 | .list s a f, .list s' b g => decide (s = s') && decide (f = g) && AVal.sameL a b
 | .lbox a, .lbox b => decide (a = b)
 | .lcut a b, .lcut c d => decide (a = c) && decide (b = d)
 | .agg a, .agg b => AVal.sameL a b
 | .tuple a, .tuple b => AVal.sameL a b
 | .fn f a b, .fn g c d => decide (f = g) && AVal.sameL a c && AVal.sameL b d
 | .nilfn, .nilfn => true
 | .iface t v, .iface u w => decide (t = u) && AVal.same v w
 | .niliface, .niliface => true
 | .map a, .map b => decide (a = b)
 | .meth m v, .meth n w => decide (m = n) && AVal.same v w
 | _, _ => false
def AVal.sameL : List AVal → List AVal → Bool
 | [], [] => true
 | a :: as, b :: bs => AVal.same a b && AVal.sameL as bs
 | _, _ => false
end
def fitCK : List CK → List AVal → Bool
 | [], [] => true
 | .int k :: ks, .int k' _ :: cs => decide (k' = k) && fitCK ks cs
 | .str :: ks, .str _ :: cs => fitCK ks cs
 | .bool :: ks, .bool _ :: cs => fitCK ks cs
 | _, _ => false
def keyG : KD → AVal → Bool
 | .str, .str _ => true
 | .agg ks, .agg cs => fitCK ks cs
 | _, _ => false
def findG (x : AVal) (es : List (AVal × AVal)) : Option Nat := es.findIdx? fun p => p.1.same x
def evLookupG (kd : KD) (zero : AVal) (ok : Bool) (m key : AVal) (H : Heap) : Option AVal :=
 match m with
 | .map (some id) => match H[id]? with
  | some (.map es) => if keyG kd key = true ∧ es.all (fun p => keyG kd p.1) = true then lookA zero ok es (findG key es) else none
  | _ => none
 | _ => none
def evMapSetG (kd : KD) (m key v : AVal) (H : Heap) : Option (AVal × Heap) :=
 match m with
 | .map (some id) => match H[id]? with
  | some (.map es) => if keyG kd key = true ∧ es.all (fun p => keyG kd p.1) = true ∧ v.argOK = true then some (.tuple [], H.set id (.map (setA es (key, v.strip) (findG key es)))) else none
  | _ => none
 | _ => none
def delA (es : List (AVal × AVal)) : Option Nat → List (AVal × AVal)
 | some i => es.eraseIdx i
 | none => es
def evDelG (kd : KD) (m key : AVal) (H : Heap) : Option (AVal × Heap) :=
 match m with
 | .map (some id) => match H[id]? with
  | some (.map es) => if keyG kd key = true ∧ es.all (fun p => keyG kd p.1) = true then some (.tuple [], H.set id (.map (delA es (findG key es)))) else none
  | _ => none
 | _ => none
def lookTb : List (TypeId × FuncId) → TypeId → Option FuncId
 | [], _ => none
 | (u, f) :: r, t => if u = t then some f else lookTb r t
def bytesOf (s : List UInt8) : ByteArray := ⟨s.toArray⟩
def evSnext (p : AVal) (H : Heap) : Option (AVal × Heap) :=
 match p with
 | .ptr id 0 => match H[id]? with
  | some (.iter s pos) =>
   if pos < s.length then
    some (.tuple [.bool true, .int .i64 (pos : Nat), .int .i32 ((Utf8.decode (bytesOf s) pos).1 : Nat)], H.set id (.iter s (pos + (Utf8.decode (bytesOf s) pos).2)))
   else some (.tuple [.bool false], H)
  | _ => none
 | _ => none
def ev (call : CallF) (k : K) (vs : List AVal) (H : Heap) : Option (AVal × Heap) :=
 match k, vs with
 | .move, [x] => some (x, H)
 | .pick, [c, a, b] => match c with | .bool t => some (if t then a else b, H) | _ => none
 | .alloc cs, [] => some (.ptr H.length 0, H ++ [.cells cs])
 | .box, [x] => if x.known then some (.ptr H.length 0, H ++ [.cells x.flat]) else none
 | .build zero ps, xs => (fillA zero ps xs).map fun cs => (.agg cs, H)
 | .buildF zero ps, xs => (fillAF zero ps xs).map fun cs => (.agg cs, H)
 | .buildSlice sz zero len ix, xs => (fillS sz (List.replicate len zero) ix xs).map fun els => (.list sz els .full, H)
 | .load agg n take, [p] => evLoad agg n take p H
 | .store n, [p, v] => evStore n p v H
 | .nilCheck, [x] => match x with | .ptr .. => some (x, H) | .rptr .. => some (x, H) | .eptr .. => some (x, H) | _ => none
 | .bin op bk, [x, y] => (evBin op bk x y).map (·, H)
 | .un op, [x] => (evUn op x).map (·, H)
 | .toInt k, [x] => match x with | .int _ n => some (.int k (k.wrap n), H) | _ => none
 | .toStr, [x] => match x with | .list sz xs _ => if sz = 1 then (decBytes xs).map fun s => (.str s, H) else none | _ => none
 | .strStr, [x] => match x with | .str s => some (.str s, H) | _ => none
 | .toBytes, [x] => match x with | .str s => if s.length ≤ maxBytes then some (.list 1 (encBytes s) .own, H) else none | _ => none
 | .mkfn f n, xs => if xs.all AVal.argOK then some (.fn f ((xs.take n).map AVal.strip) ((xs.drop n).map AVal.strip), H) else none
 | .mkslice sz zero bytes, [l, c] => match l, c with
  | .int .i64 l, .int .i64 c => if 0 ≤ l ∧ l ≤ c ∧ c * bytes ≤ maxBytes then some (.list sz (List.replicate l.toNat zero) (if l = c then .full else .ro), H) else none
  | _, _ => none
 | .slice sz lo hi mx, x :: bs => (evSlice sz lo hi mx x bs).map (·, H)
 | .sslice lo hi, x :: bs => match x with
  | .str s => (bounds s.length lo hi false bs).map fun (l, h, _) => (.str ((s.take h).drop l), H)
  | _ => none
 | .addOff off, [x] => (addO off x).map (·, H)
 | .field agg off n, [x] => match x with | .agg cs => (ldCells agg n (cs.drop off)).map (·, H) | _ => none
 | .ixAddr sz, [x, i] => match x, i with
  | .list sz' xs fl, .int _ i => if sz' = sz ∧ 0 ≤ i ∧ fl ≠ .uniq then (xs[i.toNat]?).map fun X => (.rptr X.cells, H) else none
  | .lbox id, .int _ i => match H[id]? with
   | some (.arr sz' xs) => if sz' = sz ∧ 0 ≤ i ∧ i < xs.length then some (.eptr id i.toNat 0, H) else none
   | _ => none
  | _, _ => none
 | .ixArr len sz, [x, i] => match i with
  | .int _ i => if 0 ≤ i ∧ i < len then (addO (i.toNat * sz) x).map (·, H) else none
  | _ => none
 | .ixStr, [x, i] => match x, i with
  | .str s, .int _ i => if 0 ≤ i then (s[i.toNat]?).map fun b => (.int .u8 (b.toNat : Int), H) else none
  | _, _ => none
 | .ixAgg agg len sz, [x, i] => match x, i with
  | .agg cs, .int _ i => if 0 ≤ i ∧ i < len then (ldCells agg sz (cs.drop (i.toNat * sz))).map (·, H) else none
  | _, _ => none
 | .append sz bytes u, [x, y] => match y with
  | .list sz' ys fl => if sz' = sz ∧ fl ≠ .uniq then (evAppend sz bytes u x ys).map (·, H) else none
  | .lbox id => match H[id]? with
   | some (.arr sz' ys) => if sz' = sz then (evAppend sz bytes u x ys).map (·, H) else none
   | _ => none
  | _ => none
 | .appendStr bytes u, [x, y] => match y with
  | .str s => (evAppend 1 bytes u x (encBytes s)).map (·, H)
  | _ => none
 | .len t, [x] => match x with
  | .list _ xs _ => if t then none else some (.int .i64 xs.length, H)
  | .str s => if t then some (.int .i64 s.length, H) else none
  | .lbox id => match H[id]? with
   | some (.arr _ xs) => if t then none else some (.int .i64 xs.length, H)
   | _ => none
  | _ => none
 | .mm isMax, xs => (evMm isMax xs).map (·, H)
 | .call f own, xs => if own then call f xs H else if xs.all AVal.argOK then call f (xs.map AVal.strip) H else none
 | .callv, f :: xs => match f with
  | .fn g a b => if xs.all AVal.argOK then call g (a.map AVal.strip ++ xs.map AVal.strip ++ b.map AVal.strip) H else none
  | _ => none
 | .mkiface t, [x] => if x.argOK then some (.iface t x.strip, H) else none
 | .cap, [x] => match x with | .list _ xs fl => if fl = .full then some (.int .i64 xs.length, H) else none | _ => none
 | .cut sz, [x, h] => (evCut sz x h).map (·, H)
 | .grow sz zero bytes, [x, n] => match x, n with
  | .list sz' xs fl, .int .i64 n => if sz' = sz ∧ xs = [] ∧ fl = .full ∧ 0 < n ∧ n * bytes ≤ maxBytes then some (.list sz (List.replicate n.toNat zero) .uniq, H) else none
  | _, _ => none
 | .mkmap, [] => some (.map (some H.length), H ++ [.map []])
 | .lookup k zero ok, [m, x] => (evLookup k zero ok m x H).map (·, H)
 | .mapSet k, [m, x, v] => evMapSet k m x v H
 | .buildU sz zero len ix, xs => (fillS sz (List.replicate len zero) ix xs).map fun els => (.list sz els .uniq, H)
 | .mark, [x] => match x with | .list sz xs fl => if sz = 1 ∧ fl = .uniq ∧ xs ≠ [] then some (.list 1 xs .ro, H) else none | _ => none
 | .lslice sz, [x, l] => match x with
  | .lbox id => match H[id]? with
   | some (.arr sz' xs) => if sz' = sz then (natOf xs.length l).bind fun l => if l < xs.length then some (.lcut id l, H) else none else none
   | _ => none
  | _ => none
 | .clear sz zero, [x] => match x with
  | .lcut id lo => match H[id]? with
   | some (.arr sz' xs) => if sz' = sz ∧ lo ≤ xs.length then some (.tuple [], H.set id (.arr sz (xs.take lo ++ List.replicate (xs.length - lo) zero))) else none
   | _ => none
  | _ => none
 | .invoke tb, r :: xs => match r with
  | .iface t v => match lookTb tb t with
   | some f => if v.argOK && xs.all AVal.argOK then call f (v.strip :: xs.map AVal.strip) H else none
   | none => none
  | _ => none
 | .mkmeth m, [x] => if x.argOK then some (.meth m x.strip, H) else none
 | .methCheck m tb, [x] => match x with | .meth m' (.iface t v) => if m' = m ∧ (lookTb tb t).isSome = true then some (.meth m' (.iface t v), H) else none | _ => none
 | .isNil neg, [x, _] => match x with | .iface _ _ => some (.bool neg, H) | .niliface => some (.bool (!neg), H) | _ => none
 | .lookupG kd zero ok, [m, x] => (evLookupG kd zero ok m x H).map (·, H)
 | .mapSetG kd, [m, x, v] => evMapSetG kd m x v H
 | .delG kd, [m, x] => evDelG kd m x H
 | .lenM, [m] => match m with
  | .map (some id) => match H[id]? with
   | some (.map es) => some (.int .i64 es.length, H)
   | _ => none
  | _ => none
 | .runeStr, [x] => match x with | .int _ n => if 0 ≤ n ∧ n < 128 then some (.str [UInt8.ofNat n.toNat], H) else none | _ => none
 | .srange, [x] => match x with | .str s => some (.ptr H.length 0, H ++ [.iter s 0]) | _ => none
 | .snext, [p] => evSnext p H
 | _, _ => none
def Env.rd (e : Env) : Opd → Option AVal
 | .tmp t true => some (e.get t)
 | .tmp t false => if (e.get t).hasU then none else some (e.get t).share
 | .proj t i tk => match e.get t with
  | .tuple vs => match vs[i]? with
   | some v => if tk then some v else if v.hasU then none else some v.share
   | none => none
  | _ => none
 | .val v => some v
def Env.take (e : Env) : Opd → Env
 | .tmp t true => e.put t (e.get t).demote
 | .proj t i true => match e.get t with
  | .tuple vs => match vs[i]? with
   | some v => e.put t (.tuple (vs.set i v.demote))
   | none => e
  | _ => e
 | _ => e
def Env.rds : Env → List Opd → Option (List AVal × Env)
 | e, [] => some ([], e)
 | e, x :: xs => (e.rd x).bind fun v => ((e.take x).rds xs).map fun (vs, e) => (v :: vs, e)
def wantedA (e : Env) : Option (Nat × Bool) → Option Bool
 | none => some true
 | some (g, b) => match e.get g with
  | .bool t => some (t == b)
  | .tuple _ => some false
  | _ => none
def aop (call : CallF) (o : AOp) (e : Env) (H : Heap) : Option (Env × Heap) :=
 match wantedA e o.guard with
 | some true => (e.rds o.xs).bind fun (vs, e) => (ev call o.k vs H).map fun (V, H) => (e.putO o.dst V, H)
 | some false => some (e.putO o.dst (.tuple []), H)
 | none => none
def aops (call : CallF) : List AOp → Env → Heap → Option (Env × Heap)
 | [], e, H => some (e, H)
 | o :: os, e, H => (aop call o e H).bind fun (e, H) => aops call os e H
def AVal.scalar : AVal → Bool
 | .bool _ => true
 | .int _ _ => true
 | .str _ => true
 | .nilp => true
 | .nilfn => true
 | .niliface => true
 | _ => false
def noU (e : Env) : Bool := e.all fun p => !p.2.hasU
def Env.sub : Env → Env
 | [] => []
 | (k, v) :: e => (k, if v.under 0 then v else .any) :: Env.sub e
def dstsOf (ops : List AOp) : List Nat := ops.filterMap (·.dst)
def Env.merge (e e1 : Env) : List Nat → Env
 | [] => e
 | t :: ts => Env.merge (e.put t (if (e1.get t).scalar then e1.get t else .any)) e1 ts
def aseg (call : CallF) (s : Bool × List AOp) (e : Env) (H : Heap) : Option (Env × Heap) :=
 if s.1 then
  if noU e then (aops call s.2 e.sub []).bind fun p => some (e.merge p.1 (dstsOf s.2), H) else none
 else aops call s.2 e H
def asegs (call : CallF) : List (Bool × List AOp) → Env → Heap → Option (Env × Heap)
 | [], e, H => some (e, H)
 | s :: ss, e, H => (aseg call s e H).bind fun p => asegs call ss p.1 p.2
def agh (g : Ghost) (e : Env) (H : Heap) : Option (Env × Heap) :=
 match g with
 | .kill ts => some (e.dels ts, H)
 | .freeze t => match e.get t with
  | .list sz xs .uniq => some (e.put t (.list sz xs .own), H)
  | .list _ _ _ => some (e, H)
  | _ => none
 | .thaw t => match e.get t with
  | .list sz xs .uniq => some (e.put t (.lbox H.length), H ++ [.arr sz xs])
  | .list _ _ _ => some (e, H)
  | _ => none
 | .back t => match e.get t with
  | .lbox id => match H[id]? with
   | some (.arr sz xs) => some (e.put t (.list sz xs .uniq), H.set id .dead)
   | _ => none
  | .list _ _ _ => some (e, H)
  | _ => none
 | .thawC t off => match e.get t with
  | .ptr id o => match H[id]? with
   | some (.cells cs) => match cs[o + off]? with
    | some (.list sz xs .uniq) => some (e, H.set id (.cells (cs.set (o + off) (.lbox H.length))) ++ [.arr sz xs])
    | some (.list sz [] .full) => some (e, H.set id (.cells (cs.set (o + off) (.lbox H.length))) ++ [.arr sz []])
    | some (.list _ _ _) => some (e, H)
    | _ => none
   | _ => none
  | _ => none
 | .backC t off => match e.get t with
  | .ptr id o => match H[id]? with
   | some (.cells cs) => match cs[o + off]? with
    | some (.lbox b) => match H[b]? with
     | some (.arr sz xs) => some (e, (H.set id (.cells (cs.set (o + off) (.list sz xs .uniq)))).set b .dead)
     | _ => none
    | some (.list _ _ _) => some (e, H)
    | _ => none
   | _ => none
  | _ => none
 | .freezeC t off => match e.get t with
  | .ptr id o => match H[id]? with
   | some (.cells cs) => match cs[o + off]? with
    | some (.list sz xs .uniq) => some (e, H.set id (.cells (cs.set (o + off) (.list sz xs .own))))
    | some (.list _ _ _) => some (e, H)
    | _ => none
   | _ => none
  | _ => none
abbrev R := Option (Out × Env × Heap)
def iter : Nat → (Env → Heap → R) → Env → Heap → R
 | 0, _, _, _ => none
 | n + 1, step, e, H => (step e H).bind fun r => match r with
  | (.normal, e, H) => iter n step e H
  | r => some r
def samePairs : List (AVal × AVal) → List (AVal × AVal) → Bool
 | [], [] => true
 | (a, b) :: as, (c, d) :: bs => a.same c && b.same d && samePairs as bs
 | _, _ => false
def Box.same : Box → Box → Bool
 | .cells a, .cells b => AVal.sameL a b
 | .arr s a, .arr s' b => decide (s = s') && AVal.sameL a b
 | .map a, .map b => samePairs a b
 | .iter s p, .iter t q => decide (s = t) && decide (p = q)
 | .dead, .dead => true
 | _, _ => false
def sameH : Heap → Heap → Bool
 | [], [] => true
 | a :: as, b :: bs => a.same b && sameH as bs
 | _, _ => false
def stays (r : Option (AVal × Heap)) (v : AVal) (H : Heap) : Bool :=
 match r with
 | some (v', H') => v'.same v && sameH H' H
 | none => false
structure Came where
 i : Nat
 k : K
 vs : Option (List AVal)
 v : AVal
 H : Heap
def Came.again (call : CallF) (c : Came) (H : Heap) : Bool :=
 match c.vs with
 | some vs => stays (ev call c.k vs H) c.v H
 | none => true
def drawOp (call : CallF) (i : Nat) (o : AOp) (d : DInfo) (tr : List Came) (e : Env) (H : Heap) : Option (List Came × Env × Heap) :=
 match wantedA e o.guard with
 | some true => (e.rds o.xs).bind fun (vs, e) => (ev call o.k vs H).bind fun (V, H') =>
  let c : Came := { i, k := o.k, vs := some vs, v := V, H }
  if d.w then
   if tr.all fun c => !d.un.contains c.i || c.again call H' then some (c :: tr, e.putO o.dst V, H') else none
  else
   if sameH H' H && tr.all fun c' => !d.un.contains c'.i || c.again call c'.H then some (c :: tr, e.putO o.dst V, H) else none
 | some false => some ({ i, k := o.k, vs := none, v := .tuple [], H } :: tr, e.putO o.dst (.tuple []), H)
 | none => none
def adraw (call : CallF) : Nat → List (AOp × DInfo) → List Came → Env → Heap → Option (Env × Heap)
 | _, [], _, e, H => some (e, H)
 | i, (o, d) :: os, tr, e, H => (drawOp call i o d tr e H).bind fun (tr, e, H) => adraw call (i + 1) os tr e H
def Box.under (n : Nat) : Box → Bool
 | .cells cs => AVal.underL n cs
 | .arr _ xs => AVal.underL n xs
 | .map es => es.all fun p => p.1.under n && p.2.under n
 | .iter _ _ => true
 | .dead => true
def trimOK (n : Nat) : Heap → Heap → Bool
 | [], _ => true
 | B :: H, B' :: H' => (B'.same B || B'.under n) && trimOK n H H'
 | _ :: _, [] => false
def ins (a : Nat) : List Nat → List (List Nat)
 | [] => [[a]]
 | b :: l => (a :: b :: l) :: (ins a l).map (b :: ·)
def perms : List Nat → List (List Nat)
 | [] => [[]]
 | a :: l => (perms l).flatMap (ins a)
def sameE : Env → Env → Bool
 | [], [] => true
 | (a, v) :: e, (b, w) :: f => a == b && v.same w && sameE e f
 | _, _ => false
def sameR (r : Option (Env × Heap)) (q : Env × Heap) : Bool :=
 match r with
 | some p => sameE p.1 q.1 && sameH p.2 q.2
 | none => false
abbrev MStep := AVal × AVal → Env → Heap → Option (Env × Heap)
def mfold (step : MStep) (es : List (AVal × AVal)) : List Nat → Env → Heap → Option (Env × Heap)
 | [], e, H => some (e, H)
 | i :: is, e, H => (es[i]?).bind fun p => (step p e H).bind fun r => mfold step es is r.1 r.2
def mrun (step : MStep) (es : List (AVal × AVal)) (e : Env) (H : Heap) : Option (Env × Heap) :=
 (mfold step es (List.range es.length) e H).bind fun r =>
  if (perms (List.range es.length)).all fun is => sameR (mfold step es is e H) r then some r else none
def isIter (e : Env) (t i : Nat) : Bool :=
 match e.get t with
 | .ptr j 0 => i == j
 | _ => false
def isDead (H : Heap) (m : Nat) : Bool :=
 match H[m]? with
 | some .dead => true
 | _ => false
def isB (e : Env) (t : Nat) (b : Bool) : Bool :=
 match e.get t with
 | .bool c => c == b
 | _ => false
def mback (kA : List Nat) (m : Nat) (es : List (AVal × AVal)) (H : Heap) (r : Out × Env × Heap) : Option (Env × Heap) :=
 match r with
 | (.normal, e', H') =>
  if decide (H.length ≤ H'.length) && ((e'.dels kA).all fun p => p.2.under H.length) && trimOK H.length (H.set m .dead) H' && isDead H' m then some (e'.dels kA, (H'.take H.length).set m (.map es)) else none
 | _ => none
def mstep (call : CallF) (run : Env → Heap → R) (I : MInfo) (i m : Nat) (es : List (AVal × AVal)) : MStep := fun p e H =>
 if isIter (e.dels I.kA) I.it i && p.1.argOK && p.2.argOK then
  (aops call I.r2 ((e.dels I.kA).put I.nx (.tuple [.bool true, p.1.strip, p.2.strip])) (H.set m .dead)).bind fun q =>
   if isB q.1 I.ok true && isIter q.1 I.it i then
    (aops call I.r3 (q.1.put I.en (.tuple [p.1.strip, p.2.strip])) q.2).bind fun q => (run q.1 q.2).bind (mback I.kA m es H)
   else none
 else none
def mlast (call : CallF) (I : MInfo) (i : Nat) (e : Env) (H : Heap) : Option (Env × Heap) :=
 if isIter (e.dels I.kA) I.it i then
  (aops call I.r2 ((e.dels I.kA).put I.nx (.tuple [.bool false])) H).bind fun q => if isB q.1 I.ok false then some (q.1.dels I.kB, q.2) else none
 else none
def mloopA (call : CallF) (run : Env → Heap → R) (I : MInfo) (e : Env) (H : Heap) : Option (Env × Heap) :=
 (aops call I.pre e H).bind fun q => match q.1.get I.mt with
  | .map (some m) => match q.2[m]? with
   | some (.map es) =>
    (mrun (mstep call run I q.2.length m es) es (q.1.put I.it (.ptr q.2.length 0)) (q.2 ++ [.dead])).bind fun r => mlast call I q.2.length r.1 r.2
   | _ => none
  | _ => none
def aexec (call : CallF) (lp : (Env → Heap → R) → Env → Heap → R) : ACode → Env → Heap → R
 | .skip, e, H => some (.normal, e, H)
 | .region ops, e, H => (aops call ops e H).map fun (e, H) => (.normal, e, H)
 | .regionS segs, e, H => (asegs call segs e H).map fun (e, H) => (.normal, e, H)
 | .draw ops, e, H => (adraw call 0 ops [] e H).map fun (e, H) => (.normal, e, H)
 | .ghost g c, e, H => (agh g e H).bind fun (e, H) => aexec call lp c e H
 | .seq a b, e, H => (aexec call lp a e H).bind fun r => match r with
  | (.normal, e, H) => aexec call lp b e H
  | r => some r
 | .cond c a b, e, H => match e.rd c with
  | some (.bool t) => if t then aexec call lp a e H else aexec call lp b e H
  | _ => none
 | .block id c, e, H => (aexec call lp c e H).map fun r => match r with
  | (.exit i, e, H) => if i = id then (.normal, e, H) else (.exit i, e, H)
  | r => r
 | .loop c, e, H => lp (fun e H => aexec call lp c e H) e H
 | .mloop I c, e, H => (mloopA call (fun e H => aexec call lp c e H) I e H).map fun q => (.normal, q.1, q.2)
 | .exit id, e, H => some (.exit id, e, H)
 | .ret, e, H => some (.ret, e, H)
 | .stuck, _, _ => none
def initEnv : Nat → List AVal → Env
 | _, [] => []
 | i, v :: vs => (i, v) :: initEnv (i + 1) vs
def getRes : Env → Heap → List ARes → Option (List AVal)
 | _, _, [] => some []
 | e, H, .tmp t :: rs => (getRes (e.take (.tmp t true)) H rs).map (e.get t :: ·)
 | e, H, .cell t agg n :: rs => match e.get t with
  | .ptr id off => (evLoad agg n false (.ptr id off) H).bind fun (v, _) => (getRes e H rs).map (v :: ·)
  | _ => none
def AVal.isTuple : AVal → Bool
 | .tuple _ => true
 | _ => false
def tup : List AVal → Option AVal
 | [v] => some v
 | vs => if vs.any AVal.isTuple then none else some (.tuple vs)
def trim (keep : Bool) (H0 : Heap) (v : AVal) (H : Heap) : Option (AVal × Heap) :=
 if keep then some (v, H)
 else if H.length ≤ H0.length then some (v, H)
 else if v.under H0.length && trimOK H0.length H0 H then some (v, H.take H0.length) else none
def runFn (call : CallF) (lp : (Env → Heap → R) → Env → Heap → R) (fn : AFunc) (args : List AVal) (H : Heap) : Option (AVal × Heap) :=
 (aexec call lp fn.body (initEnv 0 args) H).bind fun r => match r with
  | (.exit _, _, _) => none
  | (_, e, H') => (getRes e H' fn.res).bind fun vs => (tup vs).bind fun v => trim fn.keep H v H'
end Go.Abs
