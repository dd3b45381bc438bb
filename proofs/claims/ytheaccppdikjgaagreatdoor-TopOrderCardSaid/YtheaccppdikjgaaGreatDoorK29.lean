import Derived.Test.YtheaccppdikjgaaGreatDoorK28
import Derived.RowKit
namespace Go.Abs
open Go Go.RowKit
set_option linter.unusedVariables false
set_option linter.unusedSimpArgs false
def seqA (c : CallF) (l : LoopF) (b : ACode) : R → R
 | some (.normal, e, H) => aexec c l b e H
 | r => r
def regA : Option (Env × Heap) → R
 | some (e, H) => some (.normal, e, H)
 | none => none
def ghA (c : CallF) (l : LoopF) (b : ACode) : Option (Env × Heap) → R
 | some (e, H) => aexec c l b e H
 | none => none
def blockA (id : Nat) : R → R
 | some (.exit i, e, H) => if i = id then some (.normal, e, H) else some (.exit i, e, H)
 | r => r
def condA (c : CallF) (l : LoopF) (a b : ACode) (e : Env) (H : Heap) : Option AVal → R
 | some (.bool true) => aexec c l a e H
 | some (.bool false) => aexec c l b e H
 | _ => none
def opsA (c : CallF) (os : List AOp) : Option (Env × Heap) → Option (Env × Heap)
 | some (e, H) => aops c os e H
 | none => none
def putA (d : Option Nat) (e : Env) : Option (AVal × Heap) → Option (Env × Heap)
 | some (v, H) => some (e.putO d v, H)
 | none => none
def runA (c : CallF) (d : Option Nat) (k : K) (H : Heap) : Option (List AVal × Env) → Option (Env × Heap)
 | some (vs, e) => putA d e (ev c k vs H)
 | none => none
def grdA (c : CallF) (b : Bool) (d : Option Nat) (k : K) (xs : List Opd) (e : Env) (H : Heap) : AVal → Option (Env × Heap)
 | .bool t => if t = b then runA c d k H (e.rds xs) else some (e.putO d (.tuple []), H)
 | .tuple _ => some (e.putO d (.tuple []), H)
 | _ => none
def consA (v : AVal) : Option (List AVal × Env) → Option (List AVal × Env)
 | some (vs, e) => some (v :: vs, e)
 | none => none
def rdA (x : Opd) (xs : List Opd) (e : Env) : Option AVal → Option (List AVal × Env)
 | some v => consA v ((e.take x).rds xs)
 | none => none
def valA (H : Heap) : Option AVal → Option (AVal × Heap)
 | some v => some (v, H)
 | none => none
theorem f_seqN (c l b e H) : seqA c l b (some (.normal, e, H)) = aexec c l b e H := rfl
theorem f_seqE (c l b i e H) : seqA c l b (some (.exit i, e, H)) = some (.exit i, e, H) := rfl
theorem f_seqR (c l b e H) : seqA c l b (some (.ret, e, H)) = some (.ret, e, H) := rfl
theorem f_reg (e H) : regA (some (e, H)) = some (.normal, e, H) := rfl
theorem f_gh (c l b e H) : ghA c l b (some (e, H)) = aexec c l b e H := rfl
theorem f_blockN (id e H) : blockA id (some (.normal, e, H)) = some (.normal, e, H) := rfl
theorem f_blockE (id i e H) : blockA id (some (.exit i, e, H)) = if i = id then some (.normal, e, H) else some (.exit i, e, H) := rfl
theorem f_blockR (id e H) : blockA id (some (.ret, e, H)) = some (.ret, e, H) := rfl
theorem f_condT (c l a b e H) : condA c l a b e H (some (.bool true)) = aexec c l a e H := rfl
theorem f_condF (c l a b e H) : condA c l a b e H (some (.bool false)) = aexec c l b e H := rfl
theorem f_ops (c os e H) : opsA c os (some (e, H)) = aops c os e H := rfl
theorem f_put (d e v H) : putA d e (some (v, H)) = some (e.putO d v, H) := rfl
theorem f_run (c d k H vs e) : runA c d k H (some (vs, e)) = putA d e (ev c k vs H) := rfl
theorem f_grdTT (c d k xs e H) : grdA c true d k xs e H (.bool true) = runA c d k H (e.rds xs) := rfl
theorem f_grdFF (c d k xs e H) : grdA c false d k xs e H (.bool false) = runA c d k H (e.rds xs) := rfl
theorem f_grdTF (c d k xs e H) : grdA c true d k xs e H (.bool false) = some (e.putO d (.tuple []), H) := rfl
theorem f_grdFT (c d k xs e H) : grdA c false d k xs e H (.bool true) = some (e.putO d (.tuple []), H) := rfl
theorem f_grdN (c b d k xs e H vs) : grdA c b d k xs e H (.tuple vs) = some (e.putO d (.tuple []), H) := rfl
theorem f_cons (v vs e) : consA v (some (vs, e)) = some (v :: vs, e) := rfl
theorem f_rd (x xs e v) : rdA x xs e (some v) = consA v ((e.take x).rds xs) := rfl
theorem f_val (H v) : valA H (some v) = some (v, H) := rfl
def loopA (c : CallF) (l : LoopF) (x : ACode) (e : Env) (H : Heap) : R := l (fun e H => aexec c l x e H) e H
section
variable (c : CallF) (l : LoopF)
theorem x_skip (e H) : aexec c l .skip e H = some (.normal, e, H) := rfl
theorem x_exit (i e H) : aexec c l (.exit i) e H = some (.exit i, e, H) := rfl
theorem x_ret (e H) : aexec c l .ret e H = some (.ret, e, H) := rfl
theorem x_seq (a b e H) : aexec c l (.seq a b) e H = seqA c l b (aexec c l a e H) := by
 simp only [aexec]
 cases aexec c l a e H with
 | none => rfl
 | some r => rcases r with ⟨o, e, H⟩; cases o <;> rfl
theorem x_region (ops e H) : aexec c l (.region ops) e H = regA (aops c ops e H) := by
 simp only [aexec]; cases aops c ops e H <;> rfl
theorem x_draw (ops e H) : aexec c l (.draw ops) e H = regA (adraw c 0 ops [] e H) := by
 simp only [aexec]; cases adraw c 0 ops [] e H <;> rfl
theorem x_regionS (ss e H) : aexec c l (.regionS ss) e H = regA (asegs c ss e H) := by
 simp only [aexec]; cases asegs c ss e H <;> rfl
theorem x_ghost (g x e H) : aexec c l (.ghost g x) e H = ghA c l x (agh g e H) := by
 simp only [aexec]; cases agh g e H <;> rfl
theorem x_cond (x a b e H) : aexec c l (.cond x a b) e H = condA c l a b e H (e.rd x) := by
 simp only [aexec]
 cases e.rd x with
 | none => rfl
 | some v => cases v <;> first | rfl | (rename_i t; cases t <;> rfl)
theorem x_block (id x e H) : aexec c l (.block id x) e H = blockA id (aexec c l x e H) := by
 simp only [aexec]
 cases aexec c l x e H with
 | none => rfl
 | some r =>
  rcases r with ⟨o, e, H⟩
  cases o
  ·rfl
  ·simp only [blockA, Option.map_some]; split <;> rfl
  ·rfl
theorem x_loop (x e H) : aexec c l (.loop x) e H = loopA c l x e H := rfl
theorem sg_nil (e H) : asegs c [] e H = some (e, H) := rfl
def sgA (c : CallF) (ss : List (Bool × List AOp)) : Option (Env × Heap) → Option (Env × Heap)
 | some (e, H) => asegs c ss e H
 | none => none
theorem sg_cons (s ss e H) : asegs c (s :: ss) e H = sgA c ss (aseg c s e H) := by
 simp only [asegs]; cases aseg c s e H <;> rfl
theorem sg_a (ss e H) : sgA c ss (some (e, H)) = asegs c ss e H := rfl
theorem sg_F (os e H) : aseg c (false, os) e H = aops c os e H := rfl
def mgA (e : Env) (H : Heap) (ds : List Nat) : Option (Env × Heap) → Option (Env × Heap)
 | some (e1, _) => some (e.merge e1 ds, H)
 | none => none
def sgU (b : Bool) (r : Option (Env × Heap)) : Option (Env × Heap) := if b = true then r else none
theorem sg_T (os e H) : aseg c (true, os) e H = sgU (noU e) (mgA e H (dstsOf os) (aops c os e.sub [])) := by
 simp only [aseg, if_true, sgU]
 split
 ·cases aops c os e.sub [] <;> rfl
 ·rfl
theorem sgU_T (r) : sgU true r = r := rfl
theorem mg_a (e H ds e1 H1) : mgA e H ds (some (e1, H1)) = some (e.merge e1 ds, H) := rfl
theorem mg_nil (e e1 : Env) : e.merge e1 [] = e := rfl
theorem mg_cons (e e1 : Env) (t ts) : e.merge e1 (t :: ts) = Env.merge (e.put t (if (e1.get t).scalar = true then e1.get t else .any)) e1 ts := rfl
theorem do_nil : dstsOf [] = [] := rfl
theorem do_some (d g k xs os) : dstsOf (⟨some d, g, k, xs⟩ :: os) = d :: dstsOf os := rfl
theorem do_none (g k xs os) : dstsOf (⟨none, g, k, xs⟩ :: os) = dstsOf os := rfl
theorem sb_nil : Env.sub [] = [] := rfl
theorem sb_cons (k v e) : Env.sub ((k, v) :: e) = (k, if v.under 0 = true then v else .any) :: Env.sub e := rfl
theorem nu_nil : noU [] = true := rfl
theorem nu_cons (p e) : noU (p :: e) = (!p.2.hasU && noU e) := rfl
theorem o_nil (e H) : aops c [] e H = some (e, H) := rfl
theorem o_cons (o os e H) : aops c (o :: os) e H = opsA c os (aop c o e H) := by
 simp only [aops]; cases aop c o e H <;> rfl
theorem run_eq (d k xs e H) : ((Env.rds e xs).bind fun (vs, e) => (ev c k vs H).map fun (V, H) => (e.putO d V, H)) = runA c d k H (e.rds xs) := by
 cases e.rds xs with
 | none => rfl
 | some p => rcases p with ⟨vs, e⟩; simp only [Option.bind_some, runA, putA]; cases ev c k vs H <;> rfl
theorem o_free (d k xs e H) : aop c ⟨d, none, k, xs⟩ e H = runA c d k H (e.rds xs) := by
 simp only [aop, wantedA]; exact run_eq c d k xs e H
theorem o_guard (d g b k xs e H) : aop c ⟨d, some (g, b), k, xs⟩ e H = grdA c b d k xs e H (e.get g) := by
 simp only [aop, wantedA]
 cases e.get g <;> first | rfl | skip
 rename_i t
 cases t <;> cases b <;> simp only [grdA] <;> first | exact run_eq c d k xs e H | rfl
theorem r_nil (e : Env) : e.rds [] = some ([], e) := rfl
theorem r_cons (e : Env) (x xs) : e.rds (x :: xs) = rdA x xs e (e.rd x) := by
 simp only [Env.rds]
 cases e.rd x with
 | none => rfl
 | some v => simp only [Option.bind_some, rdA]; cases (e.take x).rds xs <;> rfl
theorem rd_take (e : Env) (t) : e.rd (.tmp t true) = some (e.get t) := rfl
theorem rd_share (e : Env) (t) : e.rd (.tmp t false) = if (e.get t).hasU = true then none else some (e.get t).share := rfl
theorem rd_val (e : Env) (v) : e.rd (.val v) = some v := rfl
theorem tk_take (e : Env) (t) : e.take (.tmp t true) = e.put t (e.get t).demote := rfl
theorem tk_share (e : Env) (t) : e.take (.tmp t false) = e := rfl
theorem tk_val (e : Env) (v) : e.take (.val v) = e := rfl
def projA (i : Nat) (tk : Bool) : AVal → Option AVal
 | .tuple vs => (vs[i]?).bind fun v => if tk = true then some v else if v.hasU = true then none else some v.share
 | _ => none
theorem rd_proj (e : Env) (t i tk) : e.rd (.proj t i tk) = projA i tk (e.get t) := by
 simp only [Env.rd, projA]
 cases e.get t <;> first | rfl | skip
 rename_i vs
 cases h : vs[i]? <;> simp [h]
theorem projA_tuple (i tk vs) : projA i tk (.tuple vs) = (vs[i]?).bind fun v => if tk = true then some v else if v.hasU = true then none else some v.share := rfl
def projT (e : Env) (t i : Nat) : AVal → Env
 | .tuple vs => (match vs[i]? with | some v => e.put t (.tuple (vs.set i v.demote)) | none => e)
 | _ => e
theorem tk_proj (e : Env) (t i) : e.take (.proj t i true) = projT e t i (e.get t) := by
 simp only [Env.take, projT]
 cases e.get t <;> rfl
theorem tk_projS (e : Env) (t i) : e.take (.proj t i false) = e := rfl
theorem projT_tuple (e : Env) (t i vs) : projT e t i (.tuple vs) = match vs[i]? with | some v => e.put t (.tuple (vs.set i v.demote)) | none => e := rfl
theorem g_nil (t : Nat) : Env.get [] t = .any := rfl
theorem g_cons (k : Nat) (v : AVal) (e : Env) (t : Nat) : Env.get ((k, v) :: e) t = if t = k then v else Env.get e t := rfl
theorem p_nil (t : Nat) (v : AVal) : Env.put [] t v = [(t, v)] := rfl
theorem p_cons (k : Nat) (w : AVal) (e : Env) (t : Nat) (v : AVal) : Env.put ((k, w) :: e) t v = if t = k then (t, v) :: e else if t < k then (t, v) :: (k, w) :: e else (k, w) :: Env.put e t v := rfl
theorem pO_some (e : Env) (t : Nat) (v : AVal) : e.putO (some t) v = e.put t v := rfl
theorem pO_none (e : Env) (v : AVal) : e.putO none v = e := rfl
theorem gh_kill (ts e H) : agh (.kill ts) e H = some (e.dels ts, H) := rfl
theorem ds_nil (e : Env) : e.dels [] = e := rfl
theorem ds_cons (e : Env) (t ts) : e.dels (t :: ts) = (e.del t).dels ts := rfl
theorem d_nil (t) : Env.del [] t = [] := rfl
theorem d_cons (k w e t) : Env.del ((k, w) :: e) t = if t = k then Env.del e t else (k, w) :: Env.del e t := rfl
theorem i_nil (i) : initEnv i [] = [] := rfl
theorem i_cons (i v vs) : initEnv i (v :: vs) = (i, v) :: initEnv (i + 1) vs := rfl
theorem e_move (x H) : ev c .move [x] H = some (x, H) := rfl
theorem e_pick (t a b H) : ev c .pick [.bool t, a, b] H = some (if t = true then a else b, H) := rfl
theorem e_alloc (cs H) : ev c (.alloc cs) [] H = some (.ptr H.length 0, H ++ [.cells cs]) := rfl
theorem e_box (x H) : ev c .box [x] H = if x.known = true then some (.ptr H.length 0, H ++ [.cells x.flat]) else none := rfl
theorem e_build (z ps xs H) : ev c (.build z ps) xs H = (fillA z ps xs).bind fun cs => some (.agg cs, H) := by
 simp only [ev, Option.map_eq_bind]; rfl
theorem e_buildSlice (sz z n ix xs H) : ev c (.buildSlice sz z n ix) xs H = (fillS sz (List.replicate n z) ix xs).bind fun els => some (.list sz els .full, H) := by
 simp only [ev, Option.map_eq_bind]; rfl
theorem e_load (agg n tk p H) : ev c (.load agg n tk) [p] H = evLoad agg n tk p H := rfl
theorem e_store (n p v H) : ev c (.store n) [p, v] H = evStore n p v H := rfl
theorem e_bin (op bk x y H) : ev c (.bin op bk) [x, y] H = valA H (evBin op bk x y) := by
 simp only [ev]; first | rfl | (generalize evBin op bk x y = z; cases z <;> rfl)
theorem e_un (op x H) : ev c (.un op) [x] H = valA H (evUn op x) := by
 simp only [ev]; first | rfl | (generalize evUn op x = z; cases z <;> rfl)
theorem e_toInt (k k' n H) : ev c (.toInt k) [.int k' n] H = some (.int k (k.wrap n), H) := rfl
theorem e_toStr (xs fl H) : ev c .toStr [.list 1 xs fl] H = (decBytes xs).bind fun s => some (.str s, H) := by
 simp only [ev, Option.map_eq_bind, if_true]; rfl
theorem e_strStr (s H) : ev c .strStr [.str s] H = some (.str s, H) := rfl
theorem e_mkmap (H) : ev c .mkmap [] H = some (.map (some H.length), H ++ [.map []]) := rfl
theorem e_lookup (k z ok m x H) : ev c (.lookup k z ok) [m, x] H = (evLookup k z ok m x H).bind fun V => some (V, H) := by
 simp only [ev]; cases evLookup k z ok m x H <;> rfl
theorem e_mapSet (k m x v H) : ev c (.mapSet k) [m, x, v] H = evMapSet k m x v H := rfl
theorem e_buildU (sz z n ix xs H) : ev c (.buildU sz z n ix) xs H = (fillS sz (List.replicate n z) ix xs).bind fun els => some (.list sz els .uniq, H) := by
 simp only [ev]; cases fillS sz (List.replicate n z) ix xs <;> rfl
theorem e_mark (x xs H) : ev c .mark [.list 1 (x :: xs) .uniq] H = some (.list 1 (x :: xs) .ro, H) := by simp [ev]
theorem e_toBytes (s H) : ev c .toBytes [.str s] H = if s.length ≤ maxBytes then some (.list 1 (encBytes s) .own, H) else none := rfl
theorem e_mkfn (f n xs H) : ev c (.mkfn f n) xs H = if xs.all AVal.argOK = true then some (.fn f ((xs.take n).map AVal.strip) ((xs.drop n).map AVal.strip), H) else none := rfl
theorem e_slice (sz lo hi mx x bs H) : ev c (.slice sz lo hi mx) (x :: bs) H = valA H (evSlice sz lo hi mx x bs) := by
 simp only [ev]; first | rfl | (generalize evSlice sz lo hi mx x bs = z; cases z <;> rfl)
theorem e_sslice (lo hi s bs H) : ev c (.sslice lo hi) (.str s :: bs) H = (bounds s.length lo hi false bs).bind fun q => some (.str ((s.take q.2.1).drop q.1), H) := by
 simp only [ev, Option.map_eq_bind]; rfl
theorem e_addOff (off x H) : ev c (.addOff off) [x] H = valA H (addO off x) := by
 simp only [ev]; first | rfl | (generalize addO off x = z; cases z <;> rfl)
theorem e_field (agg off n cs H) : ev c (.field agg off n) [.agg cs] H = valA H (ldCells agg n (cs.drop off)) := by
 simp only [ev]; first | rfl | (generalize ldCells agg n (cs.drop off) = z; cases z <;> rfl)
theorem e_ixAddr (sz xs fl k i H) (hf : fl ≠ .uniq) : ev c (.ixAddr sz) [.list sz xs fl, .int k i] H = if 0 ≤ i then (xs[i.toNat]?).bind fun X => some (.rptr X.cells, H) else none := by
 simp only [ev, Option.map_eq_bind]
 by_cases h : 0 ≤ i
 ·rw [if_pos (by simp [h, hf]), if_pos h]; rfl
 ·rw [if_neg (by simp [h]), if_neg h]
theorem e_ixStr (s k i H) : ev c .ixStr [.str s, .int k i] H = if 0 ≤ i then (s[i.toNat]?).bind fun b => some (.int .u8 (b.toNat : Int), H) else none := by
 simp only [ev, Option.map_eq_bind]; rfl
theorem e_ixAgg (agg len sz cs k i H) : ev c (.ixAgg agg len sz) [.agg cs, .int k i] H = if 0 ≤ i ∧ i < len then (ldCells agg sz (cs.drop (i.toNat * sz))).bind fun v => some (v, H) else none := by
 simp only [ev, Option.map_eq_bind]; rfl
theorem e_ixArr (len sz x k i H) : ev c (.ixArr len sz) [x, .int k i] H = if 0 ≤ i ∧ i < len then (addO (i.toNat * sz) x).bind fun v => some (v, H) else none := by
 simp only [ev, Option.map_eq_bind]; rfl
theorem e_append (sz bytes u x ys fl H) (hf : fl ≠ .uniq) : ev c (.append sz bytes u) [x, .list sz ys fl] H = valA H (evAppend sz bytes u x ys) := by
 simp only [ev]; rw [if_pos (by simpa using hf)]; cases evAppend sz bytes u x ys <;> rfl
theorem e_appendB (sz bytes u x ys id H) (h : H[id]? = some (.arr sz ys)) : ev c (.append sz bytes u) [x, .lbox id] H = valA H (evAppend sz bytes u x ys) := by
 simp only [ev, h, if_true]; cases evAppend sz bytes u x ys <;> rfl
theorem e_appendStr (bytes u x s H) : ev c (.appendStr bytes u) [x, .str s] H = valA H (evAppend 1 bytes u x (encBytes s)) := by
 simp only [ev]; first | rfl | (generalize evAppend 1 bytes u x (encBytes s) = z; cases z <;> rfl)
theorem e_cap (sz xs H) : ev c .cap [.list sz xs .full] H = some (.int .i64 xs.length, H) := rfl
theorem e_cutU (sz xs k n H) : ev c (.cut sz) [.list sz xs .uniq, .int k n] H = if 0 ≤ n ∧ n ≤ xs.length then some (.list sz (xs.take n.toNat) .uniq, H) else none := by
 simp only [ev, evCut, natOf, if_true]; split <;> rfl
theorem e_cutF (sz k H) : ev c (.cut sz) [.list sz [] .full, .int k 0] H = some (.list sz [] .full, H) := by
 simp [ev, evCut, natOf]
theorem e_grow (sz zero bytes n H) : ev c (.grow sz zero bytes) [.list sz [] .full, .int .i64 n] H = if 0 < n ∧ n * bytes ≤ maxBytes then some (.list sz (List.replicate n.toNat zero) .uniq, H) else none := by
 simp [ev]
theorem e_lenL (sz xs fl H) : ev c (.len false) [.list sz xs fl] H = some (.int .i64 xs.length, H) := rfl
theorem e_lenS (s H) : ev c (.len true) [.str s] H = some (.int .i64 s.length, H) := rfl
theorem e_mm (m xs H) : ev c (.mm m) xs H = valA H (evMm m xs) := by
 simp only [ev]; first | rfl | (generalize evMm m xs = z; cases z <;> rfl)
theorem e_call (f xs H) : ev c (.call f false) xs H = if xs.all AVal.argOK = true then c f (xs.map AVal.strip) H else none := rfl
theorem e_callO (f xs H) : ev c (.call f true) xs H = c f xs H := rfl
theorem e_callv (g a b xs H) : ev c .callv (.fn g a b :: xs) H = if xs.all AVal.argOK = true then c g (a.map AVal.strip ++ xs.map AVal.strip ++ b.map AVal.strip) H else none := rfl
theorem e_mkiface (t x H) : ev c (.mkiface t) [x] H = if x.argOK = true then some (.iface t x.strip, H) else none := rfl
end
theorem b_int (op k a b) (h : op ≠ .shl) (h' : op ≠ .shr) : evBin op .plain (.int k a) (.int k b) = arith op k a b := by
 cases op <;> first | exact absurd rfl h | exact absurd rfl h' | simp [evBin]
theorem b_shl (k a k' b) : evBin .shl .plain (.int k a) (.int k' b) = shiftA .shl k a b := rfl
theorem b_shr (k a k' b) : evBin .shr .plain (.int k a) (.int k' b) = shiftA .shr k a b := rfl
theorem b_str (op a b) : evBin op .plain (.str a) (.str b) = strBin op a b := by cases op <;> rfl
theorem b_eqB (a b) : evBin .eql .bool (.bool a) (.bool b) = some (.bool (a == b)) := rfl
theorem b_neB (a b) : evBin .neq .bool (.bool a) (.bool b) = some (.bool (a != b)) := rfl
theorem b_agg (ks a b) : evBin .eql (.agg ks) (.agg a) (.agg b) = (eqCells ks a b).bind fun t => some (.bool t) := by simp only [evBin, Option.map_eq_bind]; rfl
theorem b_aggN (ks a b) : evBin .neq (.agg ks) (.agg a) (.agg b) = (eqCells ks a b).bind fun t => some (.bool (!t)) := by simp only [evBin, Option.map_eq_bind]; rfl
theorem a_add (k a b) : arith .add k a b = some (.int k (k.wrap (a + b))) := rfl
theorem a_sub (k a b) : arith .sub k a b = some (.int k (k.wrap (a - b))) := rfl
theorem a_mul (k a b) : arith .mul k a b = some (.int k (k.wrap (a * b))) := rfl
theorem a_quo (k a b) : arith .quo k a b = if b = 0 then none else some (.int k (k.wrap (a.tdiv b))) := rfl
theorem a_rem (k a b) : arith .rem k a b = if b = 0 then none else some (.int k (a.tmod b)) := rfl
theorem a_and (k a b) : arith .and k a b = some (.int k (bits .and k a b)) := rfl
theorem a_or (k a b) : arith .or k a b = some (.int k (bits .or k a b)) := rfl
theorem a_xor (k a b) : arith .xor k a b = some (.int k (bits .xor k a b)) := rfl
theorem a_andNot (k a b) : arith .andNot k a b = some (.int k (bits .andNot k a b)) := rfl
theorem a_eql (k a b) : arith .eql k a b = some (.bool (decide (a = b))) := by simp only [arith]; congr 2
theorem a_neq (k a b) : arith .neq k a b = some (.bool (decide (a ≠ b))) := by
 simp only [arith]; congr 2
 by_cases h : a = b <;> simp [h]
theorem a_lss (k a b) : arith .lss k a b = some (.bool (decide (a < b))) := rfl
theorem a_leq (k a b) : arith .leq k a b = some (.bool (decide (a ≤ b))) := rfl
theorem a_gtr (k a b) : arith .gtr k a b = some (.bool (decide (a > b))) := rfl
theorem a_geq (k a b) : arith .geq k a b = some (.bool (decide (a ≥ b))) := rfl
theorem u_not (b) : evUn .not (.bool b) = some (.bool (!b)) := rfl
theorem u_neg (k n) : evUn .neg (.int k n) = some (.int k (k.wrap (0 - n))) := rfl
theorem u_xor (k n) : evUn .xor (.int k n) = arith .xor k (if k.signed = true then -1 else k.max) n := rfl
end Go.Abs
