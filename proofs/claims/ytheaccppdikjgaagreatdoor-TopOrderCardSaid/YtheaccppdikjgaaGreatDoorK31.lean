import Derived.Test.YtheaccppdikjgaaGreatDoorK30
namespace Go.Abs
open Go Go.RowKit
set_option linter.unusedVariables false
set_option linter.unusedSimpArgs false
theorem dels_filter : ∀ (ts : List Nat) (e : Env), e.dels ts = e.filter fun p => !ts.contains p.1
 | [], e => by simp only [Env.dels, List.foldl_nil, List.contains_nil, Bool.not_false]; exact (List.filter_eq_self.2 fun _ _ => rfl).symm
 | t :: ts, e => by
  have hd : ∀ e : Env, e.del t = e.filter fun p => !(p.1 == t) := by
   intro e
   induction e with
   | nil => rfl
   | cons p e ih =>
    obtain ⟨k, v⟩ := p
    simp only [Env.del, List.filter_cons]
    by_cases h : t = k
    ·subst h; simp [ih]
    ·have h' : (k == t) = false := by simpa using fun e => h e.symm
     rw [if_neg h, h', ih]; rfl
  show Env.dels (e.del t) ts = _
  rw [dels_filter ts, hd, List.filter_filter]
  congr 1; funext p
  simp only [List.contains_cons, Bool.not_or]
  rw [Bool.and_comm]
theorem dels_dels (ts : List Nat) (e : Env) : (e.dels ts).dels ts = e.dels ts := by
 rw [dels_filter, dels_filter, List.filter_filter]
 congr 1; funext p; simp
theorem iter_eq {S : Env → Heap → R} {f : Env → Env} (h : ∀ e H, S (f e) H = S e H) (n : Nat) (e : Env) (H : Heap) : iter n S (f e) H = iter n S e H := by
 cases n with
 | zero => rfl
 | succ n => simp only [iter, h]
theorem loopW_eq {S : Env → Heap → R} {f : Env → Env} (h : ∀ e H, S (f e) H = S e H) (e : Env) (H : Heap) : loopW S (f e) H = loopW S e H := by
 have key : ∀ r, loopW S (f e) H = some r ↔ loopW S e H = some r := by
  intro r
  constructor
  ·intro h1; obtain ⟨n, hn⟩ := loopW_to h1; rw [iter_eq h] at hn; exact loopW_of hn
  ·intro h1; obtain ⟨n, hn⟩ := loopW_to h1; rw [← iter_eq h] at hn; exact loopW_of hn
 cases h1 : loopW S e H with
 | some r => exact (key r).2 h1
 | none =>
  cases h2 : loopW S (f e) H with
  | none => rfl
  | some r => rw [(key r).1 h2] at h1; cases h1
noncomputable def contA (c : CallF) (ks ks' : List Nat) (x : ACode) : R → R
 | some (.normal, e, H) => loopA c loopW (.ghost (.kill ks) x) (e.dels ks') H
 | r => r
theorem c_normal (c ks ks' x e H) : contA c ks ks' x (some (.normal, e, H)) = loopA c loopW (.ghost (.kill ks) x) (e.dels ks') H := rfl
theorem c_exit (c ks ks' x i e H) : contA c ks ks' x (some (.exit i, e, H)) = some (.exit i, e, H) := rfl
theorem c_ret (c ks ks' x e H) : contA c ks ks' x (some (.ret, e, H)) = some (.ret, e, H) := rfl
theorem loop_step {c : CallF} {ks ks' : List Nat} {x x' : ACode} (hx : x = x') (hk : ks = ks') {e : Env} {H : Heap} {r} (he : e.dels ks = e) (h : contA c ks ks' x (aexec c loopW x' e H) = some r) :
  loopA c loopW (.ghost (.kill ks) x) e H = some r := by
 subst hx; subst hk
 unfold loopA
 refine loopW_step ?_
 have hS : ∀ e H, aexec c loopW (.ghost (.kill ks) x) (e.dels ks) H = aexec c loopW (.ghost (.kill ks) x) e H := by
  intro e H
  simp only [aexec, agh, dels_dels]
 have h1 : aexec c loopW (.ghost (.kill ks) x) e H = aexec c loopW x e H := by
  simp only [aexec, agh, he, Option.bind_some]
 rw [h1]
 cases hx : aexec c loopW x e H with
 | none => rw [hx] at h; cases h
 | some q =>
  obtain ⟨o, e1, H1⟩ := q
  rw [hx] at h
  cases o with
  | normal =>
   simp only [contA, loopA] at h
   simp only [Option.bind_some]
   rw [← loopW_eq (f := fun e => e.dels ks) hS]
   exact h
  | exit i => exact h
  | ret => exact h
abbrev ints (k : IntKind) (l : List Int) : List AVal := l.map (AVal.int k)
abbrev bytes (l : List Int) (fl : Fl) : AVal := .list 1 (ints .u8 l) fl
def toS (l : List Int) : List UInt8 := l.map fun n => UInt8.ofNat n.toNat
def shl (k : IntKind) (a b : Int) : Int := k.wrap (a * 2 ^ (min b.toNat k.bits))
def shr (k : IntKind) (a b : Int) : Int := a / 2 ^ (min b.toNat k.bits)
theorem s_shl (k a b) (h : 0 ≤ b) : shiftA .shl k a b = some (.int k (shl k a b)) := by
 unfold shiftA; rw [if_neg (by omega)]; rfl
theorem s_shr (k a b) (h : 0 ≤ b) : shiftA .shr k a b = some (.int k (shr k a b)) := by
 unfold shiftA shr; rw [if_neg (by omega)]
 simp only [Int.fdiv_eq_ediv_of_nonneg a (show (0 : Int) ≤ 2 ^ (min b.toNat k.bits) from Int.le_of_lt (Int.pow_pos (by decide)))]
theorem dec_ints : ∀ l : List Int, decBytes (ints .u8 l) = some (toS l)
 | [] => rfl
 | x :: l => by
  show (decBytes (ints .u8 l)).map _ = _
  rw [dec_ints l]; rfl
theorem fs_one (x : AVal) (z : AVal) (h : x.strip.cells.length = 1) (h1 : x.strip.cells.all AVal.one = true) (h2 : x.argOK = true) : fillS 1 (List.replicate 1 z) [0] [x] = some [x.strip] := by
 simp only [fillS, h, h1, h2, List.length_replicate]
 rw [if_pos (by simp)]; rfl
theorem fs_int (z : AVal) (k n) : fillS 1 (List.replicate 1 z) [0] [.int k n] = some [.int k n] := rfl
theorem fs_nil (sz : Nat) (z : AVal) : fillS sz (List.replicate 0 z) [] [] = some [] := rfl
theorem ap_own (sz bytes u xs ys) (h : (xs.length + ys.length) * bytes ≤ maxBytes) : evAppend sz bytes u (.list sz xs .own) ys = some (.list sz (xs ++ ys) .own) := by
 simp [evAppend, h]
theorem ap_full (sz bytes xs ys) (h : (xs.length + ys.length) * bytes ≤ maxBytes) : evAppend sz bytes false (.list sz xs .full) ys = some (.list sz (xs ++ ys) .own) := by
 simp [evAppend, h]
theorem sl_all (sz xs fl lo) (h : fl ≠ .uniq) (b) (hb : bounds xs.length lo false false b = some (0, xs.length, none)) : evSlice sz lo false false (.list sz xs fl) b = some (.list sz xs fl) := by
 cases fl <;> simp_all [evSlice]
theorem sl_clip (sz xs fl) (h : fl ≠ .uniq) : evSlice sz false true true (.list sz xs fl) [.int .i64 xs.length, .int .i64 xs.length] = some (.list sz xs .full) := by
 have : bounds xs.length false true true [.int .i64 xs.length, .int .i64 xs.length] = some (0, xs.length, some xs.length) := by
  simp [bounds, natOf]
 simp [evSlice, h, this]
theorem mm_min (k a b) : evMm false [.int k a, .int k b] = some (.int k (if b < a then b else a)) := by simp [evMm]
theorem mm_max (k a b) : evMm true [.int k a, .int k b] = some (.int k (if a < b then b else a)) := by simp [evMm]
theorem cells_int (k n) : (AVal.int k n).cells = [.int k n] := rfl
theorem ld_int (k n tk H) : evLoad false 1 tk (.rptr [.int k n]) H = some (.int k n, H) := rfl
theorem ints_at {k : IntKind} {l p r : List Int} {c : Int} {i : Int} (h : l = p ++ c :: r) (hi : i = (p.length : Int)) : (ints k l)[i.toNat]? = some (.int k c) := by
 subst h; subst hi; simp
theorem ints_get {k : IntKind} {l : List Int} {i : Nat} (h : i < l.length) : (ints k l)[((i : Nat) : Int).toNat]? = some (.int k l[i]) := by simp [h]
def mn (a b : Int) : Int := if b < a then b else a
theorem mm_mn (k a b) : evMm false [.int k a, .int k b] = some (.int k (mn a b)) := mm_min k a b
theorem toS_len (l : List Int) : (toS l).length = l.length := by simp [toS]
def Bytes (l : List Int) : Prop := ∀ x ∈ l, 0 ≤ x ∧ x < 256
def I64 (n : Int) : Prop := -9223372036854775808 ≤ n ∧ n ≤ 9223372036854775807
theorem wrap_id {n : Int} (h : I64 n) : IntKind.i64.wrap n = n := by
 rw [IntKind.wrap_i64]; unfold I64 at h; omega
def noTup (vs : List AVal) : Bool := !vs.any AVal.isTuple
def tupA (b k : Bool) (H0 H : Heap) (vs : List AVal) : Option (AVal × Heap) := if b = true then trim k H0 (.tuple vs) H else none
theorem t_many (k H0 H v u vs) : tailA k H0 H (some (v :: u :: vs)) = tupA (noTup (v :: u :: vs)) k H0 H (v :: u :: vs) := by
 unfold tupA noTup
 cases h : (v :: u :: vs).any AVal.isTuple with
 | false => rw [t_more k H0 H v u vs h]; rfl
 | true => simp only [tailA, tup, h]; rfl
theorem t_tup (k H0 H vs) : tupA true k H0 H vs = trim k H0 (.tuple vs) H := rfl
theorem nt_nil : noTup [] = true := rfl
theorem nt_int (k n vs) : noTup (.int k n :: vs) = noTup vs := rfl
theorem nt_bool (b vs) : noTup (.bool b :: vs) = noTup vs := rfl
theorem nt_str (s vs) : noTup (.str s :: vs) = noTup vs := rfl
theorem nt_list (sz xs fl vs) : noTup (.list sz xs fl :: vs) = noTup vs := rfl
theorem nt_agg (cs vs) : noTup (.agg cs :: vs) = noTup vs := rfl
theorem nt_ptr (id o vs) : noTup (.ptr id o :: vs) = noTup vs := rfl
theorem nt_nilp (vs) : noTup (.nilp :: vs) = noTup vs := rfl
theorem nt_iface (t v vs) : noTup (.iface t v :: vs) = noTup vs := rfl
theorem nt_niliface (vs) : noTup (.niliface :: vs) = noTup vs := rfl
attribute [go_sem] t_many t_tup nt_nil nt_int nt_bool nt_str nt_list nt_agg nt_ptr nt_nilp nt_iface nt_niliface
theorem sl_hi (sz xs fl k) (h : Int) (hf : fl ≠ .uniq) (h0 : 0 ≤ h) (h1 : h ≤ (xs.length : Int)) : evSlice sz false true false (.list sz xs fl) [.int k h] = some (.list sz (xs.take h.toNat) .ro) := by
 have : bounds xs.length false true false [.int k h] = some (0, h.toNat, none) := by simp [bounds, natOf, h0, h1]
 cases fl <;> simp_all [evSlice]
theorem sl_lo (sz xs k) (l : Int) (h0 : 0 ≤ l) (h1 : l ≤ (xs.length : Int)) : evSlice sz true false false (.list sz xs .ro) [.int k l] = some (.list sz (xs.drop l.toNat) .ro) := by
 have : bounds xs.length true false false [.int k l] = some (l.toNat, xs.length, none) := by simp [bounds, natOf, h0, h1]
 simp [evSlice, this]
theorem sl_mid (sz xs fl k k') (l h : Int) (hf : fl ≠ .uniq) (h0 : 0 ≤ l) (hlh : l ≤ h) (h1 : h ≤ (xs.length : Int)) : evSlice sz true true false (.list sz xs fl) [.int k l, .int k' h] = some (.list sz ((xs.take h.toNat).drop l.toNat) .ro) := by
 have : bounds xs.length true true false [.int k l, .int k' h] = some (l.toNat, h.toNat, none) := by
  have a1 : (0 : Int) ≤ h := by omega
  simp [bounds, natOf, h0, h1, a1]
  omega
 cases fl <;> simp_all [evSlice]
theorem st_eql (x y) : strBin .eql x y = some (.bool (x == y)) := rfl
theorem st_neq (x y) : strBin .neq x y = some (.bool (!(x == y))) := rfl
theorem toS_inj : ∀ {l m : List Int}, Bytes l → Bytes m → toS l = toS m → l = m
 | [], [], _, _, _ => rfl
 | [], y :: m, _, _, h => by simp [toS] at h
 | x :: l, [], _, _, h => by simp [toS] at h
 | x :: l, y :: m, hl, hm, h => by
  simp only [toS, List.map_cons, List.cons.injEq] at h
  have hx := hl x (by simp)
  have hy := hm y (by simp)
  have e := congrArg UInt8.toNat h.1
  simp only [UInt8.toNat_ofNat'] at e
  rw [toS_inj (l := l) (m := m) (fun z hz => hl z (List.mem_cons_of_mem _ hz)) (fun z hz => hm z (List.mem_cons_of_mem _ hz)) h.2]
  congr 1
  omega
def pjS (tk : Bool) (v : AVal) : Option AVal := if tk = true then some v else if v.hasU = true then none else some v.share
theorem pjS_T (v) : pjS true v = some v := rfl
theorem pjS_F (v) : pjS false v = if v.hasU = true then none else some v.share := rfl
theorem pj_0 (tk a vs) : projA 0 tk (.tuple (a :: vs)) = pjS tk a := rfl
theorem pj_1 (tk a b vs) : projA 1 tk (.tuple (a :: b :: vs)) = pjS tk b := rfl
theorem pj_2 (tk a b c vs) : projA 2 tk (.tuple (a :: b :: c :: vs)) = pjS tk c := rfl
theorem pj_3 (tk a b c d vs) : projA 3 tk (.tuple (a :: b :: c :: d :: vs)) = pjS tk d := rfl
theorem pt_0 (e t a vs) : projT e t 0 (.tuple (a :: vs)) = e.put t (.tuple (a.demote :: vs)) := rfl
theorem pt_1 (e t a b vs) : projT e t 1 (.tuple (a :: b :: vs)) = e.put t (.tuple (a :: b.demote :: vs)) := rfl
theorem pt_2 (e t a b c vs) : projT e t 2 (.tuple (a :: b :: c :: vs)) = e.put t (.tuple (a :: b :: c.demote :: vs)) := rfl
attribute [go_sem] Bool.false_or Bool.or_false Bool.true_or Bool.or_true
theorem fs_2 (z : AVal) (k a b) : fillS 1 (List.replicate 2 z) [0, 1] [.int k a, .int k b] = some [.int k a, .int k b] := rfl
theorem fs_4 (z : AVal) (k a b c d) : fillS 1 (List.replicate 4 z) [0, 1, 2, 3] [.int k a, .int k b, .int k c, .int k d] = some [.int k a, .int k b, .int k c, .int k d] := rfl
theorem bd_hi (len : Nat) (k) (h : Int) (h0 : 0 ≤ h) (h1 : h ≤ (len : Int)) : bounds len false true false [.int k h] = some (0, h.toNat, none) := by simp [bounds, natOf, h0, h1]
theorem bd_lo (len : Nat) (k) (h : Int) (h0 : 0 ≤ h) (h1 : h ≤ (len : Int)) : bounds len true false false [.int k h] = some (h.toNat, len, none) := by simp [bounds, natOf, h0, h1]
theorem sl_max (sz xs fl k k') (h : Int) (hf : fl ≠ .uniq) (h0 : 0 ≤ h) (h1 : h ≤ (xs.length : Int)) : evSlice sz false true true (.list sz xs fl) [.int k h, .int k' h] = some (.list sz (xs.take h.toNat) .full) := by
 have a1 : h ≤ max h 0 := by omega
 have : bounds xs.length false true true [.int k h, .int k' h] = some (0, h.toNat, some h.toNat) := by simp [bounds, natOf, h0, h1, a1]
 cases fl <;> simp_all [evSlice]
attribute [go_sem] pjS_T pjS_F pj_0 pj_1 pj_2 pj_3 pt_0 pt_1 pt_2
attribute [go_sem] st_eql st_neq
attribute [go_sem] mm_mn cells_int ld_int dec_ints
attribute [go_sem] x_regionS sg_nil sg_cons sg_a sg_F sg_T sgU_T mg_a mg_nil mg_cons do_nil do_some do_none sb_nil sb_cons nu_nil nu_cons AVal.scalar AVal.under under_ints
attribute [go_sem] x_skip x_exit x_ret x_seq x_region x_draw x_ghost x_cond x_block x_loop o_nil o_cons o_free o_guard r_nil r_cons rd_take rd_share rd_val tk_take tk_share tk_val rd_proj tk_proj tk_projS g_nil g_cons p_nil p_cons pO_some pO_none gh_kill ds_nil ds_cons d_nil d_cons i_nil i_cons
 f_seqN f_seqE f_seqR f_reg f_gh f_blockN f_blockE f_blockR f_condT f_condF f_ops f_put f_run f_grdTT f_grdFF f_grdTF f_grdFT f_grdN f_cons f_rd f_val
 e_move e_pick e_buildSlice e_load e_store e_bin e_un e_toInt e_toStr e_strStr e_toBytes e_buildU e_mark e_mkmap e_lookup e_mapSet e_mkfn e_slice e_sslice e_addOff e_ixAddr e_ixStr e_ixAgg e_ixArr e_append e_appendStr e_cap e_cutU e_cutF e_grow e_lenL e_lenS e_mm e_call e_callO e_callv e_mkiface
 b_int b_shl b_shr b_str b_eqB b_neB b_agg b_aggN a_add a_sub a_mul a_quo a_rem a_and a_or a_xor a_andNot a_eql a_neq a_lss a_leq a_gtr a_geq u_not u_neg u_xor Option.bind_some
 AVal.hasU AVal.isU AVal.share AVal.share0 AVal.demote AVal.strip AVal.argOK List.any_cons List.any_nil List.all_cons List.all_nil List.map_cons List.map_nil
 run_fn fin_ret fin_normal q_nil q_tmp q_cell q_cons t_one t_none c_normal c_exit c_ret
end Go.Abs
