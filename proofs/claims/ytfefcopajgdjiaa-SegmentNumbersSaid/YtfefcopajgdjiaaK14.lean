import Derived.Test.YtfefcopajgdjiaaK13
namespace Go.Abs
open Go
set_option linter.unusedVariables false
set_option linter.unusedSimpArgs false

section
variable {P : Program}

theorem Rv.int_inv {G w k n v} (h : Rv G w (.int k n) v) : v = .int k n := by cases h; rfl
theorem Rv.str_inv {G w s v} (h : Rv G w (.str s) v) : v = .string ⟨⟨s⟩⟩ := by cases h; rfl
theorem Rv.bool_inv {G w b v} (h : Rv G w (.bool b) v) : v = .bool b := by cases h; rfl

theorem extract_mk (s : List UInt8) (l h : Nat) (hh : h ≤ s.length) : (⟨⟨s⟩⟩ : ByteArray).extract l h = ⟨⟨(s.take h).drop l⟩⟩ := by
 apply ByteArray.ext
 apply Array.ext'
 simp only [ByteArray.data_extract, List.extract_toArray, List.toList_toArray]
 rw [List.drop_take]

theorem sslice_ok {E G env tm H w} {t : TypeId} (hu : P.underlying t = some .string) (low high : Option Value) {x : AVal} {xv : Value} {bs : List AVal} (hl : bs.length = (low.toList ++ high.toList).length)
  (h : St E G ⟨env, tm, (x, xv) :: bs.zip (low.toList ++ high.toList), H⟩ w) {s : List UInt8} (hx : x = .str s) {l r : Nat} {m : Option Nat}
  (he : bounds s.length low.isSome high.isSome false bs = some (l, r, m)) : Does P E env tm (Instr.sliceAt t xv low high none) w (.str ((s.take r).drop l)) H := by
 subst hx
 have hvs := vals_of (.str s :: bs) (xv :: (low.toList ++ high.toList)) [] (by simp [hl]) (by simpa using h)
 cases hvs with
 | cons hx hb =>
 cases (show Rv G w (.str s) xv from hx)
 obtain ⟨m', hrun, q1, q2, q3, q4, q5⟩ := bounds_ok (P := P) (Nat.le_refl s.length) false low high none (by simpa using hb) he
 refine Does.pure h (v := .string ⟨⟨(s.take r).drop l⟩⟩) ?_ (.str _) rfl
 simp [Instr.sliceAt, Instr.slice, run_underlying hu, hrun, size_mk, extract_mk s l r q2]

theorem decBytes_get : ∀ {xs : List AVal} {s : List UInt8}, decBytes xs = some s → ∃ ns : List Int, xs = ns.map (AVal.int .u8) ∧ s = ns.map (fun n => UInt8.ofNat n.toNat)
 | [], s, h => by simp [decBytes] at h; subst h; exact ⟨[], rfl, rfl⟩
 | x :: xs, s, h => by
  unfold decBytes at h
  split at h
  ·rename_i heq; cases heq
  ·rename_i n xs' heq
   cases heq
   simp only [Option.map_eq_some_iff] at h
   obtain ⟨s', hs, rfl⟩ := h
   obtain ⟨ns, rfl, rfl⟩ := decBytes_get hs
   exact ⟨n :: ns, rfl, rfl⟩
  ·cases h

theorem push_fold (ns : List Int) (s : List UInt8) : ns.foldl (fun (r : ByteArray) n => r.push (UInt8.ofNat n.toNat)) ⟨⟨s⟩⟩ = ⟨⟨s ++ ns.map (fun n => UInt8.ofNat n.toNat)⟩⟩ := by
 induction ns generalizing s with
 | nil => simp
 | cons n ns ih =>
  simp only [List.foldl_cons, List.map_cons]
  have : (⟨⟨s⟩⟩ : ByteArray).push (UInt8.ofNat n.toNat) = ⟨⟨s ++ [UInt8.ofNat n.toNat]⟩⟩ := by
   apply ByteArray.ext; apply Array.ext'; simp [ByteArray.push]
  rw [this, ih]; simp

theorem toStr_ok {E G env tm H w} {src dst e : TypeId} (hs : P.underlying src = some (.slice e)) (hd : P.underlying dst = some .string) (he : P.underlying e = some (.int .u8)) {x : AVal} {xv : Value}
  (h : St E G ⟨env, tm, [(x, xv)], H⟩ w) {xs : List AVal} {fl : Fl} {s : List UInt8} (hx : x = .list 1 xs fl) (hfl : fl ≠ .uniq) (hdec : decBytes xs = some s) :
  Does P E env tm (convert src dst xv) w (.str s) H := by
 subst hx
 have hr : Rv G w (.list 1 xs fl) xv := (h.fly 0 _ xv rfl).arg (by cases fl <;> first | rfl | exact absurd rfl hfl)
 obtain ⟨ns, rfl, rfl⟩ := decBytes_get hdec
 refine Does.pure h (v := .string ⟨⟨ns.map (fun n => UInt8.ofNat n.toNat)⟩⟩) ?_ (.str _) rfl
 generalize hxs : ns.map (AVal.int .u8) = xs at hr
 cases hr with
 | list _ _ _ b o len cap f g1 g2 g3 g4 g5 g6 g7 g8 =>
  have hload : (loadCells (at_ b o) len).run P w = .ok (ns.map (Value.int .u8)).toArray w := by
   have := run_loadCells (P := P) w (at_ b o) len f (fun j hj => by rw [add_at]; exact g6 j (by omega))
   rw [this]
   congr 2
   apply List.ext_getElem?
   intro j
   subst hxs
   simp only [List.length_map] at g1
   by_cases hj : j < len
   ·rw [List.getElem?_map, List.getElem?_range hj, List.getElem?_map]
    have hjn : j < ns.length := by omega
    rw [List.getElem?_eq_getElem hjn]
    have := g5 j (.int .u8 ns[j]) 0 (.int .u8 ns[j]) (by simp [hjn]) rfl
    rw [Nat.mul_one, Nat.add_zero] at this
    simp only [Option.map_some]
    rw [this.int_inv]
   ·rw [List.getElem?_eq_none (by simp; omega), List.getElem?_eq_none (by simp; omega)]
  have := run_bytesToString (P := P) w (at_ b o) len cap ns hload
  have e0 : (ByteArray.empty : ByteArray) = ⟨⟨[]⟩⟩ := rfl
  rw [e0, push_fold] at this
  simp only [List.nil_append] at this
  simp [convert, run_underlying hs, run_underlying hd, run_underlying he, this]
 | nilList =>
  have : ns = [] := by cases ns <;> simp_all
  subst this
  simp [convert, run_underlying hs, run_underlying hd, run_underlying he, Conv.bytesToString]
  rfl

end

end Go.Abs
