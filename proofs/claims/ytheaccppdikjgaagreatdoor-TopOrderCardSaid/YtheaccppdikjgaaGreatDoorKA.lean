import Derived.Test.YtheaccppdikjgaaGreatDoorKD
namespace Go.Abs
open Go
set_option linter.unusedVariables false
set_option linter.unusedSimpArgs false
section
variable {P : Program}
theorem Vals.c {G w bs v vs} (h : Vals G w bs (v :: vs)) : ∃ V Vs, bs = V :: Vs ∧ Rt G w V v ∧ Vals G w Vs vs := by
 cases h with | cons h t => exact ⟨_, _, rfl, h, t⟩
theorem Vals.n {G w bs} (h : Vals G w bs []) : bs = [] := by cases h; rfl
theorem natOf_ok {len n : Nat} {x : AVal} {G w xv} (h : natOf len x = some n) (hx : Rv G w x xv) : ∃ k i, xv = .int k i ∧ 0 ≤ i ∧ i ≤ len ∧ n = i.toNat := by
 unfold natOf at h
 split at h
 ·obtain ⟨⟨h1, h2⟩, h3⟩ := ite_some h
  cases hx; cases h3
  exact ⟨_, _, rfl, h1, h2, rfl⟩
 ·cases h
theorem natOf_rv {G w} {len n : Nat} {x : AVal} {xv : Value} (h : natOf len x = some n) (hx : Rt G w x xv) : ∃ k i, xv = .int k i ∧ 0 ≤ i ∧ i ≤ len ∧ n = i.toNat := by
 refine natOf_ok h (hx.arg ?_)
 cases x <;> simp [natOf] at h; rfl
theorem bounds_ok {G w} {len cap : Nat} (hlc : len ≤ cap) (isSlice : Bool) (low high max : Option Value) {bs : List AVal} (hv : Vals G w bs (low.toList ++ high.toList ++ max.toList))
  {l h : Nat} {m : Option Nat} (hb : bounds len low.isSome high.isSome max.isSome bs = some (l, h, m)) :
  ∃ m', (Instr.sliceBounds isSlice len cap low high max).run P w = .ok (l, h, m') w ∧ l ≤ h ∧ h ≤ len ∧ (max.isSome = false → m = none ∧ m' = cap) ∧ (max.isSome = true → m = some m' ∧ h ≤ m' ∧ m' ≤ len) ∧
   (high.isSome = false → h = len) := by
 cases low <;> cases high <;> cases max <;> simp only [Option.toList_none, Option.toList_some, List.nil_append, List.append_nil, List.cons_append] at hv <;>
  simp only [Option.isSome_none, Option.isSome_some] at hb ⊢
 case none.none.none =>
  obtain rfl := hv.n; simp only [bounds, Option.some.injEq, Prod.mk.injEq] at hb
  obtain ⟨rfl, rfl, rfl⟩ := hb
  exact ⟨cap, by simp [Instr.sliceBounds], Nat.zero_le _, Nat.le_refl _, by simp, by simp, by simp⟩
 case some.none.none lv =>
  obtain ⟨_, _, rfl, h1, t⟩ := hv.c; obtain rfl := t.n
  simp only [bounds, Option.map_eq_some_iff, Prod.mk.injEq] at hb
  obtain ⟨n, hn, rfl, rfl, rfl⟩ := hb
  obtain ⟨k, i, rfl, h2, h3, rfl⟩ := natOf_rv hn h1
  refine ⟨cap, ?_, by omega, Nat.le_refl _, by simp, by simp, by simp⟩
  simp [Instr.sliceBounds, run_sliceBound w k i len _ h2 h3]
 case none.some.none hv' =>
  obtain ⟨_, _, rfl, h1, t⟩ := hv.c; obtain rfl := t.n
  simp only [bounds, Option.map_eq_some_iff, Prod.mk.injEq] at hb
  obtain ⟨n, hn, rfl, rfl, rfl⟩ := hb
  obtain ⟨k, i, rfl, h2, h3, rfl⟩ := natOf_rv hn h1
  refine ⟨cap, ?_, by omega, by omega, by simp, by simp, by simp⟩
  simp [Instr.sliceBounds, run_sliceBound w k i cap _ h2 (by omega)]
 case some.some.none lv hv' =>
  obtain ⟨_, _, rfl, h1, t⟩ := hv.c; obtain ⟨_, _, rfl, h1', t⟩ := t.c; obtain rfl := t.n
  simp only [bounds, Option.bind_eq_some_iff, Option.map_eq_some_iff, Prod.mk.injEq] at hb
  obtain ⟨n', hn', n, hn, rfl, rfl, rfl⟩ := hb
  obtain ⟨k', i', rfl, h2', h3', rfl⟩ := natOf_rv hn' h1'
  obtain ⟨k, i, rfl, h2, h3, rfl⟩ := natOf_rv hn h1
  refine ⟨cap, ?_, by omega, by omega, by simp, by simp, by simp⟩
  simp [Instr.sliceBounds, run_sliceBound w k' i' cap _ h2' (by omega), run_sliceBound w k i i'.toNat _ h2 h3]
 case none.some.some hv' mv =>
  obtain ⟨_, _, rfl, h1, t⟩ := hv.c; obtain ⟨_, _, rfl, h1', t⟩ := t.c; obtain rfl := t.n
  simp only [bounds, Option.bind_eq_some_iff, Option.map_eq_some_iff, Prod.mk.injEq] at hb
  obtain ⟨n', hn', n, hn, rfl, rfl, rfl⟩ := hb
  obtain ⟨k', i', rfl, h2', h3', rfl⟩ := natOf_rv hn' h1'
  obtain ⟨k, i, rfl, h2, h3, rfl⟩ := natOf_rv hn h1
  refine ⟨i'.toNat, ?_, by omega, by omega, by simp, fun _ => ⟨rfl, by omega, by omega⟩, by simp⟩
  simp [Instr.sliceBounds, run_sliceBound w k' i' cap _ h2' (by omega), run_sliceBound w k i i'.toNat _ h2 h3]
 case some.some.some lv hv' mv =>
  obtain ⟨_, _, rfl, h1, t⟩ := hv.c; obtain ⟨_, _, rfl, h1', t⟩ := t.c; obtain ⟨_, _, rfl, h1'', t⟩ := t.c; obtain rfl := t.n
  simp only [bounds, Option.bind_eq_some_iff, Option.map_eq_some_iff, Prod.mk.injEq] at hb
  obtain ⟨n'', hn'', n', hn', n, hn, rfl, rfl, rfl⟩ := hb
  obtain ⟨k'', i'', rfl, h2'', h3'', rfl⟩ := natOf_rv hn'' h1''
  obtain ⟨k', i', rfl, h2', h3', rfl⟩ := natOf_rv hn' h1'
  obtain ⟨k, i, rfl, h2, h3, rfl⟩ := natOf_rv hn h1
  refine ⟨i''.toNat, ?_, by omega, by omega, by simp, fun _ => ⟨rfl, by omega, by omega⟩, by simp⟩
  simp [Instr.sliceBounds, run_sliceBound w k'' i'' cap _ h2'' (by omega), run_sliceBound w k' i' i''.toNat _ h2' h3', run_sliceBound w k i i'.toNat _ h2 h3]
 all_goals simp [bounds] at hb
theorem slice_ok {E G env tm H w} {t e : TypeId} {agg : Bool} {sz : Nat} (hu : P.underlying t = some (.slice e)) (ti : TI P e agg sz)
  (low high max : Option Value) {x : AVal} {xv : Value} {bs : List AVal} (hl : bs.length = (low.toList ++ high.toList ++ max.toList).length)
  (h : St E G ⟨env, tm, (x, xv) :: bs.zip (low.toList ++ high.toList ++ max.toList), H⟩ w) {V : AVal}
  (he : evSlice sz low.isSome high.isSome max.isSome x bs = some V) : Does P E env tm (Instr.sliceAt t xv low high max) w V H := by
 have hvs := vals_of (x :: bs) (xv :: (low.toList ++ high.toList ++ max.toList)) [] (by simp [hl]) (by simpa using h)
 cases hvs with
 | cons hx hb =>
 obtain ⟨sz', xs, fl, rfl⟩ : ∃ sz' xs fl, x = .list sz' xs fl := by cases x <;> first | exact ⟨_, _, _, rfl⟩ | cases he
 simp only [evSlice] at he
 obtain ⟨⟨rfl, hfl⟩, he⟩ := ite_some he
 simp only [Option.bind_eq_some_iff] at he
 obtain ⟨⟨l, h', m⟩, hbd, he⟩ := he
 have hr : Rv G w (.list sz' xs fl) xv := hx.arg (by cases fl <;> first | rfl | exact absurd rfl hfl)
 have hown0 : ∀ a, own0 (.list sz' xs fl) xv = some a → ownP G ⟨env, tm, (.list sz' xs fl, xv) :: bs.zip (low.toList ++ high.toList ++ max.toList), H⟩ w (.fly 0 0) = some a := by
  intro a ha; simpa [ownP, ownC] using ha
 -- the two kinds of rows
 have key : ∀ (base : Option Addr) (len cap : Nat), xv = .slice base len cap → xs.length = len → len ≤ cap → (fl = .full → cap = len) →
   (∀ (b' : Option Addr) (m' : Nat) (fl' : Fl), fl' ≠ .uniq → l ≤ h' → h' ≤ len → h' ≤ m' → m' ≤ cap → (b' = (if m' = l then base else base.map (·.add (l * sz')))) → (fl' = .full → m' = h') →
    Rv G w (.list sz' ((xs.take h').drop l) fl') (.slice b' (h' - l) (m' - l))) →
   Does P E env tm (Instr.sliceAt t xv low high max) w V H := by
  intro base len cap hxv hlen hcap hfull mk
  subst hxv
  rw [hlen] at hbd
  obtain ⟨m', hrun, q1, q2, q3, q4, q5⟩ := bounds_ok (P := P) hcap true low high max hb hbd
  have hrun' : (Instr.sliceAt t (.slice base len cap) low high max).run P w = .ok (.slice (if m' = l then base else base.map (·.add (l * sz'))) (h' - l) (m' - l)) w := by
   simp [Instr.sliceAt, Instr.slice, run_underlying hu, hrun, ti.sizeOf]
  have hhm : h' ≤ m' := by
   cases hm : max.isSome
   ·have := (q3 hm).2; omega
   ·exact (q4 hm).2.1
  have hmc : m' ≤ cap := by
   cases hm : max.isSome
   ·have := (q3 hm).2; omega
   ·have := (q4 hm).2.2; omega
  cases hm : max.isSome
  ·obtain ⟨rfl, rfl⟩ := q3 hm
   simp only at he
   have ro : V = .list sz' ((xs.take h').drop l) .ro → Does P E env tm (Instr.sliceAt t (.slice base len m') low high max) w V H := by
    rintro rfl
    exact Does.pure h hrun' (mk _ m' .ro (by simp) q1 q2 hhm hmc rfl (by simp)) rfl
   cases hh : high.isSome
   ·have hlen' := q5 hh
    subst hlen'
    have htk : xs.take h' = xs := List.take_of_length_le (by omega)
    rw [hh] at he
    cases fl <;> simp only [Option.some.injEq] at he
    ·exact ro he.symm
    ·subst he
     have := mk _ m' .full (by simp) q1 q2 hhm hmc rfl (fun _ => hfull rfl)
     rw [htk] at this
     exact Does.pure h hrun' this rfl
    ·subst he
     have hRv := mk _ m' .own (by simp) q1 q2 hhm hmc rfl (by simp)
     rw [htk] at hRv
     refine ⟨_, w, G, hrun', h.res (Rt.of hRv rfl) 0 (fun i a ha => ?_)⟩
     simp only [ownC] at ha
     split at ha
     ·rename_i hi; subst hi
      apply hown0
      by_cases hml : m' = l
      ·simp only [hml, if_true] at ha
       cases base with
       | none => simp [own0] at ha
       | some a0 => first | (simp [own0] at ha; done) | (simp [own0] at ha; omega)
      ·simp only [hml, if_false] at ha
       cases base with
       | none => simp [own0] at ha
       | some a0 =>
        simp only [Option.map_some, own0] at ha ⊢
        split at ha
        ·rename_i hlt
         rw [if_pos (by omega)]
         simp only [Option.some.injEq] at ha ⊢
         rw [← ha]
         have hb : (a0.add (l * sz')).block = a0.block := by unfold Addr.add; split <;> rfl
         have ho : (a0.add (l * sz')).off = a0.off + l * sz' := by unfold Addr.add; split <;> simp_all
         rw [hb, ho]
         have e1 : l * sz' + (h' - l) * sz' = h' * sz' := by rw [← Nat.add_mul]; congr 1; omega
         have e2 : l * sz' + (m' - l) * sz' = m' * sz' := by rw [← Nat.add_mul]; congr 1; omega
         simp only [Prod.mk.injEq, true_and]
         omega
        ·cases ha
     ·cases ha
    ·exact absurd rfl hfl
   ·rw [hh] at he
    cases fl <;> simp only [Option.some.injEq] at he
    ·exact ro he.symm
    ·exact ro he.symm
    ·exact ro he.symm
    ·exact absurd rfl hfl
  ·obtain ⟨rfl, q6, q7⟩ := q4 hm
   simp only [Option.some.injEq] at he
   subst he
   split
   ·rename_i hmh
    exact Does.pure h hrun' (mk _ m' .full (by simp) q1 q2 hhm hmc rfl (fun _ => hmh)) rfl
   ·exact Does.pure h hrun' (mk _ m' .ro (by simp) q1 q2 hhm hmc rfl (by simp)) rfl
 cases hr with
 | list _ _ _ b o len cap f g1 g2 g3 g4 g5 g6 g7 g8 =>
  refine key _ len cap rfl g1 g2 g3 ?_
  intro b' m' fl' hu' k1 k2 k3 k5 hb' k4
  have hlen' : ((xs.take h').drop l).length = h' - l := by simp; omega
  have hmem : ∀ X, X ∈ (xs.take h').drop l → X.cells.length = sz' := fun X hX => g4 X (List.mem_of_mem_take (List.mem_of_mem_drop hX))
  by_cases hml : m' = l
  ·rw [if_pos hml] at hb'
   subst hb'
   have h0 : h' - l = 0 := by omega
   refine .list sz' _ fl' b o (h' - l) (m' - l) f hlen' (by omega) (fun hf => by have := k4 hf; omega) hmem ?_ ?_ ?_ ?_
   ·intro i X j Y hX; have := (List.getElem?_eq_some_iff.1 hX).1; omega
   all_goals intro k hk; rw [h0] at hk; omega
  ·rw [if_neg hml] at hb'
   simp only [Option.map_some, add_at] at hb'
   subst hb'
   refine .list sz' _ fl' b (o + l * sz') (h' - l) (m' - l) (fun k => f (l * sz' + k)) hlen' (by omega) (fun hf => by have := k4 hf; omega) hmem ?_ ?_ ?_ ?_
   ·intro i X j Y hX hY
    rw [List.getElem?_drop, List.getElem?_take] at hX
    split at hX
    ·have := g5 (l + i) X j Y hX hY
     rw [Nat.add_mul, Nat.add_assoc] at this
     exact this
    ·cases hX
   all_goals
    intro k hk
    have hb : l * sz' + k < len * sz' := by
     have h1 : (h' - l) * sz' + l * sz' = h' * sz' := by rw [← Nat.add_mul]; congr 1; omega
     have h2 : h' * sz' ≤ len * sz' := Nat.mul_le_mul_right _ k2
     omega
   ·have := g6 _ hb; rwa [← Nat.add_assoc] at this
   ·have := g7 _ hb; rwa [← Nat.add_assoc] at this
   ·exact g8 _ hb
 | nilList =>
  refine key none 0 0 rfl rfl (Nat.le_refl _) (fun _ => rfl) ?_
  intro b' m' fl' hu' k1 k2 k3 k5 hb' k4
  obtain rfl : h' = 0 := by omega
  obtain rfl : l = 0 := by omega
  obtain rfl : m' = 0 := by omega
  simp only [if_true] at hb'
  subst hb'
  exact .nilList sz' fl'
end
end Go.Abs
namespace Go.Abs
open Go
set_option linter.unusedVariables false
set_option linter.unusedSimpArgs false
section
variable {P : Program}
theorem Rv.int_inv {G w k n v} (h : Rv G w (.int k n) v) : v = .int k n := by cases h; rfl
theorem Rv.str_inv {G w s v} (h : Rv G w (.str s) v) : v = .string ⟨⟨s⟩⟩ := by cases h; rfl
theorem Rv.bool_inv {G w b v} (h : Rv G w (.bool b) v) : v = .bool b := by cases h; rfl
theorem extract_mk (s : List UInt8) (l h : Nat) (hh : h ≤ s.length) : (⟨⟨s⟩⟩ : ByteArray).extract l h = ⟨⟨(s.take h).drop l⟩⟩ := by
 apply ByteArray.ext
 apply Array.ext'
 simp only [ByteArray.data_extract, List.extract_toArray, List.toList_toArray]
 rw [List.drop_take]
theorem sslice_ok {E G env tm H w} {t : TypeId} (hu : P.underlying t = some .string) (low high : Option Value) {x : AVal} {xv : Value} {bs : List AVal} (hl : bs.length = (low.toList ++ high.toList).length)
  (h : St E G ⟨env, tm, (x, xv) :: bs.zip (low.toList ++ high.toList), H⟩ w) {s : List UInt8} (hx : x = .str s) {l r : Nat} {m : Option Nat}
  (he : bounds s.length low.isSome high.isSome false bs = some (l, r, m)) : Does P E env tm (Instr.sliceAt t xv low high none) w (.str ((s.take r).drop l)) H := by
 subst hx
 have hvs := vals_of (.str s :: bs) (xv :: (low.toList ++ high.toList)) [] (by simp [hl]) (by simpa using h)
 cases hvs with
 | cons hx hb =>
 cases (show Rv G w (.str s) xv from hx)
 obtain ⟨m', hrun, q1, q2, q3, q4, q5⟩ := bounds_ok (P := P) (Nat.le_refl s.length) false low high none (by simpa using hb) he
 refine Does.pure h (v := .string ⟨⟨(s.take r).drop l⟩⟩) ?_ (.str _) rfl
 simp [Instr.sliceAt, Instr.slice, run_underlying hu, hrun, size_mk, extract_mk s l r q2]
theorem decBytes_get : ∀ {xs : List AVal} {s : List UInt8}, decBytes xs = some s → ∃ ns : List Int, xs = ns.map (AVal.int .u8) ∧ s = ns.map (fun n => UInt8.ofNat n.toNat)
 | [], s, h => by simp [decBytes] at h; subst h; exact ⟨[], rfl, rfl⟩
 | x :: xs, s, h => by
  unfold decBytes at h
  split at h
  ·rename_i heq; cases heq
  ·rename_i n xs' heq
   cases heq
   simp only [Option.map_eq_some_iff] at h
   obtain ⟨s', hs, rfl⟩ := h
   obtain ⟨ns, rfl, rfl⟩ := decBytes_get hs
   exact ⟨n :: ns, rfl, rfl⟩
  ·cases h
theorem push_fold (ns : List Int) (s : List UInt8) : ns.foldl (fun (r : ByteArray) n => r.push (UInt8.ofNat n.toNat)) ⟨⟨s⟩⟩ = ⟨⟨s ++ ns.map (fun n => UInt8.ofNat n.toNat)⟩⟩ := by
 induction ns generalizing s with
 | nil => simp
 | cons n ns ih =>
  simp only [List.foldl_cons, List.map_cons]
  have : (⟨⟨s⟩⟩ : ByteArray).push (UInt8.ofNat n.toNat) = ⟨⟨s ++ [UInt8.ofNat n.toNat]⟩⟩ := by
   apply ByteArray.ext; apply Array.ext'; simp [ByteArray.push]
  rw [this, ih]; simp
theorem toStr_ok {E G env tm H w} {src dst e : TypeId} (hs : P.underlying src = some (.slice e)) (hd : P.underlying dst = some .string) (he : P.underlying e = some (.int .u8)) {x : AVal} {xv : Value}
  (h : St E G ⟨env, tm, [(x, xv)], H⟩ w) {xs : List AVal} {fl : Fl} {s : List UInt8} (hx : x = .list 1 xs fl) (hdec : decBytes xs = some s) :
  Does P E env tm (convert src dst xv) w (.str s) H := by
 subst hx
 have hr : (∃ b o len cap, ∃ f : Nat → Value, xv = .slice (some (at_ b o)) len cap ∧ xs.length = len ∧ (∀ i X j Y, xs[i]? = some X → X.cells[j]? = some Y → Rv G w Y (f (i * 1 + j))) ∧ (∀ k, k < len * 1 → w.cell? (at_ b (o + k)) = some (f k))) ∨ (xs = [] ∧ xv = .slice none 0 0) := by
  by_cases hu : fl = .uniq
  ·subst hu
   rcases (show RU G w 1 xs xv from h.fly 0 _ xv rfl) with ⟨e1, e2⟩ | ⟨b, o, len, cap, f, g0, g1, g2, g4, g5, g6, g8⟩
   ·exact .inr ⟨e1, e2⟩
   ·exact .inl ⟨b, o, len, cap, f, g0, g1, g5, g6⟩
  ·have hr : Rv G w (.list 1 xs fl) xv := (h.fly 0 _ xv rfl).arg (by cases fl <;> first | rfl | exact absurd rfl hu)
   cases hr with
   | list _ _ _ b o len cap f g1 g2 g3 g4 g5 g6 g7 g8 => exact .inl ⟨b, o, len, cap, f, rfl, g1, g5, g6⟩
   | nilList => exact .inr ⟨rfl, rfl⟩
 obtain ⟨ns, rfl, rfl⟩ := decBytes_get hdec
 refine Does.pure h (v := .string ⟨⟨ns.map (fun n => UInt8.ofNat n.toNat)⟩⟩) ?_ (.str _) rfl
 generalize hxs : ns.map (AVal.int .u8) = xs at hr
 rcases hr with ⟨b, o, len, cap, f, rfl, g1, g5, g6⟩ | ⟨e1, rfl⟩
 ·
  have hload : (loadCells (at_ b o) len).run P w = .ok (ns.map (Value.int .u8)).toArray w := by
   have := run_loadCells (P := P) w (at_ b o) len f (fun j hj => by rw [add_at]; exact g6 j (by omega))
   rw [this]
   congr 2
   apply List.ext_getElem?
   intro j
   subst hxs
   simp only [List.length_map] at g1
   by_cases hj : j < len
   ·rw [List.getElem?_map, List.getElem?_range hj, List.getElem?_map]
    have hjn : j < ns.length := by omega
    rw [List.getElem?_eq_getElem hjn]
    have := g5 j (.int .u8 ns[j]) 0 (.int .u8 ns[j]) (by simp [hjn]) rfl
    rw [Nat.mul_one, Nat.add_zero] at this
    simp only [Option.map_some]
    rw [this.int_inv]
   ·rw [List.getElem?_eq_none (by simp; omega), List.getElem?_eq_none (by simp; omega)]
  have := run_bytesToString (P := P) w (at_ b o) len cap ns hload
  have e0 : (ByteArray.empty : ByteArray) = ⟨⟨[]⟩⟩ := rfl
  rw [e0, push_fold] at this
  simp only [List.nil_append] at this
  simp [convert, run_underlying hs, run_underlying hd, run_underlying he, this]
 ·have : ns = [] := by cases ns <;> simp_all
  subst this
  simp [convert, run_underlying hs, run_underlying hd, run_underlying he, Conv.bytesToString]
  rfl
end
end Go.Abs
namespace Go.Abs
open Go
set_option linter.unusedVariables false
set_option linter.unusedSimpArgs false
section
variable {P : Program}
theorem lslice_ok {E G env tm H w} {t e : TypeId} {agg : Bool} {sz : Nat} (hu : P.underlying t = some (.slice e)) (ti : TI P e agg sz)
  {id l : Nat} {xs : List AVal} {xv lv : Value} {lo : AVal} (hH : H[id]? = some (.arr sz xs)) (h : St E G ⟨env, tm, [(.lbox id, xv), (lo, lv)], H⟩ w) (hn : natOf xs.length lo = some l) (hl : l < xs.length) :
  Does P E env tm (Instr.sliceAt t xv (some lv) none none) w (.lcut id l) H := by
 obtain ⟨hsz, hru⟩ := h.box id _ hH
 have hlo : Rt G w lo lv := h.fly 1 _ _ rfl
 obtain ⟨k, i, rfl, h2, h3, rfl⟩ := natOf_rv hn hlo
 cases (show Rv G w (.lbox id) xv from h.fly 0 _ xv rfl) with
 | lbox _ hid hs =>
  rcases hru with ⟨rfl, _⟩ | ⟨b, o, len, cap, f, hsl, g1, g2, g3, g4, g5, g6⟩
  ·simp at hl
  ·rw [hsl]
   have hr := Rv.lcut (G := G) (w := w) id i.toNat b o len cap hid hsl (by omega)
   rw [hsz] at hr
   refine Does.pure h ?_ hr rfl
   have hne : ¬ cap = i.toNat := by omega
   have hb : (Instr.sliceBounds true len cap (some (.int k i)) none none).run P w = .ok (i.toNat, len, cap) w := by
    simp [Instr.sliceBounds, run_sliceBound w k i len _ h2 (by omega)]
   have ha : ((at_ b o).add (i.toNat * sz)) = at_ b (o + i.toNat * sz) := by simp [add_at]
   simp [Instr.sliceAt, Instr.slice, run_underlying hu, hb, ti.sizeOf, hne, ha]
end
end Go.Abs
