import Derived.Test.YtheaccppdikjgaaGreatDoorK18
namespace Go.Abs
open Go
set_option linter.unusedVariables false
set_option linter.unusedSimpArgs false
theorem underL_iff {n : Nat} : ∀ {cs : List AVal}, AVal.underL n cs = true ↔ ∀ (j : Nat) (Y : AVal), cs[j]? = some Y → Y.under n = true
 | [] => by simp [AVal.underL]
 | c :: cs => by
  simp only [AVal.underL, Bool.and_eq_true, underL_iff (cs := cs)]
  constructor
  ·rintro ⟨h1, h2⟩ j Y hY
   cases j with
   | zero => simp at hY; subst hY; exact h1
   | succ j => exact h2 j Y (by simpa using hY)
  ·intro h; exact ⟨h 0 c rfl, fun j Y hY => h (j + 1) Y (by simpa using hY)⟩
theorem under_cells {n : Nat} {X : AVal} : X.under n = true ↔ ∀ (j : Nat) (Y : AVal), X.cells[j]? = some Y → Y.under n = true := by
 by_cases ha : ∃ cs, X = .agg cs
 ·obtain ⟨cs, rfl⟩ := ha; simp only [AVal.under, AVal.cells]; exact underL_iff
 ·have hc : X.cells = [X] := by cases X <;> first | rfl | exact absurd ⟨_, rfl⟩ ha
  rw [hc]
  constructor
  ·intro h j Y hY
   cases j with
   | zero => simp at hY; subst hY; exact h
   | succ j => simp at hY
  ·intro h; exact h 0 X rfl
theorem Rv.und {G w V v} (h : Rv G w V v) : V.under G.n = true := by
 induction h with
 | ptr id off h => simpa [AVal.under] using h
 | eptr id i j b o len cap h hs => simpa [AVal.under] using h
 | rptr cs b o f hv hm hd ih => simp only [AVal.under]; exact underL_iff.2 (fun j Y hY => ih j Y hY)
 | list sz xs fl b o len cap f hlen hcap hfull hsz hv hm hd h1 ih =>
  simp only [AVal.under]; exact underL_iff.2 (fun i X hX => under_cells.2 (fun j Y hY => ih i X j Y hX hY))
 | lbox id h hs => simpa [AVal.under] using h
 | lcut id lo b o len cap h hs hl => simpa [AVal.under] using h
 | agg cs arr hs hv ih => simp only [AVal.under]; exact underL_iff.2 (fun j Y hY => ih j Y hY)
 | fn f a b va vb ha hb hva hvb iha ihb => simp only [AVal.under, Bool.and_eq_true]; exact ⟨underL_iff.2 iha, underL_iff.2 ihb⟩
 | iface t V v h ih => simpa [AVal.under] using ih
 | meth t V v h ih => simpa [AVal.under] using ih
 | map id h => simpa [AVal.under] using h
 | _ => simp [AVal.under, AVal.underL]
theorem RU.und {G w sz xs v} (h : RU G w sz xs v) : AVal.underL G.n xs = true := by
 rcases h with ⟨rfl, _⟩ | ⟨b, o, len, cap, f, _, _, _, _, h4, _⟩
 ·simp [AVal.underL]
 ·exact underL_iff.2 (fun i X hX => under_cells.2 (fun j Y hY => (h4 i X j Y hX hY).und))
theorem Rt0.und {G w V v} (h : Rt0 G w V v) : V.under G.n = true := by
 by_cases hu : ∃ sz xs, V = .list sz xs .uniq
 ·obtain ⟨sz, xs, rfl⟩ := hu; simp only [AVal.under]; exact RU.und (sz := sz) (v := v) h
 ·refine (h.rv ?_).und
  cases V <;> try rfl
  rename_i sz xs fl; cases fl <;> first | rfl | exact absurd ⟨_, _, rfl⟩ hu
abbrev Gh.cut (G : Gh) (m : Nat) : Gh := { G with n := m }
theorem Rv.cut {G w V v m} (h : Rv G w V v) (hu : V.under m = true) : Rv (G.cut m) w V v := by
 induction h with
 | any v => exact .any v
 | bool b => exact .bool b
 | int k n => exact .int k n
 | str s => exact .str s
 | nilp => exact .nilp
 | ptr id off h => exact .ptr (G := G.cut m) id off (by simpa [AVal.under] using hu)
 | eptr id i j b o len cap h hs => exact .eptr (G := G.cut m) id i j b o len cap (by simpa [AVal.under] using hu) hs
 | rptr cs b o f hv hm hd ih =>
  simp only [AVal.under] at hu
  exact .rptr cs b o f (fun j Y hY => ih j Y hY (underL_iff.1 hu j Y hY)) hm hd
 | list sz xs fl b o len cap f hlen hcap hfull hsz hv hm hd h1 ih =>
  simp only [AVal.under] at hu
  exact .list sz xs fl b o len cap f hlen hcap hfull hsz (fun i X j Y hX hY => ih i X j Y hX hY (under_cells.1 (underL_iff.1 hu i X hX) j Y hY)) hm hd h1
 | nilList sz fl => exact .nilList sz fl
 | lbox id h hs => exact .lbox (G := G.cut m) id (by simpa [AVal.under] using hu) hs
 | lcut id lo b o len cap h hs hl => exact .lcut (G := G.cut m) id lo b o len cap (by simpa [AVal.under] using hu) hs hl
 | agg cs arr hs hv ih =>
  simp only [AVal.under] at hu
  exact .agg cs arr hs (fun j Y hY => ih j Y hY (underL_iff.1 hu j Y hY))
 | fn f a b va vb ha hb hva hvb iha ihb =>
  simp only [AVal.under, Bool.and_eq_true] at hu
  exact .fn f a b va vb ha hb (fun j Y hY => iha j Y hY (underL_iff.1 hu.1 j Y hY)) (fun j Y hY => ihb j Y hY (underL_iff.1 hu.2 j Y hY))
 | nilfn => exact .nilfn
 | iface t V v h ih => exact .iface t V v (ih (by simpa [AVal.under] using hu))
 | meth t V v h ih => exact .meth t V v (ih (by simpa [AVal.under] using hu))
 | niliface => exact .niliface
 | nilmap => exact .nilmap
 | map id h => exact .map (G := G.cut m) id (by simpa [AVal.under] using hu)
theorem RU.cut {G w sz xs v m} (h : RU G w sz xs v) (hu : AVal.underL m xs = true) : RU (G.cut m) w sz xs v := by
 rcases h with h | ⟨b, o, len, cap, f, hv, h1, h2, h3, h4, h5, h6⟩
 ·exact .inl h
 ·exact .inr ⟨b, o, len, cap, f, hv, h1, h2, h3, fun i X j Y hX hY => (h4 i X j Y hX hY).cut (under_cells.1 (underL_iff.1 hu i X hX) j Y hY), h5, h6⟩
theorem Rt0.cut {G w V v m} (h : Rt0 G w V v) (hu : V.under m = true) : Rt0 (G.cut m) w V v := by
 by_cases hq : ∃ sz xs, V = .list sz xs .uniq
 ·obtain ⟨sz, xs, rfl⟩ := hq; simp only [AVal.under] at hu; exact RU.cut (sz := sz) (v := v) h hu
 ·have hU : V.isU = false := by
   cases V <;> try rfl
   rename_i sz xs fl; cases fl <;> first | rfl | exact absurd ⟨_, _, rfl⟩ hq
  exact .of ((h.rv hU).cut hu) hU
theorem Rt.cut {G w V v m} (h : Rt G w V v) (hu : V.under m = true) : Rt (G.cut m) w V v := by
 by_cases ht : ∃ vs, V = .tuple vs
 ·obtain ⟨vs, rfl⟩ := ht
  obtain ⟨arr, hv, hs, hc⟩ := h
  simp only [AVal.under] at hu
  exact ⟨arr, hv, hs, fun i X hX => (hc i X hX).cut (underL_iff.1 hu i X hX)⟩
 ·have ht' : ∀ vs, V ≠ .tuple vs := fun vs e => ht ⟨vs, e⟩
  exact .of0 ((h.rt0 ht').cut hu) ht'
mutual
theorem same_eq : ∀ (a b : AVal), a.same b = true → a = b
 | .any, b, h => by cases b <;> simp_all [AVal.same]
 | .bool _, b, h => by cases b <;> simp_all [AVal.same]
 | .int _ _, b, h => by cases b <;> simp_all [AVal.same]
 | .str _, b, h => by cases b <;> simp_all [AVal.same]
 | .nilp, b, h => by cases b <;> simp_all [AVal.same]
 | .ptr _ _, b, h => by cases b <;> simp_all [AVal.same]
 | .eptr _ _ _, b, h => by cases b <;> simp_all [AVal.same]
 | .rptr x, b, h => by
  cases b <;> simp only [AVal.same, Bool.false_eq_true] at h
  rw [sameL_eq _ _ h]
 | .list _ x _, b, h => by
  cases b <;> simp only [AVal.same, Bool.false_eq_true, Bool.and_eq_true, decide_eq_true_eq] at h
  obtain ⟨⟨h1, h2⟩, h3⟩ := h
  rw [h1, h2, sameL_eq _ _ h3]
 | .lbox _, b, h => by cases b <;> simp_all [AVal.same]
 | .lcut _ _, b, h => by cases b <;> simp_all [AVal.same]
 | .agg x, b, h => by
  cases b <;> simp only [AVal.same, Bool.false_eq_true] at h
  rw [sameL_eq _ _ h]
 | .tuple x, b, h => by
  cases b <;> simp only [AVal.same, Bool.false_eq_true] at h
  rw [sameL_eq _ _ h]
 | .fn _ x y, b, h => by
  cases b <;> simp only [AVal.same, Bool.false_eq_true, Bool.and_eq_true, decide_eq_true_eq] at h
  obtain ⟨⟨h1, h2⟩, h3⟩ := h
  rw [h1, sameL_eq _ _ h2, sameL_eq _ _ h3]
 | .nilfn, b, h => by cases b <;> simp_all [AVal.same]
 | .iface _ x, b, h => by
  cases b <;> simp only [AVal.same, Bool.false_eq_true, Bool.and_eq_true, decide_eq_true_eq] at h
  rw [h.1, same_eq _ _ h.2]
 | .niliface, b, h => by cases b <;> simp_all [AVal.same]
 | .meth _ x, b, h => by
  cases b <;> simp only [AVal.same, Bool.false_eq_true, Bool.and_eq_true, decide_eq_true_eq] at h
  rw [h.1, same_eq _ _ h.2]
 | .map _, b, h => by cases b <;> simp_all [AVal.same]
theorem sameL_eq : ∀ (a b : List AVal), AVal.sameL a b = true → a = b
 | [], b, h => by cases b <;> simp_all [AVal.sameL]
 | x :: a, b, h => by
  cases b <;> simp only [AVal.sameL, Bool.false_eq_true, Bool.and_eq_true] at h
  rw [same_eq _ _ h.1, sameL_eq _ _ h.2]
end
mutual
theorem same_refl : ∀ (a : AVal), a.same a = true
 | .any => by simp [AVal.same]
 | .bool _ => by simp [AVal.same]
 | .int _ _ => by simp [AVal.same]
 | .str _ => by simp [AVal.same]
 | .nilp => by simp [AVal.same]
 | .ptr _ _ => by simp [AVal.same]
 | .eptr _ _ _ => by simp [AVal.same]
 | .rptr x => by simp [AVal.same, sameL_refl x]
 | .list _ x _ => by simp [AVal.same, sameL_refl x]
 | .lbox _ => by simp [AVal.same]
 | .lcut _ _ => by simp [AVal.same]
 | .agg x => by simp [AVal.same, sameL_refl x]
 | .tuple x => by simp [AVal.same, sameL_refl x]
 | .fn _ x y => by simp [AVal.same, sameL_refl x, sameL_refl y]
 | .nilfn => by simp [AVal.same]
 | .iface _ x => by simp [AVal.same, same_refl x]
 | .meth _ x => by simp [AVal.same, same_refl x]
 | .niliface => by simp [AVal.same]
 | .map _ => by simp [AVal.same]
theorem sameL_refl : ∀ (a : List AVal), AVal.sameL a a = true
 | [] => by simp [AVal.sameL]
 | x :: a => by simp [AVal.sameL, same_refl x, sameL_refl a]
end
theorem samePairs_eq : ∀ (a b : List (AVal × AVal)), samePairs a b = true → a = b
 | [], b, h => by cases b <;> simp_all [samePairs]
 | (x, y) :: a, b, h => by
  cases b with
  | nil => simp [samePairs] at h
  | cons p b =>
   obtain ⟨u, v⟩ := p
   simp only [samePairs, Bool.and_eq_true] at h
   rw [same_eq _ _ h.1.1, same_eq _ _ h.1.2, samePairs_eq _ _ h.2]
theorem samePairs_refl : ∀ (a : List (AVal × AVal)), samePairs a a = true
 | [] => rfl
 | (x, y) :: a => by simp [samePairs, same_refl, samePairs_refl a]
theorem Box.same_eq {a b : Box} (h : a.same b = true) : a = b := by
 cases a <;> cases b <;> simp only [Box.same, Bool.false_eq_true, Bool.and_eq_true, decide_eq_true_eq] at h
 ·rw [sameL_eq _ _ h]
 ·rw [h.1, sameL_eq _ _ h.2]
 ·rw [samePairs_eq _ _ h]
 ·rw [h.1, h.2]
 ·rfl
theorem Box.same_refl (a : Box) : a.same a = true := by
 cases a <;> simp [Box.same, sameL_refl, samePairs_refl]
theorem sameH_eq : ∀ {a b : Heap}, sameH a b = true → a = b
 | [], b, h => by cases b <;> simp_all [sameH]
 | x :: a, b, h => by
  cases b <;> simp only [sameH, Bool.false_eq_true, Bool.and_eq_true] at h
  rw [Box.same_eq h.1, sameH_eq h.2]
theorem sameH_refl : ∀ (a : Heap), sameH a a = true
 | [] => rfl
 | x :: a => by simp [sameH, Box.same_refl, sameH_refl a]
theorem trimOK_get {n : Nat} : ∀ {H H' : Heap}, trimOK n H H' = true → H.length ≤ H'.length ∧ ∀ (id : Nat) (B' : Box), id < H.length → H'[id]? = some B' → H[id]? = some B' ∨ B'.under n = true
 | [], H', h => ⟨Nat.zero_le _, fun id B' hid => by simp at hid⟩
 | B :: H, [], h => by simp [trimOK] at h
 | B :: H, B' :: H', h => by
  simp only [trimOK, Bool.and_eq_true, Bool.or_eq_true] at h
  obtain ⟨h1, h2⟩ := h
  obtain ⟨h3, h4⟩ := trimOK_get h2
  refine ⟨by simpa using h3, fun id C hid hC => ?_⟩
  cases id with
  | zero =>
   simp at hC; subst hC
   rcases h1 with h1 | h1
   ·left; rw [Box.same_eq h1]; rfl
   ·exact .inr h1
  | succ id => simpa using h4 id C (by simpa using hid) (by simpa using hC)
def entOf (G : Gh) (S : Sta) (w : World) : Ent := { w0 := w, G0 := G, own := fun b => ∃ p a, ownP G S w p = some a ∧ a.1 = b }
abbrev bare (fly : List (AVal × Value)) (H : Heap) : Sta := ⟨fun _ => .any, fun _ => undef, fly, H⟩
def Enterable (P : Program) (f : FuncId) : Prop := ∃ fn, P.funcs[f]? = some fn ∧ (fn.name == "runtime.NumGoroutine") = false ∧ fn.body.isNone = false
def FnOK (P : Program) (f : FuncId) (sem : List AVal → Heap → Option (AVal × Heap)) : Prop :=
 ∀ (G : Gh) (H : Heap) (args : List AVal) (argv : List Value) (w : World) (V : AVal) (H' : Heap), args.length = argv.length →
  St (entOf G (bare (args.zip argv) H) w) G (bare (args.zip argv) H) w → sem args H = some (V, H') →
  Enterable P f ∧ Calls P f argv.toArray w fun e w' => ∃ v G', e = .returned v ∧ St (entOf G (bare (args.zip argv) H) w) G' (bare [(V, v)] H') w'
theorem St.enter {E G env tm fly H w} (h : St E G ⟨env, tm, fly, H⟩ w) : St (entOf G (bare fly H) w) G (bare fly H) w := by
 have noslot : ∀ t i a, ownP G (bare fly H) w (.slot t i) ≠ some a := by intro t i a; simp [ownP, ownC, own0]
 have carry : ∀ p a, ownP G (bare fly H) w p = some a → ownP G ⟨env, tm, fly, H⟩ w p = some a := by
  intro p a hh
  cases p with
  | slot t i => exact absurd hh (noslot t i a)
  | fly k i => exact hh
  | cell => exact hh
  | box => exact hh
 exact {
  n := h.n, Db := h.Db
  slot := fun t => Rv.any _
  fly := h.fly
  box := h.box
  ok := fun p a hh => h.ok p a (carry p a hh)
  dis := fun p q a b hpq h1 h2 => h.dis p q a b hpq (carry p a h1) (carry q b h2)
  fr := ⟨Nat.le_refl _, fun _ _ => ⟨rfl, rfl, rfl⟩, fun _ _ h => h, fun _ _ h _ => .inl h, Nat.le_refl _, fun _ _ _ => rfl, fun _ _ _ => rfl, .refl w⟩
  new := fun p a hh _ => ⟨p, a, hh, rfl⟩ }
theorem St.leave {E G env tm fly0 H w} (h : St E G ⟨env, tm, fly0, H⟩ w) {G' w' V v H'}
  (h' : St (entOf G (bare fly0 H) w) G' (bare [(V, v)] H') w') : St E G' ⟨env, tm, [(V, v)], H'⟩ w' := by
 have noslot : ∀ t i a, ownP G (bare fly0 H) w (.slot t i) ≠ some a := by intro t i a; simp [ownP, ownC, own0]
 -- what it owned at its begin lies at the boxes
 have own0 : ∀ b, (entOf G (bare fly0 H) w).own b → ∃ q a, ownP G ⟨env, tm, fly0, H⟩ w q = some a ∧ a.1 = b ∧ (∀ t i, q ≠ .slot t i) := by
  rintro b ⟨p, a, hp, rfl⟩
  cases p with
  | slot t i => exact absurd hp (noslot t i a)
  | fly k i => exact ⟨.fly k i, a, hp, rfl, by simp⟩
  | cell id off => exact ⟨.cell id off, a, hp, rfl, by simp⟩
  | box id => exact ⟨.box id, a, hp, rfl, by simp⟩
 have fr := h'.fr
 have ge : GE G w G' w' := ⟨fr.n, fr.D, fun id hid => (fr.μ id hid).1, fun id hid => (fr.μ id hid).2.1, fun id hid => (fr.μ id hid).2.2, fr.cell, fr.still⟩
 have slotno : ∀ t i a, ownP G ⟨env, tm, fly0, H⟩ w (.slot t i) = some a → ¬ (entOf G (bare fly0 H) w).own a.1 := by
  intro t i a ha hb
  obtain ⟨q, a', hq, e, hns⟩ := own0 _ hb
  exact h.dis (.slot t i) q a a' (fun e => hns t i e.symm) ha hq e.symm
 have slotheap : ∀ t i a, ownP G ⟨env, tm, fly0, H⟩ w (.slot t i) = some a → w'.heap[a.1]? = w.heap[a.1]? := fun t i a ha =>
  fr.heap a.1 (h.ok _ a ha).lt (slotno t i a ha)
 -- each place: a slot of ours, or one of the call's
 have part : ∀ p a, ownP G' ⟨env, tm, [(V, v)], H'⟩ w' p = some a → (∃ t i, p = .slot t i ∧ ownP G ⟨env, tm, fly0, H⟩ w p = some a) ∨
   ((∀ t i, p ≠ .slot t i) ∧ ownP G' (bare [(V, v)] H') w' p = some a) := by
  intro p a ha
  cases p with
  | slot t i => exact .inl ⟨t, i, rfl, ha⟩
  | fly k i => exact .inr ⟨by simp, ha⟩
  | cell id off => exact .inr ⟨by simp, ha⟩
  | box id => exact .inr ⟨by simp, ha⟩
 -- what the call owns at its end is new, or was at the boxes
 have theirs : ∀ p a, ownP G' (bare [(V, v)] H') w' p = some a → w.heap.size ≤ a.1 ∨ (entOf G (bare fly0 H) w).own a.1 := by
  intro p a ha
  by_cases hlt : a.1 < w.heap.size
  ·exact .inr (h'.new p a ha hlt)
  ·exact .inl (by omega)
 exact {
  n := h'.n
  Db := h'.Db
  slot := fun t => (h.slot t).stay ge (fun i a ha => slotheap t i a ha)
  fly := h'.fly
  box := h'.box
  ok := by
   intro p a ha
   rcases part p a ha with ⟨t, i, rfl, ha'⟩ | ⟨_, ha'⟩
   ·refine (h.ok _ a ha').stay fr.size (slotheap t i a ha') (fun x hx hd => ?_)
    rcases fr.Dn a.1 x hd (h.ok _ a ha').lt with h1 | h1
    ·exact (h.ok _ a ha').D x hx h1
    ·exact slotno t i a ha' h1
   ·exact h'.ok p a ha'
  dis := by
   intro p q a b hpq ha hb
   rcases part p a ha with ⟨t, i, rfl, ha'⟩ | ⟨hp, ha'⟩ <;> rcases part q b hb with ⟨t', i', rfl, hb'⟩ | ⟨hq, hb'⟩
   ·exact h.dis _ _ a b hpq ha' hb'
   ·rcases theirs q b hb' with h1 | h1
    ·have := (h.ok _ a ha').lt; omega
    ·exact fun e => slotno t i a ha' (by rw [e]; exact h1)
   ·rcases theirs p a ha' with h1 | h1
    ·have := (h.ok _ b hb').lt; omega
    ·exact fun e => slotno t' i' b hb' (by rw [← e]; exact h1)
   ·exact h'.dis p q a b hpq ha' hb'
  fr := {
   n := Nat.le_trans h.fr.n fr.n
   μ := fun id hid => by
    obtain ⟨h1, h2, h3⟩ := h.fr.μ id hid
    obtain ⟨k1, k2, k3⟩ := fr.μ id (Nat.lt_of_lt_of_le hid h.fr.n)
    exact ⟨k1.trans h1, k2.trans h2, k3.trans h3⟩
   D := fun b o hd => fr.D b o (h.fr.D b o hd)
   Dn := by
    intro b o hd hb
    rcases fr.Dn b o hd (Nat.lt_of_lt_of_le hb h.fr.size) with h1 | h1
    ·exact h.fr.Dn b o h1 hb
    ·obtain ⟨q, a, hq, rfl, _⟩ := own0 b h1
     exact .inr (h.new q a hq hb)
   size := Nat.le_trans h.fr.size fr.size
   heap := by
    intro b hb hno'
    rw [fr.heap b (Nat.lt_of_lt_of_le hb h.fr.size) (fun h1 => by
     obtain ⟨q, a, hq, rfl, _⟩ := own0 b h1
     exact hno' (h.new q a hq hb))]
    exact h.fr.heap b hb hno'
   cell := fun b o hd => (fr.cell b o (h.fr.D b o hd)).trans (h.fr.cell b o hd)
   still := h.fr.still.trans fr.still }
  new := by
   intro p a ha hlt
   rcases part p a ha with ⟨t, i, rfl, ha'⟩ | ⟨_, ha'⟩
   ·exact h.new _ a ha' hlt
   ·have h1 := h'.new p a ha' (Nat.lt_of_lt_of_le hlt h.fr.size)
    obtain ⟨q, a', hq, e, _⟩ := own0 _ h1
    rw [← e]; exact h.new q a' hq (by omega) }
end Go.Abs
