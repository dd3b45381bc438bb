import Derived.Test.YtheaccppdikjgaaGreatDoorK25b
namespace Go.Abs
open Go
set_option linter.unusedVariables false
set_option linter.unusedSimpArgs false
def Opd.tms : Opd → List Nat
 | .tmp t _ => [t]
 | .proj t _ _ => [t]
 | .val _ => []
def Opd.tks : Opd → List Nat
 | .tmp t true => [t]
 | .proj t _ true => [t]
 | _ => []
theorem tks_sub {x : Opd} {t : Nat} (h : t ∈ x.tks) : t ∈ x.tms := by
 cases x with
 | tmp u tk => cases tk <;> simp_all [Opd.tks, Opd.tms]
 | proj u i tk => cases tk <;> simp_all [Opd.tks, Opd.tms]
 | val v => simp [Opd.tks] at h
theorem rd_congr {e e' : Env} {x : Opd} (h : ∀ t, t ∈ x.tms → e'.get t = e.get t) : e'.rd x = e.rd x := by
 cases x with
 | tmp u tk => have := h u (by simp [Opd.tms]); cases tk <;> simp [Env.rd, this]
 | proj u i tk => have := h u (by simp [Opd.tms]); simp only [Env.rd, this]
 | val v => rfl
theorem take_other {e : Env} {x : Opd} {t : Nat} (h : t ∉ x.tks) : (e.take x).get t = e.get t := by
 cases x with
 | tmp u tk =>
  cases tk
  ·rfl
  ·simp only [Opd.tks, List.mem_singleton] at h
   simp only [Env.take, Env.get_put, if_neg h]
 | proj u i tk =>
  cases tk
  ·rfl
  ·simp only [Opd.tks, List.mem_singleton] at h
   simp only [Env.take]
   split
   ·split
    ·simp only [Env.get_put, if_neg h]
    ·rfl
   ·rfl
 | val v => rfl
theorem take_same {e e' : Env} {x : Opd} {t : Nat} (h : ∀ t, t ∈ x.tms → e'.get t = e.get t) (ht : t ∈ x.tks) : (e'.take x).get t = (e.take x).get t := by
 have h1 := h t (tks_sub ht)
 cases x with
 | tmp u tk =>
  cases tk
  ·simp [Opd.tks] at ht
  ·simp only [Opd.tks, List.mem_singleton] at ht
   subst ht
   simp only [Env.take, Env.get_put, if_true, h1]
 | proj u i tk =>
  cases tk
  ·simp [Opd.tks] at ht
  ·simp only [Opd.tks, List.mem_singleton] at ht
   subst ht
   simp only [Env.take, h1]
   split
   ·split
    ·simp only [Env.get_put, if_true]
    ·exact h1
   ·exact h1
 | val v => simp [Opd.tks] at ht
theorem rds_congr : ∀ (xs : List Opd) (e e' : Env) (vs : List AVal) (e1 : Env), (∀ t, t ∈ xs.flatMap Opd.tms → e'.get t = e.get t) → e.rds xs = some (vs, e1) →
  ∃ e1', e'.rds xs = some (vs, e1') ∧ (∀ t, t ∈ xs.flatMap Opd.tks → e1'.get t = e1.get t) ∧ (∀ t, t ∉ xs.flatMap Opd.tks → e1'.get t = e'.get t ∧ e1.get t = e.get t)
 | [], e, e', vs, e1, h, hr => by
  simp only [Env.rds, Option.some.injEq, Prod.mk.injEq] at hr
  obtain ⟨rfl, rfl⟩ := hr
  exact ⟨e', rfl, fun t ht => by simp at ht, fun t _ => ⟨rfl, rfl⟩⟩
 | x :: xs, e, e', vs, e1, h, hr => by
  simp only [Env.rds] at hr
  obtain ⟨v, hv, hr⟩ := Option.bind_eq_some_iff.1 hr
  obtain ⟨⟨vs', e2⟩, hr1, hr2⟩ := Option.map_eq_some_iff.1 hr
  simp only [Prod.mk.injEq] at hr2
  obtain ⟨rfl, rfl⟩ := hr2
  have hx : ∀ t, t ∈ x.tms → e'.get t = e.get t := fun t ht => h t (by simp [ht])
  obtain ⟨e2', g1, g2, g3⟩ := rds_congr xs (e.take x) (e'.take x) vs' e2 (fun t ht => by
   by_cases hk : t ∈ x.tks
   ·exact take_same hx hk
   ·rw [take_other hk, take_other hk]; exact h t (by simp only [List.flatMap_cons, List.mem_append]; exact .inr ht)) hr1
  refine ⟨e2', ?_, ?_, ?_⟩
  ·simp only [Env.rds, rd_congr hx, hv, Option.bind_some, g1, Option.map_some]
  ·intro t ht
   by_cases hk : t ∈ xs.flatMap Opd.tks
   ·exact g2 t hk
   ·obtain ⟨k1, k2⟩ := g3 t hk
    rw [k1, k2]
    have : t ∈ x.tks := by
     simp only [List.flatMap_cons, List.mem_append] at ht
     exact ht.resolve_right hk
    exact take_same hx this
  ·intro t ht
   simp only [List.flatMap_cons, List.mem_append, not_or] at ht
   obtain ⟨k1, k2⟩ := g3 t ht.2
   rw [k1, k2, take_other ht.1, take_other ht.1]
   exact ⟨rfl, rfl⟩
def AOp.reads (x : AOp) : List Nat := (match x.guard with | some (g, _) => [g] | none => []) ++ x.xs.flatMap Opd.tms
def AOp.evs (x : AOp) : List Nat := x.dst.toList ++ x.xs.flatMap Opd.tks
theorem wantedA_congr {e e' : Env} {x : AOp} (h : ∀ t, t ∈ x.reads → e'.get t = e.get t) : wantedA e' x.guard = wantedA e x.guard := by
 unfold wantedA
 cases hg : x.guard with
 | none => rfl
 | some p =>
  obtain ⟨g, b⟩ := p
  have := h g (by simp [AOp.reads, hg])
  simp only [this]
theorem putO_get (e : Env) (d : Option Nat) (v : AVal) (t : Nat) : (e.putO d v).get t = if d = some t then v else e.get t := by
 cases d with
 | none => simp [Env.putO]
 | some u =>
  simp only [Env.putO, Env.get_put, Option.some.injEq]
  by_cases h : t = u
  ·subst h; simp
  ·rw [if_neg h, if_neg (fun e => h e.symm)]
structure SF (call : CallF) (i : Nat) (x : AOp) (d : DInfo) (e : Env) (H : Heap) (e' : Env) (H' : Heap) (c : Came) (prev : Came → Prop) : Prop where
 i : c.i = i
 k : c.k = x.k
 h : c.H = H
 run : (wantedA e x.guard = some false ∧ e' = e.putO x.dst (.tuple []) ∧ H' = H ∧ c.vs = none) ∨
  (wantedA e x.guard = some true ∧ ∃ vs e1, e.rds x.xs = some (vs, e1) ∧ ev call x.k vs H = some (c.v, H') ∧ e' = e1.putO x.dst c.v ∧ c.vs = some vs ∧
   (d.w = true → ∀ p, prev p → d.un.contains p.i = true → p.again call H' = true) ∧
   (d.w = false → H' = H ∧ ∀ p, prev p → d.un.contains p.i = true → c.again call p.H = true))
theorem drawOp_sf {call : CallF} {i : Nat} {x : AOp} {d : DInfo} {tr tr' : List Came} {e e' : Env} {H H' : Heap} (h : drawOp call i x d tr e H = some (tr', e', H')) :
  ∃ c, tr' = c :: tr ∧ SF call i x d e H e' H' c (fun p => p ∈ tr) := by
 unfold drawOp at h
 split at h
 ·rename_i hw
  obtain ⟨⟨vs, e1⟩, hr, h⟩ := Option.bind_eq_some_iff.1 h
  obtain ⟨⟨V, H1⟩, hv, h⟩ := Option.bind_eq_some_iff.1 h
  simp only at h hv
  have un : ∀ {b c : Bool}, (!b || c) = true → b = true → c = true := by intro b c h1 h2; subst h2; simpa using h1
  split at h
  ·rename_i hdw
   obtain ⟨ha, h⟩ := ite_some h
   simp only [Option.some.injEq, Prod.mk.injEq] at h
   obtain ⟨rfl, rfl, rfl⟩ := h
   refine ⟨_, rfl, rfl, rfl, rfl, .inr ⟨hw, vs, e1, hr, hv, rfl, rfl, fun _ p hp hu => ?_, fun hf => by rw [hdw] at hf; cases hf⟩⟩
   exact un (List.all_eq_true.1 ha p hp) hu
  ·rename_i hdw
   obtain ⟨ha, h⟩ := ite_some h
   rw [Bool.and_eq_true] at ha
   have := sameH_eq ha.1
   subst this
   simp only [Option.some.injEq, Prod.mk.injEq] at h
   obtain ⟨rfl, rfl, rfl⟩ := h
   refine ⟨_, rfl, rfl, rfl, rfl, .inr ⟨hw, vs, e1, hr, hv, rfl, rfl, fun ht => absurd ht hdw, fun _ => ⟨rfl, fun p hp hu => ?_⟩⟩⟩
   exact un (List.all_eq_true.1 ha.2 p hp) hu
 ·rename_i hw
  simp only [Option.some.injEq, Prod.mk.injEq] at h
  obtain ⟨rfl, rfl, rfl⟩ := h
  exact ⟨_, rfl, rfl, rfl, rfl, .inl ⟨hw, rfl, rfl, rfl⟩⟩
 ·cases h
theorem draw_data {call : CallF} : ∀ (xs : List (AOp × DInfo)) (i0 : Nat) (tr : List Came) (e e' : Env) (H H' : Heap), adraw call i0 xs tr e H = some (e', H') →
  ∃ (E : Nat → Env) (HH : Nat → Heap) (C : Nat → Came), E i0 = e ∧ HH i0 = H ∧ E (i0 + xs.length) = e' ∧ HH (i0 + xs.length) = H' ∧
   ∀ k x d, xs[k]? = some (x, d) → SF call (i0 + k) x d (E (i0 + k)) (HH (i0 + k)) (E (i0 + k + 1)) (HH (i0 + k + 1)) (C (i0 + k)) (fun p => p ∈ tr ∨ ∃ j, i0 ≤ j ∧ j < i0 + k ∧ p = C j)
 | [], i0, tr, e, e', H, H', h => by
  simp only [adraw, Option.some.injEq, Prod.mk.injEq] at h
  obtain ⟨rfl, rfl⟩ := h
  exact ⟨fun _ => e, fun _ => H, fun _ => ⟨0, .move, none, .any, []⟩, rfl, rfl, rfl, rfl, fun k x d hk => by simp at hk⟩
 | (x, d) :: xs, i0, tr, e, e', H, H', h => by
  simp only [adraw] at h
  obtain ⟨⟨tr1, e1, H1⟩, h1, h2⟩ := Option.bind_eq_some_iff.1 h
  obtain ⟨c, rfl, hsf⟩ := drawOp_sf h1
  obtain ⟨E, HH, C, g1, g2, g3, g4, g5⟩ := draw_data xs (i0 + 1) (c :: tr) e1 e' H1 H' h2
  refine ⟨fun n => if n = i0 then e else E n, fun n => if n = i0 then H else HH n, fun n => if n = i0 then c else C n, by simp, by simp, ?_, ?_, ?_⟩
  ·simp only [List.length_cons]
   rw [if_neg (by omega), show i0 + (xs.length + 1) = i0 + 1 + xs.length by omega]; exact g3
  ·simp only [List.length_cons]
   rw [if_neg (by omega), show i0 + (xs.length + 1) = i0 + 1 + xs.length by omega]; exact g4
  ·intro k x' d' hk
   cases k with
   | zero =>
    simp only [List.getElem?_cons_zero, Option.some.injEq, Prod.mk.injEq] at hk
    obtain ⟨rfl, rfl⟩ := hk
    simp only [Nat.add_zero, if_true]
    rw [if_neg (by omega), if_neg (by omega), g1, g2]
    exact ⟨hsf.i, hsf.k, hsf.h, hsf.run.imp id fun ⟨a1, vs, e1, a2, a3, a4, a5, a6, a7⟩ => ⟨a1, vs, e1, a2, a3, a4, a5,
     fun hw p hp => a6 hw p (by rcases hp with hp | ⟨j, _, _, _⟩; exact hp; omega), fun hw => ⟨(a7 hw).1, fun p hp => (a7 hw).2 p (by rcases hp with hp | ⟨j, _, _, _⟩; exact hp; omega)⟩⟩⟩
   | succ k =>
    have := g5 k x' d' (by simpa using hk)
    rw [show i0 + 1 + k = i0 + (k + 1) by omega] at this
    have n1 : ¬ (i0 + (k + 1) = i0) := by omega
    have n2 : ¬ (i0 + (k + 1) + 1 = i0) := by omega
    simp only [if_neg n1, if_neg n2]
    have conv : ∀ p, (p ∈ tr ∨ ∃ j, i0 ≤ j ∧ j < i0 + (k + 1) ∧ p = (if j = i0 then c else C j)) → (p ∈ c :: tr ∨ ∃ j, i0 + 1 ≤ j ∧ j < i0 + (k + 1) ∧ p = C j) := by
     rintro p (hp | ⟨j, j1, j2, rfl⟩)
     ·exact .inl (List.mem_cons_of_mem _ hp)
     ·by_cases hj : j = i0
      ·rw [if_pos hj]; exact .inl (List.mem_cons_self ..)
      ·rw [if_neg hj]; exact .inr ⟨j, by omega, j2, rfl⟩
    exact ⟨this.i, this.k, this.h, this.run.imp id fun ⟨a1, vs, e1, a2, a3, a4, a5, a6, a7⟩ => ⟨a1, vs, e1, a2, a3, a4, a5,
     fun hw p hp => a6 hw p (conv p hp), fun hw => ⟨(a7 hw).1, fun p hp => (a7 hw).2 p (conv p hp)⟩⟩⟩
theorem again_ev {call : CallF} {c : Came} {vs : List AVal} {H : Heap} (hv : c.vs = some vs) (h : c.again call H = true) : ev call c.k vs H = some (c.v, H) := by
 unfold Came.again at h
 rw [hv] at h
 simp only at h
 unfold stays at h
 split at h
 ·rename_i v' H' hr
  rw [Bool.and_eq_true] at h
  rw [hr, same_eq _ _ h.1, sameH_eq h.2]
 ·cases h
theorem first (p : Nat → Bool) : ∀ m : Nat, ∃ c, c ≤ m ∧ (c = m ∨ p c = true) ∧ ∀ k, k < c → p k = false
 | 0 => ⟨0, Nat.le_refl _, .inl rfl, fun k hk => by omega⟩
 | m + 1 => by
  obtain ⟨c, h1, h2, h3⟩ := first p m
  rcases h2 with rfl | h2
  ·cases hp : p c with
   | true => exact ⟨c, by omega, .inr hp, h3⟩
   | false => exact ⟨c + 1, Nat.le_refl _, .inl rfl, fun k hk => by
     by_cases hk' : k = c
     ·subst hk'; exact hp
     ·exact h3 k (by omega)⟩
  ·exact ⟨c, by omega, .inr h2, h3⟩
theorem last (p : Nat → Bool) (a : Nat) : ∀ n : Nat, (∀ k, a ≤ k → k < a + n → p k = false) ∨ ∃ k, a ≤ k ∧ k < a + n ∧ p k = true ∧ ∀ j, k < j → j < a + n → p j = false
 | 0 => .inl fun k h1 h2 => by omega
 | n + 1 => by
  cases hp : p (a + n) with
  | true => exact .inr ⟨a + n, by omega, by omega, hp, fun j h1 h2 => by omega⟩
  | false =>
   rcases last p a n with h | ⟨k, h1, h2, h3, h4⟩
   ·exact .inl fun k h1 h2 => by
     by_cases hk : k = a + n
     ·subst hk; exact hp
     ·exact h k h1 (by omega)
   ·exact .inr ⟨k, h1, by omega, h3, fun j j1 j2 => by
     by_cases hk : j = a + n
     ·subst hk; exact hp
     ·exact h4 j j1 (by omega)⟩
theorem const_from {α : Type} (f : Nat → α) (a : Nat) : ∀ n : Nat, (∀ k, a ≤ k → k < a + n → f (k + 1) = f k) → f (a + n) = f a
 | 0, _ => rfl
 | n + 1, h => by
  have := const_from f a n fun k h1 h2 => h k h1 (by omega)
  rw [← this]; exact h (a + n) (by omega) (by omega)
structure Order (xs : List (AOp × DInfo)) (A : Nat → Nat → Prop) : Prop where
 lt : ∀ i j, A i j → j < i
 pair : ∀ i j x d y f, j < i → xs[i]? = some (x, d) → xs[j]? = some (y, f) → A i j ∨
  ((∀ t, t ∈ x.evs → t ∉ y.reads ∧ t ∉ y.evs) ∧ (∀ t, t ∈ y.evs → t ∉ x.reads) ∧ ¬ (d.w = true ∧ f.w = true) ∧ (d.w = true ∨ f.w = true → d.un.contains j = true))
section
variable {call : CallF} {xs : List (AOp × DInfo)} {A : Nat → Nat → Prop} (ho : Order xs A) {E : Nat → Env} {HH : Nat → Heap} {C : Nat → Came}
 (sf : ∀ k x d, xs[k]? = some (x, d) → SF call k x d (E k) (HH k) (E (k + 1)) (HH (k + 1)) (C k) (fun p => ∃ j, j < k ∧ p = C j))
def evsAt (xs : List (AOp × DInfo)) (k t : Nat) : Bool := match xs[k]? with | some (x, _) => x.evs.contains t | none => false
def wAt (xs : List (AOp × DInfo)) (C : Nat → Came) (k : Nat) : Bool := match xs[k]? with | some (_, d) => d.w && (C k).vs.isSome | none => false
structure Inv (xs : List (AOp × DInfo)) (E : Nat → Env) (HH : Nat → Heap) (C : Nat → Came) (s : Nat → Bool) (e : Env) (H : Heap) : Prop where
 env : ∀ t c, c ≤ xs.length → (c = xs.length ∨ (evsAt xs c t = true ∧ s c = false)) → (∀ k, k < c → evsAt xs k t = true → s k = true) → e.get t = (E c).get t
 heap : ∀ c, c ≤ xs.length → (c = xs.length ∨ (wAt xs C c = true ∧ s c = false)) → (∀ k, k < c → wAt xs C k = true → s k = true) → H = HH c
include sf in
theorem env_const {k t : Nat} (h : evsAt xs k t = false) (hk : k < xs.length) : (E (k + 1)).get t = (E k).get t := by
 obtain ⟨⟨x, d⟩, hx⟩ : ∃ p, xs[k]? = some p := ⟨xs[k], List.getElem?_eq_getElem hk⟩
 simp only [evsAt, hx] at h
 have hnt : t ∉ x.evs := by simpa using h
 simp only [AOp.evs, List.mem_append, not_or, Option.mem_toList] at hnt
 have hd : ¬ x.dst = some t := hnt.1
 rcases (sf k x d hx).run with ⟨_, h2, _, _⟩ | ⟨_, vs, e1, h2, _, h4, _⟩
 ·rw [h2, putO_get, if_neg hd]
 ·obtain ⟨e1', g1, _, g3⟩ := rds_congr x.xs (E k) (E k) vs e1 (fun _ _ => rfl) h2
  rw [h4, putO_get, if_neg hd]
  exact (g3 t hnt.2).2
include sf in
theorem heap_const {k : Nat} (h : wAt xs C k = false) (hk : k < xs.length) : HH (k + 1) = HH k := by
 obtain ⟨⟨x, d⟩, hx⟩ : ∃ p, xs[k]? = some p := ⟨xs[k], List.getElem?_eq_getElem hk⟩
 simp only [wAt, hx, Bool.and_eq_false_iff] at h
 rcases (sf k x d hx).run with ⟨_, _, h3, _⟩ | ⟨_, vs, e1, _, _, _, h5, _, h7⟩
 ·exact h3
 ·rcases h with h | h
  ·exact (h7 h).1
  ·rw [h5] at h; cases h
include sf in
theorem env_from {a c t : Nat} (hac : a ≤ c) (hc : c ≤ xs.length) (h : ∀ k, a ≤ k → k < c → evsAt xs k t = false) : (E c).get t = (E a).get t := by
 obtain ⟨n, rfl⟩ : ∃ n, c = a + n := ⟨c - a, by omega⟩
 exact const_from (fun k => (E k).get t) a n fun k h1 h2 => env_const sf (h k h1 h2) (by omega)
include sf in
theorem heap_from {a c : Nat} (hac : a ≤ c) (hc : c ≤ xs.length) (h : ∀ k, a ≤ k → k < c → wAt xs C k = false) : HH c = HH a := by
 obtain ⟨n, rfl⟩ : ∃ n, c = a + n := ⟨c - a, by omega⟩
 exact const_from HH a n fun k h1 h2 => heap_const sf (h k h1 h2) (by omega)
include ho sf in
theorem inv_step {s : Nat → Bool} {e : Env} {H : Heap} (hs : ∀ i j, s i = true → A i j → s j = true) (inv : Inv xs E HH C s e H) {i : Nat} {x : AOp} {d : DInfo} (hx : xs[i]? = some (x, d)) (hi : s i = false)
  (ha : ∀ j, A i j → s j = true) : ∃ e' H', aop call x e H = some (e', H') ∧ Inv xs E HH C (fun j => j == i || s j) e' H' := by
 have him : i < xs.length := (List.getElem?_eq_some_iff.1 hx).1
 have at_ : ∀ {k}, k < xs.length → ∃ p, xs[k]? = some p := fun h => ⟨xs[_], List.getElem?_eq_getElem h⟩
 -- no event on what it reads lies between
 have below : ∀ {t c}, c < i → evsAt xs c t = true → s c = false → t ∉ x.reads ∧ t ∉ x.evs := by
  intro t c hc hev hsc
  obtain ⟨⟨y, f⟩, hy⟩ := at_ (Nat.lt_trans hc him)
  simp only [evsAt, hy, List.contains_iff_mem] at hev
  rcases ho.pair i c x d y f hc hx hy with h | ⟨h1, h2, _, _⟩
  ·rw [ha c h] at hsc; cases hsc
  ·exact ⟨h2 t hev, fun h3 => (h1 t h3).2 hev⟩
 have above : ∀ {t k}, i < k → evsAt xs k t = true → s k = true → t ∉ x.reads ∧ t ∉ x.evs := by
  intro t k hk hev hsk
  have hkm : k < xs.length := by
   rcases Nat.lt_or_ge k xs.length with h | h
   ·exact h
   ·simp only [evsAt, List.getElem?_eq_none h] at hev; cases hev
  obtain ⟨⟨y, f⟩, hy⟩ := at_ hkm
  simp only [evsAt, hy, List.contains_iff_mem] at hev
  rcases ho.pair k i y f x d hk hy hx with h | ⟨h1, _, _, _⟩
  ·rw [hs k i hsk h] at hi; cases hi
  ·exact h1 t hev
 -- it reads what the reader read
 have rd : ∀ t, t ∈ x.reads → e.get t = (E i).get t := by
  intro t ht
  obtain ⟨c, c1, c2, c3⟩ := first (fun k => evsAt xs k t && !s k) xs.length
  have c2' : c = xs.length ∨ (evsAt xs c t = true ∧ s c = false) := by
   rcases c2 with h | h
   ·exact .inl h
   ·rw [Bool.and_eq_true, Bool.not_eq_true'] at h; exact .inr h
  have c3' : ∀ k, k < c → evsAt xs k t = true → s k = true := by
   intro k hk hev
   have := c3 k hk
   rw [hev] at this; simpa using this
  rw [inv.env t c c1 c2' c3']
  have hic : i ≤ c := by
   rcases Nat.lt_or_ge c i with h | h
   ·rcases c2' with h1 | ⟨h1, h2⟩
    ·omega
    ·exact absurd ht (below h h1 h2).1
   ·exact h
  refine env_from sf hic c1 fun k h1 h2 => ?_
  cases hev : evsAt xs k t with
  | false => rfl
  | true =>
   have hsk := c3' k h2 hev
   rcases Nat.lt_or_eq_of_le h1 with h3 | h3
   ·exact absurd ht (above h3 hev hsk).1
   ·subst h3; rw [hi] at hsk; cases hsk
 have hwant : wantedA e x.guard = wantedA (E i) x.guard := wantedA_congr rd
 -- the boxes
 obtain ⟨c0, c1, c2, c3⟩ := first (fun k => wAt xs C k && !s k) xs.length
 have c2' : c0 = xs.length ∨ (wAt xs C c0 = true ∧ s c0 = false) := by
  rcases c2 with h | h
  ·exact .inl h
  ·rw [Bool.and_eq_true, Bool.not_eq_true'] at h; exact .inr h
 have c3' : ∀ k, k < c0 → wAt xs C k = true → s k = true := by
  intro k hk hev
  have := c3 k hk
  rw [hev] at this; simpa using this
 have hH : H = HH c0 := inv.heap c0 c1 c2' c3'
 have ww : ∀ {k}, wAt xs C k = true → ∃ y f, xs[k]? = some (y, f) ∧ f.w = true ∧ k < xs.length := by
  intro k hk
  unfold wAt at hk
  split at hk
  ·rename_i y f hy
   rw [Bool.and_eq_true] at hk
   exact ⟨y, f, hy, hk.1, (List.getElem?_eq_some_iff.1 hy).1⟩
  ·cases hk
 -- two that act are in order
 have wbelow : ∀ {c}, d.w = true → c < i → wAt xs C c = true → s c = true := by
  intro c hd hc hwc
  obtain ⟨y, f, hy, hf, _⟩ := ww hwc
  rcases ho.pair i c x d y f hc hx hy with h | ⟨_, _, h3, _⟩
  ·exact ha c h
  ·exact absurd ⟨hd, hf⟩ h3
 have wabove : ∀ {k}, d.w = true → i < k → wAt xs C k = true → s k = false := by
  intro k hd hk hwk
  obtain ⟨y, f, hy, hf, _⟩ := ww hwk
  rcases ho.pair k i y f x d hk hy hx with h | ⟨_, _, h3, _⟩
  ·cases hsk : s k with
   | false => rfl
   | true => rw [hs k i hsk h] at hi; cases hi
  ·exact absurd ⟨hf, hd⟩ h3
 -- the environment behind it
 have envnew : ∀ (e' : Env), (∀ t, t ∉ x.evs → e'.get t = e.get t) → (∀ t, t ∈ x.evs → e'.get t = (E (i + 1)).get t) →
   ∀ t c, c ≤ xs.length → (c = xs.length ∨ (evsAt xs c t = true ∧ (c == i || s c) = false)) → (∀ k, k < c → evsAt xs k t = true → (k == i || s k) = true) → e'.get t = (E c).get t := by
  intro e' h1 h2 t c hc hc2 hc3
  by_cases hev : t ∈ x.evs
  ·rw [h2 t hev]
   have hci : i < c := by
    rcases Nat.lt_trichotomy c i with h | h | h
    ·rcases hc2 with h3 | ⟨h3, h4⟩
     ·omega
     ·rw [Bool.or_eq_false_iff] at h4
      exact absurd hev (below h h3 h4.2).2
    ·subst h
     rcases hc2 with h3 | ⟨h3, h4⟩
     ·omega
     ·simp at h4
    ·exact h
   refine (env_from sf hci hc fun k k1 k2 => ?_).symm
   cases hk : evsAt xs k t with
   | false => rfl
   | true =>
    have := hc3 k k2 hk
    rw [Bool.or_eq_true, beq_iff_eq] at this
    rcases this with h3 | h3
    ·omega
    ·exact absurd hev (above (by omega) hk h3).2
  ·rw [h1 t hev]
   refine inv.env t c hc ?_ ?_
   ·rcases hc2 with h3 | ⟨h3, h4⟩
    ·exact .inl h3
    ·rw [Bool.or_eq_false_iff] at h4; exact .inr ⟨h3, h4.2⟩
   ·intro k hk hk2
    have := hc3 k hk hk2
    rw [Bool.or_eq_true, beq_iff_eq] at this
    rcases this with rfl | h3
    ·simp only [evsAt, hx, List.contains_iff_mem] at hk2; exact absurd hk2 hev
    ·exact h3
 -- the boxes behind it
 have heapsame : wAt xs C i = false → ∀ c, c ≤ xs.length → (c = xs.length ∨ (wAt xs C c = true ∧ (c == i || s c) = false)) → (∀ k, k < c → wAt xs C k = true → (k == i || s k) = true) → H = HH c := by
  intro hwi c hc hc2 hc3
  refine inv.heap c hc ?_ ?_
  ·rcases hc2 with h3 | ⟨h3, h4⟩
   ·exact .inl h3
   ·rw [Bool.or_eq_false_iff] at h4; exact .inr ⟨h3, h4.2⟩
  ·intro k hk hk2
   have := hc3 k hk hk2
   rw [Bool.or_eq_true, beq_iff_eq] at this
   rcases this with rfl | h3
   ·rw [hwi] at hk2; cases hk2
   ·exact h3
 rcases (sf i x d hx).run with ⟨h1, h2, h3, h4⟩ | ⟨h1, vs, e1, h2, h3, h4, h5, h6, h7⟩
 ·-- passed by
  have hwi : wAt xs C i = false := by simp [wAt, hx, h4]
  refine ⟨e.putO x.dst (.tuple []), H, ?_, envnew _ ?_ ?_, heapsame hwi⟩
  ·unfold aop; rw [hwant, h1]
  ·intro t ht
   simp only [AOp.evs, List.mem_append, not_or, Option.mem_toList] at ht
   rw [putO_get, if_neg ht.1]
  ·intro t ht
   rw [h2, putO_get, putO_get]
   split
   ·rfl
   ·rename_i hd
    refine rd t ?_
    simp only [AOp.evs, List.mem_append, Option.mem_toList] at ht
    have ht := ht.resolve_left hd
    simp only [AOp.reads, List.mem_append]
    right
    obtain ⟨o, o1, o2⟩ := List.mem_flatMap.1 ht
    exact List.mem_flatMap.2 ⟨o, o1, tks_sub o2⟩
 ·obtain ⟨e1', g1, g2, g3⟩ := rds_congr x.xs (E i) e vs e1 (fun t ht => rd t (by simp only [AOp.reads, List.mem_append]; exact .inr ht)) h2
  -- what it gives here
  have fin : ∀ H', ev call x.k vs H = some ((C i).v, H') → (∀ c, c ≤ xs.length → (c = xs.length ∨ (wAt xs C c = true ∧ (c == i || s c) = false)) → (∀ k, k < c → wAt xs C k = true → (k == i || s k) = true) → H' = HH c) →
    ∃ e' H', aop call x e H = some (e', H') ∧ Inv xs E HH C (fun j => j == i || s j) e' H' := by
   intro H' hev hh
   refine ⟨e1'.putO x.dst (C i).v, H', ?_, envnew _ ?_ ?_, hh⟩
   ·unfold aop; rw [hwant, h1]; simp only [g1, Option.bind_some, hev, Option.map_some]
   ·intro t ht
    simp only [AOp.evs, List.mem_append, not_or, Option.mem_toList] at ht
    rw [putO_get, if_neg ht.1]
    exact (g3 t ht.2).1
   ·intro t ht
    rw [h4, putO_get, putO_get]
    split
    ·rfl
    ·rename_i hd
     simp only [AOp.evs, List.mem_append, Option.mem_toList] at ht
     exact g2 t (ht.resolve_left hd)
  cases hdw : d.w with
  | true =>
   have hwi : wAt xs C i = true := by simp [wAt, hx, hdw, h5]
   have hci : c0 = i := by
    rcases Nat.lt_trichotomy c0 i with h | h | h
    ·rcases c2' with h8 | ⟨h8, h9⟩
     ·omega
     ·rw [wbelow hdw h h8] at h9; cases h9
    ·exact h
    ·rw [c3' i h hwi] at hi; cases hi
   rw [hci] at hH
   refine fin (HH (i + 1)) (by rw [hH]; exact h3) fun c hc hc2 hc3 => ?_
   have hic : i < c := by
    rcases Nat.lt_trichotomy c i with h | h | h
    ·rcases hc2 with h8 | ⟨h8, h9⟩
     ·omega
     ·rw [Bool.or_eq_false_iff] at h9
      rw [wbelow hdw h h8] at h9; cases h9.2
    ·subst h
     rcases hc2 with h8 | ⟨h8, h9⟩
     ·omega
     ·simp at h9
    ·exact h
   refine (heap_from sf hic hc fun k k1 k2 => ?_).symm
   cases hk : wAt xs C k with
   | false => rfl
   | true =>
    have := hc3 k k2 hk
    rw [Bool.or_eq_true, beq_iff_eq] at this
    rcases this with h8 | h8
    ·omega
    ·rw [wabove hdw (by omega) hk] at h8; cases h8
  | false =>
   have hwi : wAt xs C i = false := by simp [wAt, hx, hdw]
   obtain ⟨h8, h9⟩ := h7 hdw
   have hck : (C i).k = x.k := (sf i x d hx).k
   refine fin H ?_ (heapsame hwi)
   rcases Nat.lt_or_ge c0 i with hlt | hge
   ·-- ahead of one that acts
    rcases c2' with h10 | ⟨h10, h11⟩
    ·omega
    ·obtain ⟨y, f, hy, hf, _⟩ := ww h10
     rcases ho.pair i c0 x d y f hlt hx hy with h12 | ⟨_, _, _, h12⟩
     ·rw [ha c0 h12] at h11; cases h11
     ·have hp := (sf c0 y f hy)
      have := h9 (C c0) ⟨c0, hlt, rfl⟩ (by rw [hp.i]; exact h12 (.inr hf))
      rw [hp.h, ← hH] at this
      have := again_ev h5 this
      rw [hck] at this; exact this
   ·rcases last (wAt xs C) i (c0 - i) with hno | ⟨k, k1, k2, k3, k4⟩
    ·have : HH c0 = HH i := heap_from sf hge c1 fun k h10 h11 => hno k h10 (by omega)
     rw [hH, this]
     rw [h3, h8]
    ·have hki : i < k := by
      rcases Nat.lt_or_eq_of_le k1 with h | h
      ·exact h
      ·subst h; rw [hwi] at k3; cases k3
     have hsk := c3' k (by omega) k3
     obtain ⟨y, f, hy, hf, hkm⟩ := ww k3
     rcases ho.pair k i y f x d hki hy hx with h12 | ⟨_, _, _, h12⟩
     ·rw [hs k i hsk h12] at hi; cases hi
     ·have hp := sf k y f hy
      have hcs : (C k).vs.isSome = true := by
       simp only [wAt, hy, Bool.and_eq_true] at k3; exact k3.2
      rcases hp.run with ⟨_, _, _, q4⟩ | ⟨_, _, _, _, _, _, _, q6, _⟩
      ·rw [q4] at hcs; cases hcs
      ·have := q6 hf (C i) ⟨i, hki, rfl⟩ (by rw [(sf i x d hx).i]; exact h12 (.inl hf))
       have hHk : HH c0 = HH (k + 1) := heap_from sf (by omega) c1 fun j j1 j2 => k4 j (by omega) (by omega)
       rw [← hHk, ← hH] at this
       have := again_ev h5 this
       rw [hck] at this; exact this
end
theorem St.sameHeap {E G S w w'} (h : St E G S w) (e : w'.heap = w.heap) (hst : Still w w') : St E G S w' := by
 have e' : ∀ b : Nat, w'.heap[b]? = w.heap[b]? := fun b => by rw [e]
 have ge : GE G w G w' := ⟨Nat.le_refl _, fun _ _ h => h, fun _ _ => rfl, fun _ _ => rfl, fun _ _ => rfl, fun b o _ => cell_of_heap (e' b), hst⟩
 have own : ∀ p, ownP G S w' p = ownP G S w p := by
  intro p
  cases p with
  | cell id off => simp only [ownP, cellv_of_heap (e' _)]
  | _ => rfl
 exact {
  n := h.n
  Db := fun b o hd => by rw [e]; exact h.Db b o hd
  slot := fun t => (h.slot t).stay ge (fun _ a _ => e' a.1)
  fly := fun k V v hk => (h.fly k V v hk).stay ge (fun _ a _ => e' a.1)
  box := fun id B hB => (h.box id B hB).stay ge (by rw [h.n]; exact (List.getElem?_eq_some_iff.1 hB).1) (fun _ _ => e' _) (fun _ _ _ a _ _ _ => e' a.1) (fun _ _ a _ _ => e' a.1)
  ok := fun p a hp => by rw [own] at hp; exact (h.ok p a hp).stay (by rw [e]; exact Nat.le_refl _) (e' a.1) (h.ok p a hp).D
  dis := fun p q a b hpq ha hb => by rw [own] at ha hb; exact h.dis p q a b hpq ha hb
  fr := ⟨h.fr.n, h.fr.μ, h.fr.D, h.fr.Dn, by rw [e]; exact h.fr.size, fun b hb ho => by rw [e]; exact h.fr.heap b hb ho, fun b o hd => by rw [cell_of_heap (e' b)]; exact h.fr.cell b o hd, h.fr.still.trans hst⟩
  new := fun p a hp => by rw [own] at hp; exact h.new p a hp }
def maskOf (o : Oper) (acc : List Nat) : Nat := o.after.toList.foldl (fun m e => if Region.binds .any e then m ||| 2 ^ e.on ||| acc.getD e.on 0 else m) 0
def masks : List Oper → List Nat → List Nat
 | [], acc => acc
 | o :: os, acc => masks os (acc ++ [maskOf o acc])
theorem masks_len : ∀ (os : List Oper) (acc : List Nat), (masks os acc).length = acc.length + os.length
 | [], acc => by simp [masks]
 | o :: os, acc => by simp [masks, masks_len os]; omega
theorem masks_old : ∀ (os : List Oper) (acc : List Nat) (i : Nat), i < acc.length → (masks os acc)[i]? = acc[i]?
 | [], acc, i, h => rfl
 | o :: os, acc, i, h => by
  simp only [masks]
  rw [masks_old os _ i (by simp; omega), List.getElem?_append_left h]
theorem masks_get : ∀ (os : List Oper) (acc : List Nat) (k : Nat) (o : Oper), os[k]? = some o → (masks os acc)[acc.length + k]? = some (maskOf o ((masks os acc).take (acc.length + k)))
 | [], acc, k, o, h => by simp at h
 | o' :: os, acc, k, o, h => by
  cases k with
  | zero =>
   simp only [List.getElem?_cons_zero, Option.some.injEq] at h
   subst h
   simp only [masks, Nat.add_zero]
   rw [masks_old os _ acc.length (by simp)]
   have : (masks os (acc ++ [maskOf o' acc])).take acc.length = acc := by
    apply List.ext_getElem?
    intro i
    rw [List.getElem?_take]
    split
    ·rename_i hi
     rw [masks_old os _ i (by simp; omega), List.getElem?_append_left hi]
    ·rename_i hi
     rw [List.getElem?_eq_none (by omega)]
   rw [this]
   simp
  | succ k =>
   simp only [List.getElem?_cons_succ] at h
   simp only [masks]
   have := masks_get os (acc ++ [maskOf o' acc]) k o h
   simp only [List.length_append, List.length_singleton] at this
   rw [show acc.length + (k + 1) = acc.length + 1 + k by omega]
   exact this
theorem foldl_bit (acc : List Nat) (j : Nat) : ∀ (l : List Edge) (m : Nat), (l.foldl (fun m e => if Region.binds .any e then m ||| 2 ^ e.on ||| acc.getD e.on 0 else m) m).testBit j = true →
  m.testBit j = true ∨ ∃ e, e ∈ l ∧ Region.binds .any e = true ∧ (j = e.on ∨ (acc.getD e.on 0).testBit j = true)
 | [], m, h => .inl h
 | e :: l, m, h => by
  simp only [List.foldl_cons] at h
  rcases foldl_bit acc j l _ h with h1 | ⟨e', h1, h2, h3⟩
  ·split at h1
   ·rename_i hb
    rw [Nat.testBit_or, Nat.testBit_or, Bool.or_eq_true, Bool.or_eq_true] at h1
    rcases h1 with (h1 | h1) | h1
    ·exact .inl h1
    ·right
     rw [Nat.testBit_two_pow] at h1
     exact ⟨e, List.mem_cons_self .., hb, .inl (of_decide_eq_true h1).symm⟩
    ·exact .inr ⟨e, List.mem_cons_self .., hb, .inr h1⟩
   ·exact .inl h1
  ·exact .inr ⟨e', List.mem_cons_of_mem _ h1, h2, h3⟩
theorem mask_closed {os : List Oper} {s : Nat → Bool} (hs : ∀ (i : Nat) o, os[i]? = some o → s i = true → ∀ e, e ∈ o.after → Region.binds .any e = true → s e.on = true) :
  ∀ (i j : Nat) o, os[i]? = some o → (∀ e, e ∈ o.after → Region.binds .any e = true → s e.on = true) → ((masks os []).getD i 0).testBit j = true → s j = true := by
 intro i
 induction i using Nat.strongRecOn with
 | _ i ih =>
  intro j o ho he hb
  have hg := masks_get os [] i o ho
  simp only [List.length_nil, Nat.zero_add] at hg
  rw [List.getD_eq_getElem?_getD, hg] at hb
  simp only [Option.getD_some, maskOf] at hb
  rcases foldl_bit _ j _ 0 hb with h | ⟨e, h1, h2, h3⟩
  ·simp at h
  ·have hse := he e (Array.mem_toList_iff.1 h1) h2
   rcases h3 with rfl | h3
   ·exact hse
   ·rw [List.getD_eq_getElem?_getD, List.getElem?_take] at h3
    split at h3
    ·rename_i hlt
     have hlt' : e.on < os.length := by
      rcases Nat.lt_or_ge e.on os.length with h | h
      ·exact h
      ·rw [List.getElem?_eq_none (by rw [masks_len]; simpa using h)] at h3
       simp at h3
     exact ih e.on hlt j os[e.on] (List.getElem?_eq_getElem hlt') (hs e.on _ (List.getElem?_eq_getElem hlt') hse) (by rw [List.getD_eq_getElem?_getD]; exact h3)
    ·simp at h3
def disj (a b : List Nat) : Bool := a.all fun t => !b.contains t
theorem disj_ok {a b : List Nat} (h : disj a b = true) : ∀ t, t ∈ a → t ∉ b := by
 intro t ht hb
 have := List.all_eq_true.1 h t ht
 simp at this
 exact this hb
def apartOK (x : AOp) (d : DInfo) (y : AOp) (f : DInfo) (j : Nat) : Bool :=
 disj x.evs y.reads && disj x.evs y.evs && disj y.evs x.reads && !(d.w && f.w) && (!(d.w || f.w) || d.un.contains j)
def chkPairs : Nat → List (AOp × DInfo) → List Nat → List (Nat × AOp × DInfo) → Bool
 | i, (x, d) :: xs, m :: ms, prev => decide (m < 2 ^ i) && prev.all (fun p => m.testBit p.1 || apartOK x d p.2.1 p.2.2 p.1) && chkPairs (i + 1) xs ms ((i, x, d) :: prev)
 | _, [], [], _ => true
 | _, _, _, _ => false
theorem chkPairs_ok : ∀ (xs : List (AOp × DInfo)) (i : Nat) (ms : List Nat) (prev : List (Nat × AOp × DInfo)), chkPairs i xs ms prev = true → ∀ (k : Nat) x d, xs[k]? = some (x, d) →
  ∃ m, ms[k]? = some m ∧ m < 2 ^ (i + k) ∧ (∀ p, p ∈ prev → m.testBit p.1 = true ∨ apartOK x d p.2.1 p.2.2 p.1 = true) ∧
   ∀ (j : Nat) y f, j < k → xs[j]? = some (y, f) → m.testBit (i + j) = true ∨ apartOK x d y f (i + j) = true
 | [], _, _, _, _, k, x, d, hk => by simp at hk
 | (x0, d0) :: xs, i, [], prev, h, k, x, d, hk => by simp [chkPairs] at h
 | (x0, d0) :: xs, i, m :: ms, prev, h, k, x, d, hk => by
  simp only [chkPairs, Bool.and_eq_true, decide_eq_true_eq] at h
  obtain ⟨⟨h1, h2⟩, h3⟩ := h
  cases k with
  | zero =>
   simp only [List.getElem?_cons_zero, Option.some.injEq, Prod.mk.injEq] at hk
   obtain ⟨rfl, rfl⟩ := hk
   refine ⟨m, rfl, h1, fun p hp => ?_, fun j y f hj => by omega⟩
   have := List.all_eq_true.1 h2 p hp
   rwa [Bool.or_eq_true] at this
  | succ k =>
   obtain ⟨m', g1, g2, g3, g4⟩ := chkPairs_ok xs (i + 1) ms _ h3 k x d (by simpa using hk)
   refine ⟨m', by simpa using g1, by rw [show i + (k + 1) = i + 1 + k by omega]; exact g2, fun p hp => g3 p (List.mem_cons_of_mem _ hp), fun j y f hj hy => ?_⟩
   cases j with
   | zero =>
    simp only [List.getElem?_cons_zero, Option.some.injEq, Prod.mk.injEq] at hy
    obtain ⟨rfl, rfl⟩ := hy
    exact g3 (i, x0, d0) (List.mem_cons_self ..)
   | succ j =>
    rw [show i + (j + 1) = i + 1 + j by omega]
    exact g4 j y f (by omega) (by simpa using hy)
def chkDraw (P : Program) (nt : Nat) (ops : Array Oper) (xs : List (AOp × DInfo)) : Bool :=
 chkOps P nt ops ops.toList (xs.map (·.1)) && chkPairs 0 xs (masks ops.toList []) []
theorem chkDraw_order {P : Program} {nt : Nat} {ops : Array Oper} {xs : List (AOp × DInfo)} (h : chkPairs 0 xs (masks ops.toList []) [] = true) :
  Order xs (fun i j => i < xs.length ∧ ((masks ops.toList []).getD i 0).testBit j = true) := by
 constructor
 ·rintro i j ⟨hi, hb⟩
  obtain ⟨m, h1, h2, _, _⟩ := chkPairs_ok xs 0 _ [] h i xs[i].1 xs[i].2 (List.getElem?_eq_getElem hi)
  rw [List.getD_eq_getElem?_getD, h1] at hb
  simp only [Option.getD_some, Nat.zero_add] at hb h2
  rcases Nat.lt_or_ge j i with hj | hj
  ·exact hj
  ·have := Nat.testBit_lt_two_pow (Nat.lt_of_lt_of_le h2 (Nat.pow_le_pow_right (by omega) hj))
   rw [this] at hb; cases hb
 ·intro i j x d y f hj hx hy
  obtain ⟨m, h1, h2, _, h4⟩ := chkPairs_ok xs 0 _ [] h i x d hx
  have := h4 j y f hj hy
  rw [Nat.zero_add] at this
  rcases this with hb | hb
  ·left
   refine ⟨(List.getElem?_eq_some_iff.1 hx).1, ?_⟩
   rw [List.getD_eq_getElem?_getD, h1]; exact hb
  ·right
   simp only [apartOK, Bool.and_eq_true] at hb
   obtain ⟨⟨⟨⟨a1, a2⟩, a3⟩, a4⟩, a5⟩ := hb
   refine ⟨fun t ht => ⟨disj_ok a1 t ht, disj_ok a2 t ht⟩, fun t ht => disj_ok a3 t ht, ⟨fun hw => ?_, fun hw => ?_⟩⟩
   ·rw [hw.1, hw.2] at a4; cases a4
   rw [Bool.or_eq_true] at a5
   rcases a5 with a5 | a5
   ·rcases hw with hw | hw <;> simp [hw] at a5
   ·exact a5
theorem chkOps_get {P : Program} {nt : Nat} {ops : Array Oper} : ∀ {os : List Oper} {xs : List AOp}, chkOps P nt ops os xs = true → os.length = xs.length ∧ ∀ (i : Nat) o x, os[i]? = some o → xs[i]? = some x → chkAOp P nt ops o x = true
 | [], [], _ => ⟨rfl, fun i o x h => by simp at h⟩
 | o :: os, x :: xs, h => by
  simp only [chkOps, Bool.and_eq_true] at h
  obtain ⟨h1, h2⟩ := chkOps_get h.2
  refine ⟨by simp [h1], fun i o' x' ho hx => ?_⟩
  cases i with
  | zero => simp at ho hx; subst ho; subst hx; exact h.1
  | succ i => exact h2 i o' x' (by simpa using ho) (by simpa using hx)
 | [], _ :: _, h => by simp [chkOps] at h
 | _ :: _, [], h => by simp [chkOps] at h
def left (listed : Array Bool) (m : Nat) : Nat := ((List.range m).filter fun i => !listed.getD i true).length
theorem left_zero {listed : Array Bool} {m i : Nat} (h : left listed m = 0) (hi : i < m) : listed.getD i true = true := by
 unfold left at h
 have := List.length_eq_zero_iff.1 h
 have h2 := List.filter_eq_nil_iff.1 this i (List.mem_range.2 hi)
 simpa using h2
theorem filter_lt {α : Type} (p q : α → Bool) : ∀ (l : List α) (a : α), a ∈ l → p a = true → q a = false → (∀ x, q x = true → p x = true) → (l.filter q).length < (l.filter p).length
 | [], a, h, _, _, _ => by cases h
 | x :: l, a, h, hp, hq, hpq => by
  have le : ∀ l : List α, (l.filter q).length ≤ (l.filter p).length := by
   intro l
   induction l with
   | nil => simp
   | cons y l ih =>
    simp only [List.filter_cons]
    cases h1 : q y with
    | true => simp [hpq y h1]; exact ih
    | false => cases h2 : p y <;> simp <;> omega
  rcases List.mem_cons.1 h with rfl | h
  ·simp only [List.filter_cons, hp, hq, if_true, Bool.false_eq_true, if_false, List.length_cons]
   have := le l; omega
  ·have := filter_lt p q l a h hp hq hpq
   simp only [List.filter_cons]
   cases h1 : q x with
   | true => simp [hpq x h1]; exact this
   | false => cases h2 : p x <;> simp <;> omega
theorem left_set {listed : Array Bool} {m i : Nat} (hi : i < m) (hl : listed.getD i true = false) : left (listed.setIfInBounds i true) m < left listed m := by
 have his : i < listed.size := by
  rcases Nat.lt_or_ge i listed.size with h | h
  ·exact h
  ·rw [Array.getD_eq_getD_getElem?, Array.getElem?_eq_none h] at hl; cases hl
 unfold left
 refine filter_lt _ _ _ i (List.mem_range.2 hi) (by simp [hl]) (by simp [his]) ?_
 intro x hx
 by_cases hxi : i = x
 ·subst hxi; simp [his] at hx
 ·rw [getD_set_ne true hxi] at hx; exact hx
theorem draw_ok {P : Program} {call : CallF} (hm : P.follows .mixedOrders = true) (hcall : ∀ f, FnOK P f (call f)) {nt id : Nat} {ops : Array Oper} {E : Ent} {Q : Exit → Act → World → Prop} {xs : List (AOp × DInfo)} {a : Act} {G : Gh} {w : World}
  {e e' : Env} {H H' : Heap} (hc : chkDraw P nt ops xs = true) (hsz : nt ≤ a.tmps.size) (h : St E G ⟨e.get, tmOf a, [], H⟩ w) (ha : adraw call 0 xs [] e H = some (e', H'))
  (hK : ∀ G' a' w', nt ≤ a'.tmps.size → a'.defers = a.defers → St E G' ⟨e'.get, tmOf a', [], H'⟩ w' → Q .normal a' w') : (Code.region id ops true).wp P Q a w := by
 unfold chkDraw at hc
 rw [Bool.and_eq_true] at hc
 obtain ⟨hc1, hc2⟩ := hc
 obtain ⟨hlen, hget⟩ := chkOps_get hc1
 have hlen' : ops.size = xs.length := by simpa using hlen
 have ho := chkDraw_order (P := P) (nt := nt) hc2
 obtain ⟨EE, HH, C, g1, g2, g3, g4, g5⟩ := draw_data xs 0 [] e e' H H' ha
 have sf : ∀ k x d, xs[k]? = some (x, d) → SF call k x d (EE k) (HH k) (EE (k + 1)) (HH (k + 1)) (C k) (fun p => ∃ j, j < k ∧ p = C j) := by
  intro k x d hk
  have := g5 k x d hk
  simp only [Nat.zero_add] at this
  exact ⟨this.i, this.k, this.h, this.run.imp (fun q => q) fun ⟨a1, vs, e1, a2, a3, a4, a5, a6, a7⟩ => ⟨a1, vs, e1, a2, a3, a4, a5,
   fun hw p ⟨j, hj, hp⟩ => a6 hw p (.inr ⟨j, Nat.zero_le _, hj, hp⟩), fun hw => ⟨(a7 hw).1, fun p ⟨j, hj, hp⟩ => (a7 hw).2 p (.inr ⟨j, Nat.zero_le _, hj, hp⟩)⟩⟩⟩
 simp only [Nat.zero_add] at g3 g4
 refine wp_region_any hm ?_
 -- whatever has come
 have main : ∀ (fuel : Nat) (listed : Array Bool) (a1 : Act) (G1 : Gh) (w1 : World) (e1 : Env) (H1 : Heap), listed.size = ops.size → left listed ops.size ≤ fuel →
   (∀ (i : Nat) o, ops.toList[i]? = some o → listed.getD i false = true → ∀ e, e ∈ o.after → Region.binds .any e = true → listed.getD e.on false = true) →
   Inv xs EE HH C (fun j => listed.getD j false) e1 H1 → nt ≤ a1.tmps.size → a1.defers = a.defers → St E G1 ⟨e1.get, tmOf a1, [], H1⟩ w1 → wpAny P .any ops Q fuel listed a1 w1 := by
  intro fuel
  induction fuel with
  | zero =>
   intro listed a1 G1 w1 e1 H1 hs hl hcl inv hsz1 hd1 hst
   have all : ∀ i, i < ops.size → listed.getD i true = true := fun i hi => left_zero (by omega) hi
   refine ⟨?_, ?_⟩
   ·rw [List.eq_nil_iff_forall_not_mem]
    intro i hi
    obtain ⟨h1, o, h2, _⟩ := mem_ready.1 hi
    rw [all i (Array.getElem?_eq_some_iff.1 h2).1] at h1; cases h1
   ·have alls : ∀ k, k < xs.length → listed.getD k false = true := by
     intro k hk
     have := all k (by omega)
     have hks : k < listed.size := by omega
     simp [hks] at this ⊢; exact this
    have e2 := fun t => inv.env t xs.length (Nat.le_refl _) (.inl rfl) (fun k hk _ => alls k hk)
    have h2 := inv.heap xs.length (Nat.le_refl _) (.inl rfl) (fun k hk _ => alls k hk)
    rw [g3] at e2
    rw [g4] at h2
    subst h2
    have : e1.get = e'.get := funext e2
    rw [this] at hst
    exact hK G1 a1 w1 hsz1 hd1 hst
  | succ fuel ih =>
   intro listed a1 G1 w1 e1 H1 hs hl hcl inv hsz1 hd1 hst
   refine ⟨fun hnil => ?_, fun i hi => ?_⟩
   ·-- all have come
    have alls : ∀ k, k < ops.size → listed.getD k false = true := by
     intro k
     induction k using Nat.strongRecOn with
     | _ k ihk =>
      intro hk
      cases hlk : listed.getD k false with
      | true => rfl
      | false =>
       exfalso
       have hks : k < listed.size := by omega
       have hlk' : listed.getD k true = false := by simp [hks] at hlk ⊢; exact hlk
       have : k ∈ Region.ready .any ops listed := by
        refine mem_ready.2 ⟨hlk', ops[k], Array.getElem?_eq_getElem hk, fun ed hed hb => ?_⟩
        have hlt : ed.on < k := by
         refine ho.lt k ed.on ⟨by omega, ?_⟩
         have hg := masks_get ops.toList [] k ops[k] (by simp [hk])
         simp only [List.length_nil, Nat.zero_add] at hg
         rw [List.getD_eq_getElem?_getD, hg]
         simp only [Option.getD_some, maskOf]
         have fb : ∀ (acc : List Nat) (l : List Edge) (m : Nat), (m.testBit ed.on = true ∨ ed ∈ l) → (l.foldl (fun m e => if Region.binds .any e then m ||| 2 ^ e.on ||| acc.getD e.on 0 else m) m).testBit ed.on = true := by
          intro acc l
          induction l with
          | nil => intro m hm; rcases hm with hm | hm; exact hm; cases hm
          | cons e0 l ihl =>
           intro m hm
           simp only [List.foldl_cons]
           refine ihl _ ?_
           rcases hm with hm | hm
           ·left
            split
            ·rw [Nat.testBit_or, Nat.testBit_or, hm]; rfl
            ·exact hm
           ·rcases List.mem_cons.1 hm with rfl | hm
            ·left
             rw [if_pos hb, Nat.testBit_or, Nat.testBit_or, Nat.testBit_two_pow]
             simp
            ·exact .inr hm
         exact fb _ _ 0 (.inr (Array.mem_toList_iff.2 hed))
        exact ihk ed.on hlt (by omega)
       rw [hnil] at this; cases this
    have e2 := fun t => inv.env t xs.length (Nat.le_refl _) (.inl rfl) (fun k hk _ => alls k (by omega))
    have h2 := inv.heap xs.length (Nat.le_refl _) (.inl rfl) (fun k hk _ => alls k (by omega))
    rw [g3] at e2
    rw [g4] at h2
    subst h2
    have : e1.get = e'.get := funext e2
    rw [this] at hst
    exact hK G1 a1 w1 hsz1 hd1 hst
   ·obtain ⟨hli, o, hoi, hed⟩ := mem_ready.1 hi
    have him : i < ops.size := (Array.getElem?_eq_some_iff.1 hoi).1
    obtain ⟨⟨x, d⟩, hx⟩ : ∃ p, xs[i]? = some p := ⟨xs[i], List.getElem?_eq_getElem (by omega)⟩
    have his : i < listed.size := by omega
    have hlf : listed.getD i false = false := by simp [his] at hli ⊢; exact hli
    have hoi' : ops.toList[i]? = some o := by simpa using hoi
    have closed : ∀ i j, listed.getD i false = true → (i < xs.length ∧ ((masks ops.toList []).getD i 0).testBit j = true) → listed.getD j false = true := by
     rintro i j hli ⟨hi, hb⟩
     obtain ⟨o', ho'⟩ : ∃ o', ops.toList[i]? = some o' := ⟨ops.toList[i]'(by simp; omega), List.getElem?_eq_getElem _⟩
     exact mask_closed (s := fun j => listed.getD j false) hcl i j o' ho' (hcl i o' ho' hli) hb
    have ready : ∀ j, (i < xs.length ∧ ((masks ops.toList []).getD i 0).testBit j = true) → listed.getD j false = true := by
     rintro j ⟨_, hb⟩
     exact mask_closed (s := fun j => listed.getD j false) hcl i j o hoi' (fun e he hbn => hed e he hbn) hb
    obtain ⟨e2, H2, hop, inv2⟩ := inv_step ho sf closed inv hx hlf ready
    refine aop_ok hcall hoi (hget i o x hoi' (by simp [hx])) hsz1 hst hop fun G2 a2 w2 hs2 hd2 hst2 => ?_
    refine ih (listed.setIfInBounds i true) a2 G2 w2 e2 H2 (by simp [hs]) ?_ ?_ ?_ hs2 (hd2.trans hd1) hst2
    ·have := left_set (m := ops.size) him hli; omega
    ·intro k o' ho' hk ed hed' hb
     by_cases hki : k = i
     ·subst hki
      rw [hoi'] at ho'; cases ho'
      exact getD_set_true (hed ed hed' hb)
     ·rw [getD_set_ne false (Ne.symm hki)] at hk
      exact getD_set_true (hcl k o' ho' hk ed hed' hb)
    ·have : (fun j => j == i || listed.getD j false) = fun j => (listed.setIfInBounds i true).getD j false := by
      funext j
      by_cases hji : j = i
      ·subst hji; simp [his]
      ·rw [getD_set_ne false (Ne.symm hji)]
       have : (j == i) = false := by simpa using hji
       rw [this, Bool.false_or]
     rw [← this]; exact inv2
 have hrep : ∀ j, (Array.replicate ops.size false).getD j false = false := by
  intro j; simp only [Array.getD_eq_getD_getElem?, Array.getElem?_replicate]; split <;> rfl
 refine main ops.size _ a G _ e H (by simp) ?_ ?_ ?_ hsz rfl (h.sameHeap rfl (.sameHeap rfl rfl rfl rfl))
 ·unfold left
  have := List.length_filter_le (fun i => !(Array.replicate ops.size false).getD i true) (List.range ops.size)
  simpa using this
 ·intro i o _ hl
  rw [hrep] at hl; cases hl
 ·constructor
  ·intro t c hc hc2 hc3
   have : (EE c).get t = (EE 0).get t := env_from sf (Nat.zero_le _) hc fun k _ hk => by
    cases hev : evsAt xs k t with
    | false => rfl
    | true => have := hc3 k hk hev; rw [hrep] at this; cases this
   rw [this, g1]
  ·intro c hc hc2 hc3
   have : HH c = HH 0 := heap_from sf (Nat.zero_le _) hc fun k _ hk => by
    cases hev : wAt xs C k with
    | false => rfl
    | true => have := hc3 k hk hev; rw [hrep] at this; cases this
   rw [this, g2]
end Go.Abs
