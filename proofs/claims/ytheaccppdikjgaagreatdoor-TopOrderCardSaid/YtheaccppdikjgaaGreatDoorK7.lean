import Derived.Test.YtheaccppdikjgaaGreatDoorK6
namespace Go.Abs
open Go
set_option linter.unusedVariables false
set_option linter.unusedSimpArgs false
theorem St.next {E G S w G' S' w'} (h : St E G S w) (ge : GE G w G' w') (hn : G'.n = S'.H.length) (hS : G.n ≤ G'.n) (Db : ∀ b o, G'.D b o → b < w'.heap.size)
  (hsz : w.heap.size ≤ w'.heap.size)
  (hT : ∀ b, b < w.heap.size → w'.heap[b]? = w.heap[b]? ∨ ∃ q a, ownP G S w q = some a ∧ a.1 = b)
  (hD : ∀ b o, G'.D b o → G.D b o ∨ w.heap.size ≤ b ∨ ∃ q a, ownP G S w q = some a ∧ a.1 = b)
  (slot : ∀ t, Rt G' w' (S'.env t) (S'.tm t)) (fly : ∀ (k : Nat) V v, S'.fly[k]? = some (V, v) → Rt G' w' V v)
  (box : ∀ (id : Nat) B, S'.H[id]? = some B → BoxR G' w' id B)
  (π : Pos → Pos) (p1 : Pos)
  (own : ∀ p a, ownP G' S' w' p = some a → OwnOK G' w' a ∧ ((p = p1 ∧ w.heap.size ≤ a.1) ∨ ∃ a', ownP G S w (π p) = some a' ∧ a'.1 = a.1))
  (inj : ∀ p q a b, ownP G' S' w' p = some a → ownP G' S' w' q = some b → π p = π q → p = q) : St E G' S' w' := by
 have own' := fun p a hp => (own p a hp).2
 exact {
  n := hn, Db := Db, slot := slot, fly := fly, box := box
  ok := fun p a hp => (own p a hp).1
  dis := by
   intro p q a b hpq ha hb
   rcases own' p a ha with ⟨hp, h1⟩ | ⟨a', ha', e1⟩ <;> rcases own' q b hb with ⟨hq, h2⟩ | ⟨b', hb', e2⟩
   ·exact absurd (hp.trans hq.symm) hpq
   ·have := (h.ok _ _ hb').lt; omega
   ·have := (h.ok _ _ ha').lt; omega
   ·have := h.dis _ _ a' b' (fun e => hpq (inj p q a b ha hb e)) ha' hb'
    omega
  fr := {
   n := Nat.le_trans h.fr.n hS
   μ := fun id hid => by
    obtain ⟨h1, h2, h3⟩ := h.fr.μ id hid
    have hid' : id < G.n := Nat.lt_of_lt_of_le hid h.fr.n
    exact ⟨(ge.μ id hid').trans h1, (ge.sl id hid').trans h2, (ge.sz id hid').trans h3⟩
   D := fun b o hd => ge.D _ _ (h.fr.D b o hd)
   Dn := by
    intro b o hd hb
    rcases hD b o hd with h1 | h1 | ⟨q, a, hq, rfl⟩
    ·exact h.fr.Dn b o h1 hb
    ·have := h.fr.size; omega
    ·exact .inr (h.new q a hq hb)
   size := Nat.le_trans h.fr.size hsz
   heap := by
    intro b hb hno
    rcases hT b (Nat.lt_of_lt_of_le hb h.fr.size) with h1 | ⟨q, a, hq, rfl⟩
    ·rw [h1]; exact h.fr.heap b hb hno
    ·exact absurd (h.new q a hq hb) hno
   cell := fun b o hd => (ge.cell b o (h.fr.D b o hd)).trans (h.fr.cell b o hd)
   still := h.fr.still.trans ge.still }
  new := by
   intro p a hp hlt
   rcases own' p a hp with ⟨hp, h1⟩ | ⟨a', ha', e1⟩
   ·have := h.fr.size; omega
   ·rw [← e1]; exact h.new _ a' ha' (by omega) }
theorem OwnOK.stay {G w G' w' a} (h : OwnOK G w a) (hsz : w.heap.size ≤ w'.heap.size) (hb : w'.heap[a.1]? = w.heap[a.1]?) (hD : ∀ x, a.2.1 ≤ x → ¬ G'.D a.1 x) : OwnOK G' w' a where
 lt := Nat.lt_of_lt_of_le h.lt hsz
 cells := by rw [hb]; exact h.cells
 frozen := by rw [hb]; exact h.frozen
 D := hD
theorem cellv_of_heap {w w' : World} {b o : Nat} (h : w'.heap[b]? = w.heap[b]?) : cellv w' b o = cellv w b o := by
 unfold cellv; rw [cell_of_heap h]
theorem BoxR.stay {G w G' w' id B} (h : BoxR G w id B) (ge : GE G w G' w') (hid : id < G.n)
  (hb : (∀ sz xs, B ≠ .arr sz xs) → B ≠ .dead → w'.heap[G.μ id]? = w.heap[G.μ id]?)
  (hc : ∀ cs (off : Nat) V a, B = .cells cs → cs[off]? = some V → own0 V (cellv w (G.μ id) off) = some a → w'.heap[a.1]? = w.heap[a.1]?)
  (ha : ∀ sz xs a, B = .arr sz xs → own0 (.list sz xs .uniq) (G.sl id) = some a → w'.heap[a.1]? = w.heap[a.1]?) : BoxR G' w' id B := by
 cases B with
 | cells cs =>
  have hb' := hb (by simp) (by simp)
  intro j V hV
  obtain ⟨v, hv, hr⟩ := h j V hV
  refine ⟨v, by rw [ge.μ id hid, cell_of_heap hb']; exact hv, hr.stay ge (fun a hoa => hc cs j V a rfl hV ?_)⟩
  have : cellv w (G.μ id) j = v := by simp [cellv, hv]
  rw [this]; exact hoa
 | arr sz xs =>
  obtain ⟨h1, h2⟩ := h
  refine ⟨by rw [ge.sz id hid]; exact h1, ?_⟩
  rw [ge.sl id hid]
  exact (show Rt0 G w (.list sz xs .uniq) (G.sl id) from h2).stay ge (fun a hoa => ha sz xs a rfl hoa)
 | map es =>
  obtain ⟨ms, c, h1, h2, hst, h3⟩ := h
  have hb' := hb (by simp) (by simp)
  exact ⟨ms, c, by rw [ge.μ id hid, hb']; exact h1, h2, hst, fun j p m hp hm => ⟨((h3 j p m hp hm).1).stay ge, ((h3 j p m hp hm).2).stay ge⟩⟩
 | iter s pos =>
  obtain ⟨sb, h1, h2⟩ := h
  exact ⟨sb, by rw [ge.μ id hid, hb (by simp) (by simp)]; exact h1, h2⟩
 | dead => trivial
theorem own_box_cells {G S w id cs} (h : S.H[id]? = some (Box.cells cs)) : ownP G S w (.box id) = some (G.μ id, 0, cs.length) := by simp [ownP, h]
theorem own_box_iter {G S w id s p} (h : S.H[id]? = some (Box.iter s p)) : ownP G S w (.box id) = some (G.μ id, 0, 0) := by simp [ownP, h]
theorem own_box_map {G S w id es} (h : S.H[id]? = some (Box.map es)) : ownP G S w (.box id) = some (G.μ id, 0, 0) := by simp [ownP, h]
theorem St.grow {E G env tm fly H w G' w'} (h : St E G ⟨env, tm, fly, H⟩ w) (ge : GE G w G' w') (H2 : Heap) (hn : G'.n = H.length + H2.length) (Db : ∀ b o, G'.D b o → b < w'.heap.size)
  (hsz : w.heap.size ≤ w'.heap.size) (k0 : Nat)
  (hT : ∀ b, b < w.heap.size → w'.heap[b]? = w.heap[b]? ∨ ∃ a, ownP G ⟨env, tm, fly, H⟩ w (.fly k0 0) = some a ∧ a.1 = b)
  (hD : ∀ b o, G'.D b o → G.D b o ∨ w.heap.size ≤ b ∨ ∃ a, ownP G ⟨env, tm, fly, H⟩ w (.fly k0 0) = some a ∧ a.1 = b)
  (V : AVal) (v : Value) (hV : Rt G' w' V v) (hb2 : ∀ (k : Nat) B, H2[k]? = some B → BoxR G' w' (H.length + k) B)
  (p1 : Pos) (π1 : Pos → Pos) (hπ1 : ∀ p, ∃ k i, π1 p = .fly k i)
  (ownV : ∀ i a, ownC V v i = some a → OwnOK G' w' a ∧ ((Pos.fly 0 i = p1 ∧ w.heap.size ≤ a.1) ∨ ∃ a', ownP G ⟨env, tm, fly, H⟩ w (π1 (.fly 0 i)) = some a' ∧ a'.1 = a.1))
  (ownB : ∀ p a, ((∃ id off, p = .cell id off ∧ H.length ≤ id) ∨ ∃ id, p = .box id ∧ H.length ≤ id) → ownP G' ⟨env, tm, [(V, v)], H ++ H2⟩ w' p = some a →
   OwnOK G' w' a ∧ ((p = p1 ∧ w.heap.size ≤ a.1) ∨ ∃ a', ownP G ⟨env, tm, fly, H⟩ w (π1 p) = some a' ∧ a'.1 = a.1))
  (inj1 : ∀ p q a b, (p = .fly 0 0 ∨ (∃ i, p = .fly 0 i) ∨ (∃ id off, p = .cell id off ∧ H.length ≤ id) ∨ ∃ id, p = .box id ∧ H.length ≤ id) →
   ((∃ i, q = .fly 0 i) ∨ (∃ id off, q = .cell id off ∧ H.length ≤ id) ∨ ∃ id, q = .box id ∧ H.length ≤ id) →
   ownP G' ⟨env, tm, [(V, v)], H ++ H2⟩ w' p = some a → ownP G' ⟨env, tm, [(V, v)], H ++ H2⟩ w' q = some b → π1 p = π1 q → p = q) :
  St E G' ⟨env, tm, [(V, v)], H ++ H2⟩ w' := by
 have hHn : G.n = H.length := h.n
 -- a block owned elsewhere is left alone
 have keep : ∀ p a, ownP G ⟨env, tm, fly, H⟩ w p = some a → (∀ k i, p ≠ .fly k i) → w'.heap[a.1]? = w.heap[a.1]? ∧ ∀ x, a.2.1 ≤ x → ¬ G'.D a.1 x := by
  intro p a hp hnf
  have hlt := (h.ok p a hp).lt
  constructor
  ·rcases hT a.1 hlt with h1 | ⟨b, hb, e⟩
   ·exact h1
   ·exact absurd e.symm (h.dis p (.fly k0 0) a b (hnf _ _) hp hb)
  ·intro x hx hd
   rcases hD _ _ hd with h1 | h1 | ⟨b, hb, e⟩
   ·exact (h.ok p a hp).D x hx h1
   ·omega
   ·exact absurd e.symm (h.dis p (.fly k0 0) a b (hnf _ _) hp hb)
 have boxid : ∀ (id : Nat) B, H[id]? = some B → id < G.n := fun id B hB => by rw [hHn]; exact (List.getElem?_eq_some_iff.1 hB).1
 have mkeep : ∀ (id : Nat) B, H[id]? = some B → (∀ sz xs, B ≠ .arr sz xs) → B ≠ .dead → w'.heap[G.μ id]? = w.heap[G.μ id]? := by
  intro id B hB h1 h2
  cases B with
  | cells cs => exact (keep (.box id) (G.μ id, 0, cs.length) (own_box_cells hB) (by simp)).1
  | arr sz xs => exact absurd rfl (h1 _ _)
  | map es => exact (keep (.box id) (G.μ id, 0, 0) (own_box_map hB) (by simp)).1
  | iter s p => exact (keep (.box id) (G.μ id, 0, 0) (own_box_iter hB) (by simp)).1
  | dead => exact absurd rfl h2
 have oldbox : ∀ (id : Nat) B, H[id]? = some B → BoxR G' w' id B := by
  intro id B hB
  refine (h.box id B hB).stay ge (boxid id B hB) (mkeep id B hB) ?_ ?_
  ·intro cs off X a hBc hX ho
   subst hBc
   exact (keep (.cell id off) a (by simp only [ownP, hB, hX]; exact ho) (by simp)).1
  ·intro sz xs a hBc ho
   subst hBc
   exact (keep (.box id) a (by simp only [ownP, hB]; exact ho) (by simp)).1
 have hlen : ∀ id, id < H.length → (H ++ H2)[id]? = H[id]? := fun id hid => List.getElem?_append_left hid
 -- what is owned at an old place is what was
 have oldown : ∀ p, (∀ k i, p ≠ .fly k i) → (∀ id off, p = .cell id off → id < H.length) → (∀ id, p = .box id → id < H.length) →
   ownP G' ⟨env, tm, [(V, v)], H ++ H2⟩ w' p = ownP G ⟨env, tm, fly, H⟩ w p := by
  intro p h1 h2 h3
  cases p with
  | slot t i => rfl
  | fly k i => exact absurd rfl (h1 k i)
  | cell id off =>
   have hid := h2 id off rfl
   simp only [ownP, hlen id hid]
   cases hB : H[id]? with
   | none => rfl
   | some B =>
    cases B with
    | cells cs =>
     simp only [ge.μ id (boxid id _ hB)]
     rw [cellv_of_heap (mkeep id _ hB (by simp) (by simp))]
    | _ => rfl
  | box id =>
   have hid := h3 id rfl
   simp only [ownP, hlen id hid]
   cases hB : H[id]? with
   | none => rfl
   | some B => cases B <;> simp only [ge.μ id (boxid id _ hB), ge.sl id (boxid id _ hB)]
 -- where it comes from
 let old : Pos → Bool := fun p => match p with
  | .fly _ _ => false
  | .cell id _ => id < H.length
  | .box id => id < H.length
  | .slot _ _ => true
 have hold : ∀ p, old p = true → ownP G' ⟨env, tm, [(V, v)], H ++ H2⟩ w' p = ownP G ⟨env, tm, fly, H⟩ w p := by
  intro p hp
  refine oldown p ?_ ?_ ?_
  ·intro k i e; subst e; simp [old] at hp
  ·intro id off e; subst e; simpa [old] using hp
  ·intro id e; subst e; simpa [old] using hp
 refine h.next (S' := ⟨env, tm, [(V, v)], H ++ H2⟩) ge (by simpa using hn) ge.n Db hsz ?_ ?_ ?_ ?_ ?_ (fun p => if old p then p else π1 p) p1 ?_ ?_
 ·intro b hb
  rcases hT b hb with h1 | ⟨a, h1, h2⟩
  ·exact .inl h1
  ·exact .inr ⟨_, a, h1, h2⟩
 ·intro b o hd
  rcases hD b o hd with h1 | h1 | ⟨a, h1, h2⟩
  ·exact .inl h1
  ·exact .inr (.inl h1)
  ·exact .inr (.inr ⟨_, a, h1, h2⟩)
 ·intro t
  exact (h.slot t).stay ge (fun i a ha => (keep (.slot t i) a ha (by simp)).1)
 ·intro k X x hk
  cases k with
  | zero => simp at hk; obtain ⟨rfl, rfl⟩ := hk; exact hV
  | succ k => simp at hk
 ·intro id B hB
  by_cases hid : id < H.length
  ·exact oldbox id B (by rw [← hlen id hid]; exact hB)
  ·have e : id = H.length + (id - H.length) := by omega
   rw [e]
   exact hb2 _ B (by rw [← hB]; show H2[id - H.length]? = (H ++ H2)[id]?; rw [List.getElem?_append_right (by omega)])
 ·intro p a hp
  by_cases ho : old p = true
  ·have hp' := hp
   rw [hold p ho] at hp'
   have hnf : ∀ k i, p ≠ .fly k i := by intro k i e; subst e; simp [old] at ho
   obtain ⟨k1, k2⟩ := keep p a hp' hnf
   exact ⟨(h.ok p a hp').stay hsz k1 k2, .inr ⟨a, by simp only [ho, if_true]; exact hp', rfl⟩⟩
  ·simp only [ho]
   cases p with
   | fly k i =>
    cases k with
    | zero => exact ownV i a hp
    | succ k => simp [ownP] at hp
   | slot => simp [old] at ho
   | cell id off => exact ownB _ a (.inl ⟨id, off, rfl, by simpa [old] using ho⟩) hp
   | box id => exact ownB _ a (.inr ⟨id, rfl, by simpa [old] using ho⟩) hp
 ·intro p q a b hp hq hpq
  have fresh : ∀ p a, old p ≠ true → ownP G' ⟨env, tm, [(V, v)], H ++ H2⟩ w' p = some a → ((∃ i, p = .fly 0 i) ∨ (∃ id off, p = .cell id off ∧ H.length ≤ id) ∨ ∃ id, p = .box id ∧ H.length ≤ id) := by
   intro p a ho hp
   cases p with
   | fly k i =>
    cases k with
    | zero => exact .inl ⟨i, rfl⟩
    | succ k => simp [ownP] at hp
   | slot => simp [old] at ho
   | cell id off => exact .inr (.inl ⟨id, off, rfl, by simpa [old] using ho⟩)
   | box id => exact .inr (.inr ⟨id, rfl, by simpa [old] using ho⟩)
  by_cases h1 : old p = true <;> by_cases h2 : old q = true <;> simp only [h1, h2, if_true] at hpq
  ·exact hpq
  ·obtain ⟨k, i, e⟩ := hπ1 q
   rw [e] at hpq; simp at hpq; subst hpq; simp [old] at h1
  ·obtain ⟨k, i, e⟩ := hπ1 p
   rw [e] at hpq; simp at hpq; subst hpq; simp [old] at h2
  ·exact inj1 p q a b (.inr (fresh p a h1 hp)) (fresh q b h2 hq) hp hq (by simpa using hpq)
end Go.Abs
