import Derived.Test.YtheaccppdikjgaaGreatDoorK26
import Derived.Maps.RangeRun
namespace Go.Abs
open Go
set_option linter.unusedVariables false
set_option linter.unusedSimpArgs false
structure Free (E : Ent) (G : Gh) (S : Sta) (w : World) (r : Nat) : Prop where
  new : E.w0.heap.size ≤ r
  own : ∀ p a, ownP G S w p = some a → a.1 ≠ r
  D : ∀ o, ¬ G.D r o
theorem St.setFree {E G env tm H w r} {o o' : Obj} (h : St E G ⟨env, tm, [], H⟩ w) (hf : Free E G ⟨env, tm, [], H⟩ w r) (ho : w.heap[r]? = some o) (hc : ∀ c e fr, o ≠ .cells c e fr) {w' : World}
    (hw : w'.heap = w.heap.setIfInBounds r o') (hos : w'.os = w.os) (htp : w'.tape = w.tape) (hop : w'.output = w.output) :
    St E G ⟨env, tm, [], H⟩ w' ∧ Free E G ⟨env, tm, [], H⟩ w' r ∧ w'.heap[r]? = some o' ∧ ∀ b, b ≠ r → w'.heap[b]? = w.heap[b]? := by
  have hlt : r < w.heap.size := (Array.getElem?_eq_some_iff.1 ho).1
  have hne : ∀ b, b ≠ r → w'.heap[b]? = w.heap[b]? := fun b hb => by rw [hw]; simp [Ne.symm hb]
  have heq : w'.heap[r]? = some o' := by rw [hw]; simp [hlt]
  have hsz : w'.heap.size = w.heap.size := by rw [hw]; simp
  have hst : Still w w' := ⟨hos, htp, hop, fun i c1 e1 f1 h1 => by
    by_cases hi : i = r
    · subst hi; rw [ho] at h1; simp only [Option.some.injEq] at h1; exact absurd h1 (hc _ _ _)
    · exact ⟨c1, f1, by rw [hne i hi]; exact h1, rfl, id⟩⟩
  have ge : GE G w G w' := ⟨Nat.le_refl _, fun _ _ h => h, fun _ _ => rfl, fun _ _ => rfl, fun _ _ => rfl, fun b o hd => cell_of_heap (hne b (fun e => hf.D o (e ▸ hd))), hst⟩
  have away : ∀ q a, ownP G ⟨env, tm, [], H⟩ w q = some a → w'.heap[a.1]? = w.heap[a.1]? := fun q a ha => hne _ (hf.own q a ha)
  have μne : ∀ id' B, H[id']? = some B → (∀ sz xs, B ≠ .arr sz xs) → B ≠ .dead → w'.heap[G.μ id']? = w.heap[G.μ id']? := by
    intro id' B hB h1 h2
    cases B with
    | cells cs' => exact away (.box id') _ (own_box_cells hB)
    | map es => exact away (.box id') _ (own_box_map hB)
    | iter s p => exact away (.box id') _ (own_box_iter hB)
    | arr sz xs => exact absurd rfl (h1 _ _)
    | dead => exact absurd rfl h2
  have carry : ∀ q a, ownP G ⟨env, tm, [], H⟩ w' q = some a → ownP G ⟨env, tm, [], H⟩ w q = some a := by
    intro q a ha
    cases q with
    | cell id' x =>
      simp only [ownP] at ha ⊢
      cases hB : H[id']? with
      | none => simp [hB] at ha
      | some B =>
        cases B with
        | cells cs' =>
          simp only [hB] at ha ⊢
          rwa [cellv_of_heap (μne id' _ hB (by simp) (by simp))] at ha
        | _ => simp [hB] at ha
    | _ => exact ha
  refine ⟨{
    n := h.n
    Db := fun b o hd => by rw [hsz]; exact h.Db b o hd
    slot := fun t => (h.slot t).stay ge (fun i a ha => away (.slot t i) a ha)
    fly := fun k V v hk => by simp at hk
    box := fun id' B hB => by
      have hid : id' < G.n := by rw [h.n]; exact (List.getElem?_eq_some_iff.1 hB).1
      refine (h.box id' B hB).stay ge hid (fun h1 h2 => μne id' B hB h1 h2) ?_ ?_
      · intro cs' x Y a hBc hY ha
        subst hBc
        exact away (.cell id' x) a (by simp only [ownP, hB, hY]; exact ha)
      · intro sz xs a hBc ha
        subst hBc
        exact away (.box id') a (by simp only [ownP, hB]; exact ha)
    ok := fun p a ha => (h.ok p a (carry p a ha)).stay (by rw [hsz]; exact Nat.le_refl _) (away p a (carry p a ha)) (h.ok p a (carry p a ha)).D
    dis := fun p q a b hpq ha hb => h.dis p q a b hpq (carry p a ha) (carry q b hb)
    fr := {
      n := h.fr.n, μ := h.fr.μ, D := h.fr.D, Dn := h.fr.Dn
      size := by rw [hsz]; exact h.fr.size
      heap := fun b hb hno => by rw [hne b (by have := hf.new; omega)]; exact h.fr.heap b hb hno
      cell := fun b o hd => (ge.cell b o (h.fr.D b o hd)).trans (h.fr.cell b o hd)
      still := h.fr.still.trans hst }
    new := fun p a ha hlt => h.new p a (carry p a ha) hlt }, ⟨hf.new, fun p a ha => hf.own p a (carry p a ha), hf.D⟩, heq, hne⟩
theorem St.newFree {E G env tm H w} (h : St E G ⟨env, tm, [], H⟩ w) (o : Obj) :
    ∃ G', G'.μ H.length = w.heap.size ∧ (∀ id, id < H.length → G'.μ id = G.μ id) ∧ St E G' ⟨env, tm, [(.ptr H.length 0, .pointer (some (at_ w.heap.size 0)))], H ++ [.dead]⟩ (w.alloc o) ∧
      Free E G' ⟨env, tm, [], H ++ [.dead]⟩ (w.alloc o) w.heap.size := by
  let G' : Gh := { G with n := G.n + 1, μ := upd G.μ G.n w.heap.size }
  have hn : G.n = H.length := h.n
  have ge : GE G w G' (w.alloc o) := {
    n := Nat.le_succ _
    D := fun _ _ h => h
    μ := fun id hid => upd_ne _ _ (Nat.ne_of_lt hid)
    sl := fun _ _ => rfl
    sz := fun _ _ => rfl
    cell := fun b o hd => cell_of_heap (heap_alloc_lt (h.Db b o hd))
    still := .ofPush rfl rfl rfl rfl }
  have hμ : G'.μ H.length = w.heap.size := by rw [← hn]; exact upd_eq _ _ _
  have hμ' : ∀ id, id < H.length → G'.μ id = G.μ id := fun id hid => upd_ne _ _ (by omega)
  have key : ∀ p a, ((∃ i, p = .fly 0 i) ∨ (∃ id off, p = .cell id off ∧ H.length ≤ id) ∨ ∃ id, p = .box id ∧ H.length ≤ id) →
      ownP G' ⟨env, tm, [(.ptr H.length 0, .pointer (some (at_ w.heap.size 0)))], H ++ [.dead]⟩ (w.alloc o) p = some a → False := by
    intro p a hp hpa
    rcases hp with ⟨i, rfl⟩ | ⟨id, off, rfl, hid⟩ | ⟨id, rfl, hid⟩
    · simp only [ownP, List.getElem?_cons_zero] at hpa; rw [ownC_plain rfl] at hpa; cases hpa
    · by_cases he : id = H.length
      · subst he
        simp [ownP] at hpa
      · simp only [ownP] at hpa
        rw [List.getElem?_eq_none (by simp; omega)] at hpa; cases hpa
    · by_cases he : id = H.length
      · subst he
        simp [ownP] at hpa
      · simp only [ownP] at hpa
        rw [List.getElem?_eq_none (by simp; omega)] at hpa; cases hpa
  have hg := h.grow (w' := w.alloc o) ge [.dead] (by simp [G', hn]) (fun b o hd => Nat.lt_of_lt_of_le (h.Db b o hd) (by rw [size_alloc]; omega)) (by rw [size_alloc]; omega) 0
    (fun b hb => .inl (heap_alloc_lt hb)) (fun b o hd => .inl hd) (.ptr H.length 0) (.pointer (some (at_ w.heap.size 0))) (by
      rw [← hμ]; exact Rt.of (.ptr H.length 0 (by simp [G', hn])) rfl) (fun k B hB => by
      cases k with
      | zero => simp at hB; subst hB; trivial
      | succ k => simp at hB) (.box H.length) (fun _ => .fly 0 0) (fun p => ⟨_, _, rfl⟩)
    (fun i a ha => by rw [ownC_plain rfl] at ha; cases ha) (fun p a hp hpa => (key p a (.inr hp) hpa).elim)
    (fun p q a b hp hq hpa hqa _ => (key q b hq hqa).elim)
  refine ⟨G', hμ, hμ', hg, ⟨h.fr.size, fun p a ha => ?_, fun x hd => absurd (h.Db _ _ hd) (Nat.lt_irrefl _)⟩⟩
  have hlt : a.1 < w.heap.size := by
    cases p with
    | slot t i => exact (h.ok (.slot t i) a ha).lt
    | fly k i => simp [ownP] at ha
    | cell id x =>
      by_cases hid : id < H.length
      · simp only [ownP, List.getElem?_append_left hid] at ha
        cases hB : H[id]? with
        | none => simp [hB] at ha
        | some B =>
          cases B with
          | cells cs' =>
            have hb := (h.ok (.box id) _ (own_box_cells hB)).lt
            simp only [hB, hμ' id hid] at ha
            rw [cellv_of_heap (heap_alloc_lt hb)] at ha
            exact (h.ok (.cell id x) a (by simp only [ownP, hB]; exact ha)).lt
          | _ => simp [hB] at ha
      · exact (key (.cell id x) a (.inr (.inl ⟨id, x, rfl, by omega⟩)) ha).elim
    | box id =>
      by_cases hid : id < H.length
      · simp only [ownP, List.getElem?_append_left hid, hμ' id hid] at ha
        exact (h.ok (.box id) a (by simp only [ownP]; exact ha)).lt
      · exact (key (.box id) a (.inr (.inr ⟨id, rfl, by omega⟩)) ha).elim
  omega
theorem St.enterS {E G S w} (h : St E G S w) : St (entOf G S w) G S w :=
  { n := h.n, Db := h.Db, slot := h.slot, fly := h.fly, box := h.box, ok := h.ok, dis := h.dis
    fr := ⟨Nat.le_refl _, fun _ _ => ⟨rfl, rfl, rfl⟩, fun _ _ h => h, fun _ _ h _ => .inl h, Nat.le_refl _, fun _ _ _ => rfl, fun _ _ _ => rfl, .refl w⟩
    new := fun p a hh _ => ⟨p, a, hh, rfl⟩ }
theorem St.leaveS {E G S w G' S' w'} (h : St E G S w) (h' : St (entOf G S w) G' S' w') : St E G' S' w' := by
  have fr := h'.fr
  exact {
    n := h'.n, Db := h'.Db, slot := h'.slot, fly := h'.fly, box := h'.box, ok := h'.ok, dis := h'.dis
    fr := {
      n := Nat.le_trans h.fr.n fr.n
      μ := fun id hid => by
        obtain ⟨h1, h2, h3⟩ := h.fr.μ id hid
        obtain ⟨k1, k2, k3⟩ := fr.μ id (Nat.lt_of_lt_of_le hid h.fr.n)
        exact ⟨k1.trans h1, k2.trans h2, k3.trans h3⟩
      D := fun b o hd => fr.D b o (h.fr.D b o hd)
      Dn := by
        intro b o hd hb
        rcases fr.Dn b o hd (Nat.lt_of_lt_of_le hb h.fr.size) with h1 | ⟨q, a, hq, rfl⟩
        · exact h.fr.Dn b o h1 hb
        · exact .inr (h.new q a hq hb)
      size := Nat.le_trans h.fr.size fr.size
      heap := by
        intro b hb hno'
        rw [fr.heap b (Nat.lt_of_lt_of_le hb h.fr.size) (fun h1 => by
          obtain ⟨q, a, hq, rfl⟩ := h1
          exact hno' (h.new q a hq hb))]
        exact h.fr.heap b hb hno'
      cell := fun b o hd => (fr.cell b o (h.fr.D b o hd)).trans (h.fr.cell b o hd)
      still := h.fr.still.trans fr.still }
    new := by
      intro p a ha hlt
      obtain ⟨q, a', hq, e⟩ := h'.new p a ha (Nat.lt_of_lt_of_le hlt h.fr.size)
      rw [← e]; exact h.new q a' hq (by omega) }
theorem St.dropBox {E G env tm H w m} (h : St E G ⟨env, tm, [], H⟩ w) : St E G ⟨env, tm, [], H.set m .dead⟩ w := by
  have hset : ∀ id', (H.set m Box.dead)[id']? = if m = id' ∧ m < H.length then some Box.dead else H[id']? := by
    intro id'; rw [List.getElem?_set]; split <;> split <;> simp_all
  refine h.shuffleH (S' := ⟨env, tm, [], H.set m .dead⟩) (by simp) h.slot (fun k V v hk => by simp at hk) ?_ id ?_ (fun _ _ _ _ _ _ e => e)
  · intro id B hB
    rw [hset] at hB
    split at hB
    · simp only [Option.some.injEq] at hB; subst hB; trivial
    · exact h.box id B hB
  · intro p a ha
    cases p with
    | slot => exact ha
    | fly => exact ha
    | cell id x =>
      simp only [ownP, hset] at ha
      by_cases hc : m = id ∧ m < H.length
      · rw [if_pos hc] at ha; simp at ha
      · simp only [hc, if_false] at ha; exact ha
    | box id =>
      simp only [ownP, hset] at ha
      by_cases hc : m = id ∧ m < H.length
      · rw [if_pos hc] at ha; simp at ha
      · simp only [hc, if_false] at ha; exact ha
theorem St.backMap {E G env tm H w m} {es : List (AVal × AVal)} {ms : Array MapEntry} {c : Nat} (h : St E G ⟨env, tm, [], H⟩ w) (hm : H[m]? = some .dead) (hb : w.heap[G.μ m]? = some (.map ms c)) (hs : ms.size = es.length)
    (hst : MapKept.Stamped ms c) (hR : ∀ (j : Nat) (p : AVal × AVal) (x : MapEntry), es[j]? = some p → ms[j]? = some x → Rv G w p.1 x.key ∧ Rv G w p.2 x.val)
    (hown : ∀ p a, ownP G ⟨env, tm, [], H⟩ w p = some a → a.1 ≠ G.μ m) (hD : ∀ o, ¬ G.D (G.μ m) o) (hnew : G.μ m < E.w0.heap.size → E.own (G.μ m)) : St E G ⟨env, tm, [], H.set m (.map es)⟩ w := by
  have hml : m < H.length := (List.getElem?_eq_some_iff.1 hm).1
  have hset : ∀ id', (H.set m (Box.map es))[id']? = if m = id' then some (Box.map es) else H[id']? := by
    intro id'; rw [List.getElem?_set]; split <;> simp_all
  have carry : ∀ p a, ownP G ⟨env, tm, [], H.set m (.map es)⟩ w p = some a → (p = .box m ∧ a = (G.μ m, 0, 0)) ∨ (p ≠ .box m ∧ ownP G ⟨env, tm, [], H⟩ w p = some a) := by
    intro p a ha
    cases p with
    | slot => exact .inr ⟨by simp, ha⟩
    | fly => exact .inr ⟨by simp, ha⟩
    | cell id x =>
      refine .inr ⟨by simp, ?_⟩
      simp only [ownP, hset] at ha
      by_cases hc : m = id
      · simp [hc] at ha
      · simp only [hc, if_false] at ha; exact ha
    | box id =>
      simp only [ownP, hset] at ha
      by_cases hc : m = id
      · subst hc
        simp only [if_true, Option.some.injEq] at ha
        exact .inl ⟨rfl, ha.symm⟩
      · simp only [hc, if_false] at ha; exact .inr ⟨by simp [Ne.symm hc], ha⟩
  exact {
    n := by rw [h.n]; simp
    Db := h.Db, slot := h.slot
    fly := fun k V v hk => by simp at hk
    box := fun id B hB => by
      rw [hset] at hB
      split at hB
      · rename_i hc
        simp only [Option.some.injEq] at hB; subst hB; subst hc
        exact ⟨ms, c, hb, hs, hst, hR⟩
      · exact h.box id B hB
    ok := fun p a ha => by
      rcases carry p a ha with ⟨rfl, rfl⟩ | ⟨_, ha'⟩
      · exact ⟨(Array.getElem?_eq_some_iff.1 hb).1, .inl rfl, fun h0 => absurd rfl h0, fun x _ => hD x⟩
      · exact h.ok p a ha'
    dis := fun p q a b hpq ha hb' => by
      rcases carry p a ha with ⟨rfl, rfl⟩ | ⟨hp, ha'⟩ <;> rcases carry q b hb' with ⟨rfl, rfl⟩ | ⟨hq, hb''⟩
      · exact absurd rfl hpq
      · exact fun e => hown q b hb'' e.symm
      · exact hown p a ha'
      · exact h.dis p q a b hpq ha' hb''
    fr := h.fr
    new := fun p a ha hlt => by
      rcases carry p a ha with ⟨rfl, rfl⟩ | ⟨hp, ha'⟩
      · exact hnew hlt
      · exact h.new p a ha' hlt }
theorem St.trimS {E G H0 H w env tm} (hE : E.G0.n = H0.length) (hold : ∀ (id : Nat) B, H0[id]? = some B → BoxR E.G0 E.w0 id B) (hlen : H0.length ≤ H.length) (hu : ∀ t, (env t).under H0.length = true)
    (hk : trimOK H0.length H0 H = true) (h : St E G ⟨env, tm, [], H⟩ w) : St E (G.cut H0.length) ⟨env, tm, [], H.take H0.length⟩ w := by
  obtain ⟨hlen', hget⟩ := trimOK_get hk
  have take_get : ∀ {id : Nat} {B : Box}, (H.take H0.length)[id]? = some B → id < H0.length ∧ H[id]? = some B := by
    intro id B hB
    rw [List.getElem?_take] at hB
    split at hB
    · rename_i hi; exact ⟨hi, hB⟩
    · cases hB
  have carry : ∀ p a, ownP (G.cut H0.length) ⟨env, tm, [], H.take H0.length⟩ w p = some a → ownP G ⟨env, tm, [], H⟩ w p = some a := by
    intro p a ha
    cases p with
    | slot t i => exact ha
    | fly k i => exact ha
    | cell id off =>
      simp only [ownP] at ha ⊢
      split at ha
      · rename_i cs hcs
        obtain ⟨_, h2⟩ := take_get hcs
        simp only [h2]; exact ha
      · cases ha
    | box id =>
      simp only [ownP] at ha ⊢
      split at ha
      · rename_i cs hcs
        simp only [(take_get hcs).2]; exact ha
      · rename_i cs hcs
        simp only [(take_get hcs).2]; exact ha
      · rename_i cs hcs
        simp only [(take_get hcs).2]; exact ha
      · rename_i cs hcs
        simp only [(take_get hcs).2]; exact ha
      · cases ha
  exact {
    n := by show H0.length = (H.take H0.length).length; rw [List.length_take]; omega
    Db := h.Db
    slot := fun t => (h.slot t).cut (hu t)
    fly := fun k V v hk => by simp at hk
    box := by
      intro id B hB
      obtain ⟨hid, hB'⟩ := take_get hB
      have hbox := h.box id B hB'
      have hBu : B.under H0.length = true := by
        rcases hget id B hid hB' with h1 | h1
        · have h2 := hold id B h1
          cases B with
          | cells cs =>
            simp only [Box.under]
            refine underL_iff.2 (fun j Y hY => ?_)
            obtain ⟨v, _, hv⟩ := h2 j Y hY
            have := hv.und; rw [hE] at this; exact this
          | arr sz xs =>
            simp only [Box.under]
            have := h2.2.und; rw [hE] at this; exact this
          | map es =>
            simp only [Box.under, List.all_eq_true, Bool.and_eq_true]
            obtain ⟨ms, c, _, hs, _, he⟩ := h2
            intro p hp
            obtain ⟨j, hj⟩ := List.mem_iff_getElem?.1 hp
            have hjl : j < ms.size := by have := (List.getElem?_eq_some_iff.1 hj).1; omega
            obtain ⟨h3, h4⟩ := he j p ms[j] hj (Array.getElem?_eq_getElem hjl)
            have h3 := h3.und; have h4 := h4.und; rw [hE] at h3 h4
            exact ⟨h3, h4⟩
          | iter s p => rfl
          | dead => rfl
        · exact h1
      cases B with
      | cells cs =>
        intro j Y hY
        obtain ⟨v, hc, hr⟩ := hbox j Y hY
        exact ⟨v, hc, hr.cut (underL_iff.1 hBu j Y hY)⟩
      | arr sz xs => exact ⟨hbox.1, RU.cut hbox.2 hBu⟩
      | map es =>
        obtain ⟨ms, c, hh, hs, hst, he⟩ := hbox
        refine ⟨ms, c, hh, hs, hst, fun j p m hj hm => ?_⟩
        simp only [Box.under, List.all_eq_true, Bool.and_eq_true] at hBu
        have := hBu p (List.mem_of_getElem? hj)
        obtain ⟨h3, h4⟩ := he j p m hj hm
        exact ⟨h3.cut this.1, h4.cut this.2⟩
      | iter s p => exact hbox
      | dead => trivial
    ok := fun p a ha => ⟨(h.ok p a (carry p a ha)).lt, (h.ok p a (carry p a ha)).cells, (h.ok p a (carry p a ha)).frozen, (h.ok p a (carry p a ha)).D⟩
    dis := fun p q a b hpq ha hb => h.dis p q a b hpq (carry p a ha) (carry q b hb)
    fr := ⟨by show E.G0.n ≤ H0.length; omega, h.fr.μ, h.fr.D, h.fr.Dn, h.fr.size, h.fr.heap, h.fr.cell, h.fr.still⟩
    new := fun p a ha hlt => h.new p a (carry p a ha) hlt }
section
variable {P : Program}
theorem aops_pre {call : CallF} (hcall : ∀ f, FnOK P f (call f)) {nt : Nat} {ops : Array Oper} {E : Ent} {Q : Exit → Act → World → Prop} (l : List Nat) : ∀ (os : List Oper) (xs : List AOp) (i : Nat) (a : Act) (G : Gh) (w : World) (e e' : Env) (H H' : Heap),
    (∀ (j : Nat) o, os[j]? = some o → ops[i + j]? = some o) → chkOps P nt ops os xs = true → nt ≤ a.tmps.size → St E G ⟨e.get, tmOf a, [], H⟩ w → aops call xs e H = some (e', H') →
    (∀ G' a' w', nt ≤ a'.tmps.size → a'.defers = a.defers → St E G' ⟨e'.get, tmOf a', [], H'⟩ w' → wpOps P ops Q l a' w') → wpOps P ops Q (List.range' i os.length ++ l) a w
  | [], [], i, a, G, w, e, e', H, H', _, _, hsz, h, ha, hK => by
    simp only [aops, Option.some.injEq, Prod.mk.injEq] at ha
    obtain ⟨rfl, rfl⟩ := ha
    exact hK G a w hsz rfl h
  | o :: os, x :: xs, i, a, G, w, e, e', H, H', hos, hc, hsz, h, ha, hK => by
    simp only [chkOps, Bool.and_eq_true] at hc
    simp only [aops] at ha
    obtain ⟨⟨e1, H1⟩, h1, h2⟩ := Option.bind_eq_some_iff.1 ha
    have hi : ops[i]? = some o := hos 0 o rfl
    rw [List.length_cons, List.range'_succ, List.cons_append, wpOps_cons]
    refine aop_ok hcall hi hc.1 hsz h h1 fun G' a' w' hs1 hd1 hst => ?_
    exact aops_pre hcall l os xs (i + 1) a' G' w' e1 e' H1 H' (fun j o hj => by rw [show i + 1 + j = i + (j + 1) by omega]; exact hos (j + 1) o hj) hc.2 hs1 hst h2 fun G'' a'' w'' hs2 hd2 hst2 => hK G'' a'' w'' hs2 (hd2.trans hd1) hst2
  | [], _ :: _, _, _, _, _, _, _, _, _, _, hc, _, _, _, _ => by simp [chkOps] at hc
  | _ :: _, [], _, _, _, _, _, _, _, _, _, hc, _, _, _, _ => by simp [chkOps] at hc
theorem op_hand {ops : Array Oper} {i : Nat} {o : Oper} (hi : ops[i]? = some o) (hg : o.guard = none) {a : Act} {w w' : World} {v : Value} (hr : (execOp a.eval o).run P w = .ok (.value v) w') {K : Act → World → Prop}
    {Q : Exit → Act → World → Prop} (hK : K (a.put o.dst v) w') : wpOp P ops Q i K a w := by
  unfold wpOp
  simp only [hi]
  rw [if_pos (by simp [Region.wanted, hg])]
  refine .inl ?_
  unfold Oper.wp
  rw [hr]
  exact hK
end
end Go.Abs
