import Derived.Test.YtheaccppdikjgaaGreatDoorK17
namespace Go.Abs
open Go
set_option linter.unusedVariables false
set_option linter.unusedSimpArgs false
theorem GE.same {G w} {G' : Gh} (hn : G.n ≤ G'.n) (hD : ∀ b o, G.D b o → G'.D b o) (hμ : ∀ id, id < G.n → G'.μ id = G.μ id) (hsl : ∀ id, id < G.n → G'.sl id = G.sl id)
  (hsz : ∀ id, id < G.n → G'.sz id = G.sz id) : GE G w G' w := ⟨hn, hD, hμ, hsl, hsz, fun _ _ _ => rfl, .refl w⟩
theorem St.frz {E G env tm fly H w} (h : St E G ⟨env, tm, fly, H⟩ w) {t sz : Nat} {xs : List AVal} (ht : env t = .list sz xs .uniq) :
  ∃ G', St E G' ⟨upd env t (.list sz xs .own), tm, fly, H⟩ w := by
 have hrt := h.slot t
 simp only [ht] at hrt
 rcases (show RU G w sz xs (tm t) from hrt) with ⟨rfl, hv⟩ | ⟨b, o, len, cap, f, hv, g1, g2, g3, g4, g5, g6⟩
 ·refine ⟨G, h.shuffle rfl ?_ h.fly id ?_ (fun _ _ _ _ _ _ e => e)⟩
  ·intro u
   by_cases hu : u = t
   ·subst hu; simp only [upd_eq]; rw [hv]; exact Rv.nilList sz .own
   ·simp only [upd_ne _ _ hu]; exact h.slot u
  ·intro p a hp
   cases p with
   | slot u i =>
    by_cases hu : u = t
    ·subst hu; simp [ownP, upd_eq, ownC, own0, hv] at hp
    ·simpa only [id, ownP, upd_ne _ _ hu] using hp
   | _ => exact hp
 ·by_cases hc0 : cap = 0
  ·-- nothing is there
   have hl0 : len = 0 := by omega
   refine ⟨G, h.shuffle rfl ?_ h.fly id ?_ (fun _ _ _ _ _ _ e => e)⟩
   ·intro u
    by_cases hu : u = t
    ·subst hu; simp only [upd_eq]; rw [hv]
     exact Rv.list sz xs .own b o len cap f g1 g2 (by simp) g3 g4 g5 (by intro k hk; simp [hl0] at hk) g6
    ·simp only [upd_ne _ _ hu]; exact h.slot u
   ·intro p a hp
    cases p with
    | slot u i =>
     by_cases hu : u = t
     ·subst hu; simp [ownP, upd_eq, ownC, own0, hv, hc0] at hp
     ·simpa only [id, ownP, upd_ne _ _ hu] using hp
    | _ => exact hp
  ·have hown : ownP G ⟨env, tm, fly, H⟩ w (.slot t 0) = some (b, o, o + cap * sz) := by
    simp only [ownP, ht, ownC, own0, hv, if_true, show 0 < cap by omega]
   have hok := h.ok _ _ hown
   let G' : Gh := { G with D := fun b' k => G.D b' k ∨ (b' = b ∧ o ≤ k ∧ k < o + len * sz) }
   have ge : GE G w G' w := .same (Nat.le_refl _) (fun _ _ h => .inl h) (fun _ _ => rfl) (fun _ _ => rfl) (fun _ _ => rfl)
   have same : ∀ p, p ≠ .slot t 0 → (∀ i, p = .slot t i → i = 0) → ownP G' ⟨upd env t (.list sz xs .own), tm, fly, H⟩ w p = ownP G ⟨env, tm, fly, H⟩ w p := by
    intro p hp hp'
    cases p with
    | slot u i =>
     by_cases hu : u = t
     ·subst hu; have := hp' i rfl; subst this; exact absurd rfl hp
     ·simp only [ownP, upd_ne _ _ hu]
    | _ => rfl
   have own_t : ∀ i a, ownP G' ⟨upd env t (.list sz xs .own), tm, fly, H⟩ w (.slot t i) = some a → i = 0 ∧ a = (b, o + len * sz, o + cap * sz) := by
    intro i a ha
    simp only [ownP, upd_eq, ownC, hv, own0] at ha
    split at ha
    ·rename_i hi
     split at ha
     ·simp at ha; exact ⟨hi, ha.symm⟩
     ·cases ha
    ·cases ha
   have hDa : ∀ p a, p ≠ .slot t 0 → ownP G ⟨env, tm, fly, H⟩ w p = some a → ∀ x, a.2.1 ≤ x → ¬ G'.D a.1 x := by
    intro p a hp ha x hx hd
    rcases hd with hd | ⟨e, _, _⟩
    ·exact (h.ok p a ha).D x hx hd
    ·exact h.dis p (.slot t 0) a _ hp ha hown e
   refine ⟨G', h.next (S' := ⟨upd env t (.list sz xs .own), tm, fly, H⟩) ge h.n (Nat.le_refl _) ?_ (Nat.le_refl _) (fun _ _ => .inl rfl) ?_ ?_ ?_ ?_ (fun p => p) (.slot t 1) ?_ (fun _ _ _ _ _ _ e => e)⟩
   ·rintro b' k (hd | ⟨rfl, _, _⟩)
    ·exact h.Db _ _ hd
    ·exact hok.lt
   ·rintro b' k (hd | ⟨rfl, _, _⟩)
    ·exact .inl hd
    ·exact .inr (.inr ⟨_, _, hown, rfl⟩)
   ·intro u
    by_cases hu : u = t
    ·subst hu; simp only [upd_eq]; rw [hv]
     exact Rv.list sz xs .own b o len cap f g1 g2 (by simp) g3 (fun i X j Y hX hY => (g4 i X j Y hX hY).stay ge) g5 (fun k hk => .inr ⟨rfl, by omega, by omega⟩) g6
    ·simp only [upd_ne _ _ hu]; exact (h.slot u).stay ge (fun _ _ _ => rfl)
   ·intro k V v hk; exact (h.fly k V v hk).stay ge (fun _ _ _ => rfl)
   ·intro id B hB
    have hid : id < G.n := by
     have hl : id < H.length := (List.getElem?_eq_some_iff.1 hB).1
     have hn : G.n = H.length := h.n
     omega
    exact (h.box id B hB).stay ge hid (fun _ _ => rfl) (fun _ _ _ _ _ _ _ => rfl) (fun _ _ _ _ _ => rfl)
   ·intro p a ha
    by_cases hp : ∃ i, p = .slot t i
    ·obtain ⟨i, rfl⟩ := hp
     obtain ⟨rfl, rfl⟩ := own_t i a ha
     refine ⟨⟨hok.lt, hok.cells, hok.frozen, fun x h1 hd => ?_⟩, .inr ⟨_, hown, rfl⟩⟩
     have h1' : o + len * sz ≤ x := h1
     rcases hd with hd | ⟨_, _, hd⟩
     ·exact hok.D x (by show o ≤ x; omega) hd
     ·omega
    ·have hp0 : p ≠ .slot t 0 := fun e => hp ⟨0, e⟩
     have ha' := ha
     rw [same p hp0 (fun i e => absurd ⟨i, e⟩ hp)] at ha'
     have hk := h.ok p a ha'
     exact ⟨⟨hk.lt, hk.cells, hk.frozen, hDa p a hp0 ha'⟩, .inr ⟨a, ha', rfl⟩⟩
theorem St.kill1 {E G env tm fly H w} (h : St E G ⟨env, tm, fly, H⟩ w) (t : Nat) : St E G ⟨upd env t .any, tm, fly, H⟩ w := by
 refine h.shuffle rfl ?_ h.fly id ?_ (fun _ _ _ _ _ _ e => e)
 ·intro u
  by_cases hu : u = t
  ·subst hu; simp only [upd_eq]; exact Rv.any _
  ·simp only [upd_ne _ _ hu]; exact h.slot u
 ·intro p a hp
  cases p with
  | slot u i =>
   by_cases hu : u = t
   ·subst hu; simp [ownP, upd_eq, ownC, own0] at hp
   ·simpa only [id, ownP, upd_ne _ _ hu] using hp
  | _ => exact hp
theorem Env.get_del' (e : Env) (t : Nat) : (e.del t).get = upd e.get t .any := by
 funext u; rw [Env.get_del]; rfl
theorem St.kills {E G tm fly H w} : ∀ (ts : List Nat) (e : Env), St E G ⟨e.get, tm, fly, H⟩ w → St E G ⟨(e.dels ts).get, tm, fly, H⟩ w
 | [], e, h => h
 | t :: ts, e, h => by
  have := h.kill1 t
  rw [← Env.get_del'] at this
  exact St.kills ts (e.del t) this
theorem St.thw {E G env tm fly H w} (h : St E G ⟨env, tm, fly, H⟩ w) {t sz : Nat} {xs : List AVal} (ht : env t = .list sz xs .uniq) :
  ∃ G', St E G' ⟨upd env t (.lbox H.length), tm, fly, H ++ [.arr sz xs]⟩ w := by
 have hrt := h.slot t
 simp only [ht] at hrt
 have hru : RU G w sz xs (tm t) := hrt
 have hn : G.n = H.length := h.n
 let G' : Gh := { G with n := G.n + 1, sl := upd G.sl G.n (tm t), sz := upd G.sz G.n sz }
 have ge : GE G w G' w := .same (Nat.le_succ _) (fun _ _ h => h) (fun _ _ => rfl) (fun id hid => upd_ne _ _ (Nat.ne_of_lt hid)) (fun id hid => upd_ne _ _ (Nat.ne_of_lt hid))
 have hsl : G'.sl H.length = tm t := by rw [← hn]; exact upd_eq _ _ _
 have hsz : G'.sz H.length = sz := by rw [← hn]; exact upd_eq _ _ _
 have hslice : ∃ a l c, tm t = .slice a l c := by
  rcases hru with ⟨_, e⟩ | ⟨b, o, len, cap, f, e, _⟩ <;> exact ⟨_, _, _, e⟩
 have hlen : ∀ id, id < H.length → (H ++ [Box.arr sz xs])[id]? = H[id]? := fun id hid => List.getElem?_append_left hid
 have hnew : (H ++ [Box.arr sz xs])[H.length]? = some (.arr sz xs) := by simp
 let π : Pos → Pos := fun p => match p with | .box id => if id = H.length then .slot t 0 else .box id | p => p
 have idcase : ∀ (id : Nat) B, (H ++ [Box.arr sz xs])[id]? = some B → (id < H.length ∧ H[id]? = some B) ∨ (id = H.length ∧ B = .arr sz xs) := by
  intro id B hB
  rcases Nat.lt_trichotomy id H.length with hh | hh | hh
  ·exact .inl ⟨hh, by rwa [hlen id hh] at hB⟩
  ·subst hh; rw [hnew] at hB; cases hB; exact .inr ⟨rfl, rfl⟩
  ·rw [List.getElem?_eq_none (by simp; omega)] at hB; cases hB
 have carry : ∀ p a, ownP G' ⟨upd env t (.lbox H.length), tm, fly, H ++ [.arr sz xs]⟩ w p = some a → ownP G ⟨env, tm, fly, H⟩ w (π p) = some a := by
  intro p a ha
  cases p with
  | slot u i =>
   by_cases hu : u = t
   ·subst hu; simp [ownP, upd_eq, ownC, own0] at ha
   ·simpa only [π, ownP, upd_ne _ _ hu] using ha
  | fly => exact ha
  | cell id off =>
   simp only [ownP] at ha
   cases hB : (H ++ [Box.arr sz xs])[id]? with
   | none => simp [hB] at ha
   | some B =>
    rcases idcase id B hB with ⟨hh, hB'⟩ | ⟨rfl, rfl⟩
    ·simpa only [π, ownP, hB'] using (by simpa only [hB] using ha)
    ·simp [hB] at ha
  | box id =>
   simp only [ownP] at ha
   cases hB : (H ++ [Box.arr sz xs])[id]? with
   | none => simp [hB] at ha
   | some B =>
    rcases idcase id B hB with ⟨hh, hB'⟩ | ⟨rfl, rfl⟩
    ·simp only [hB] at ha
     simp only [π, show ¬ id = H.length by omega, if_false, ownP, hB']
     have : G'.sl id = G.sl id := upd_ne _ _ (by omega)
     cases B <;> first | exact ha | (simp only [this] at ha; exact ha)
    ·simp only [hB, hsl] at ha
     simp only [π, if_true, ownP, ht, ownC]; exact ha
 refine ⟨G', h.next (S' := ⟨upd env t (.lbox H.length), tm, fly, H ++ [.arr sz xs]⟩) ge (by simp [G', hn]) (Nat.le_succ _) h.Db (Nat.le_refl _) (fun _ _ => .inl rfl) (fun _ _ hd => .inl hd) ?_ ?_ ?_ π (.slot t 1) ?_ ?_⟩
 ·intro u
  by_cases hu : u = t
  ·subst hu; simp only [upd_eq]
   refine Rt.of ?_ rfl
   rw [← hsl]
   exact .lbox H.length (by simp [G', hn]) (by rw [hsl]; exact hslice)
  ·simp only [upd_ne _ _ hu]; exact (h.slot u).stay ge (fun _ _ _ => rfl)
 ·intro k V v hk; exact (h.fly k V v hk).stay ge (fun _ _ _ => rfl)
 ·intro id B hB
  rcases idcase id B hB with ⟨hh, hB'⟩ | ⟨rfl, rfl⟩
  ·exact (h.box id B hB').stay ge (by omega) (fun _ _ => rfl) (fun _ _ _ _ _ _ _ => rfl) (fun _ _ _ _ _ => rfl)
  ·exact ⟨hsz, by rw [hsl]; exact hru.stay ge (fun _ _ _ _ _ _ => rfl)⟩
 ·intro p a ha
  have ha' := carry p a ha
  have hk := h.ok _ _ ha'
  exact ⟨⟨hk.lt, hk.cells, hk.frozen, hk.D⟩, .inr ⟨a, ha', rfl⟩⟩
 ·intro p q a b hp hq hpq
  have notslot : ∀ i a, ownP G' ⟨upd env t (.lbox H.length), tm, fly, H ++ [.arr sz xs]⟩ w (.slot t i) ≠ some a := by
   intro i a; simp [ownP, upd_eq, ownC, own0]
  cases p with
  | box id1 =>
   cases q with
   | box id2 =>
    simp only [π] at hpq
    split at hpq <;> split at hpq <;> first | (simp_all; done) | cases hpq
   | slot u i =>
    simp only [π] at hpq
    split at hpq
    ·cases hpq; exact absurd hq (notslot _ _)
    ·cases hpq
   | _ => simp only [π] at hpq; split at hpq <;> cases hpq
  | slot u i =>
   cases q with
   | box id2 =>
    simp only [π] at hpq
    split at hpq
    ·cases hpq; exact absurd hp (notslot _ _)
    ·cases hpq
   | _ => exact hpq
  | _ => cases q <;> first | exact hpq | (simp only [π] at hpq; split at hpq <;> cases hpq)
theorem St.bck {E G env tm fly H w} (h : St E G ⟨env, tm, fly, H⟩ w) {t id sz : Nat} {xs : List AVal} (ht : env t = .lbox id) (hH : H[id]? = some (.arr sz xs)) :
  St E G ⟨upd env t (.list sz xs .uniq), tm, fly, H.set id .dead⟩ w := by
 have hrt := h.slot t
 simp only [ht] at hrt
 have hv : tm t = G.sl id := by
  have : Rv G w (.lbox id) (tm t) := hrt
  generalize tm t = v at this
  cases this; rfl
 obtain ⟨hsz, hru⟩ := h.box id _ hH
 have hset : ∀ id', (H.set id Box.dead)[id']? = if id = id' then some Box.dead else H[id']? := by
  intro id'; rw [List.getElem?_set]
  have := (List.getElem?_eq_some_iff.1 hH).1
  split <;> simp_all
 refine h.shuffleH (by simp) ?_ h.fly ?_ (fun p => match p with | .slot u i => if u = t then .box id else .slot u i | p => p) ?_ ?_
 ·intro u
  by_cases hu : u = t
  ·subst hu; simp only [upd_eq]; rw [hv]; exact hru
  ·simp only [upd_ne _ _ hu]; exact h.slot u
 ·intro id' B hB
  rw [hset] at hB
  split at hB
  ·cases hB; trivial
  ·exact h.box id' B hB
 ·intro p a ha
  cases p with
  | slot u i =>
   by_cases hu : u = t
   ·subst hu
    simp only [ownP, upd_eq, ownC, hv] at ha
    split at ha
    ·simp only [if_true, ownP, hH]; exact ha
    ·cases ha
   ·simpa only [hu, if_false, ownP, upd_ne _ _ hu] using ha
  | fly => exact ha
  | cell id' off =>
   simp only [ownP, hset] at ha ⊢
   by_cases hi : id = id'
   ·simp [hi] at ha
   ·simpa only [hi, if_false] using ha
  | box id' =>
   simp only [ownP, hset] at ha ⊢
   by_cases hi : id = id'
   ·simp [hi] at ha
   ·simpa only [hi, if_false] using ha
 ·intro p q a b hp hq hpq
  have nobox : ∀ a, ownP G ⟨upd env t (.list sz xs .uniq), tm, fly, H.set id .dead⟩ w (.box id) ≠ some a := by
   intro a; simp [ownP, hset]
  have slot0 : ∀ i a, ownP G ⟨upd env t (.list sz xs .uniq), tm, fly, H.set id .dead⟩ w (.slot t i) = some a → i = 0 := by
   intro i a hh
   simp only [ownP, upd_eq, ownC] at hh
   split at hh
   ·assumption
   ·cases hh
  cases p with
  | slot u i =>
   cases q with
   | slot u' i' =>
    simp only at hpq
    by_cases h1 : u = t <;> by_cases h2 : u' = t <;> simp only [h1, h2, if_true, if_false] at hpq
    ·subst h1; subst h2; rw [slot0 _ _ hp, slot0 _ _ hq]
    ·cases hpq
    ·cases hpq
    ·exact hpq
   | box id' =>
    simp only at hpq
    split at hpq
    ·cases hpq; exact absurd hq (nobox _)
    ·cases hpq
   | _ => simp only at hpq; split at hpq <;> cases hpq
  | box id' =>
   cases q with
   | slot u' i' =>
    simp only at hpq
    split at hpq
    ·cases hpq; exact absurd hp (nobox _)
    ·cases hpq
   | _ => exact hpq
  | _ => cases q <;> first | exact hpq | (simp only at hpq; split at hpq <;> cases hpq)
theorem St.thwC {E G env tm fly H w} (h : St E G ⟨env, tm, fly, H⟩ w) {id k sz : Nat} {cs xs : List AVal} (hH : H[id]? = some (.cells cs)) (hk : cs[k]? = some (.list sz xs .uniq)) :
  ∃ G', St E G' ⟨env, tm, fly, H.set id (.cells (cs.set k (.lbox H.length))) ++ [.arr sz xs]⟩ w := by
 obtain ⟨v, hcv, hr0⟩ := h.box id _ hH k _ hk
 have hru : RU G w sz xs v := hr0
 have hn : G.n = H.length := h.n
 have hcellv : cellv w (G.μ id) k = v := by simp [cellv, hcv]
 have hidl : id < H.length := (List.getElem?_eq_some_iff.1 hH).1
 have hkl : k < cs.length := (List.getElem?_eq_some_iff.1 hk).1
 let H1 := H.set id (.cells (cs.set k (.lbox H.length)))
 have hl1 : H1.length = H.length := by simp [H1]
 let G' : Gh := { G with n := G.n + 1, sl := upd G.sl G.n v, sz := upd G.sz G.n sz }
 have ge : GE G w G' w := .same (Nat.le_succ _) (fun _ _ h => h) (fun _ _ => rfl) (fun id hid => upd_ne _ _ (Nat.ne_of_lt hid)) (fun id hid => upd_ne _ _ (Nat.ne_of_lt hid))
 have hsl : G'.sl H.length = v := by rw [← hn]; exact upd_eq _ _ _
 have hsz : G'.sz H.length = sz := by rw [← hn]; exact upd_eq _ _ _
 have hslice : ∃ a l c, v = .slice a l c := by
  rcases hru with ⟨_, e⟩ | ⟨b, o, len, cap, f, e, _⟩ <;> exact ⟨_, _, _, e⟩
 have hset : ∀ id', H1[id']? = if id = id' then some (Box.cells (cs.set k (.lbox H.length))) else H[id']? := by
  intro id'; simp only [H1, List.getElem?_set]; split <;> simp_all
 have hcsk : ∀ j, (cs.set k (AVal.lbox H.length))[j]? = if k = j then some (.lbox H.length) else cs[j]? := by
  intro j; rw [List.getElem?_set]; split <;> simp_all
 have idcase : ∀ (id' : Nat) B, (H1 ++ [Box.arr sz xs])[id']? = some B → (id' < H.length ∧ H1[id']? = some B) ∨ (id' = H.length ∧ B = .arr sz xs) := by
  intro id' B hB
  rcases Nat.lt_trichotomy id' H.length with hh | hh | hh
  ·exact .inl ⟨hh, by rwa [List.getElem?_append_left (by omega)] at hB⟩
  ·subst hh; rw [List.getElem?_append_right (by omega)] at hB; simp [hl1] at hB; exact .inr ⟨rfl, hB.symm⟩
  ·rw [List.getElem?_eq_none (by simp; omega)] at hB; cases hB
 let π : Pos → Pos := fun p => match p with | .box id' => if id' = H.length then .cell id k else .box id' | p => p
 have nocell : ∀ a, ownP G' ⟨env, tm, fly, H1 ++ [.arr sz xs]⟩ w (.cell id k) ≠ some a := by
  intro a
  simp only [ownP]
  rw [List.getElem?_append_left (by omega), hset, if_pos rfl]
  simp only [hcsk, if_true]
  simp [own0]
 have carry : ∀ p a, ownP G' ⟨env, tm, fly, H1 ++ [.arr sz xs]⟩ w p = some a → ownP G ⟨env, tm, fly, H⟩ w (π p) = some a := by
  intro p a ha
  cases p with
  | slot => exact ha
  | fly => exact ha
  | cell id' off =>
   by_cases hcc : id' = id ∧ off = k
   ·obtain ⟨rfl, rfl⟩ := hcc; exact absurd ha (nocell a)
   simp only [ownP] at ha
   cases hB : (H1 ++ [Box.arr sz xs])[id']? with
   | none => simp [hB] at ha
   | some B =>
    rcases idcase id' B hB with ⟨hh, hB'⟩ | ⟨rfl, rfl⟩
    ·rw [hset] at hB'
     by_cases hi : id = id'
     ·subst hi
      simp only [if_true, Option.some.injEq] at hB'; subst hB'
      simp only [hB, hcsk] at ha
      have hok : ¬ k = off := fun e => hcc ⟨rfl, e.symm⟩
      simp only [hok, if_false] at ha
      simp only [π, ownP, hH]; exact ha
     ·simp only [hi, if_false] at hB'
      simp only [hB] at ha
      simp only [π, ownP, hB']; exact ha
    ·simp [hB] at ha
  | box id' =>
   simp only [ownP] at ha
   cases hB : (H1 ++ [Box.arr sz xs])[id']? with
   | none => simp [hB] at ha
   | some B =>
    rcases idcase id' B hB with ⟨hh, hB'⟩ | ⟨rfl, rfl⟩
    ·rw [hset] at hB'
     simp only [hB] at ha
     simp only [π, show ¬ id' = H.length by omega, if_false]
     have hsl' : G'.sl id' = G.sl id' := upd_ne _ _ (by omega)
     by_cases hi : id = id'
     ·subst hi
      simp only [if_true, Option.some.injEq] at hB'; subst hB'
      simp only [ownP, hH]
      simpa using ha
     ·simp only [hi, if_false] at hB'
      simp only [ownP, hB']
      cases B <;> first | exact ha | (simp only [hsl'] at ha; exact ha)
    ·simp only [hB, hsl] at ha
     simp only [π, if_true, ownP, hH, hk, hcellv]; exact ha
 refine ⟨G', h.next (S' := ⟨env, tm, fly, H1 ++ [.arr sz xs]⟩) ge (by simp [G', hn, hl1]) (Nat.le_succ _) h.Db (Nat.le_refl _) (fun _ _ => .inl rfl) (fun _ _ hd => .inl hd) ?_ ?_ ?_ π (.slot 0 0) ?_ ?_⟩
 ·intro u; exact (h.slot u).stay ge (fun _ _ _ => rfl)
 ·intro k V v hk; exact (h.fly k V v hk).stay ge (fun _ _ _ => rfl)
 ·intro id' B hB
  rcases idcase id' B hB with ⟨hh, hB'⟩ | ⟨rfl, rfl⟩
  ·rw [hset] at hB'
   by_cases hi : id = id'
   ·subst hi
    simp only [if_true, Option.some.injEq] at hB'; subst hB'
    intro j Y hY
    rw [hcsk] at hY
    by_cases hj : k = j
    ·subst hj
     simp only [if_true, Option.some.injEq] at hY; subst hY
     refine ⟨v, hcv, ?_⟩
     have := Rv.lbox (G := G') (w := w) H.length (by simp [G', hn]) (by rw [hsl]; exact hslice)
     rw [hsl] at this; exact this
    ·simp only [hj, if_false] at hY
     obtain ⟨u, hu, hr⟩ := h.box id _ hH j Y hY
     exact ⟨u, hu, hr.stay ge (fun _ _ => rfl)⟩
   ·simp only [hi, if_false] at hB'
    exact (h.box id' B hB').stay ge (by omega) (fun _ _ => rfl) (fun _ _ _ _ _ _ _ => rfl) (fun _ _ _ _ _ => rfl)
  ·exact ⟨hsz, by rw [hsl]; exact hru.stay ge (fun _ _ _ _ _ _ => rfl)⟩
 ·intro p a ha
  have ha' := carry p a ha
  have hk := h.ok _ _ ha'
  exact ⟨⟨hk.lt, hk.cells, hk.frozen, hk.D⟩, .inr ⟨a, ha', rfl⟩⟩
 ·intro p q a b hp hq hpq
  cases p with
  | box id1 =>
   cases q with
   | box id2 =>
    simp only [π] at hpq
    split at hpq <;> split at hpq <;> first | (simp_all; done) | cases hpq
   | cell i o =>
    simp only [π] at hpq
    split at hpq
    ·cases hpq; exact absurd hq (nocell _)
    ·cases hpq
   | _ => simp only [π] at hpq; split at hpq <;> cases hpq
  | cell i o =>
   cases q with
   | box id2 =>
    simp only [π] at hpq
    split at hpq
    ·cases hpq; exact absurd hp (nocell _)
    ·cases hpq
   | _ => exact hpq
  | _ => cases q <;> first | exact hpq | (simp only [π] at hpq; split at hpq <;> cases hpq)
theorem St.bckC {E G env tm fly H w} (h : St E G ⟨env, tm, fly, H⟩ w) {id k b sz : Nat} {cs xs : List AVal} (hH : H[id]? = some (.cells cs)) (hk : cs[k]? = some (.lbox b)) (hb : H[b]? = some (.arr sz xs)) :
  St E G ⟨env, tm, fly, (H.set id (.cells (cs.set k (.list sz xs .uniq)))).set b .dead⟩ w := by
 obtain ⟨v, hcv, hr0⟩ := h.box id _ hH k _ hk
 have hv : v = G.sl b := by
  have : Rv G w (.lbox b) v := hr0
  cases this; rfl
 subst hv
 obtain ⟨hsz, hru⟩ := h.box b _ hb
 have hcellv : cellv w (G.μ id) k = G.sl b := by simp [cellv, hcv]
 have hidl : id < H.length := (List.getElem?_eq_some_iff.1 hH).1
 have hbl : b < H.length := (List.getElem?_eq_some_iff.1 hb).1
 have hkl : k < cs.length := (List.getElem?_eq_some_iff.1 hk).1
 have hne : id ≠ b := by intro e; subst e; rw [hH] at hb; cases hb
 let H1 := (H.set id (.cells (cs.set k (.list sz xs .uniq)))).set b .dead
 have hset : ∀ id', H1[id']? = if b = id' then some Box.dead else if id = id' then some (Box.cells (cs.set k (.list sz xs .uniq))) else H[id']? := by
  intro id'; simp only [H1, List.getElem?_set, List.length_set]
  by_cases h1 : b = id' <;> by_cases h2 : id = id' <;> simp_all
 have hcsk : ∀ j, (cs.set k (AVal.list sz xs .uniq))[j]? = if k = j then some (.list sz xs .uniq) else cs[j]? := by
  intro j; rw [List.getElem?_set]; split <;> simp_all
 have nobox : ∀ a, ownP G ⟨env, tm, fly, H1⟩ w (.box b) ≠ some a := by intro a; simp [ownP, hset]
 refine h.shuffleH (by simp) h.slot h.fly ?_ (fun p => match p with | .cell i o => if i = id ∧ o = k then .box b else .cell i o | p => p) ?_ ?_
 ·intro id' B hB
  have hB2 : H1[id']? = some B := hB
  rw [hset] at hB2
  by_cases h1 : b = id'
  ·simp only [h1, if_true] at hB2; cases hB2; trivial
  ·simp only [h1, if_false] at hB2
   by_cases h2 : id = id'
   ·subst h2
    simp only [if_true, Option.some.injEq] at hB2; subst hB2
    intro j Y hY
    rw [hcsk] at hY
    by_cases hj : k = j
    ·subst hj
     simp only [if_true, Option.some.injEq] at hY; subst hY
     exact ⟨_, hcv, hru⟩
    ·simp only [hj, if_false] at hY; exact h.box id _ hH j Y hY
   ·simp only [h2, if_false] at hB2; exact h.box id' B hB2
 ·intro p a ha
  cases p with
  | slot => exact ha
  | fly => exact ha
  | cell i o =>
   have ha2 : ownP G ⟨env, tm, fly, H1⟩ w (.cell i o) = some a := ha
   simp only [ownP, hset] at ha2
   by_cases h1 : b = i
   ·simp [h1] at ha2
   ·simp only [h1, if_false] at ha2
    by_cases h2 : id = i
    ·subst h2
     simp only [if_true, hcsk] at ha2
     by_cases hj : k = o
     ·subst hj
      simp only [if_true, hcellv] at ha2
      simp only [and_self, if_true, ownP, hb]; exact ha2
     ·simp only [hj, if_false] at ha2
      show ownP _ _ _ (if id = id ∧ o = k then Pos.box b else Pos.cell id o) = _
      rw [if_neg (show ¬ (id = id ∧ o = k) from fun e => hj e.2.symm)]
      simp only [ownP, hH]; exact ha2
    ·simp only [h2, if_false] at ha2
     show ownP _ _ _ (if i = id ∧ o = k then Pos.box b else Pos.cell i o) = _
     rw [if_neg (show ¬ (i = id ∧ o = k) from fun e => h2 e.1.symm)]
     simp only [ownP]; exact ha2
  | box id' =>
   have ha2 : ownP G ⟨env, tm, fly, H1⟩ w (.box id') = some a := ha
   simp only [ownP, hset] at ha2 ⊢
   by_cases h1 : b = id'
   ·simp [h1] at ha2
   ·simp only [h1, if_false] at ha2
    by_cases h2 : id = id'
    ·subst h2
     simp only [if_true] at ha2
     simp only [hH]; simpa using ha2
    ·simp only [h2, if_false] at ha2; exact ha2
 ·intro p q a c hp hq hpq
  cases p with
  | cell i o =>
   cases q with
   | cell i' o' =>
    simp only at hpq
    by_cases h1 : i = id ∧ o = k <;> by_cases h2 : i' = id ∧ o' = k <;> simp only [h1, h2, if_true, if_false] at hpq
    ·obtain ⟨rfl, rfl⟩ := h1; obtain ⟨rfl, rfl⟩ := h2; rfl
    ·cases hpq
    ·cases hpq
    ·exact hpq
   | box id' =>
    simp only at hpq
    split at hpq
    ·cases hpq; exact absurd hq (nobox _)
    ·cases hpq
   | _ => simp only at hpq; split at hpq <;> cases hpq
  | box id' =>
   cases q with
   | cell i' o' =>
    simp only at hpq
    split at hpq
    ·cases hpq; exact absurd hp (nobox _)
    ·cases hpq
   | _ => exact hpq
  | _ => cases q <;> first | exact hpq | (simp only at hpq; split at hpq <;> cases hpq)
theorem St.fulC {E G env tm fly H w} (h : St E G ⟨env, tm, fly, H⟩ w) {id k sz : Nat} {cs : List AVal} (hH : H[id]? = some (.cells cs)) (hk : cs[k]? = some (.list sz [] .full)) :
  St E G ⟨env, tm, fly, H.set id (.cells (cs.set k (.list sz [] .uniq)))⟩ w := by
 obtain ⟨v, hcell, hrt⟩ := h.box id _ hH k _ hk
 have hcv : cellv w (G.μ id) k = v := by simp [cellv, hcell]
 have hidH : id < H.length := (List.getElem?_eq_some_iff.1 hH).1
 have hkc : k < cs.length := (List.getElem?_eq_some_iff.1 hk).1
 have hset : ∀ id', (H.set id (.cells (cs.set k (.list sz [] .uniq))))[id']? = if id = id' then some (Box.cells (cs.set k (.list sz [] .uniq))) else H[id']? := by
  intro id'
  rw [List.getElem?_set]
  by_cases h1 : id = id'
  ·subst h1; simp [hidH]
  ·simp [h1]
 have hcs : ∀ j, (cs.set k (AVal.list sz [] .uniq))[j]? = if k = j then some (.list sz [] .uniq) else cs[j]? := by
  intro j
  rw [List.getElem?_set]
  by_cases h1 : k = j
  ·subst h1; simp [hkc]
  ·simp [h1]
 have hru : RU G w sz [] v := by
  cases (show Rv G w (.list sz [] .full) v from hrt) with
  | list _ _ _ b o len cap f g1 g2 g3 g4 g5 g6 g7 g8 => exact .inr ⟨b, o, len, cap, f, rfl, g1, g2, g4, g5, g6, g8⟩
  | nilList => exact .inl ⟨rfl, rfl⟩
 have hno : own0 (.list sz [] .uniq) v = none := by
  cases (show Rv G w (.list sz [] .full) v from hrt) with
  | list _ _ _ b o len cap f g1 g2 g3 g4 g5 g6 g7 g8 =>
   have := g3 rfl
   simp at g1
   simp [own0, this, ← g1]
  | nilList => rfl
 refine h.shuffleH (by simp) h.slot h.fly ?_ (fun p => p) ?_ (fun _ _ _ _ _ _ e => e)
 ·intro id' B hB
  have hB2 : (H.set id (.cells (cs.set k (.list sz [] .uniq))))[id']? = some B := hB
  rw [hset] at hB2
  by_cases h1 : id = id'
  ·subst h1
   simp only [if_true, Option.some.injEq] at hB2
   subst hB2
   intro j V hV
   rw [hcs] at hV
   by_cases hj : k = j
   ·subst hj
    simp only [if_true, Option.some.injEq] at hV
    subst hV
    exact ⟨v, hcell, hru⟩
   ·simp only [hj, if_false] at hV
    exact h.box id _ hH j V hV
  ·simp only [h1, if_false] at hB2
   exact h.box id' B hB2
 ·intro p a hp
  cases p with
  | slot => exact hp
  | fly => exact hp
  | cell i o =>
   simp only [ownP, hset] at hp ⊢
   by_cases h1 : id = i
   ·subst h1
    simp only [if_true, hcs] at hp
    rw [hH]
    by_cases hj : k = o
    ·subst hj
     simp only [if_true, hcv, hno] at hp
     cases hp
    ·simp only [hj, if_false] at hp
     exact hp
   ·simp only [h1, if_false] at hp
    exact hp
  | box i =>
   simp only [ownP, hset] at hp ⊢
   by_cases h1 : id = i
   ·subst h1
    simp only [if_true, List.length_set] at hp
    rw [hH]; exact hp
   ·simp only [h1, if_false] at hp
    exact hp
theorem St.frzC {E G env tm fly H w} (h : St E G ⟨env, tm, fly, H⟩ w) {id k sz : Nat} {cs xs : List AVal} (hH : H[id]? = some (.cells cs)) (hk : cs[k]? = some (.list sz xs .uniq)) :
  ∃ G', St E G' ⟨env, tm, fly, H.set id (.cells (cs.set k (.list sz xs .own)))⟩ w := by
 obtain ⟨v, hcell, hrt⟩ := h.box id _ hH k _ hk
 have hcv : cellv w (G.μ id) k = v := by simp [cellv, hcell]
 have hidH : id < H.length := (List.getElem?_eq_some_iff.1 hH).1
 have hkc : k < cs.length := (List.getElem?_eq_some_iff.1 hk).1
 have hset : ∀ id', (H.set id (.cells (cs.set k (.list sz xs .own))))[id']? = if id = id' then some (Box.cells (cs.set k (.list sz xs .own))) else H[id']? := by
  intro id'
  rw [List.getElem?_set]
  by_cases h1 : id = id'
  ·subst h1; simp [hidH]
  ·simp [h1]
 have hcs : ∀ j, (cs.set k (AVal.list sz xs .own))[j]? = if k = j then some (.list sz xs .own) else cs[j]? := by
  intro j
  rw [List.getElem?_set]
  by_cases h1 : k = j
  ·subst h1; simp [hkc]
  ·simp [h1]
 -- where nothing is owned
 have plain : Rv G w (.list sz xs .own) v → own0 (.list sz xs .own) v = none → ∃ G', St E G' ⟨env, tm, fly, H.set id (.cells (cs.set k (.list sz xs .own)))⟩ w := by
  intro hr hno
  refine ⟨G, h.shuffleH (by simp) h.slot h.fly ?_ (fun p => p) ?_ (fun _ _ _ _ _ _ e => e)⟩
  ·intro id' B hB
   have hB2 : (H.set id (.cells (cs.set k (.list sz xs .own))))[id']? = some B := hB
   rw [hset] at hB2
   by_cases h1 : id = id'
   ·subst h1
    simp only [if_true, Option.some.injEq] at hB2
    subst hB2
    intro j V hV
    rw [hcs] at hV
    by_cases hj : k = j
    ·subst hj
     simp only [if_true, Option.some.injEq] at hV
     subst hV
     exact ⟨v, hcell, hr⟩
    ·simp only [hj, if_false] at hV
     exact h.box id _ hH j V hV
   ·simp only [h1, if_false] at hB2
    exact h.box id' B hB2
  ·intro p a hp
   cases p with
   | slot => exact hp
   | fly => exact hp
   | cell i o =>
    simp only [ownP, hset] at hp ⊢
    by_cases h1 : id = i
    ·subst h1
     simp only [if_true, hcs] at hp
     rw [hH]
     by_cases hj : k = o
     ·subst hj
      simp only [if_true, hcv, hno] at hp
      cases hp
     ·simp only [hj, if_false] at hp
      exact hp
    ·simp only [h1, if_false] at hp
     exact hp
   | box i =>
    simp only [ownP, hset] at hp ⊢
    by_cases h1 : id = i
    ·subst h1
     simp only [if_true, List.length_set] at hp
     rw [hH]; exact hp
    ·simp only [h1, if_false] at hp
     exact hp
 rcases (show RU G w sz xs v from hrt) with ⟨rfl, hv⟩ | ⟨b, o, len, cap, f, hv, g1, g2, g3, g4, g5, g6⟩
 ·exact plain (by rw [hv]; exact Rv.nilList sz .own) (by rw [hv]; rfl)
 ·by_cases hc0 : cap = 0
  ·have hl0 : len = 0 := by omega
   exact plain (by rw [hv]; exact Rv.list sz xs .own b o len cap f g1 g2 (by simp) g3 g4 g5 (by intro k hk; simp [hl0] at hk) g6) (by rw [hv]; simp [own0, hc0])
  ·have hown : ownP G ⟨env, tm, fly, H⟩ w (.cell id k) = some (b, o, o + cap * sz) := by
    simp only [ownP, hH, hk, hcv, own0, hv, show 0 < cap by omega, if_true]
   have hok := h.ok _ _ hown
   let G' : Gh := { G with D := fun b' x => G.D b' x ∨ (b' = b ∧ o ≤ x ∧ x < o + len * sz) }
   have ge : GE G w G' w := .same (Nat.le_refl _) (fun _ _ h => .inl h) (fun _ _ => rfl) (fun _ _ => rfl) (fun _ _ => rfl)
   have same : ∀ p, p ≠ .cell id k → ownP G' ⟨env, tm, fly, H.set id (.cells (cs.set k (.list sz xs .own)))⟩ w p = ownP G ⟨env, tm, fly, H⟩ w p := by
    intro p hp
    cases p with
    | slot => rfl
    | fly => rfl
    | cell i q =>
     simp only [ownP, hset]
     by_cases h1 : id = i
     ·subst h1
      have hj : ¬ k = q := fun e => hp (by rw [e])
      simp only [if_true, hcs, hj, if_false, hH]
      rfl
     ·simp only [h1, if_false]
      rfl
    | box i =>
     simp only [ownP, hset]
     by_cases h1 : id = i
     ·subst h1
      simp only [if_true, List.length_set, hH]
      rfl
     ·simp only [h1, if_false]
      rfl
   have own_t : ∀ a, ownP G' ⟨env, tm, fly, H.set id (.cells (cs.set k (.list sz xs .own)))⟩ w (.cell id k) = some a → a = (b, o + len * sz, o + cap * sz) := by
    intro a ha
    have hcv' : cellv w (G'.μ id) k = v := hcv
    simp only [ownP, hset, hcs, if_true, hcv', hv, own0] at ha
    split at ha
    ·simp at ha; exact ha.symm
    ·cases ha
   have hDa : ∀ p a, p ≠ .cell id k → ownP G ⟨env, tm, fly, H⟩ w p = some a → ∀ x, a.2.1 ≤ x → ¬ G'.D a.1 x := by
    intro p a hp ha x hx hd
    rcases hd with hd | ⟨e, _, _⟩
    ·exact (h.ok p a ha).D x hx hd
    ·exact h.dis p (.cell id k) a _ hp ha hown e
   refine ⟨G', h.next (S' := ⟨env, tm, fly, H.set id (.cells (cs.set k (.list sz xs .own)))⟩) ge (by simpa using h.n) (Nat.le_refl _) ?_ (Nat.le_refl _) (fun _ _ => .inl rfl) ?_ ?_ ?_ ?_ (fun p => p) (.slot 0 1000000) ?_ (fun _ _ _ _ _ _ e => e)⟩
   ·rintro b' x (hd | ⟨rfl, _, _⟩)
    ·exact h.Db _ _ hd
    ·exact hok.lt
   ·rintro b' x (hd | ⟨rfl, _, _⟩)
    ·exact .inl hd
    ·exact .inr (.inr ⟨_, _, hown, rfl⟩)
   ·intro u; exact (h.slot u).stay ge (fun _ _ _ => rfl)
   ·intro q V u hq; exact (h.fly q V u hq).stay ge (fun _ _ _ => rfl)
   ·intro id' B hB
    have hn : G.n = H.length := h.n
    have hB2 : (H.set id (.cells (cs.set k (.list sz xs .own))))[id']? = some B := hB
    rw [hset] at hB2
    by_cases h1 : id = id'
    ·subst h1
     simp only [if_true, Option.some.injEq] at hB2
     subst hB2
     have hb0 : BoxR G' w id (.cells cs) := (h.box id _ hH).stay ge (by omega) (fun _ _ => rfl) (fun _ _ _ _ _ _ _ => rfl) (fun _ _ _ _ _ => rfl)
     intro j V hV
     rw [hcs] at hV
     by_cases hj : k = j
     ·subst hj
      simp only [if_true, Option.some.injEq] at hV
      subst hV
      refine ⟨v, hcell, ?_⟩
      rw [hv]
      exact Rv.list sz xs .own b o len cap f g1 g2 (by simp) g3 (fun i X j Y hX hY => (g4 i X j Y hX hY).stay ge) g5 (fun x hx => .inr ⟨rfl, by omega, by omega⟩) g6
     ·simp only [hj, if_false] at hV
      exact hb0 j V hV
    ·simp only [h1, if_false] at hB2
     have hid : id' < G.n := by
      have hl : id' < H.length := (List.getElem?_eq_some_iff.1 hB2).1
      omega
     exact (h.box id' B hB2).stay ge hid (fun _ _ => rfl) (fun _ _ _ _ _ _ _ => rfl) (fun _ _ _ _ _ => rfl)
   ·intro p a ha
    by_cases hp : p = .cell id k
    ·subst hp
     obtain rfl := own_t a ha
     refine ⟨⟨hok.lt, hok.cells, hok.frozen, fun x h1 hd => ?_⟩, .inr ⟨_, hown, rfl⟩⟩
     have h1' : o + len * sz ≤ x := h1
     rcases hd with hd | ⟨_, _, hd⟩
     ·exact hok.D x (by show o ≤ x; omega) hd
     ·omega
    ·have ha' := ha
     rw [same p hp] at ha'
     have hk' := h.ok p a ha'
     exact ⟨⟨hk'.lt, hk'.cells, hk'.frozen, hDa p a hp ha'⟩, .inr ⟨a, ha', rfl⟩⟩
theorem agh_ok {E G tm H w} {e e' : Env} {H' : Heap} {g : Ghost} (h : St E G ⟨e.get, tm, [], H⟩ w) (hg : agh g e H = some (e', H')) : ∃ G', St E G' ⟨e'.get, tm, [], H'⟩ w := by
 cases g with
 | kill ts =>
  simp only [agh, Option.some.injEq, Prod.mk.injEq] at hg
  obtain ⟨rfl, rfl⟩ := hg
  exact ⟨G, h.kills ts e⟩
 | freeze t =>
  simp only [agh] at hg
  split at hg
  ·rename_i sz xs ht
   simp only [Option.some.injEq, Prod.mk.injEq] at hg
   obtain ⟨rfl, rfl⟩ := hg
   rw [Env.get_put']
   exact h.frz ht
  ·simp only [Option.some.injEq, Prod.mk.injEq] at hg
   obtain ⟨rfl, rfl⟩ := hg
   exact ⟨G, h⟩
  ·cases hg
 | thaw t =>
  simp only [agh] at hg
  split at hg
  ·rename_i sz xs ht
   simp only [Option.some.injEq, Prod.mk.injEq] at hg
   obtain ⟨rfl, rfl⟩ := hg
   rw [Env.get_put']
   exact h.thw ht
  ·simp only [Option.some.injEq, Prod.mk.injEq] at hg
   obtain ⟨rfl, rfl⟩ := hg
   exact ⟨G, h⟩
  ·cases hg
 | back t =>
  simp only [agh] at hg
  split at hg
  ·rename_i id ht
   split at hg
   ·rename_i sz xs hH
    simp only [Option.some.injEq, Prod.mk.injEq] at hg
    obtain ⟨rfl, rfl⟩ := hg
    rw [Env.get_put']
    exact ⟨G, h.bck ht hH⟩
   ·cases hg
  ·simp only [Option.some.injEq, Prod.mk.injEq] at hg
   obtain ⟨rfl, rfl⟩ := hg
   exact ⟨G, h⟩
  ·cases hg
 | thawC t off =>
  simp only [agh] at hg
  split at hg
  ·rename_i id o ht
   split at hg
   ·rename_i cs hH
    split at hg
    ·rename_i sz xs hk
     simp only [Option.some.injEq, Prod.mk.injEq] at hg
     obtain ⟨rfl, rfl⟩ := hg
     exact h.thwC hH hk
    ·rename_i sz hk
     simp only [Option.some.injEq, Prod.mk.injEq] at hg
     obtain ⟨rfl, rfl⟩ := hg
     have hid : id < H.length := (List.getElem?_eq_some_iff.1 hH).1
     have hkc : o + off < cs.length := (List.getElem?_eq_some_iff.1 hk).1
     have := (h.fulC hH hk).thwC (id := id) (k := o + off) (sz := sz) (cs := cs.set (o + off) (.list sz [] .uniq)) (xs := []) (by simp [hid]) (by simp [hkc])
     rw [List.set_set, List.set_set, List.length_set] at this
     exact this
    ·simp only [Option.some.injEq, Prod.mk.injEq] at hg
     obtain ⟨rfl, rfl⟩ := hg
     exact ⟨G, h⟩
    ·cases hg
   ·cases hg
  ·cases hg
 | backC t off =>
  simp only [agh] at hg
  split at hg
  ·rename_i id o ht
   split at hg
   ·rename_i cs hH
    split at hg
    ·rename_i b hk
     split at hg
     ·rename_i sz xs hb
      simp only [Option.some.injEq, Prod.mk.injEq] at hg
      obtain ⟨rfl, rfl⟩ := hg
      exact ⟨G, h.bckC hH hk hb⟩
     ·cases hg
    ·simp only [Option.some.injEq, Prod.mk.injEq] at hg
     obtain ⟨rfl, rfl⟩ := hg
     exact ⟨G, h⟩
    ·cases hg
   ·cases hg
  ·cases hg
 | freezeC t off =>
  simp only [agh] at hg
  split at hg
  ·rename_i id o ht
   split at hg
   ·rename_i cs hH
    split at hg
    ·rename_i sz xs hk
     simp only [Option.some.injEq, Prod.mk.injEq] at hg
     obtain ⟨rfl, rfl⟩ := hg
     exact h.frzC hH hk
    ·simp only [Option.some.injEq, Prod.mk.injEq] at hg
     obtain ⟨rfl, rfl⟩ := hg
     exact ⟨G, h⟩
    ·cases hg
   ·cases hg
  ·cases hg
end Go.Abs
