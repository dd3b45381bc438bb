import Derived.Test.YtheaccppdikjgaaGreatDoorK21
import Derived.Carry
namespace Go.Abs
open Go
set_option linter.unusedVariables false
set_option linter.unusedSimpArgs false
theorem nodup_at {α : Type} {l : List α} (h : l.Nodup) {i j : Nat} {a : α} (hi : l[i]? = some a) (hj : l[j]? = some a) : i = j := by
 obtain ⟨hi1, hi2⟩ := List.getElem?_eq_some_iff.1 hi
 obtain ⟨hj1, hj2⟩ := List.getElem?_eq_some_iff.1 hj
 rcases Nat.lt_trichotomy i j with hlt | he | hgt
 ·exact absurd (hi2.trans hj2.symm) (List.pairwise_iff_getElem.1 h i j hi1 hj1 hlt)
 ·exact he
 ·exact absurd (hj2.trans hi2.symm) (List.pairwise_iff_getElem.1 h j i hj1 hi1 hgt)
theorem map_find {G w} {es : List (AVal × AVal)} {ms : Array MapEntry} {c : Nat} {k : IntKind} (x : Int) (hs : ms.size = es.length) (hst : MapKept.Stamped ms c)
  (hR : ∀ (j : Nat) (p : AVal × AVal) (m : MapEntry), es[j]? = some p → ms[j]? = some m → Rv G w p.1 m.key ∧ Rv G w p.2 m.val) (hall : es.all (fun p => keyOK k p.1) = true) :
  (∀ y ∈ ms.toList, MapKept.IsKey (.int k) y.key) ∧
  ((findK x es = none ∧ Instr.findNow (.int k) (.int k x) ms.toList 0 = some none ∧ ∀ y ∈ ms.toList, y.key ≠ .int k x) ∨
   ∃ i p e, findK x es = some i ∧ es[i]? = some p ∧ ms[i]? = some e ∧ Instr.findNow (.int k) (.int k x) ms.toList 0 = some (some (i, e.val)) ∧ e.key = .int k x) := by
 have hkey : ∀ (j : Nat) m, ms[j]? = some m → ∃ y p, m.key = .int k y ∧ es[j]? = some p ∧ p.1 = .int k y := by
  intro j m hm
  have hj : j < es.length := by have := (Array.getElem?_eq_some_iff.1 hm).1; omega
  have hp : es[j]? = some es[j] := List.getElem?_eq_getElem hj
  have h1 := List.all_eq_true.1 hall es[j] (List.getElem_mem hj)
  have h2 := (hR j _ m hp hm).1
  generalize es[j] = p at *
  obtain ⟨a, b⟩ := p
  cases a <;> simp only [keyOK, reduceCtorEq, Bool.false_eq_true, decide_eq_true_eq] at h1
  rename_i k' y
  subst h1
  exact ⟨y, _, Rv.int_inv h2, hp, rfl⟩
 have hks : ∀ y ∈ ms.toList, MapKept.IsKey (.int k) y.key := by
  intro y hy
  obtain ⟨j, hj⟩ := List.mem_iff_getElem?.1 hy
  obtain ⟨z, p, h1, _⟩ := hkey j y (by simpa using hj)
  rw [h1]; rfl
 refine ⟨hks, ?_⟩
 rcases MapKept.findNow_spec (d := .int k) (k := .int k x) rfl ms.toList 0 hks with ⟨h1, h2⟩ | ⟨j, e, h1, h2, h3⟩
 ·refine .inl ⟨?_, h1, h2⟩
  unfold findK
  rw [List.findIdx?_eq_none_iff]
  intro p hp
  obtain ⟨j, hj⟩ := List.mem_iff_getElem?.1 hp
  have hjl : j < ms.size := by have := (List.getElem?_eq_some_iff.1 hj).1; omega
  have hm : ms[j]? = some ms[j] := by simp [hjl]
  obtain ⟨y, p', h4, h5, h6⟩ := hkey j _ hm
  rw [hj] at h5
  simp only [Option.some.injEq] at h5; subst h5
  rw [h6]
  simp only [keyIs, beq_eq_false_iff_ne, ne_eq]
  intro he
  exact h2 _ (List.mem_iff_getElem?.2 ⟨j, (Array.getElem?_toList (xs := ms)).trans hm⟩) (by rw [h4, he])
 ·rw [Nat.zero_add] at h1
  have hej : ms[j]? = some e := by simpa using h2
  obtain ⟨y, p, h4, h5, h6⟩ := hkey j e hej
  have hyx : y = x := by rw [h4] at h3; simpa using h3
  subst hyx
  have hsome : ∃ i, findK y es = some i := by
   cases hf : findK y es with
   | some i => exact ⟨i, rfl⟩
   | none =>
    unfold findK at hf
    rw [List.findIdx?_eq_none_iff] at hf
    have := hf p (List.mem_iff_getElem?.2 ⟨j, h5⟩)
    rw [h6] at this
    simp [keyIs] at this
  obtain ⟨i, hi⟩ := hsome
  have hi' := hi
  unfold findK at hi'
  rw [List.findIdx?_eq_some_iff_getElem] at hi'
  obtain ⟨hil, hik, _⟩ := hi'
  have himl : i < ms.size := by omega
  have hm : ms[i]? = some ms[i] := by simp [himl]
  obtain ⟨z, p2, h7, h8, h9⟩ := hkey i _ hm
  have hp2 : es[i] = p2 := by rw [List.getElem?_eq_getElem hil] at h8; simpa using h8
  rw [hp2, h9] at hik
  simp only [keyIs, beq_iff_eq] at hik
  subst hik
  have hij : i = j := nodup_at hst.2.2 (a := .int k z) (by rw [List.getElem?_map]; simp [himl, h7]) (by rw [List.getElem?_map, h2]; simp [h3])
  subst hij
  exact .inr ⟨i, p, e, hi, h5, hej, h1, h3⟩
theorem St.newMap {E G env tm fly H w} (h : St E G ⟨env, tm, fly, H⟩ w) :
  ∃ G', St E G' ⟨env, tm, [(.map (some H.length), .map (some w.heap.size))], H ++ [.map []]⟩ (w.alloc (.map #[] 0)) := by
 let G' : Gh := { G with n := G.n + 1, μ := upd G.μ G.n w.heap.size }
 have hn : G.n = H.length := h.n
 have hcell : ∀ b o, b < w.heap.size → (w.alloc (.map #[] 0)).cell? (at_ b o) = w.cell? (at_ b o) := fun b o hb => cell_of_heap (heap_alloc_lt hb)
 have ge : GE G w G' (w.alloc (.map #[] 0)) := {
  n := Nat.le_succ _
  D := fun _ _ h => h
  μ := fun id hid => upd_ne _ _ (Nat.ne_of_lt hid)
  sl := fun _ _ => rfl
  sz := fun _ _ => rfl
  cell := fun b o hd => hcell b o (h.Db b o hd)
  still := .ofPush rfl rfl rfl rfl }
 have hμ : G'.μ H.length = w.heap.size := by rw [← hn]; exact upd_eq _ _ _
 have key : ∀ p a, ((∃ i, p = .fly 0 i) ∨ (∃ id off, p = .cell id off ∧ H.length ≤ id) ∨ ∃ id, p = .box id ∧ H.length ≤ id) →
   ownP G' ⟨env, tm, [(.map (some H.length), .map (some w.heap.size))], H ++ [.map []]⟩ (w.alloc (.map #[] 0)) p = some a → p = .box H.length ∧ a = (w.heap.size, 0, 0) := by
  intro p a hp hpa
  rcases hp with ⟨i, rfl⟩ | ⟨id, off, rfl, hid⟩ | ⟨id, rfl, hid⟩
  ·simp only [ownP, List.getElem?_cons_zero] at hpa; rw [ownC_plain rfl] at hpa; cases hpa
  ·by_cases he : id = H.length
   ·subst he
    simp only [ownP, List.getElem?_append_right (Nat.le_refl _), Nat.sub_self, List.getElem?_cons_zero] at hpa
    cases hpa
   ·simp only [ownP] at hpa
    rw [List.getElem?_eq_none (by simp; omega)] at hpa; cases hpa
  ·by_cases he : id = H.length
   ·subst he
    simp only [ownP, List.getElem?_append_right (Nat.le_refl _), Nat.sub_self, List.getElem?_cons_zero, hμ, Option.some.injEq] at hpa
    exact ⟨rfl, hpa.symm⟩
   ·simp only [ownP] at hpa
    rw [List.getElem?_eq_none (by simp; omega)] at hpa; cases hpa
 refine ⟨G', h.grow ge [.map []] (by simp [G', hn]) (fun b o hd => Nat.lt_of_lt_of_le (h.Db b o hd) (by rw [size_alloc]; omega)) (by rw [size_alloc]; omega) 0
  (fun b hb => .inl (heap_alloc_lt hb)) (fun b o hd => .inl hd) _ _ ?_ ?_ (.box H.length) (fun _ => .fly 0 0)
  (fun p => ⟨_, _, rfl⟩) ?_ ?_ ?_⟩
 ·rw [← hμ]; exact Rt.of (.map H.length (by simp [G', hn])) rfl
 ·intro k B hB
  cases k with
  | zero =>
   simp at hB; subst hB
   refine ⟨#[], 0, ?_, rfl, MapKept.stamped_empty 0, fun j p m hp hm => by simp at hp⟩
   rw [Nat.add_zero, hμ]; exact heap_alloc_eq
  | succ k => simp at hB
 ·intro i a ha; rw [ownC_plain rfl] at ha; cases ha
 ·intro p a hp hpa
  obtain ⟨rfl, rfl⟩ := key p a (.inr hp) hpa
  refine ⟨⟨by rw [size_alloc]; exact Nat.lt_succ_self _, .inl rfl, fun h0 => absurd rfl h0, fun x _ hd => ?_⟩, .inl ⟨rfl, Nat.le_refl _⟩⟩
  exact absurd (h.Db _ _ hd) (Nat.lt_irrefl _)
 ·intro p q a b hp hq hpa hqa _
  rw [(key q b hq hqa).1, (key p a (by rcases hp with rfl | hp <;> first | exact .inl ⟨0, rfl⟩ | exact hp) hpa).1]
theorem St.setMap {E G env tm fly H w id} {es es' : List (AVal × AVal)} (h : St E G ⟨env, tm, fly, H⟩ w) (hH : H[id]? = some (.map es)) (ms' : Array MapEntry) (c' : Nat) (hs : ms'.size = es'.length)
  (hst : MapKept.Stamped ms' c') (hR : ∀ (j : Nat) (p : AVal × AVal) (m : MapEntry), es'[j]? = some p → ms'[j]? = some m → Rv G w p.1 m.key ∧ Rv G w p.2 m.val) :
  St E G ⟨env, tm, [], H.set id (.map es')⟩ { w with heap := w.heap.setIfInBounds (G.μ id) (.map ms' c') } := by
 obtain ⟨ms, c, hbm, _, _, _⟩ := h.box id _ hH
 let w' : World := { w with heap := w.heap.setIfInBounds (G.μ id) (.map ms' c') }
 have hidl : id < H.length := (List.getElem?_eq_some_iff.1 hH).1
 have hidn : id < G.n := by have := h.n; simp only at this; omega
 have hbo := own_box_map (G := G) (S := ⟨env, tm, fly, H⟩) (w := w) hH
 have hok := h.ok _ _ hbo
 obtain ⟨hw1, hne⟩ := MapKept.heap_set (w := w) (o' := .map ms' c') hbm
 have hnoD : ∀ o, ¬ G.D (G.μ id) o := fun o => hok.D o (Nat.zero_le _)
 have hsz : w'.heap.size = w.heap.size := by simp [w']
 have hst' : Still w w' := ⟨rfl, rfl, rfl, fun i c1 e1 f1 h1 => by
  by_cases hi : i = G.μ id
  ·subst hi; rw [hbm] at h1; cases h1
  ·exact ⟨c1, f1, by rw [show w'.heap[i]? = w.heap[i]? from hne i hi]; exact h1, rfl, _root_.id⟩⟩
 have ge : GE G w G w' := ⟨Nat.le_refl _, fun _ _ h => h, fun _ _ => rfl, fun _ _ => rfl, fun _ _ => rfl, fun b o hd =>
  cell_of_heap (hne b (fun e => hnoD o (e ▸ hd))), hst'⟩
 have away : ∀ q a, q ≠ .box id → ownP G ⟨env, tm, fly, H⟩ w q = some a → w'.heap[a.1]? = w.heap[a.1]? := by
  intro q a hq ha
  exact hne _ (fun e => h.dis q (.box id) a _ hq ha hbo e)
 have hset : ∀ id', (H.set id (Box.map es'))[id']? = if id = id' then some (Box.map es') else H[id']? := by
  intro id'; rw [List.getElem?_set]; split <;> simp_all
 have μne : ∀ id' B, id' ≠ id → H[id']? = some B → (∀ sz xs, B ≠ .arr sz xs) → B ≠ .dead → w'.heap[G.μ id']? = w.heap[G.μ id']? := by
  intro id' B hi hB h1 h2
  cases B with
  | cells cs' => exact away (.box id') _ (by simp [hi]) (own_box_cells hB)
  | map es => exact away (.box id') _ (by simp [hi]) (own_box_map hB)
  | iter s p => exact away (.box id') _ (by simp [hi]) (own_box_iter hB)
  | arr sz xs => exact absurd rfl (h1 _ _)
  | dead => exact absurd rfl h2
 have carry : ∀ q a, ownP G ⟨env, tm, [], H.set id (Box.map es')⟩ w' q = some a → ownP G ⟨env, tm, fly, H⟩ w q = some a := by
  intro q a ha
  cases q with
  | slot => exact ha
  | fly k i => simp [ownP] at ha
  | cell id' x =>
   by_cases hi : id = id'
   ·subst hi
    simp [ownP, hset] at ha
   ·simp only [ownP, hset, hi, if_false] at ha ⊢
    cases hB : H[id']? with
    | none => simp [hB] at ha
    | some B =>
     cases B with
     | cells cs' =>
      simp only [hB] at ha ⊢
      rwa [cellv_of_heap (μne id' _ (fun e => hi e.symm) hB (by simp) (by simp))] at ha
     | _ => simp [hB] at ha
  | box id' =>
   by_cases hi : id = id'
   ·subst hi
    simp only [ownP, hset, if_true] at ha
    simp only [ownP, hH]; exact ha
   ·simp only [ownP, hset, hi, if_false] at ha ⊢
    exact ha
 refine h.next (S' := ⟨env, tm, [], H.set id (Box.map es')⟩) (w' := w') ge (by simpa using h.n) (Nat.le_refl _) (fun b o hd => by rw [hsz]; exact h.Db b o hd)
  (by rw [hsz]; exact Nat.le_refl _) ?_ (fun b o hd => .inl hd) ?_ ?_ ?_ _root_.id (.fly 0 0) ?_ (fun p q a b _ _ e => e)
 ·intro b hb
  by_cases hbb : b = G.μ id
  ·exact .inr ⟨_, _, hbo, hbb.symm⟩
  ·exact .inl (hne b hbb)
 ·intro u
  exact (h.slot u).stay ge (fun i a ha => away (.slot u i) a (by simp) ha)
 ·intro k X x hk; simp at hk
 ·intro id' B hB
  rw [hset] at hB
  by_cases hi : id = id'
  ·subst hi
   simp only [if_true, Option.some.injEq] at hB; subst hB
   exact ⟨ms', c', hw1, hs, hst, fun j p m hp hm => ⟨((hR j p m hp hm).1).stay ge, ((hR j p m hp hm).2).stay ge⟩⟩
  ·simp only [hi, if_false] at hB
   have hi' : id' ≠ id := fun e => hi e.symm
   have hidl' : id' < G.n := by
    have := (List.getElem?_eq_some_iff.1 hB).1
    have hn := h.n; simp only at hn; omega
   refine (h.box id' B hB).stay ge hidl' (fun h1 h2 => μne id' B hi' hB h1 h2) ?_ ?_
   ·intro cs' x Y a hBc hY ha
    subst hBc
    exact away (.cell id' x) a (by simp) (by simp only [ownP, hB, hY]; exact ha)
   ·intro sz xs a hBc ha
    subst hBc
    exact away (.box id') a (by simp [hi']) (by simp only [ownP, hB]; exact ha)
 ·intro q a ha
  have ha' := carry q a ha
  refine ⟨?_, .inr ⟨a, ha', rfl⟩⟩
  have hok' := h.ok _ _ ha'
  by_cases hqb : q = .box id
  ·subst hqb
   rw [hbo] at ha'
   simp only [Option.some.injEq] at ha'; subst ha'
   exact ⟨by rw [hsz]; exact hok.lt, .inl rfl, fun h0 => absurd rfl h0, hok.D⟩
  ·exact hok'.stay (by rw [hsz]; exact Nat.le_refl _) (away _ a hqb ha') hok'.D
section
variable {P : Program}
theorem mkmap_ok {E G env tm fly H w} {t : TypeId} (h : St E G ⟨env, tm, fly, H⟩ w) : Does P E env tm (Instr.makeMap t none) w (.map (some H.length)) (H ++ [.map []]) := by
 obtain ⟨G', hG⟩ := h.newMap
 exact ⟨_, _, G', rfl, hG⟩
structure ZW (P : Program) (t : TypeId) (zero : AVal) : Prop where
 z : ∃ i z, P.info? t = some i ∧ i.zero = some z ∧ ∀ G w, Rv G w zero z
theorem lookup_ok {E G env tm H w} {t kt et : TypeId} {k k' : IntKind} {zero : AVal} {ok : Bool} (ht : P.underlying t = some (.map kt et)) (hkt : P.underlying kt = some (.int k)) (hz : ZW P et zero)
  {m x : AVal} {mv xv : Value} (h : St E G ⟨env, tm, [(m, mv), (x, xv)], H⟩ w) {V : AVal} (he : evLookup k zero ok m x H = some V) : Does P E env tm (Instr.lookup t mv xv ok) w V H := by
 unfold evLookup at he
 split at he
 ·rename_i id
  split at he
  ·rename_i es hH
   split at he
   ·rename_i k'' n
    split at he
    ·rename_i hc
     obtain ⟨rfl, hall⟩ := hc
     have hm : Rv G w (.map (some id)) mv := h.fly 0 _ _ rfl
     have hx := Rv.int_inv (show Rv G w (.int k'' n) xv from h.fly 1 _ _ rfl)
     subst hx
     cases hm
     obtain ⟨ms, c, hb, hs, hst, hR⟩ := h.box id _ hH
     obtain ⟨i0, z, hi, hiz, hzv⟩ := hz.z
     have hck := MapKept.run_checkKey (P := P) (w := w) (k := .int k'' n) hkt rfl ms.isEmpty 9999
     have hfin : ∀ (r : Option Nat) (v : Value) (Vv : AVal), Rv G w Vv v → Vv.argOK = true → (Instr.lookup t (.map (some (G.μ id))) (.int k'' n) ok).run P w = .ok (if ok then .tuple #[v, .bool r.isSome] else v) w →
       V = (if ok then .tuple [Vv.strip, .bool r.isSome] else Vv.strip) → Does P E env tm (Instr.lookup t (.map (some (G.μ id))) (.int k'' n) ok) w V H := by
      intro r v Vv hv ha hrun hV
      have hpl : Vv.strip.plain = true := AVal.plain_strip _ (fun vs e => by subst e; simp [AVal.argOK] at ha)
      cases ok
      ·simp only [Bool.false_eq_true, if_false] at hV hrun
       subst hV
       exact Does.pure h hrun hv.strip hpl
      ·simp only [if_true] at hV hrun
       subst hV
       refine ⟨_, w, G, hrun, h.res ?_ 0 ?_⟩
       ·refine ⟨_, rfl, rfl, fun i X hX => ?_⟩
        match i, hX with
        | 0, hX => simp at hX; subst hX; exact Rt0.ofRv hv.strip
        | 1, hX => simp at hX; subst hX; exact Rt0.ofRv (.bool _)
        | i + 2, hX => simp at hX
       ·intro i a ha2
        simp only [ownC] at ha2
        have h0 : ∀ v, own0 Vv.strip v = none := fun v => by
         have := ownC_plain hpl v 0
         cases hs : Vv.strip <;> rw [hs] at this hpl <;> first | rfl | (simpa [ownC] using this) | (simp [AVal.plain] at hpl)
        match i, ha2 with
        | 0, ha2 => simp [h0] at ha2
        | 1, ha2 => simp [own0] at ha2
        | i + 2, ha2 => simp at ha2
     rcases (map_find (k := k'') n hs hst hR hall).2 with ⟨h1, h2, h3⟩ | ⟨i, p, e, h1, h2, h3, h4, h5⟩
     ·rw [h1] at he
      unfold lookA at he
      simp only at he
      obtain ⟨ha, he2⟩ := ite_some he
      simp only [Option.some.injEq] at he2
      refine hfin none z zero (hzv G w) ha ?_ he2.symm
      have hfk := MapKept.run_findKey (P := P) (w := w) hkt h2
      simp [Instr.lookup, run_underlying ht, MapKept.run_getObj_map hb, hck, hfk, zeroValue, typeInfo, hi, hiz]
     ·rw [h1] at he
      unfold lookA at he
      simp only [h2] at he
      obtain ⟨ha, he2⟩ := ite_some he
      simp only [Option.some.injEq] at he2
      refine hfin (some i) e.val p.2 (hR i p e h2 h3).2 ha ?_ he2.symm
      have hfk := MapKept.run_findKey (P := P) (w := w) hkt h4
      simp [Instr.lookup, run_underlying ht, MapKept.run_getObj_map hb, hck, hfk]
    ·cases he
   ·cases he
  ·cases he
 ·cases he
theorem mapSet_ok {E G env tm H w} {t kt et : TypeId} {k : IntKind} (ht : P.underlying t = some (.map kt et)) (hkt : P.underlying kt = some (.int k))
  {m x y : AVal} {mv xv yv : Value} (h : St E G ⟨env, tm, [(m, mv), (x, xv), (y, yv)], H⟩ w) {V : AVal} {H' : Heap} (he : evMapSet k m x y H = some (V, H')) :
  ∃ w', (Instr.mapUpdate t mv xv yv).run P w = .ok () w' ∧ V = .tuple [] ∧ St E G ⟨env, tm, [], H'⟩ w' := by
 unfold evMapSet at he
 split at he
 ·rename_i id
  split at he
  ·rename_i es hH
   split at he
   ·rename_i k'' n
    split at he
    ·rename_i hc
     obtain ⟨rfl, hall, hya⟩ := hc
     simp only [Option.some.injEq, Prod.mk.injEq] at he
     obtain ⟨rfl, rfl⟩ := he
     have hm : Rv G w (.map (some id)) mv := h.fly 0 _ _ rfl
     have hx := Rv.int_inv (show Rv G w (.int k'' n) xv from h.fly 1 _ _ rfl)
     subst hx
     have hy : Rv G w y.strip yv := ((h.fly 2 _ _ rfl).arg hya).strip
     cases hm
     obtain ⟨ms, c, hb, hs, hst, hR⟩ := h.box id _ hH
     have hck := MapKept.run_checkKey (P := P) (w := w) (k := .int k'' n) hkt rfl false 9999
     rcases (map_find (k := k'') n hs hst hR hall).2 with ⟨h1, h2, h3⟩ | ⟨i, p, e, h1, h2, h3, h4, h5⟩
     ·have hfk := MapKept.run_findKey (P := P) (w := w) hkt h2
      refine ⟨_, ?_, rfl, h.setMap hH (ms.push { key := .int k'' n, val := yv, born := c }) (c + 1) ?_ (MapKept.stamped_push hst h3) ?_⟩
      ·simp [Instr.mapUpdate, run_underlying ht, MapKept.run_getObj_map hb, hck, hfk, MapKept.run_setObj_map _ hb]
      ·rw [h1]; simp [setA, hs]
      ·rw [h1]
       intro j p m hp hmj
       simp only [setA] at hp
       rw [Array.getElem?_push] at hmj
       by_cases hj : j = ms.size
       ·rw [if_pos hj] at hmj
        simp only [Option.some.injEq] at hmj; subst hmj
        rw [List.getElem?_append_right (by omega), show j - es.length = 0 by omega] at hp
        simp only [List.getElem?_cons_zero, Option.some.injEq] at hp; subst hp
        exact ⟨.int _ _, hy⟩
       ·rw [if_neg hj] at hmj
        have hjl : j < ms.size := (Array.getElem?_eq_some_iff.1 hmj).1
        rw [List.getElem?_append_left (by omega)] at hp
        exact hR j p m hp hmj
     ·have hfk := MapKept.run_findKey (P := P) (w := w) hkt h4
      have hks := MapKept.run_keyThatStays (P := P) (w := w) (d := .int k'') (k := .int k'' n) rfl
      refine ⟨_, ?_, rfl, h.setMap hH (ms.modify i fun e => { e with key := .int k'' n, val := yv }) c ?_ (MapKept.stamped_modify hst _ _ (fun _ _ => rfl) (fun e' _ he' => ?_)) ?_⟩
      ·simp [Instr.mapUpdate, run_underlying ht, MapKept.run_getObj_map hb, hck, hfk, h3, h5, hks, MapKept.run_setObj_map _ hb]
      ·rw [h1]; simp [setA, hs]
      ·rw [h3] at he'; cases he'; exact h5.symm
      ·rw [h1]
       intro j p' m hp hmj
       simp only [setA] at hp
       rw [Array.getElem?_modify] at hmj
       rw [List.getElem?_set] at hp
       by_cases hj : i = j
       ·subst hj
        rw [if_pos rfl, h3] at hmj
        simp only [Option.map_some, Option.some.injEq] at hmj; subst hmj
        have hil : i < es.length := (List.getElem?_eq_some_iff.1 h2).1
        rw [if_pos rfl, if_pos hil] at hp
        simp only [Option.some.injEq] at hp; subst hp
        exact ⟨.int _ _, hy⟩
       ·rw [if_neg hj] at hmj
        rw [if_neg hj] at hp
        exact hR j p' m hp hmj
    ·cases he
   ·cases he
  ·cases he
 ·cases he
end
end Go.Abs
