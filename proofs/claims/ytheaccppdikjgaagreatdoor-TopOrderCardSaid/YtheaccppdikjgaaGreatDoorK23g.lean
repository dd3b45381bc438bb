import Derived.Test.YtheaccppdikjgaaGreatDoorK23
namespace Go.Abs
open Go
set_option linter.unusedVariables false
set_option linter.unusedSimpArgs false
mutual
def valK : AVal → Value
 | .bool b => .bool b
 | .int k n => .int k n
 | .str s => .string ⟨⟨s⟩⟩
 | .agg cs => .agg (valsK cs).toArray
 | _ => undef
def valsK : List AVal → List Value
 | [] => []
 | c :: cs => valK c :: valsK cs
end
theorem fit_val {G w} : ∀ (ks : List CK) (cs : List AVal) (vs : List Value), fitCK ks cs = true → vs.length = cs.length → (∀ (j : Nat) Y, cs[j]? = some Y → Rv G w Y (vs.getD j undef)) → vs = valsK cs
 | [], [], vs, _, hl, _ => by rw [List.length_eq_zero_iff.1 hl]; rfl
 | [], _ :: _, _, h, _, _ => by simp [fitCK] at h
 | k :: ks, [], _, h, _, _ => by cases k <;> simp [fitCK] at h
 | k :: ks, c :: cs, vs, h, hl, hv => by
  cases vs with
  | nil => simp at hl
  | cons v vs =>
   have h0 := hv 0 c rfl
   simp only [List.getD_cons_zero] at h0
   have hr : ∀ (j : Nat) Y, cs[j]? = some Y → Rv G w Y (vs.getD j undef) := fun j Y hj => by simpa using hv (j + 1) Y (by simpa using hj)
   have hl' : vs.length = cs.length := by simpa using hl
   cases k <;> cases c <;> simp only [fitCK, Bool.and_eq_true, decide_eq_true_eq, Bool.false_eq_true] at h
   ·rw [fit_val ks cs vs h.2 hl' hr, Rv.int_inv h0]; rfl
   ·rw [fit_val ks cs vs h hl' hr, Rv.str_inv h0]; rfl
   ·rw [fit_val ks cs vs h hl' hr, Rv.bool_inv h0]; rfl
theorem keyG_val {G w kd V v} (hk : keyG kd V = true) (h : Rv G w V v) : v = valK V := by
 cases kd with
 | str => cases V <;> simp only [keyG, Bool.false_eq_true] at hk; exact Rv.str_inv h
 | agg ks =>
  cases V <;> simp only [keyG, Bool.false_eq_true] at hk
  rename_i cs
  cases h with
  | agg _ arr hs hv =>
   obtain ⟨l⟩ := arr
   have := fit_val ks cs l hk (by simpa using hs) (fun j Y hj => by simpa using hv j Y hj)
   show Value.agg ⟨l⟩ = Value.agg (valsK cs).toArray
   rw [this]
theorem fit_inj : ∀ (ks : List CK) (as bs : List AVal), fitCK ks as = true → fitCK ks bs = true → valsK as = valsK bs → as = bs
 | [], [], [], _, _, _ => rfl
 | [], _ :: _, _, h, _, _ => by simp [fitCK] at h
 | [], [], _ :: _, _, h, _ => by simp [fitCK] at h
 | k :: ks, [], _, h, _, _ => by cases k <;> simp [fitCK] at h
 | k :: ks, _ :: _, [], _, h, _ => by cases k <;> simp [fitCK] at h
 | k :: ks, a :: as, b :: bs, h1, h2, he => by
  simp only [valsK, List.cons.injEq] at he
  cases k <;> cases a <;> simp only [fitCK, Bool.and_eq_true, decide_eq_true_eq, Bool.false_eq_true] at h1 <;>
   cases b <;> simp only [fitCK, Bool.and_eq_true, decide_eq_true_eq, Bool.false_eq_true] at h2 <;>
   simp only [valK, Value.int.injEq, Value.string.injEq, Value.bool.injEq, ByteArray.mk.injEq, Array.mk.injEq] at he
  ·rw [fit_inj ks as bs h1.2 h2.2 he.2, he.1.1, he.1.2]
  ·rw [fit_inj ks as bs h1 h2 he.2, he.1]
  ·rw [fit_inj ks as bs h1 h2 he.2, he.1]
theorem keyG_inj {kd A B} (ha : keyG kd A = true) (hb : keyG kd B = true) (h : valK A = valK B) : A = B := by
 cases kd with
 | str =>
  cases A <;> simp only [keyG, Bool.false_eq_true] at ha
  cases B <;> simp only [keyG, Bool.false_eq_true] at hb
  simp only [valK, Value.string.injEq, ByteArray.mk.injEq, Array.mk.injEq] at h
  rw [h]
 | agg ks =>
  cases A <;> simp only [keyG, Bool.false_eq_true] at ha
  cases B <;> simp only [keyG, Bool.false_eq_true] at hb
  rename_i as bs
  have h' : (valsK as).toArray = (valsK bs).toArray := by simpa [valK] using h
  rw [fit_inj ks as bs ha hb (by simpa using h')]
theorem fit_eq {ks : List CK} : ∀ {as bs : List AVal}, fitCK ks as = true → fitCK ks bs = true → ∃ r, eqV ks (valsK as) (valsK bs) = some r ∧ (r = true ↔ as = bs) := by
 induction ks with
 | nil =>
  intro as bs h1 h2
  cases as <;> simp only [fitCK, Bool.false_eq_true] at h1
  cases bs <;> simp only [fitCK, Bool.false_eq_true] at h2
  exact ⟨true, rfl, by simp⟩
 | cons k ks ih =>
  intro as bs h1 h2
  cases as with
  | nil => cases k <;> simp [fitCK] at h1
  | cons a as =>
  cases bs with
  | nil => cases k <;> simp [fitCK] at h2
  | cons b bs =>
  cases k <;> cases a <;> simp only [fitCK, Bool.and_eq_true, decide_eq_true_eq, Bool.false_eq_true] at h1 <;>
   cases b <;> simp only [fitCK, Bool.and_eq_true, decide_eq_true_eq, Bool.false_eq_true] at h2
  ·obtain ⟨r, h3, h4⟩ := ih h1.2 h2.2
   obtain ⟨rfl, _⟩ := h1
   obtain ⟨rfl, _⟩ := h2
   refine ⟨_, by simp only [valsK, valK, eqV, and_self, if_true, h3]; rfl, ?_⟩
   simp [h4]
  ·obtain ⟨r, h3, h4⟩ := ih h1 h2
   refine ⟨_, by simp only [valsK, valK, eqV]; rw [h3]; rfl, ?_⟩
   simp [h4]
  ·obtain ⟨r, h3, h4⟩ := ih h1 h2
   refine ⟨_, by simp only [valsK, valK, eqV]; rw [h3]; rfl, ?_⟩
   simp [h4]
theorem valsK_len : ∀ (cs : List AVal), (valsK cs).length = cs.length
 | [] => rfl
 | c :: cs => by simp [valsK, valsK_len cs]
theorem fit_len : ∀ (ks : List CK) (cs : List AVal), fitCK ks cs = true → cs.length = ks.length
 | [], [], _ => rfl
 | [], _ :: _, h => by simp [fitCK] at h
 | k :: ks, [], h => by cases k <;> simp [fitCK] at h
 | k :: ks, c :: cs, h => by
  cases k <;> cases c <;> simp only [fitCK, Bool.and_eq_true, Bool.false_eq_true] at h
  ·simp [fit_len ks cs h.2]
  ·simp [fit_len ks cs h]
  ·simp [fit_len ks cs h]
section
variable {P : Program}
theorem check_plain {t : TypeId} (h : plainT P t = true) (e : Bool) (n : Nat) (v : Value) (w : World) : (Instr.checkKey e (n + 1) t v).run P w = .ok () w := by
 unfold plainT at h
 unfold Instr.checkKey
 cases hu : P.underlying t with
 | none => simp [hu] at h
 | some d =>
  rw [hu] at h
  simp only [Sem.run_bind, run_underlying hu, Result.andThen_ok]
  cases d <;> first | (cases h; done) | (cases v <;> rfl)
theorem check_agg {kt : TypeId} {ks : List CK} {fs : Array Field} (hu : P.underlying kt = some (.struct fs)) (hc : cksOf P 2 kt = some ks) (hp : ∀ f ∈ fs.toList, plainT P f.type = true) {xs : List Value} (hx : xs.length = ks.length) (e : Bool) (n : Nat) (w : World) :
  (Instr.checkKey e (n + 2) kt (.agg xs.toArray)).run P w = .ok () w := by
 have hc' : cksFields P 1 fs.toList 0 = some ks := by
  unfold cksOf at hc
  rw [hu] at hc
  simp only at hc
  split at hc
  ·cases hc
  ·exact hc
 rw [Instr.checkKey]
 simp only [Sem.run_bind, run_underlying hu, Result.andThen_ok]
 rw [← Array.forIn_toList]
 have hle : 0 + ks.length ≤ xs.length := by omega
 clear hc hx
 generalize fs.toList = L at hc' hp
 generalize (0 : Nat) = off at hc' hle
 induction L generalizing off ks with
 | nil => simp
 | cons f L ih =>
  simp only [cksFields, cksFieldsF, Option.bind_eq_some_iff] at hc'
  obtain ⟨ks1, hk1, hc'⟩ := hc'
  obtain ⟨⟨g1, g2, g3, g4⟩, hc'⟩ := ite_some hc'
  simp only [Option.map_eq_some_iff] at hc'
  obtain ⟨ks2, hk2, rfl⟩ := hc'
  have hpf := hp f (by simp)
  obtain ⟨df, hdf⟩ : ∃ df, P.underlying f.type = some df := by
   unfold plainT at hpf
   cases hq : P.underlying f.type with
   | none => simp [hq] at hpf
   | some df => exact ⟨df, rfl⟩
  have h1 : aggT P f.type = false → ks1.length = 1 := by
   intro hag
   unfold cksOf at hk1
   unfold aggT at hag
   rw [hdf] at hk1 hag
   cases df <;> simp at hk1 hag <;> subst hk1 <;> rfl
  rw [List.length_append] at hle
  have p1 := part_mkv (P := P) hdf g4 g3 (xs := xs) (off := off) (by omega) h1 w
  have p2 := check_plain hpf e n (mkv P f.type ((xs.drop off).take ks1.length)) w
  simp only [List.forIn_cons, Sem.run_bind, g1, ne_eq, not_false_eq_true, if_true, Result.andThen_ok, g2, p1, p2, Sem.run_pure]
  exact ih (fun y hy => hp y (by simp [hy])) (off + ks1.length) hk2 (by omega)
theorem keyTy_agg {kt : TypeId} {ks : List CK} (hk : keyTy P kt (.agg ks) = true) : cksOf P 2 kt = some ks ∧ ∃ fs, P.underlying kt = some (.struct fs) ∧ ∀ f ∈ fs.toList, plainT P f.type = true := by
 unfold keyTy at hk
 rw [Bool.and_eq_true] at hk
 obtain ⟨h1, h2⟩ := hk
 constructor
 ·split at h1
  ·rename_i ks' h3
   simp only [decide_eq_true_eq] at h1
   rw [h3, h1]
  ·cases h1
 ·split at h2
  ·rename_i fs hu
   exact ⟨fs, hu, fun f hf => List.all_eq_true.1 h2 f hf⟩
  ·cases h2
theorem checkG {kt : TypeId} {kd : KD} (hk : keyTy P kt kd = true) {V : AVal} (hV : keyG kd V = true) (e : Bool) (w : World) : (Instr.checkKey e 10000 kt (valK V)).run P w = .ok () w := by
 cases kd with
 | str =>
  cases V <;> simp only [keyG, Bool.false_eq_true] at hV
  exact MapKept.run_checkKey (P := P) (w := w) (k := valK (.str _)) (isStr_eq hk) trivial e 9999
 | agg ks =>
  cases V <;> simp only [keyG, Bool.false_eq_true] at hV
  rename_i cs
  obtain ⟨h1, fs, hu, hp⟩ := keyTy_agg hk
  exact check_agg hu h1 hp (by rw [valsK_len, fit_len ks cs hV]) e 9998 w
theorem eqG {kt : TypeId} {ks : List CK} (hk : keyTy P kt (.agg ks) = true) {A B : AVal} (hA : keyG (.agg ks) A = true) (hB : keyG (.agg ks) B = true) (w : World) : ∃ r : Bool, (Op.equal kt (valK A) (valK B)).run P w = .ok r w ∧ (r = true ↔ A = B) := by
 cases A <;> simp only [keyG, Bool.false_eq_true] at hA
 cases B <;> simp only [keyG, Bool.false_eq_true] at hB
 rename_i as bs
 obtain ⟨h1, fs, hu, hp⟩ := keyTy_agg hk
 obtain ⟨r, h2, h3⟩ := fit_eq hA hB
 have := eq_run (P := P) 2 kt ks h1 10000 (by decide) _ _ r h2 w
 have ha : aggT P kt = true := by simp [aggT, hu]
 simp only [mkv, ha, if_true] at this
 exact ⟨r, this, by rw [h3]; simp⟩
theorem find_ask {kt : TypeId} {ks : List CK} (hk : keyTy P kt (.agg ks) = true) {A : AVal} (hA : keyG (.agg ks) A = true) (w : World) : ∀ (l : List MapEntry) (i : Nat), (∀ e ∈ l, ∃ B, keyG (.agg ks) B = true ∧ e.key = valK B) →
  ((Instr.findAsking kt (valK A) l i).run P w = .ok none w ∧ ∀ e ∈ l, e.key ≠ valK A) ∨ ∃ j e, (Instr.findAsking kt (valK A) l i).run P w = .ok (some (i + j, e.val)) w ∧ l[j]? = some e ∧ e.key = valK A
 | [], i, _ => .inl ⟨by simp [Instr.findAsking], by simp⟩
 | e :: l, i, hall => by
  obtain ⟨B, hB, he⟩ := hall e (by simp)
  obtain ⟨r, hr, hiff⟩ := eqG hk hA hB w
  rw [← he] at hr
  cases r
  ·have hne : e.key ≠ valK A := fun h => by
    rw [he] at h
    have := hiff.2 (keyG_inj hA hB h.symm)
    cases this
   rcases find_ask hk hA w l (i + 1) (fun y hy => hall y (by simp [hy])) with ⟨h1, h2⟩ | ⟨j, e', h1, h2, h3⟩
   ·refine .inl ⟨by simp [Instr.findAsking, hr, h1], fun y hy => ?_⟩
    rcases List.mem_cons.1 hy with rfl | hy
    ·exact hne
    ·exact h2 y hy
   ·refine .inr ⟨j + 1, e', ?_, by simpa using h2, h3⟩
    simp only [Instr.findAsking, Sem.run_bind, hr, Result.andThen_ok, Bool.false_eq_true, if_false, h1]
    rw [show i + 1 + j = i + (j + 1) by omega]
  ·exact .inr ⟨0, e, by simp [Instr.findAsking, hr], rfl, by rw [he, hiff.1 rfl]⟩
theorem findKeyG {kt : TypeId} {kd : KD} (hk : keyTy P kt kd = true) {A : AVal} (hA : keyG kd A = true) (w : World) (l : List MapEntry) (hall : ∀ e ∈ l, ∃ B, keyG kd B = true ∧ e.key = valK B) :
  ((Instr.findKey kt (valK A) l).run P w = .ok none w ∧ ∀ e ∈ l, e.key ≠ valK A) ∨ ∃ j e, (Instr.findKey kt (valK A) l).run P w = .ok (some (j, e.val)) w ∧ l[j]? = some e ∧ e.key = valK A := by
 cases kd with
 | str =>
  have hu := isStr_eq hk
  cases A <;> simp only [keyG, Bool.false_eq_true] at hA
  rename_i s
  have hks : ∀ y ∈ l, MapKept.IsKey .string y.key := by
   intro y hy
   obtain ⟨B, hB, he⟩ := hall y hy
   cases B <;> simp only [keyG, Bool.false_eq_true] at hB
   rw [he]; trivial
  rcases MapKept.findNow_spec (d := .string) (k := valK (.str s)) trivial l 0 hks with ⟨h1, h2⟩ | ⟨j, e, h1, h2, h3⟩
  ·exact .inl ⟨MapKept.run_findKey hu h1, h2⟩
  ·rw [Nat.zero_add] at h1
   exact .inr ⟨j, e, MapKept.run_findKey hu h1, h2, h3⟩
 | agg ks =>
  obtain ⟨h1, fs, hu, hp⟩ := keyTy_agg hk
  cases l with
  | nil => exact .inl ⟨by simp [Instr.findKey, Instr.findNow, run_underlying hu], by simp⟩
  | cons e l =>
   have hn : Instr.findNow (.struct fs) (valK A) (e :: l) 0 = none := by simp [Instr.findNow, Instr.sameNow]
   have := find_ask hk hA w (e :: l) 0 hall
   simpa [Instr.findKey, run_underlying hu, hn] using this
theorem sameBitsL (n : Nat) : ∀ (l : List (Value × Value)), (∀ p ∈ l, Instr.sameBits n p.1 p.2 = true) → (l.all fun (x, y) => Instr.sameBits n x y) = true := by
 intro l h
 rw [List.all_eq_true]
 exact fun p hp => h p hp
theorem sameBits_cell {ks : List CK} : ∀ {cs : List AVal}, fitCK ks cs = true → ∀ v ∈ valsK cs, ∀ n, Instr.sameBits n v v = true := by
 induction ks with
 | nil => intro cs h v hv; cases cs <;> simp only [fitCK, Bool.false_eq_true] at h; simp [valsK] at hv
 | cons k ks ih =>
  intro cs h v hv n
  cases cs with
  | nil => cases k <;> simp [fitCK] at h
  | cons c cs =>
   simp only [valsK, List.mem_cons] at hv
   have one : ∀ u, (u = .bool true ∨ u = .bool false ∨ (∃ k n, u = .int k n) ∨ ∃ s, u = .string s) → Instr.sameBits n u u = true := by
    rintro u (rfl | rfl | ⟨k, m, rfl⟩ | ⟨s, rfl⟩)
    ·unfold Instr.sameBits; rfl
    ·unfold Instr.sameBits; rfl
    ·exact MapKept.sameBits_self (d := .int k) (k := Value.int k m) rfl n
    ·exact MapKept.sameBits_self (d := .string) (k := Value.string s) trivial n
   cases k <;> cases c <;> simp only [fitCK, Bool.and_eq_true, Bool.false_eq_true] at h
   ·rcases hv with rfl | hv
    ·exact one _ (.inr (.inr (.inl ⟨_, _, rfl⟩)))
    ·exact ih h.2 v hv n
   ·rcases hv with rfl | hv
    ·exact one _ (.inr (.inr (.inr ⟨_, rfl⟩)))
    ·exact ih h v hv n
   ·rcases hv with rfl | hv
    ·rename_i b
     cases b
     ·exact one _ (.inr (.inl rfl))
     ·exact one _ (.inl rfl)
    ·exact ih h v hv n
theorem staysG {kd : KD} {A : AVal} (hA : keyG kd A = true) (w : World) : (Instr.keyThatStays (valK A) (valK A)).run P w = .ok (valK A) w := by
 cases kd with
 | str =>
  cases A <;> simp only [keyG, Bool.false_eq_true] at hA
  exact MapKept.run_keyThatStays (P := P) (w := w) (d := .string) trivial
 | agg ks =>
  cases A <;> simp only [keyG, Bool.false_eq_true] at hA
  rename_i cs
  unfold Instr.keyThatStays
  have : Instr.sameBits 10000 (valK (.agg cs)) (valK (.agg cs)) = true := by
   show (_ == _ && _) = true
   rw [Bool.and_eq_true]
   refine ⟨by simp, ?_⟩
   apply sameBitsL
   intro p hp
   have h1 := List.of_mem_zip hp
   have : p.1 = p.2 := by
    obtain ⟨i, hi⟩ := List.mem_iff_getElem?.1 hp
    rw [List.getElem?_zip_eq_some] at hi
    have := hi.1.symm.trans hi.2
    simpa using this
   rw [← this]
   exact sameBits_cell hA p.1 (by simpa using h1.1) _
  rw [if_pos this]; rfl
theorem map_findG {G w} {es : List (AVal × AVal)} {ms : Array MapEntry} {c : Nat} {kd : KD} {kt : TypeId} (hk : keyTy P kt kd = true) {x : AVal} (hx : keyG kd x = true) (hs : ms.size = es.length) (hst : MapKept.Stamped ms c)
  (hR : ∀ (j : Nat) (p : AVal × AVal) (m : MapEntry), es[j]? = some p → ms[j]? = some m → Rv G w p.1 m.key ∧ Rv G w p.2 m.val) (hall : es.all (fun p => keyG kd p.1) = true) :
  (findG x es = none ∧ (Instr.findKey kt (valK x) ms.toList).run P w = .ok none w ∧ ∀ y ∈ ms.toList, y.key ≠ valK x) ∨
  ∃ i p e, findG x es = some i ∧ es[i]? = some p ∧ ms[i]? = some e ∧ (Instr.findKey kt (valK x) ms.toList).run P w = .ok (some (i, e.val)) w ∧ e.key = valK x := by
 have hkey : ∀ (j : Nat) m, ms[j]? = some m → ∃ p, es[j]? = some p ∧ keyG kd p.1 = true ∧ m.key = valK p.1 := by
  intro j m hm
  have hj : j < es.length := by have := (Array.getElem?_eq_some_iff.1 hm).1; omega
  have hp : es[j]? = some es[j] := List.getElem?_eq_getElem hj
  have h1 := List.all_eq_true.1 hall es[j] (List.getElem_mem hj)
  exact ⟨_, hp, h1, keyG_val h1 (hR j _ m hp hm).1⟩
 have hks : ∀ e ∈ ms.toList, ∃ B, keyG kd B = true ∧ e.key = valK B := by
  intro y hy
  obtain ⟨j, hj⟩ := List.mem_iff_getElem?.1 hy
  obtain ⟨p, _, h2, h3⟩ := hkey j y (by simpa using hj)
  exact ⟨p.1, h2, h3⟩
 rcases findKeyG hk hx w ms.toList hks with ⟨h1, h2⟩ | ⟨j, e, h1, h2, h3⟩
 ·refine .inl ⟨?_, h1, h2⟩
  unfold findG
  rw [List.findIdx?_eq_none_iff]
  intro p hp
  obtain ⟨j, hj⟩ := List.mem_iff_getElem?.1 hp
  have hjl : j < ms.size := by have := (List.getElem?_eq_some_iff.1 hj).1; omega
  have hm : ms[j]? = some ms[j] := by simp [hjl]
  obtain ⟨p', h4, h5, h6⟩ := hkey j _ hm
  rw [hj] at h4
  simp only [Option.some.injEq] at h4; subst h4
  cases hsm : p.1.same x with
  | false => rfl
  | true =>
   refine absurd ?_ (h2 ms[j] (List.mem_iff_getElem?.2 ⟨j, (Array.getElem?_toList (xs := ms)).trans hm⟩))
   rw [h6, same_eq _ _ hsm]
 ·have hej : ms[j]? = some e := by simpa using h2
  obtain ⟨p, h4, h5, h6⟩ := hkey j e hej
  have hpx : p.1 = x := keyG_inj h5 hx (by rw [← h6, h3])
  obtain ⟨i, hi⟩ : ∃ i, findG x es = some i := by
   cases hf : findG x es with
   | some i => exact ⟨i, rfl⟩
   | none =>
    unfold findG at hf
    rw [List.findIdx?_eq_none_iff] at hf
    have := hf p (List.mem_iff_getElem?.2 ⟨j, h4⟩)
    rw [hpx, same_refl] at this
    cases this
  have hi' := hi
  unfold findG at hi'
  rw [List.findIdx?_eq_some_iff_getElem] at hi'
  obtain ⟨hil, hik, _⟩ := hi'
  have himl : i < ms.size := by omega
  have hm : ms[i]? = some ms[i] := by simp [himl]
  obtain ⟨p2, h7, h8, h9⟩ := hkey i _ hm
  have hp2 : es[i] = p2 := by rw [List.getElem?_eq_getElem hil] at h7; simpa using h7
  have hp2x : p2.1 = x := by rw [hp2] at hik; exact same_eq _ _ hik
  have hij : i = j := nodup_at hst.2.2 (a := valK x) (by rw [List.getElem?_map]; simp [himl, h9, hp2x]) (by rw [List.getElem?_map, h2]; simp [h3])
  subst hij
  exact .inr ⟨i, p, e, hi, h4, hej, h1, h3⟩
theorem lookupG_ok {E G env tm H w} {t kt et : TypeId} {kd : KD} {zero : AVal} {ok : Bool} (ht : P.underlying t = some (.map kt et)) (hkt : keyTy P kt kd = true) (hz : ZW P et zero)
  {m x : AVal} {mv xv : Value} (h : St E G ⟨env, tm, [(m, mv), (x, xv)], H⟩ w) {V : AVal} (he : evLookupG kd zero ok m x H = some V) : Does P E env tm (Instr.lookup t mv xv ok) w V H := by
 unfold evLookupG at he
 split at he
 ·rename_i id
  split at he
  ·rename_i es hH
   obtain ⟨⟨hxk, hall⟩, he⟩ := ite_some he
   have hm : Rv G w (.map (some id)) mv := h.fly 0 _ _ rfl
   have hx := keyG_val hxk ((h.fly 1 _ _ rfl).arg (by cases kd <;> cases x <;> first | rfl | cases hxk))
   subst hx
   cases hm
   obtain ⟨ms, c, hb, hs, hst, hR⟩ := h.box id _ hH
   obtain ⟨i0, z, hi, hiz, hzv⟩ := hz.z
   have hck := checkG (P := P) hkt hxk ms.isEmpty w
   have hfin : ∀ (r : Option Nat) (v : Value) (Vv : AVal), Rv G w Vv v → Vv.argOK = true → (Instr.lookup t (.map (some (G.μ id))) (valK x) ok).run P w = .ok (if ok then .tuple #[v, .bool r.isSome] else v) w →
     V = (if ok then .tuple [Vv.strip, .bool r.isSome] else Vv.strip) → Does P E env tm (Instr.lookup t (.map (some (G.μ id))) (valK x) ok) w V H := by
    intro r v Vv hv ha hrun hV
    have hpl : Vv.strip.plain = true := AVal.plain_strip _ (fun vs e => by subst e; simp [AVal.argOK] at ha)
    cases ok
    ·simp only [Bool.false_eq_true, if_false] at hV hrun
     subst hV
     exact Does.pure h hrun hv.strip hpl
    ·simp only [if_true] at hV hrun
     subst hV
     refine ⟨_, w, G, hrun, h.res ?_ 0 ?_⟩
     ·refine ⟨_, rfl, rfl, fun i X hX => ?_⟩
      match i, hX with
      | 0, hX => simp at hX; subst hX; exact Rt0.ofRv hv.strip
      | 1, hX => simp at hX; subst hX; exact Rt0.ofRv (.bool _)
      | i + 2, hX => simp at hX
     ·intro i a ha2
      simp only [ownC] at ha2
      have h0 : ∀ v, own0 Vv.strip v = none := fun v => by
       have := ownC_plain hpl v 0
       cases hs : Vv.strip <;> rw [hs] at this hpl <;> first | rfl | (simpa [ownC] using this) | (simp [AVal.plain] at hpl)
      match i, ha2 with
      | 0, ha2 => simp [h0] at ha2
      | 1, ha2 => simp [own0] at ha2
      | i + 2, ha2 => simp at ha2
   rcases map_findG hkt hxk hs hst hR hall with ⟨h1, hfk, h3⟩ | ⟨i, p, e, h1, h2, h3, hfk, h5⟩
   ·rw [h1] at he
    unfold lookA at he
    simp only at he
    obtain ⟨ha, he2⟩ := ite_some he
    simp only [Option.some.injEq] at he2
    refine hfin none z zero (hzv G w) ha ?_ he2.symm
    simp [Instr.lookup, run_underlying ht, MapKept.run_getObj_map hb, hck, hfk, zeroValue, typeInfo, hi, hiz]
   ·rw [h1] at he
    unfold lookA at he
    simp only [h2] at he
    obtain ⟨ha, he2⟩ := ite_some he
    simp only [Option.some.injEq] at he2
    refine hfin (some i) e.val p.2 (hR i p e h2 h3).2 ha ?_ he2.symm
    simp [Instr.lookup, run_underlying ht, MapKept.run_getObj_map hb, hck, hfk]
  ·cases he
 ·cases he
theorem mapSetG_ok {E G env tm H w} {t kt et : TypeId} {kd : KD} (ht : P.underlying t = some (.map kt et)) (hkt : keyTy P kt kd = true)
  {m x y : AVal} {mv xv yv : Value} (h : St E G ⟨env, tm, [(m, mv), (x, xv), (y, yv)], H⟩ w) {V : AVal} {H' : Heap} (he : evMapSetG kd m x y H = some (V, H')) :
  ∃ w', (Instr.mapUpdate t mv xv yv).run P w = .ok () w' ∧ V = .tuple [] ∧ St E G ⟨env, tm, [], H'⟩ w' := by
 unfold evMapSetG at he
 split at he
 ·rename_i id
  split at he
  ·rename_i es hH
   obtain ⟨⟨hxk, hall, hya⟩, he⟩ := ite_some he
   simp only [Option.some.injEq, Prod.mk.injEq] at he
   obtain ⟨rfl, rfl⟩ := he
   have hm : Rv G w (.map (some id)) mv := h.fly 0 _ _ rfl
   have hxr := (h.fly 1 _ _ rfl).arg (show x.argOK = true by cases kd <;> cases x <;> first | rfl | cases hxk)
   have hx := keyG_val hxk hxr
   subst hx
   have hy : Rv G w y.strip yv := ((h.fly 2 _ _ rfl).arg hya).strip
   cases hm
   obtain ⟨ms, c, hb, hs, hst, hR⟩ := h.box id _ hH
   have hck := checkG (P := P) hkt hxk false w
   rcases map_findG hkt hxk hs hst hR hall with ⟨h1, hfk, h3⟩ | ⟨i, p, e, h1, h2, h3, hfk, h5⟩
   ·refine ⟨_, ?_, rfl, h.setMap hH (ms.push { key := valK x, val := yv, born := c }) (c + 1) ?_ (MapKept.stamped_push hst h3) ?_⟩
    ·simp [Instr.mapUpdate, run_underlying ht, MapKept.run_getObj_map hb, hck, hfk, MapKept.run_setObj_map _ hb]
    ·rw [h1]; simp [setA, hs]
    ·rw [h1]
     intro j p m hp hmj
     simp only [setA] at hp
     rw [Array.getElem?_push] at hmj
     by_cases hj : j = ms.size
     ·rw [if_pos hj] at hmj
      simp only [Option.some.injEq] at hmj; subst hmj
      rw [List.getElem?_append_right (by omega), show j - es.length = 0 by omega] at hp
      simp only [List.getElem?_cons_zero, Option.some.injEq] at hp; subst hp
      exact ⟨hxr, hy⟩
     ·rw [if_neg hj] at hmj
      have hjl : j < ms.size := (Array.getElem?_eq_some_iff.1 hmj).1
      rw [List.getElem?_append_left (by omega)] at hp
      exact hR j p m hp hmj
   ·have hks := staysG (P := P) hxk w
    refine ⟨_, ?_, rfl, h.setMap hH (ms.modify i fun e => { e with key := valK x, val := yv }) c ?_ (MapKept.stamped_modify hst _ _ (fun _ _ => rfl) (fun e' _ he' => ?_)) ?_⟩
    ·simp [Instr.mapUpdate, run_underlying ht, MapKept.run_getObj_map hb, hck, hfk, h3, h5, hks, MapKept.run_setObj_map _ hb]
    ·rw [h1]; simp [setA, hs]
    ·rw [h3] at he'; cases he'; exact h5.symm
    ·rw [h1]
     intro j p' m hp hmj
     simp only [setA] at hp
     rw [Array.getElem?_modify] at hmj
     rw [List.getElem?_set] at hp
     by_cases hj : i = j
     ·subst hj
      rw [if_pos rfl, h3] at hmj
      simp only [Option.map_some, Option.some.injEq] at hmj; subst hmj
      have hil : i < es.length := (List.getElem?_eq_some_iff.1 h2).1
      rw [if_pos rfl, if_pos hil] at hp
      simp only [Option.some.injEq] at hp; subst hp
      exact ⟨hxr, hy⟩
     ·rw [if_neg hj] at hmj
      rw [if_neg hj] at hp
      exact hR j p' m hp hmj
  ·cases he
 ·cases he
theorem delG_ok {E G env tm H w} {t kt et ty : TypeId} {kd : KD} {ts : Array TypeId} (ht : P.underlying t = some (.map kt et)) (ht0 : ts[0]? = some t) (hkt : keyTy P kt kd = true)
  {m x : AVal} {mv xv : Value} (h : St E G ⟨env, tm, [(m, mv), (x, xv)], H⟩ w) {V : AVal} {H' : Heap} (he : evDelG kd m x H = some (V, H')) :
  Does P E env tm (Builtin.delete_ ts ty #[mv, xv]) w V H' := by
 unfold evDelG at he
 split at he
 ·rename_i id
  split at he
  ·rename_i es hH
   obtain ⟨⟨hxk, hall⟩, he⟩ := ite_some he
   simp only [Option.some.injEq, Prod.mk.injEq] at he
   obtain ⟨rfl, rfl⟩ := he
   have hm : Rv G w (.map (some id)) mv := h.fly 0 _ _ rfl
   have hx := keyG_val hxk ((h.fly 1 _ _ rfl).arg (show x.argOK = true by cases kd <;> cases x <;> first | rfl | cases hxk))
   subst hx
   cases hm
   obtain ⟨ms, c, hb, hs, hst, hR⟩ := h.box id _ hH
   have hck := checkG (P := P) hkt hxk ms.isEmpty w
   have fin : ∀ {w' : World}, St E G ⟨env, tm, [], H.set id (.map (delA es (findG x es)))⟩ w' → St E G ⟨env, tm, [(.tuple [], .tuple #[])], H.set id (.map (delA es (findG x es)))⟩ w' := by
    intro w' h'
    refine h'.res ⟨_, rfl, rfl, fun i X hX => by simp at hX⟩ 0 ?_
    intro i a ha
    simp [ownC] at ha
   rcases map_findG hkt hxk hs hst hR hall with ⟨h1, hfk, h3⟩ | ⟨i, p, e, h1, h2, h3, hfk, h5⟩
   ·refine ⟨_, _, G, ?_, fin (h.setMap hH ms c ?_ hst ?_)⟩
    ·simp [Builtin.delete_, ht0, run_underlying ht, MapKept.run_getObj_map hb, hck, hfk, MapKept.run_setObj_map _ hb]
    ·rw [h1]; exact hs
    ·rw [h1]; exact hR
   ·have hil : i < es.length := (List.getElem?_eq_some_iff.1 h2).1
    have heq : (ms.eraseIdxIfInBounds i).toList = ms.toList.eraseIdx i := by
     unfold Array.eraseIdxIfInBounds
     rw [dif_pos (show i < ms.size by omega)]
     simp
    refine ⟨_, _, G, ?_, fin (h.setMap hH (ms.eraseIdxIfInBounds i) c ?_ (MapKept.stamped_erase hst i) ?_)⟩
    ·simp [Builtin.delete_, ht0, run_underlying ht, MapKept.run_getObj_map hb, hck, hfk, MapKept.run_setObj_map _ hb]
    ·rw [h1]
     show _ = (es.eraseIdx i).length
     rw [← Array.length_toList, heq, List.length_eraseIdx_of_lt (by simpa using (show i < ms.size by omega)), List.length_eraseIdx_of_lt hil]
     simp [hs]
    ·rw [h1]
     intro j p' m hp hmj
     have hp' : (es.eraseIdx i)[j]? = some p' := hp
     have hm' : (ms.toList.eraseIdx i)[j]? = some m := by rw [← heq, Array.getElem?_toList]; exact hmj
     rw [List.getElem?_eraseIdx] at hp' hm'
     by_cases hj : j < i
     ·rw [if_pos hj] at hp' hm'
      exact hR j p' m hp' (by simpa using hm')
     ·rw [if_neg hj] at hp' hm'
      exact hR (j + 1) p' m hp' (by simpa using hm')
  ·cases he
 ·cases he
theorem lenM_ok {E G env tm H w} {t kt et ty : TypeId} (ht : P.underlying t = some (.map kt et)) {id : Nat} {es : List (AVal × AVal)} (hH : H[id]? = some (.map es)) {mv : Value}
  (h : St E G ⟨env, tm, [(.map (some id), mv)], H⟩ w) : Does P E env tm (Builtin.len_ #[t] ty #[mv]) w (.int .i64 es.length) H := by
 have hm : Rv G w (.map (some id)) mv := h.fly 0 _ _ rfl
 cases hm
 obtain ⟨ms, c, hb, hs, hst, hR⟩ := h.box id _ hH
 refine Does.pure h (v := .int .i64 es.length) ?_ (.int _ _) rfl
 simp [Builtin.len_, run_underlying ht, goInt, MapKept.run_getObj_map hb, hs]
theorem isNil_ok {E G env tm H w} {op : BinOp} {t : TypeId} {ms : _} {neg : Bool} (hop : ((decide (op = .eql) && !neg) || (decide (op = .neq) && neg)) = true) (ht : P.underlying t = some (.interface ms)) {x : AVal} {xv : Value} {y : AVal} {xo : Operand}
  (h : St E G ⟨env, tm, [(x, xv), (y, .nilIface)], H⟩ w) {b : Bool} (hx : (∃ u v, x = .iface u v ∧ b = neg) ∨ (x = .niliface ∧ b = !neg)) :
  Does P E env tm (do eqGuard op t xo (.const .nilIface) xv .nilIface; binOp op t xv .nilIface) w (.bool b) H := by
 refine Does.pure h (v := .bool b) ?_ (.bool _) rfl
 have hx0 := h.fly 0 _ _ rfl
 have hop' : (op = .eql ∧ neg = false) ∨ (op = .neq ∧ neg = true) := by cases op <;> cases neg <;> simp_all
 have key : ∀ (z : Value) (r : Bool), (∀ d, (Op.equalIn (d + 1) t z .nilIface).run P w = .ok r w) → (eqGuard .eql t xo (.const .nilIface) z .nilIface).run P w = .ok () w → (eqGuard .neq t xo (.const .nilIface) z .nilIface).run P w = .ok () w →
   binOp .eql t z .nilIface = (do pure (.bool (← Op.equal t z .nilIface))) → binOp .neq t z .nilIface = (do pure (.bool (!(← Op.equal t z .nilIface)))) →
   (do eqGuard op t xo (.const .nilIface) z .nilIface; binOp op t z .nilIface : Sem Value).run P w = .ok (.bool (if neg then !r else r)) w := by
  intro z r h1 h2 h3 h4 h5
  have h6 : (Op.equal t z .nilIface).run P w = .ok r w := h1 9999
  rcases hop' with ⟨rfl, rfl⟩ | ⟨rfl, rfl⟩
  ·simp only [Sem.run_bind, h2, Result.andThen_ok, h4, h6, Sem.run_pure]; rfl
  ·simp only [Sem.run_bind, h3, Result.andThen_ok, h5, h6, Sem.run_pure]; rfl
 rcases hx with ⟨u, v, rfl, rfl⟩ | ⟨rfl, rfl⟩
 ·have hr : Rv G w (.iface u v) xv := hx0
  cases hr
  rename_i x0 _
  have := key (.iface u x0) false (fun d => by unfold Op.equalIn; simp [run_underlying ht]) (by unfold eqGuard; simp) (by unfold eqGuard; simp) rfl rfl
  rw [this]; cases b <;> rfl
 ·have hr : Rv G w .niliface xv := hx0
  cases hr
  have := key .nilIface true (fun d => by unfold Op.equalIn; simp [run_underlying ht]) (by unfold eqGuard; simp) (by unfold eqGuard; simp) rfl rfl
  rw [this]; cases neg <;> rfl
theorem runeStr_ok {E G env tm fly H w} {src dst : TypeId} {k k0 : IntKind} {n : Int} (hs : P.underlying src = some (.int k0)) (hd : P.underlying dst = some .string) (h0 : 0 ≤ n) (h1 : n < 128) (h : St E G ⟨env, tm, fly, H⟩ w) :
  Does P E env tm (convert src dst (.int k n)) w (.str [UInt8.ofNat n.toNat]) H := by
 refine Does.pure h (v := .string ⟨⟨[UInt8.ofNat n.toNat]⟩⟩) ?_ (.str _) rfl
 have hv : Utf8.valid n = true := by unfold Utf8.valid; simp; omega
 have he : Utf8.encode n = ⟨⟨[UInt8.ofNat n.toNat]⟩⟩ := by
  unfold Utf8.encode
  simp only [hv, if_true]
  rw [if_pos (by omega)]
 simp [convert, run_underlying hs, run_underlying hd, Conv.intToString, he]
theorem St.newIter {E G env tm fly H w} (h : St E G ⟨env, tm, fly, H⟩ w) (sb : ByteArray) :
  ∃ G', St E G' ⟨env, tm, [(.ptr H.length 0, .pointer (some (at_ w.heap.size 0)))], H ++ [.iter sb.data.toList 0]⟩ (w.alloc (.stringIter sb 0)) := by
 let G' : Gh := { G with n := G.n + 1, μ := upd G.μ G.n w.heap.size }
 have hn : G.n = H.length := h.n
 have hcell : ∀ b o, b < w.heap.size → (w.alloc (.stringIter sb 0)).cell? (at_ b o) = w.cell? (at_ b o) := fun b o hb => cell_of_heap (heap_alloc_lt hb)
 have ge : GE G w G' (w.alloc (.stringIter sb 0)) := {
  n := Nat.le_succ _
  D := fun _ _ h => h
  μ := fun id hid => upd_ne _ _ (Nat.ne_of_lt hid)
  sl := fun _ _ => rfl
  sz := fun _ _ => rfl
  cell := fun b o hd => hcell b o (h.Db b o hd)
  still := .ofPush rfl rfl rfl rfl }
 have hμ : G'.μ H.length = w.heap.size := by rw [← hn]; exact upd_eq _ _ _
 have key : ∀ p a, ((∃ i, p = .fly 0 i) ∨ (∃ id off, p = .cell id off ∧ H.length ≤ id) ∨ ∃ id, p = .box id ∧ H.length ≤ id) →
   ownP G' ⟨env, tm, [(.ptr H.length 0, .pointer (some (at_ w.heap.size 0)))], H ++ [.iter sb.data.toList 0]⟩ (w.alloc (.stringIter sb 0)) p = some a → p = .box H.length ∧ a = (w.heap.size, 0, 0) := by
  intro p a hp hpa
  rcases hp with ⟨i, rfl⟩ | ⟨id, off, rfl, hid⟩ | ⟨id, rfl, hid⟩
  ·simp only [ownP, List.getElem?_cons_zero] at hpa; rw [ownC_plain rfl] at hpa; cases hpa
  ·by_cases he : id = H.length
   ·subst he
    simp only [ownP, List.getElem?_append_right (Nat.le_refl _), Nat.sub_self, List.getElem?_cons_zero] at hpa
    cases hpa
   ·simp only [ownP] at hpa
    rw [List.getElem?_eq_none (by simp; omega)] at hpa; cases hpa
  ·by_cases he : id = H.length
   ·subst he
    simp only [ownP, List.getElem?_append_right (Nat.le_refl _), Nat.sub_self, List.getElem?_cons_zero, hμ, Option.some.injEq] at hpa
    exact ⟨rfl, hpa.symm⟩
   ·simp only [ownP] at hpa
    rw [List.getElem?_eq_none (by simp; omega)] at hpa; cases hpa
 refine ⟨G', h.grow ge [.iter sb.data.toList 0] (by simp [G', hn]) (fun b o hd => Nat.lt_of_lt_of_le (h.Db b o hd) (by rw [size_alloc]; omega)) (by rw [size_alloc]; omega) 0
  (fun b hb => .inl (heap_alloc_lt hb)) (fun b o hd => .inl hd) _ _ ?_ ?_ (.box H.length) (fun _ => .fly 0 0)
  (fun p => ⟨_, _, rfl⟩) ?_ ?_ ?_⟩
 ·rw [← hμ]; exact Rt.of (.ptr H.length 0 (by simp [G', hn])) rfl
 ·intro k B hB
  cases k with
  | zero =>
   simp at hB; subst hB
   refine ⟨sb, ?_, rfl⟩
   rw [Nat.add_zero, hμ]; exact heap_alloc_eq
  | succ k => simp at hB
 ·intro i a ha; rw [ownC_plain rfl] at ha; cases ha
 ·intro p a hp hpa
  obtain ⟨rfl, rfl⟩ := key p a (.inr hp) hpa
  refine ⟨⟨by rw [size_alloc]; exact Nat.lt_succ_self _, .inl rfl, fun h0 => absurd rfl h0, fun x _ hd => ?_⟩, .inl ⟨rfl, Nat.le_refl _⟩⟩
  exact absurd (h.Db _ _ hd) (Nat.lt_irrefl _)
 ·intro p q a b hp hq hpa hqa _
  rw [(key q b hq hqa).1, (key p a (by rcases hp with rfl | hp <;> first | exact .inl ⟨0, rfl⟩ | exact hp) hpa).1]
theorem St.setIter {E G env tm fly H w id} {s : List UInt8} {pos : Nat} (h : St E G ⟨env, tm, fly, H⟩ w) (hH : H[id]? = some (.iter s pos)) (sb : ByteArray) (hsb : sb.data.toList = s) (hbm : w.heap[G.μ id]? = some (.stringIter sb pos)) (pos' : Nat) :
  St E G ⟨env, tm, [], H.set id (.iter s pos')⟩ { w with heap := w.heap.setIfInBounds (G.μ id) (.stringIter sb pos') } := by
 let w' : World := { w with heap := w.heap.setIfInBounds (G.μ id) (.stringIter sb pos') }
 have hidl : id < H.length := (List.getElem?_eq_some_iff.1 hH).1
 have hidn : id < G.n := by have := h.n; simp only at this; omega
 have hbo := own_box_iter (G := G) (S := ⟨env, tm, fly, H⟩) (w := w) hH
 have hok := h.ok _ _ hbo
 obtain ⟨hw1, hne⟩ := MapKept.heap_set (w := w) (o' := .stringIter sb pos') hbm
 have hnoD : ∀ o, ¬ G.D (G.μ id) o := fun o => hok.D o (Nat.zero_le _)
 have hsz : w'.heap.size = w.heap.size := by simp [w']
 have hst' : Still w w' := ⟨rfl, rfl, rfl, fun i c1 e1 f1 h1 => by
  by_cases hi : i = G.μ id
  ·subst hi; rw [hbm] at h1; cases h1
  ·exact ⟨c1, f1, by rw [show w'.heap[i]? = w.heap[i]? from hne i hi]; exact h1, rfl, _root_.id⟩⟩
 have ge : GE G w G w' := ⟨Nat.le_refl _, fun _ _ h => h, fun _ _ => rfl, fun _ _ => rfl, fun _ _ => rfl, fun b o hd =>
  cell_of_heap (hne b (fun e => hnoD o (e ▸ hd))), hst'⟩
 have away : ∀ q a, q ≠ .box id → ownP G ⟨env, tm, fly, H⟩ w q = some a → w'.heap[a.1]? = w.heap[a.1]? := by
  intro q a hq ha
  exact hne _ (fun e => h.dis q (.box id) a _ hq ha hbo e)
 have hset : ∀ id', (H.set id (Box.iter s pos'))[id']? = if id = id' then some (Box.iter s pos') else H[id']? := by
  intro id'; rw [List.getElem?_set]; split <;> simp_all
 have μne : ∀ id' B, id' ≠ id → H[id']? = some B → (∀ sz xs, B ≠ .arr sz xs) → B ≠ .dead → w'.heap[G.μ id']? = w.heap[G.μ id']? := by
  intro id' B hi hB h1 h2
  cases B with
  | cells cs' => exact away (.box id') _ (by simp [hi]) (own_box_cells hB)
  | map es => exact away (.box id') _ (by simp [hi]) (own_box_map hB)
  | iter s p => exact away (.box id') _ (by simp [hi]) (own_box_iter hB)
  | arr sz xs => exact absurd rfl (h1 _ _)
  | dead => exact absurd rfl h2
 have carry : ∀ q a, ownP G ⟨env, tm, [], H.set id (Box.iter s pos')⟩ w' q = some a → ownP G ⟨env, tm, fly, H⟩ w q = some a := by
  intro q a ha
  cases q with
  | slot => exact ha
  | fly k i => simp [ownP] at ha
  | cell id' x =>
   by_cases hi : id = id'
   ·subst hi
    simp [ownP, hset] at ha
   ·simp only [ownP, hset, hi, if_false] at ha ⊢
    cases hB : H[id']? with
    | none => simp [hB] at ha
    | some B =>
     cases B with
     | cells cs' =>
      simp only [hB] at ha ⊢
      rwa [cellv_of_heap (μne id' _ (fun e => hi e.symm) hB (by simp) (by simp))] at ha
     | _ => simp [hB] at ha
  | box id' =>
   by_cases hi : id = id'
   ·subst hi
    simp only [ownP, hset, if_true] at ha
    simp only [ownP, hH]; exact ha
   ·simp only [ownP, hset, hi, if_false] at ha ⊢
    exact ha
 refine h.next (S' := ⟨env, tm, [], H.set id (Box.iter s pos')⟩) (w' := w') ge (by simpa using h.n) (Nat.le_refl _) (fun b o hd => by rw [hsz]; exact h.Db b o hd)
  (by rw [hsz]; exact Nat.le_refl _) ?_ (fun b o hd => .inl hd) ?_ ?_ ?_ _root_.id (.fly 0 0) ?_ (fun p q a b _ _ e => e)
 ·intro b hb
  by_cases hbb : b = G.μ id
  ·exact .inr ⟨_, _, hbo, hbb.symm⟩
  ·exact .inl (hne b hbb)
 ·intro u
  exact (h.slot u).stay ge (fun i a ha => away (.slot u i) a (by simp) ha)
 ·intro k X x hk; simp at hk
 ·intro id' B hB
  rw [hset] at hB
  by_cases hi : id = id'
  ·subst hi
   simp only [if_true, Option.some.injEq] at hB; subst hB
   exact ⟨sb, hw1, hsb⟩
  ·simp only [hi, if_false] at hB
   have hi' : id' ≠ id := fun e => hi e.symm
   have hidl' : id' < G.n := by
    have := (List.getElem?_eq_some_iff.1 hB).1
    have hn := h.n; simp only at hn; omega
   refine (h.box id' B hB).stay ge hidl' (fun h1 h2 => μne id' B hi' hB h1 h2) ?_ ?_
   ·intro cs' x Y a hBc hY ha
    subst hBc
    exact away (.cell id' x) a (by simp) (by simp only [ownP, hB, hY]; exact ha)
   ·intro sz xs a hBc ha
    subst hBc
    exact away (.box id') a (by simp [hi']) (by simp only [ownP, hB]; exact ha)
 ·intro q a ha
  have ha' := carry q a ha
  refine ⟨?_, .inr ⟨a, ha', rfl⟩⟩
  have hok' := h.ok _ _ ha'
  by_cases hqb : q = .box id
  ·subst hqb
   rw [hbo] at ha'
   simp only [Option.some.injEq] at ha'; subst ha'
   exact ⟨by rw [hsz]; exact hok.lt, .inl rfl, fun h0 => absurd rfl h0, hok.D⟩
  ·exact hok'.stay (by rw [hsz]; exact Nat.le_refl _) (away _ a hqb ha') hok'.D
theorem srange_ok {E G env tm fly H w} {t : TypeId} {s : List UInt8} (ht : P.underlying t = some .string) (h : St E G ⟨env, tm, fly, H⟩ w) :
  Does P E env tm (Instr.range t (.string ⟨⟨s⟩⟩)) w (.ptr H.length 0) (H ++ [.iter s 0]) := by
 obtain ⟨G', hG⟩ := h.newIter ⟨⟨s⟩⟩
 exact ⟨_, _, G', by simp [Instr.range, run_underlying ht, newObj]; rfl, hG⟩
theorem snext_ok {E G env tm H w} {ty : TypeId} {p : AVal} {pv : Value} (h : St E G ⟨env, tm, [(p, pv)], H⟩ w) {V : AVal} {H' : Heap} (he : evSnext p H = some (V, H')) :
  Does P E env tm (Instr.next pv true ty) w V H' := by
 unfold evSnext at he
 split at he
 ·rename_i id
  split at he
  ·rename_i s pos hH
   have hp : Rv G w (.ptr id 0) pv := h.fly 0 _ _ rfl
   cases hp
   obtain ⟨sb, hb, hsb⟩ := h.box id _ hH
   have hbs : bytesOf s = sb := by subst hsb; rfl
   have hsz : sb.size = s.length := by subst hsb; rfl
   have hgo : (getObj (G.μ id)).run P w = .ok (.stringIter sb pos) w := by simp [getObj, Sem.run, hb]
   split at he
   ·rename_i hlt
    simp only [Option.some.injEq, Prod.mk.injEq] at he
    obtain ⟨rfl, rfl⟩ := he
    rw [hbs]
    have h2 := h.setIter hH sb hsb hb (pos + (Utf8.decode sb pos).2)
    have hso : (setObj (G.μ id) (.stringIter sb (pos + (Utf8.decode sb pos).2))).run P w = .ok () { w with heap := w.heap.setIfInBounds (G.μ id) (.stringIter sb (pos + (Utf8.decode sb pos).2)) } := by
     have hlt2 : G.μ id < w.heap.size := (Array.getElem?_eq_some_iff.1 hb).1
     simp [setObj, Sem.run, hb]
    refine ⟨.tuple #[.bool true, goInt pos, .int .i32 ((Utf8.decode sb pos).1 : Nat)], _, G, ?_, h2.res ?_ 0 ?_⟩
    ·simp [Instr.next, hgo, hsz, hlt, hso]
    ·refine ⟨_, rfl, rfl, fun i X hX => ?_⟩
     match i, hX with
     | 0, hX => simp at hX; subst hX; exact Rt0.ofRv (.bool _)
     | 1, hX => simp at hX; subst hX; exact Rt0.ofRv (.int _ _)
     | 2, hX => simp at hX; subst hX; exact Rt0.ofRv (.int _ _)
     | i + 3, hX => simp at hX
    ·intro i a ha
     simp only [ownC] at ha
     match i, ha with
     | 0, ha => simp [own0] at ha
     | 1, ha => simp [own0] at ha
     | 2, ha => simp [own0] at ha
     | i + 3, ha => simp at ha
   ·rename_i hlt
    simp only [Option.some.injEq, Prod.mk.injEq] at he
    obtain ⟨rfl, rfl⟩ := he
    refine ⟨.tuple #[.bool false], w, G, ?_, h.res ?_ 0 ?_⟩
    ·simp [Instr.next, hgo, hsz, hlt]
    ·refine ⟨_, rfl, rfl, fun i X hX => ?_⟩
     match i, hX with
     | 0, hX => simp at hX; subst hX; exact Rt0.ofRv (.bool _)
     | i + 1, hX => simp at hX
    ·intro i a ha
     simp only [ownC] at ha
     match i, ha with
     | 0, ha => simp [own0] at ha
     | i + 1, ha => simp at ha
  ·cases he
 ·cases he
theorem run_method {t : TypeId} {m : String} {f : FuncId} (h : methOK P t m f = true) (n : Nat) (v : Value) (w : World) : (method (n + 1) t v m).run P w = .ok (f, v) w := by
 unfold methOK at h
 split at h
 ·rename_i i hi
  split at h
  ·rename_i r hr
   rw [Bool.and_eq_true] at h
   obtain ⟨h1, h2⟩ := h
   have hp : r.path.toList = [] := by simpa using h1
   unfold method
   have hti : (typeInfo t).run P w = .ok i w := by simp [typeInfo, hi]
   simp only [Sem.run_bind, hti, Result.andThen_ok, hr, hp, follow, Sem.run_pure]
   cases hf : r.func with
   | none => rw [hf] at h2; cases P.underlying t <;> cases h2
   | some q =>
    obtain ⟨g, ptr⟩ := q
    rw [hf] at h2
    cases hu : P.underlying t with
    | none => rw [hu] at h2; cases h2
    | some d =>
     rw [hu] at h2
     have hgp : g = f ∧ ((∃ e, d = .pointer e ∧ ptr = true) ∨ ((∀ e, d ≠ .pointer e) ∧ ptr = false)) := by
      cases d <;> simp_all
     obtain ⟨rfl, hd⟩ := hgp
     generalize (if r.path.isEmpty = true then some ((m.splitOn ".").getLastD m) else none) = wr
     have hra : (receiverAt t (.val v) ptr wr).run P w = .ok v w := by
      unfold receiverAt
      simp only [Sem.run_bind, run_underlying hu, Result.andThen_ok]
      rcases hd with ⟨e, rfl, rfl⟩ | ⟨hne, rfl⟩
      ·rfl
      ·cases d <;> first | rfl | exact absurd rfl (hne _)
     simp only [Sem.run_bind, hra, Result.andThen_ok, Sem.run_pure]
  ·cases h
 ·cases h
theorem run_nilAhead {t : TypeId} {m : String} {f : FuncId} (h : methOK P t m f = true) (n : Nat) (v : Value) (w : World) : (nilAhead (n + 1) t v m).run P w = .ok (some false) w := by
 unfold methOK at h
 split at h
 ·rename_i i hi
  split at h
  ·rename_i r hr
   rw [Bool.and_eq_true] at h
   obtain ⟨h1, h2⟩ := h
   have hp : r.path.toList = [] := by simpa using h1
   unfold nilAhead
   have hti : (typeInfo t).run P w = .ok i w := by simp [typeInfo, hi]
   simp only [Sem.run_bind, hti, Result.andThen_ok, hr, hp, followBlind, Sem.run_pure]
   cases hf : r.func with
   | none => rw [hf] at h2; cases P.underlying t <;> cases h2
   | some q =>
    obtain ⟨g, ptr⟩ := q
    rw [hf] at h2
    cases ptr with
    | true => rfl
    | false =>
     cases hu : P.underlying t with
     | none => rw [hu] at h2; cases h2
     | some d =>
      rw [hu] at h2
      simp only [Sem.run_bind, run_underlying hu, Result.andThen_ok]
      cases d <;> first | rfl | simp at h2
  ·cases h
 ·cases h
theorem lookTb_ok {tb : List (TypeId × FuncId)} {m : String} (hk : (tb.all fun q => methOK P q.1 m q.2) = true) {u f} (hf : lookTb tb u = some f) : methOK P u m f = true := by
 refine List.all_eq_true.1 hk (u, f) ?_
 clear hk
 induction tb with
 | nil => cases hf
 | cons q r ih =>
  obtain ⟨u', f'⟩ := q
  unfold lookTb at hf
  split at hf
  ·rename_i e; subst e; cases hf; exact List.mem_cons_self
  ·exact List.mem_cons_of_mem _ (ih hf)
end
end Go.Abs
