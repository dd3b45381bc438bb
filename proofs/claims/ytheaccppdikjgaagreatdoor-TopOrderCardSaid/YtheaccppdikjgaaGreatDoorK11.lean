import Derived.Test.YtheaccppdikjgaaGreatDoorK10
import Derived.Deep.Upon
namespace Go.Abs
open Go
set_option linter.unusedVariables false
set_option linter.unusedSimpArgs false
theorem setCells_still (b : Nat) : ∀ (vs : List Value) (o : Nat) (w : World), Still w (w.setCells b o vs)
 | [], _, w => .refl w
 | v :: r, o, w => by rw [World.setCells]; exact (show Still w (w.setCell ⟨b, o, none⟩ v) from ⟨rfl, rfl, rfl, fun i c e fr hi => by
  by_cases hb : i = b
  ·subst hb; exact ⟨_, fr, setCell_heap_eq hi, by simp, id⟩
  ·exact ⟨c, fr, by rw [setCell_heap_ne (by exact hb)]; exact hi, rfl, id⟩⟩).trans (setCells_still b r _ _)
theorem setCells_size (b : Nat) : ∀ (vs : List Value) (o : Nat) (w : World), (w.setCells b o vs).heap.size = w.heap.size
 | [], _, _ => rfl
 | v :: r, o, w => by rw [World.setCells, setCells_size b r, setCell_size]
theorem setCells_heap_ne {b b' : Nat} (hne : b' ≠ b) : ∀ (vs : List Value) (o : Nat) (w : World), (w.setCells b o vs).heap[b']? = w.heap[b']?
 | [], _, _ => rfl
 | v :: r, o, w => by rw [World.setCells, setCells_heap_ne hne r, setCell_heap_ne hne]
theorem setCells_heap_eq {b : Nat} {e : TypeId} {fr : Nat × Nat} : ∀ (vs : List Value) (o : Nat) (w : World) (c : Array Value), w.heap[b]? = some (.cells c e fr) →
  ∃ c' : Array Value, (w.setCells b o vs).heap[b]? = some (.cells c' e fr) ∧ c'.size = c.size ∧ ∀ k : Nat, c'[k]? = if o ≤ k ∧ k < o + vs.length ∧ k < c.size then vs[k - o]? else c[k]?
 | [], o, w, c, h => ⟨c, h, rfl, fun k => by rw [if_neg]; simp; omega⟩
 | v :: r, o, w, c, h => by
  obtain ⟨c', h1, h2, h3⟩ := setCells_heap_eq r (o + 1) (w.setCell (at_ b o) v) (c.setIfInBounds o v) (setCell_heap_eq h)
  refine ⟨c', h1, by rw [h2]; simp, fun k => ?_⟩
  rw [h3, Array.size_setIfInBounds, List.length_cons]
  by_cases hk : k = o
  ·subst hk
   rw [if_neg (by omega)]
   by_cases hs : k < c.size
   ·rw [if_pos (by omega)]; simp [hs]
   ·rw [if_neg (by omega)]; simp [hs]
  ·rw [Array.getElem?_setIfInBounds_ne (Ne.symm hk)]
   by_cases hc : o + 1 ≤ k ∧ k < o + 1 + r.length ∧ k < c.size
   ·rw [if_pos hc, if_pos (by omega)]
    have : k - o = k - (o + 1) + 1 := by omega
    rw [this, List.getElem?_cons_succ]
   ·rw [if_neg hc, if_neg (by omega)]
theorem growBy_le (need : Nat) : ∀ (r c : Nat), c ≤ 2 * need → 256 ≤ c → Builtin.growBy need r c ≤ 2 * need
 | 0, c, h, _ => by simp only [Builtin.growBy]; omega
 | r + 1, c, h, h2 => by
  simp only [Builtin.growBy]
  split
  ·omega
  ·exact growBy_le need r _ (by omega) (by omega)
theorem nextcap_le {need old : Nat} (h : old < need) : Builtin.nextslicecap need old ≤ 2 * need := by
 unfold Builtin.nextslicecap
 split
 ·omega
 ·split
  ·omega
  ·exact growBy_le need 4 old (by omega) (by omega)
structure SrcA (P : Program) (G : Gh) (w : World) (sz : Nat) (ys : List AVal) (tx : TypeId) (x : Value) : Prop where
 news : ∃ news, Src P sz tx x ys.length news w ∧ (∀ X, X ∈ ys → X.cells.length = sz) ∧
  ∀ (i : Nat) X (j : Nat) Y, ys[i]? = some X → X.cells[j]? = some Y → Rv G w Y (news.getD (i * sz + j) undef)
section
variable {P : Program}
theorem range_get {n j : Nat} {f : Nat → Value} {u : Value} (h : ((List.range n).map f)[j]? = some u) : j < n ∧ u = f j := by
 have hj : j < n := by have := (List.getElem?_eq_some_iff.1 h).1; simpa using this
 refine ⟨hj, ?_⟩
 rw [List.getElem?_map, List.getElem?_range hj] at h
 simpa using h.symm
theorem srcA_list {G w sz ys fl yv} {tx e' : TypeId} (hk : P.underlying tx = some (.slice e')) (hy : Rv G w (.list sz ys fl) yv) : SrcA P G w sz ys tx yv := by
 cases hy with
 | list _ _ _ b o len cap f hlen hcap hfull hsz hv hm hd h1 =>
  refine ⟨(List.range (len * sz)).map f, by
   rw [hlen]
   exact Src.ofSlice w hk (at_ b o) len cap _ (by simp) (fun j u hu => by
    rw [add_at]
    obtain ⟨hj, rfl⟩ := range_get hu
    exact hm j hj) (fun u hu => by
    obtain ⟨k, hk', rfl⟩ := List.mem_map.1 hu
    exact h1 k (List.mem_range.1 hk')), hsz, fun i X j Y hX hY => ?_⟩
  have hi : i < len := by rw [← hlen]; exact (List.getElem?_eq_some_iff.1 hX).1
  have hj : j < sz := by rw [← hsz X (List.mem_of_getElem? hX)]; exact (List.getElem?_eq_some_iff.1 hY).1
  have hb : i * sz + j < len * sz := by
   have : (i + 1) * sz ≤ len * sz := Nat.mul_le_mul_right _ (by omega)
   rw [Nat.add_mul] at this; omega
  have := hv i X j Y hX hY
  simpa [List.getD, hb] using this
 | nilList => exact ⟨[], Src.ofNil w hk 0, by simp, by intro i X j Y hX; simp at hX⟩
theorem srcA_box {G w sz ys yv} {tx e' : TypeId} (hk : P.underlying tx = some (.slice e')) (hy : RU G w sz ys yv) : SrcA P G w sz ys tx yv := by
 rcases hy with ⟨rfl, rfl⟩ | ⟨b, o, len, cap, f, rfl, hlen, hcap, hsz, hv, hm, h1⟩
 ·exact ⟨[], Src.ofNil w hk 0, by simp, by intro i X j Y hX; simp at hX⟩
 ·refine ⟨(List.range (len * sz)).map f, by
   rw [hlen]
   exact Src.ofSlice w hk (at_ b o) len cap _ (by simp) (fun j u hu => by
    rw [add_at]
    obtain ⟨hj, rfl⟩ := range_get hu
    exact hm j hj) (fun u hu => by
    obtain ⟨k, hk', rfl⟩ := List.mem_map.1 hu
    exact h1 k (List.mem_range.1 hk')), hsz, fun i X j Y hX hY => ?_⟩
  have hi : i < len := by rw [← hlen]; exact (List.getElem?_eq_some_iff.1 hX).1
  have hj : j < sz := by rw [← hsz X (List.mem_of_getElem? hX)]; exact (List.getElem?_eq_some_iff.1 hY).1
  have hb : i * sz + j < len * sz := by
   have : (i + 1) * sz ≤ len * sz := Nat.mul_le_mul_right _ (by omega)
   rw [Nat.add_mul] at this; omega
  have := hv i X j Y hX hY
  simpa [List.getD, hb] using this
theorem srcA_str {G w} {s : List UInt8} {tx : TypeId} (hk : P.underlying tx = some .string) : SrcA P G w 1 (encBytes s) tx (.string ⟨⟨s⟩⟩) := by
 refine ⟨byteCells ⟨⟨s⟩⟩, ?_, ?_, ?_⟩
 ·have := Src.ofString (P := P) w hk ⟨⟨s⟩⟩
  rw [size_mk] at this
  rw [show (encBytes s).length = s.length by simp [encBytes]]
  exact this
 ·intro X hX
  obtain ⟨b, _, rfl⟩ := List.mem_map.1 hX
  rfl
 ·intro i X j Y hX hY
  simp only [encBytes, List.getElem?_map, Option.map_eq_some_iff] at hX
  obtain ⟨b, hb, rfl⟩ := hX
  cases j with
  | zero =>
   simp [AVal.cells] at hY; subst hY
   have : (byteCells ⟨⟨s⟩⟩).getD (i * 1 + 0) undef = .int .u8 (b.toNat : Int) := by
    simp [byteCells, List.getD, hb]
   rw [this]; exact .int _ _
  | succ j => simp [AVal.cells] at hY
theorem SrcA.stay {G w sz ys tx x} (h : SrcA P G w sz ys tx x) : ∃ news, Src P sz tx x ys.length news w ∧ (∀ X, X ∈ ys → X.cells.length = sz) ∧
  ∀ (i : Nat) X (j : Nat) Y, ys[i]? = some X → X.cells[j]? = some Y → Rv G w Y (news.getD (i * sz + j) undef) := h.news
theorem rows_append {G w sz} {xs ys : List AVal} {f : Nat → Value} {news : List Value} (hxz : ∀ X, X ∈ xs → X.cells.length = sz)
  (hx : ∀ (i : Nat) X (j : Nat) Y, xs[i]? = some X → X.cells[j]? = some Y → Rv G w Y (f (i * sz + j)))
  (hy : ∀ (i : Nat) X (j : Nat) Y, ys[i]? = some X → X.cells[j]? = some Y → Rv G w Y (news.getD (i * sz + j) undef)) :
  ∀ (i : Nat) X (j : Nat) Y, (xs ++ ys)[i]? = some X → X.cells[j]? = some Y →
   Rv G w Y ((fun k => if k < xs.length * sz then f k else news.getD (k - xs.length * sz) undef) (i * sz + j)) := by
 intro i X j Y hX hY
 by_cases hi : i < xs.length
 ·rw [List.getElem?_append_left hi] at hX
  have hj : j < sz := by rw [← hxz X (List.mem_of_getElem? hX)]; exact (List.getElem?_eq_some_iff.1 hY).1
  have hb : i * sz + j < xs.length * sz := by
   have : (i + 1) * sz ≤ xs.length * sz := Nat.mul_le_mul_right _ (by omega)
   rw [Nat.add_mul] at this; omega
  simp only [hb, if_true]
  exact hx i X j Y hX hY
 ·rw [List.getElem?_append_right (by omega)] at hX
  have hle : xs.length * sz ≤ i * sz := Nat.mul_le_mul_right _ (by omega)
  simp only [show ¬ i * sz + j < xs.length * sz by omega, if_false]
  have := hy (i - xs.length) X j Y hX hY
  rw [Nat.sub_mul] at this
  rw [show i * sz + j - xs.length * sz = i * sz - xs.length * sz + j by omega]
  exact this
theorem append_ok {E G env tm H w} {t tx e ty : TypeId} {agg : Bool} {sz bytes : Nat} {u : Bool} {i : TypeInfo} {zero : AVal} (hu : P.underlying t = some (.slice e)) (hi : P.info? e = some i) (hib : i.bytes = bytes) (hbp : 0 < bytes) (hbs : bytes ≤ 2 ^ 20)
  (hz : ZI P e zero sz) (hsp : 0 < sz)
  {x : AVal} {xv : Value} {y : AVal} {yv : Value} {ys : List AVal} {V : AVal} (he : evAppend sz bytes u x ys = some V) (h : St E G ⟨env, tm, [(x, xv), (y, yv)], H⟩ w)
  (hsrc : SrcA P G w sz ys tx yv) : Does P E env tm (Builtin.append_ #[t, tx] ty #[xv, yv]) w V H := by
 obtain ⟨i', z, hi', hiz, hs, hzs, hzl, hzc⟩ := hz.z
 rw [hi] at hi'; cases hi'
 subst hib
 obtain ⟨news, hsr, hyz, hyv⟩ := hsrc.news
 rw [← hs] at hsr
 have hnl : news.length = ys.length * sz := by have := hsr.newsLen; rwa [hs] at this
 obtain ⟨sz', xs, fl, rfl⟩ : ∃ sz' xs fl, x = .list sz' xs fl := by cases x <;> first | exact ⟨_, _, _, rfl⟩ | cases he
 simp only [evAppend] at he
 by_cases hc : sz' = sz ∧ (xs.length + ys.length) * i.bytes ≤ maxBytes
 case neg => rw [if_neg hc] at he; cases he
 rw [if_pos hc] at he
 obtain ⟨rfl, hmax⟩ := hc
 have hx0 := h.fly 0 _ xv rfl
 -- the base, its cells
 obtain ⟨base, len, cap, rfl, hlen, hcap, hfull, hbase⟩ : ∃ base len cap, xv = .slice base len cap ∧ xs.length = len ∧ len ≤ cap ∧ (fl = .full → cap = len) ∧
   ((base = none ∧ xs = [] ∧ cap = 0) ∨ ∃ b o, ∃ f : Nat → Value, base = some (at_ b o) ∧ (∀ X, X ∈ xs → X.cells.length = sz') ∧
    (∀ (i : Nat) X (j : Nat) Y, xs[i]? = some X → X.cells[j]? = some Y → Rv G w Y (f (i * sz' + j))) ∧ (∀ k, k < len * sz' → w.cell? (at_ b (o + k)) = some (f k)) ∧
    (∀ k, k < len * sz' → (f k).oneCell' = true) ∧ (fl ≠ .uniq → ∀ k, k < len * sz' → G.D b (o + k))) := by
  by_cases hq : fl = .uniq
  ·subst hq
   rcases (show RU G w sz' xs xv from hx0) with ⟨rfl, rfl⟩ | ⟨b, o, len, cap, f, rfl, g1, g2, g3, g4, g5, g6⟩
   ·exact ⟨none, 0, 0, rfl, rfl, Nat.le_refl _, (by simp), .inl ⟨rfl, rfl, rfl⟩⟩
   ·exact ⟨_, len, cap, rfl, g1, g2, (by simp), .inr ⟨b, o, f, rfl, g3, g4, g5, g6, by simp⟩⟩
  ·have hr : Rv G w (.list sz' xs fl) xv := by cases fl <;> first | exact hx0 | exact absurd rfl hq
   cases hr with
   | list _ _ _ b o len cap f g1 g2 g3 g4 g5 g6 g7 g8 => exact ⟨_, len, cap, rfl, g1, g2, g3, .inr ⟨b, o, f, rfl, g4, g5, g6, g8, fun _ => g7⟩⟩
   | nilList => exact ⟨none, 0, 0, rfl, rfl, Nat.le_refl _, (by simp), .inl ⟨rfl, rfl, rfl⟩⟩
 have hmax' : (len + ys.length) * i.bytes ≤ 140737488355328 := by rw [← hlen]; exact hmax
 have hn63 : ((len + ys.length : Nat) : Int) ≤ 9223372036854775807 := by
  have : len + ys.length ≤ (len + ys.length) * i.bytes := Nat.le_mul_of_pos_right _ hbp
  omega
 have hlz : xs.length * sz' = len * sz' := by rw [hlen]
 -- what it is to be
 obtain ⟨fl', rfl, hfl'⟩ : ∃ fl', V = .list sz' (xs ++ ys) fl' ∧ ((fl = .full ∧ (fl' = .own ∨ (fl' = .uniq ∧ xs = []))) ∨ (fl = .own ∧ fl' = .own) ∨ (fl = .uniq ∧ fl' = .uniq)) := by
  cases fl <;> simp only [Option.some.injEq, reduceCtorEq] at he
  ·subst he
   split
   ·rename_i hh; simp at hh; exact ⟨_, rfl, .inl ⟨rfl, .inr ⟨rfl, hh.2⟩⟩⟩
   ·exact ⟨_, rfl, .inl ⟨rfl, .inl rfl⟩⟩
  ·subst he; exact ⟨_, rfl, .inr (.inl ⟨rfl, rfl⟩)⟩
  ·subst he; exact ⟨_, rfl, .inr (.inr ⟨rfl, rfl⟩)⟩
 by_cases hroom : len + ys.length ≤ cap
 ·by_cases hn0 : ys.length = 0
  ·-- nothing is appended
   have hys : ys = [] := List.length_eq_zero_iff.1 hn0
   subst hys
   have hnews : news = [] := by simpa using hnl
   subst hnews
   have hrun := run_append_nothing w t tx ty e i hu hi base len cap hcap yv hsr
   refine ⟨_, w, G, hrun, ?_⟩
   simp only [List.append_nil]
   refine h.res ?_ 0 ?_
   ·rcases hfl' with ⟨rfl, rfl | ⟨rfl, rfl⟩⟩ | ⟨rfl, rfl⟩ | ⟨rfl, rfl⟩
    ·have hr : Rv G w (.list sz' xs .full) (.slice base len cap) := hx0
     cases hr with
     | list _ _ _ b o len cap f g1 g2 g3 g4 g5 g6 g7 g8 => exact Rv.list sz' xs .own b o len cap f g1 g2 (by simp) g4 g5 g6 g7 g8
     | nilList => exact Rv.nilList sz' .own
    ·have hr : Rv G w (.list sz' [] .full) (.slice base len cap) := hx0
     cases hr with
     | list _ _ _ b o len cap f g1 g2 g3 g4 g5 g6 g7 g8 => exact .inr ⟨b, o, len, cap, f, rfl, g1, g2, g4, g5, g6, g8⟩
     | nilList => exact .inl ⟨rfl, rfl⟩
    ·exact hx0
    ·exact hx0
   ·intro k a ha
    rcases hfl' with ⟨rfl, rfl | ⟨rfl, rfl⟩⟩ | ⟨rfl, rfl⟩ | ⟨rfl, rfl⟩
    ·have := hfull rfl
     simp only [ownC] at ha
     split at ha
     ·cases base <;> simp [own0, this] at ha
     ·cases ha
    ·have := hfull rfl
     simp at hlen
     simp only [ownC] at ha
     split at ha
     ·cases base <;> simp [own0, this, ← hlen] at ha
     ·cases ha
    ·simpa [ownP] using ha
    ·simpa [ownP] using ha
  ·-- in place
   have hlc : len < cap := by omega
   obtain ⟨b, o, f, rfl, g1, g2, g3, g4, g5⟩ : ∃ b o, ∃ f : Nat → Value, base = some (at_ b o) ∧ (∀ X, X ∈ xs → X.cells.length = sz') ∧
    (∀ (i : Nat) X (j : Nat) Y, xs[i]? = some X → X.cells[j]? = some Y → Rv G w Y (f (i * sz' + j))) ∧ (∀ k, k < len * sz' → w.cell? (at_ b (o + k)) = some (f k)) ∧
    (∀ k, k < len * sz' → (f k).oneCell' = true) ∧ (fl ≠ .uniq → ∀ k, k < len * sz' → G.D b (o + k)) := by
    rcases hbase with ⟨rfl, rfl, rfl⟩ | hb
    ·omega
    ·exact hb
   have hfl : fl = fl' ∧ (fl = .own ∨ fl = .uniq) := by
    rcases hfl' with ⟨rfl, _⟩ | ⟨rfl, rfl⟩ | ⟨rfl, rfl⟩
    ·have := hfull rfl; omega
    ·exact ⟨rfl, .inl rfl⟩
    ·exact ⟨rfl, .inr rfl⟩
   obtain ⟨rfl, hfl⟩ := hfl
   let from_ := if fl = .uniq then o else o + len * sz'
   have hown : ownP G ⟨env, tm, [(.list sz' xs fl, .slice (some (at_ b o)) len cap), (y, yv)], H⟩ w (.fly 0 0) = some (b, from_, o + cap * sz') := by
    rcases hfl with rfl | rfl
    ·simp [ownP, ownC, own0, hlc, from_]
    ·simp [ownP, ownC, own0, show 0 < cap by omega, from_]
   have hok := h.ok _ _ hown
   have hfrom : from_ ≤ o + len * sz' := by show (if fl = .uniq then o else o + len * sz') ≤ _; split <;> omega
   have hend : (len + ys.length) * sz' ≤ cap * sz' := Nat.mul_le_mul_right _ hroom
   have hend' : len * sz' + news.length ≤ cap * sz' := by rw [hnl, ← Nat.add_mul]; exact hend
   obtain ⟨c, te, fr, hbc, hcs⟩ : ∃ c te fr, w.heap[b]? = some (.cells c te fr) ∧ o + cap * sz' ≤ c.size := by
    rcases hok.cells with h0 | h0
    ·have : 0 < cap * sz' := Nat.mul_pos (by omega) hsp
     simp only at h0; omega
    ·exact h0
   have hrun := run_append_room_src w t tx ty e i hu hi b o len cap yv ys.length news hsr hroom (fun j hj => by
     rw [hs, show (⟨b, o + len * sz' + j, none⟩ : Addr) = at_ b (o + len * sz' + j) from rfl, cell_cells hbc]
     have : o + len * sz' + j < c.size := by omega
     simp [this]) (fun j hj => by
     rw [hs]
     exact hok.fz _ (by show from_ ≤ _; omega) (by show _ < o + cap * sz'; omega))
   rw [hs] at hrun
   obtain ⟨c', hb1, hb2, hb3⟩ := setCells_heap_eq news (o + len * sz') w c hbc
   let f' : Nat → Value := fun k => if k < xs.length * sz' then f k else news.getD (k - xs.length * sz') undef
   let G' : Gh := { G with D := fun b' k => G.D b' k ∨ (fl ≠ .uniq ∧ b' = b ∧ o + len * sz' ≤ k ∧ k < o + (len + ys.length) * sz') }
   have hDno : ∀ k, o + len * sz' ≤ k → ¬ G.D b k := fun k hk => hok.D k (by show from_ ≤ k; omega)
   have ge : GE G w G' (w.setCells b (o + len * sz') news) := {
    n := Nat.le_refl _
    D := fun _ _ h => .inl h
    μ := fun _ _ => rfl
    sl := fun _ _ => rfl
    sz := fun _ _ => rfl
    cell := fun b' k hd => by
     by_cases hb' : b' = b
     ·subst hb'
      rw [cell_cells hb1, cell_cells hbc, hb3, if_neg]
      rintro ⟨q1, _, _⟩
      exact hDno k q1 hd
     ·exact cell_of_heap (setCells_heap_ne hb' _ _ _)
    still := setCells_still b _ _ _ }
   have hcell' : ∀ k, k < (len + ys.length) * sz' → (w.setCells b (o + len * sz') news).cell? (at_ b (o + k)) = some (f' k) := by
    intro k hk
    have hks : o + k < c.size := by omega
    rw [cell_cells hb1, hb3]
    by_cases hlt : k < len * sz'
    ·rw [if_neg (by omega)]
     have := g3 k hlt
     rw [cell_cells hbc] at this
     simp only [f', hlz, hlt, if_true]; exact this
    ·have hkn : k - len * sz' < news.length := by rw [hnl]; rw [Nat.add_mul] at hk; omega
     rw [if_pos ⟨by omega, by omega, hks⟩]
     simp only [f', hlz, hlt, if_false]
     rw [show o + k - (o + len * sz') = k - len * sz' by omega, List.getElem?_eq_getElem hkn]
     simp [List.getD, hkn]
   have hone' : ∀ k, k < (len + ys.length) * sz' → (f' k).oneCell' = true := by
    intro k hk
    simp only [f', hlz]
    split
    ·rename_i hlt; exact g4 k hlt
    ·have hkn : k - len * sz' < news.length := by rw [hnl]; rw [Nat.add_mul] at hk; omega
     have : news.getD (k - len * sz') undef = news[k - len * sz'] := by simp [List.getD, hkn]
     rw [this]; exact hsr.one _ (List.getElem_mem _)
   have hzz : ∀ X, X ∈ xs ++ ys → X.cells.length = sz' := fun X hX => by
    rcases List.mem_append.1 hX with hX | hX
    ·exact g1 X hX
    ·exact hyz X hX
   have hvv : ∀ (i : Nat) X (j : Nat) Y, (xs ++ ys)[i]? = some X → X.cells[j]? = some Y → Rv G' (w.setCells b (o + len * sz') news) Y (f' (i * sz' + j)) :=
    fun i X j Y hX hY => (rows_append g1 g2 hyv i X j Y hX hY).stay ge
   refine ⟨_, _, G', hrun, ?_⟩
   have hg := h.grow (w' := w.setCells b (o + len * sz') news) ge [] (by simpa [G'] using h.n) ?_ (by rw [setCells_size]; exact Nat.le_refl _) 0
    (fun b' hb' => by
     by_cases hbb : b' = b
     ·exact .inr ⟨_, hown, hbb.symm⟩
     ·exact .inl (setCells_heap_ne hbb _ _ _)) ?_ (.list sz' (xs ++ ys) fl) (.slice (some (at_ b o)) (len + ys.length) cap)
    ?_ (by intro k B hB; simp at hB) (.slot 0 0) (fun _ => .fly 0 0) (fun _ => ⟨0, 0, rfl⟩) ?_ ?_ ?_
   ·simpa using hg
   ·rintro b' k (hd | ⟨_, rfl, _, _⟩)
    ·rw [setCells_size]; exact h.Db _ _ hd
    ·rw [setCells_size]; exact hok.lt
   ·rintro b' k (hd | ⟨_, rfl, _, _⟩)
    ·exact .inl hd
    ·exact .inr (.inr ⟨_, hown, rfl⟩)
   ·rcases hfl with rfl | rfl
    ·refine Rt.of (.list sz' (xs ++ ys) .own b o (len + ys.length) cap f' (by simp [hlen]) hroom (by simp) hzz hvv hcell' (fun k hk => ?_) hone') rfl
     by_cases hlt : k < len * sz'
     ·exact .inl (g5 (by simp) k hlt)
     ·exact .inr ⟨by simp, rfl, by omega, by omega⟩
    ·exact .inr ⟨b, o, len + ys.length, cap, f', rfl, by simp [hlen], hroom, hzz, hvv, hcell', hone'⟩
   ·intro k a ha
    have ha' : k = 0 ∧ ((fl = .own ∧ a = (b, o + (len + ys.length) * sz', o + cap * sz')) ∨ (fl = .uniq ∧ a = (b, o, o + cap * sz'))) := by
     simp only [ownC] at ha
     split at ha
     ·rename_i hk
      refine ⟨hk, ?_⟩
      rcases hfl with rfl | rfl
      ·simp only [own0] at ha
       split at ha
       ·simp at ha; exact .inl ⟨rfl, ha.symm⟩
       ·cases ha
      ·simp only [own0] at ha
       split at ha
       ·simp at ha; exact .inr ⟨rfl, ha.symm⟩
       ·cases ha
     ·cases ha
    obtain ⟨rfl, ha'⟩ := ha'
    have hfz : ∀ x, (w.setCells b (o + len * sz') news).frozen? (at_ b x) = w.frozen? (at_ b x) := by
     intro x; obtain ⟨lo, hi⟩ := fr; rw [frozen_cells hb1, frozen_cells hbc]
    rcases ha' with ⟨hf, rfl⟩ | ⟨hf, rfl⟩
    ·refine ⟨⟨by show b < _; rw [setCells_size]; exact hok.lt, .inr ⟨c', te, fr, hb1, by show o + cap * sz' ≤ c'.size; omega⟩, ?_, fun x q1 hd => ?_⟩, .inr ⟨_, hown, rfl⟩⟩
     ·intro hc0 c2 e2 fr2 hc2
      rw [show (w.setCells b (o + len * sz') news).heap[b]? = _ from hb1] at hc2
      simp only [Option.some.injEq, Obj.cells.injEq] at hc2
      obtain ⟨rfl, _, rfl⟩ := hc2
      rw [hb2]; exact hok.frozen hc0 c te fr hbc
     ·have q1' : o + (len + ys.length) * sz' ≤ x := q1
      rcases hd with hd | ⟨_, _, _, hd⟩
      ·exact hDno x (by rw [Nat.add_mul] at q1'; omega) hd
      ·exact absurd hd (Nat.not_lt.2 q1')
    ·refine ⟨⟨by show b < _; rw [setCells_size]; exact hok.lt, .inr ⟨c', te, fr, hb1, by show o + cap * sz' ≤ c'.size; omega⟩, ?_, fun x q1 hd => ?_⟩, .inr ⟨_, hown, rfl⟩⟩
     ·intro hc0 c2 e2 fr2 hc2
      rw [show (w.setCells b (o + len * sz') news).heap[b]? = _ from hb1] at hc2
      simp only [Option.some.injEq, Obj.cells.injEq] at hc2
      obtain ⟨rfl, _, rfl⟩ := hc2
      rw [hb2]; exact hok.frozen hc0 c te fr hbc
     ·rcases hd with hd | ⟨hd, _, _, _⟩
      ·exact hok.D x (by show (if fl = .uniq then o else o + len * sz') ≤ x; rw [if_pos hf]; exact q1) hd
      ·exact hd hf
   ·rintro p a (⟨id, off, rfl, hid⟩ | ⟨id, rfl, hid⟩) hp
    ·simp only [ownP, List.append_nil] at hp; rw [List.getElem?_eq_none hid] at hp; cases hp
    ·simp only [ownP, List.append_nil] at hp; rw [List.getElem?_eq_none hid] at hp; cases hp
   ·intro p q a' b' hp hq hpa hqa _
    have key : ∀ p a, ((∃ i, p = .fly 0 i) ∨ (∃ id off, p = .cell id off ∧ H.length ≤ id) ∨ ∃ id, p = .box id ∧ H.length ≤ id) →
      ownP G' ⟨env, tm, [(.list sz' (xs ++ ys) fl, .slice (some (at_ b o)) (len + ys.length) cap)], H ++ []⟩ (w.setCells b (o + len * sz') news) p = some a → p = .fly 0 0 := by
     rintro p a (⟨i, rfl⟩ | ⟨id, off, rfl, hid⟩ | ⟨id, rfl, hid⟩) hp
     ·simp only [ownP, List.getElem?_cons_zero, ownC] at hp
      split at hp
      ·rename_i hi; rw [hi]
      ·cases hp
     ·simp only [ownP, List.append_nil] at hp; rw [List.getElem?_eq_none hid] at hp; cases hp
     ·simp only [ownP, List.append_nil] at hp; rw [List.getElem?_eq_none hid] at hp; cases hp
    rw [key q b' hq hqa, key p a' (by rcases hp with rfl | hp <;> first | exact .inl ⟨0, rfl⟩ | exact hp) hpa]
 ·-- a new row
  have hcl : cap < len + ys.length := by omega
  have hfit : Builtin.nextslicecap (len + ys.length) cap * i.bytes ≤ 281474976710656 := by
   have h1 := nextcap_le hcl
   have h2 : Builtin.nextslicecap (len + ys.length) cap * i.bytes ≤ (2 * (len + ys.length)) * i.bytes := Nat.mul_le_mul_right _ h1
   rw [Nat.mul_assoc] at h2
   omega
  obtain ⟨olds, hold, holdl, holdv, holdz, hold1⟩ : ∃ olds : List Value, (Builtin.firstCells i.size len (.slice base len cap)).run P w.drew = .ok olds.toArray w.drew ∧ olds.length = len * sz' ∧
    (∀ (i : Nat) X (j : Nat) Y, xs[i]? = some X → X.cells[j]? = some Y → Rv G w Y (olds.getD (i * sz' + j) undef)) ∧ (∀ X, X ∈ xs → X.cells.length = sz') ∧ ∀ v ∈ olds, v.oneCell' = true := by
   rcases hbase with ⟨rfl, rfl, rfl⟩ | ⟨b, o, f, rfl, g1, g2, g3, g4, g5⟩
   ·simp at hlen; subst hlen
    exact ⟨[], run_firstCells_none w.drew _ _ _ _, by simp, by intro i X j Y hX; simp at hX, by simp, by simp⟩
   ·refine ⟨(List.range (len * sz')).map f, ?_, by simp, fun q X j Y hX hY => ?_, g1, fun v hv => ?_⟩
    ·rw [hs]
     exact run_firstCells_some w.drew sz' len (at_ b o) len cap _ (by simp) (fun j v hj => by
      obtain ⟨hj', rfl⟩ := range_get hj
      rw [add_at]; exact g3 j hj')
    ·have hi' : q < len := by rw [← hlen]; exact (List.getElem?_eq_some_iff.1 hX).1
     have hj : j < sz' := by rw [← g1 X (List.mem_of_getElem? hX)]; exact (List.getElem?_eq_some_iff.1 hY).1
     have hb : q * sz' + j < len * sz' := by
      have : (q + 1) * sz' ≤ len * sz' := Nat.mul_le_mul_right _ (by omega)
      rw [Nat.add_mul] at this; omega
     have := g2 q X j Y hX hY
     simpa [List.getD, hb] using this
    ·obtain ⟨k, hk, rfl⟩ := List.mem_map.1 hv
     exact g4 k (List.mem_range.1 hk)
  have hrun := run_append_grow_src w t tx ty e i z hu hi hiz base len cap olds hold yv ys.length news hsr hcl hn63 hfit
  let f' : Nat → Value := fun k => if k < xs.length * sz' then olds.getD k undef else news.getD (k - xs.length * sz') undef
  let cap' := grownCap w (len + ys.length) cap e
  have hcap' : len + ys.length ≤ cap' := Nat.le_add_right _ _
  let arr := (olds ++ news).toArray ++ Builtin.zeroCells z.cells (cap' - (len + ys.length))
  have hzc' : (Builtin.zeroCells z.cells (cap' - (len + ys.length))).size = (cap' - (len + ys.length)) * sz' := by simp [Builtin.zeroCells, hzs]
  have hon : (olds ++ news).length = (len + ys.length) * sz' := by rw [List.length_append, holdl, hnl, Nat.add_mul]
  have harr : arr.size = cap' * sz' := by
   show ((olds ++ news).toArray ++ Builtin.zeroCells z.cells (cap' - (len + ys.length))).size = _
   rw [Array.size_append, hzc', List.size_toArray, hon, ← Nat.add_mul]
   congr 1; omega
  have hm : ∀ k, k < (len + ys.length) * sz' → arr[k]? = some (f' k) := by
   intro k hk
   show ((olds ++ news).toArray ++ Builtin.zeroCells z.cells (cap' - (len + ys.length)))[k]? = _
   rw [Array.getElem?_append_left (by simpa [hon] using hk), List.getElem?_toArray]
   by_cases hlt : k < len * sz'
   ·rw [List.getElem?_append_left (by omega), List.getElem?_eq_getElem (by omega)]
    simp only [f', hlz, hlt, if_true]
    simp [List.getD, show k < olds.length by omega]
   ·have hkn : k - olds.length < news.length := by rw [hnl, holdl]; rw [Nat.add_mul] at hk; omega
    rw [List.getElem?_append_right (by omega), List.getElem?_eq_getElem hkn]
    simp only [f', hlz, hlt, if_false]
    simp only [holdl] at hkn ⊢
    simp [List.getD, hkn]
  obtain ⟨G', hG⟩ := h.newData (w' := w.drew.alloc (.cells arr e)) arr e (0, 0) rfl (.ofPush rfl rfl rfl rfl) sz' (xs ++ ys) fl' (len + ys.length) cap' f' (by simp [hlen]) hcap'
   (by rcases hfl' with ⟨_, rfl | ⟨rfl, _⟩⟩ | ⟨_, rfl⟩ | ⟨_, rfl⟩ <;> simp)
   (fun X hX => by
    rcases List.mem_append.1 hX with hX | hX
    ·exact holdz X hX
    ·exact hyz X hX)
   (rows_append (f := fun k => olds.getD k undef) holdz holdv hyv) hm (fun k hk => by
    simp only [f', hlz]
    split
    ·rename_i hlt
     have : olds.getD k undef = olds[k] := by simp [List.getD, show k < olds.length by omega]
     rw [this]; exact hold1 _ (List.getElem_mem _)
    ·have hkn : k - len * sz' < news.length := by rw [hnl]; rw [Nat.add_mul] at hk; omega
     have : news.getD (k - len * sz') undef = news[k - len * sz'] := by simp [List.getD, hkn]
     rw [this]; exact hsr.one _ (List.getElem_mem _)) (by omega) (.inl rfl)
  exact ⟨_, _, G', hrun, hG⟩
end
end Go.Abs
