import Derived.Test.YtnogeclgmdkabaaK42
namespace Go.Abs
open Go Go.RowKit Go.ChangeShapes Go.WideShapes
set_option linter.unusedVariables false
set_option linter.unusedSimpArgs false
theorem pairs_of : ∀ (rows : List (List AVal)), (∀ r ∈ rows, Reps [.str, .str] r) → ∃ l : List (List UInt8 × List UInt8), rows.map AVal.agg = l.map (fun x => .agg [.str x.1, .str x.2]) ∧ l.length = rows.length
 | [], _ => ⟨[], rfl, rfl⟩
 | r :: rows, h => by
  obtain ⟨R, h1, h2⟩ := pairs_of rows (fun x hx => h x (List.mem_cons_of_mem _ hx))
  have h3 := h r List.mem_cons_self
  cases h3 with
  | cons a h3 => cases h3 with
   | cons b h3 =>
    cases h3; cases a; cases b
    rename_i s _ t _
    exact ⟨(s, t) :: R, by rw [List.map_cons, List.map_cons, h1], by simp [h2]⟩
theorem st_agg7 {w : World} {A B C D E F K : AVal} {a b c d e f k : Value} (h1 : Stands w A a) (h2 : Stands w B b) (h3 : Stands w C c) (h4 : Stands w D d) (h5 : Stands w E e) (h6 : Stands w F f) (h7 : Stands w K k) :
  Stands w (.agg [A, B, C, D, E, F, K]) (.agg #[a, b, c, d, e, f, k]) := by
 refine ⟨.agg _ _ rfl ?_, ?_⟩
 ·intro j Y hY
  match j, hY with
  | 0, hY => cases hY; exact h1.1
  | 1, hY => cases hY; exact h2.1
  | 2, hY => cases hY; exact h3.1
  | 3, hY => cases hY; exact h4.1
  | 4, hY => cases hY; exact h5.1
  | 5, hY => cases hY; exact h6.1
  | 6, hY => cases hY; exact h7.1
  | n + 7, hY => simp at hY
 ·rfl
theorem open_batch {H : Type} {enc : TypeId × Value → H} {P : Program} {W : World} {base : Nat} {held : Bool} {t t0 t1 t2 t3 t4 t5 t6 e6 : TypeId} {fs : Array Field} {v : Value} {d : DataW H} {ps : List MemPlace}
  (hu : P.underlying t = some (.struct fs)) (hc : P.cellTypes P.depth t = some [t0, t1, t2, t3, t4, t5, t6]) (hz : P.cellsOf t = 7)
  (f0 : ∃ f, fs[0]? = some f ∧ f.type = t0 ∧ f.offset = 0) (f1 : ∃ f, fs[1]? = some f ∧ f.type = t1 ∧ f.offset = 1) (f2 : ∃ f, fs[2]? = some f ∧ f.type = t2 ∧ f.offset = 2) (f3 : ∃ f, fs[3]? = some f ∧ f.type = t3 ∧ f.offset = 3)
  (f4 : ∃ f, fs[4]? = some f ∧ f.type = t4 ∧ f.offset = 4) (f5 : ∃ f, fs[5]? = some f ∧ f.type = t5 ∧ f.offset = 5) (f6 : ∃ f, fs[6]? = some f ∧ f.type = t6 ∧ f.offset = 6)
  (z0 : P.cellsOf t0 = 1) (z1 : P.cellsOf t1 = 1) (z2 : P.cellsOf t2 = 1) (z3 : P.cellsOf t3 = 1) (z4 : P.cellsOf t4 = 1) (z5 : P.cellsOf t5 = 1) (z6 : P.cellsOf t6 = 1)
  (u0 : P.underlying t0 = some (.int .i64)) (u1 : P.underlying t1 = some (.int .i64)) (u2 : P.underlying t2 = some (.int .i64)) (u3 : P.underlying t3 = some (.int .i64))
  (u4 : P.underlying t4 = some .bool) (u5 : P.underlying t5 = some (.int .i64)) (u6 : P.underlying t6 = some (.slice e6))
  (g6 : flatsN P 2 e6 = some [.str, .str]) (q6 : P.cellsOf e6 = 2)
  (hv : Value.okWide P W .any base t v) (h : DataW.Trod enc P W 0 (fun _ => true) held t v d ps) :
  ∃ (x0 x1 x2 x3 : Int) (b : Bool) (x5 : Int) (l : List (List UInt8 × List UInt8)), Stands W (.agg [.int .i64 x0, .int .i64 x1, .int .i64 x2, .int .i64 x3, .bool b, .int .i64 x5, .list 2 (l.map fun x => .agg [.str x.1, .str x.2]) .ro]) v ∧
   (I64 x0 ∧ I64 x1 ∧ I64 x2 ∧ I64 x3 ∧ I64 x5) ∧ l.length ≤ 9223372036854775807 := by
 obtain ⟨arr, rfl, hs, hx, hcell⟩ := open_struct hu hc hv h
 rw [hz] at hs
 obtain ⟨y0, y1, y2, y3, y4, y5, y6, rfl⟩ : ∃ y0 y1 y2 y3 y4 y5 y6, arr = #[y0, y1, y2, y3, y4, y5, y6] := by
  obtain ⟨l⟩ := arr
  match l, hs with
  | [a, b, c, d, e, f, g], _ => exact ⟨a, b, c, d, e, f, g, rfl⟩
 obtain ⟨_, _, h0⟩ := open_field hx f0 z0 rfl
 obtain ⟨_, _, h1⟩ := open_field hx f1 z1 rfl
 obtain ⟨_, _, h2⟩ := open_field hx f2 z2 rfl
 obtain ⟨_, _, h3⟩ := open_field hx f3 z3 rfl
 obtain ⟨_, _, h4⟩ := open_field hx f4 z4 rfl
 obtain ⟨_, _, h5⟩ := open_field hx f5 z5 rfl
 obtain ⟨_, _, h6⟩ := open_field hx f6 z6 rfl
 obtain ⟨_, e, c6⟩ := hcell 6 y6 rfl
 cases e
 obtain ⟨n0, hn0, _, w0⟩ := DataW.trod_int u0 h0
 cases hn0
 obtain ⟨n1, hn1, _, w1⟩ := DataW.trod_int u1 h1
 cases hn1
 obtain ⟨n2, hn2, _, w2⟩ := DataW.trod_int u2 h2
 cases hn2
 obtain ⟨n3, hn3, _, w3⟩ := DataW.trod_int u3 h3
 cases hn3
 obtain ⟨n5, hn5, _, w5⟩ := DataW.trod_int u5 h5
 cases hn5
 obtain ⟨b, hb, _⟩ := DataW.trod_bool u4 h4
 cases hb
 obtain ⟨R, r1, r2, r3⟩ := open_rowf u6 g6 q6 c6 h6
 obtain ⟨l, e, hl⟩ := pairs_of R r2
 rw [e] at r1
 exact ⟨n0, n1, n2, n3, b, n5, l, st_agg7 (st_int .i64 n0) (st_int .i64 n1) (st_int .i64 n2) (st_int .i64 n3) (st_bool b) (st_int .i64 n5) r1, ⟨wf_i64 w0, wf_i64 w1, wf_i64 w2, wf_i64 w3, wf_i64 w5⟩, by rw [hl]; exact r3⟩
end Go.Abs
