import Derived.Test.YtheaccppdikjgaaGreatDoorK29
import Derived.Below
namespace Go.Abs
open Go Go.RowKit
set_option linter.unusedVariables false
set_option linter.unusedSimpArgs false
def tailA (keep : Bool) (H0 H : Heap) : Option (List AVal) → Option (AVal × Heap)
 | some vs => (tup vs).bind fun v => trim keep H0 v H
 | none => none
def finA (keep : Bool) (rs : List ARes) (H0 : Heap) : R → Option (AVal × Heap)
 | some (.exit _, _, _) => none
 | some (_, e, H) => tailA keep H0 H (getRes e H rs)
 | none => none
def consV (v : AVal) : Option (List AVal) → Option (List AVal)
 | some vs => some (v :: vs)
 | none => none
def cellQ (agg : Bool) (n : Nat) (e : Env) (H : Heap) (rs : List ARes) : AVal → Option (List AVal)
 | .ptr id off => (evLoad agg n false (.ptr id off) H).bind fun p => consV p.1 (getRes e H rs)
 | _ => none
theorem run_fn (c l nt k body rs args H) : runFn c l ⟨nt, k, body, rs⟩ args H = finA k rs H (aexec c l body (initEnv 0 args) H) := by
 simp only [runFn]
 cases aexec c l body (initEnv 0 args) H with
 | none => rfl
 | some r =>
  rcases r with ⟨o, e, H'⟩
  simp only [Option.bind_some]
  cases o <;> simp only [finA] <;> (cases getRes e H' rs <;> rfl)
theorem fin_ret (k rs H0 e H) : finA k rs H0 (some (.ret, e, H)) = tailA k H0 H (getRes e H rs) := rfl
theorem fin_normal (k rs H0 e H) : finA k rs H0 (some (.normal, e, H)) = tailA k H0 H (getRes e H rs) := rfl
theorem q_nil (e H) : getRes e H [] = some [] := rfl
theorem q_tmp (e H t rs) : getRes e H (.tmp t :: rs) = consV (e.get t) (getRes (e.put t (e.get t).demote) H rs) := by
 simp only [getRes, Env.take]
 cases getRes (e.put t (e.get t).demote) H rs <;> rfl
theorem q_cell (e H t agg n rs) : getRes e H (.cell t agg n :: rs) = cellQ agg n e H rs (e.get t) := by
 simp only [getRes]
 cases e.get t <;> first | rfl | skip
 simp only [cellQ]
 cases evLoad agg n false (.ptr _ _) H with
 | none => rfl
 | some p => simp only [Option.bind_some]; cases getRes e H rs <;> rfl
theorem q_cons (v vs) : consV v (some vs) = some (v :: vs) := rfl
theorem t_one (k H0 H v) : tailA k H0 H (some [v]) = trim k H0 v H := rfl
theorem t_none (k H0 H) : tailA k H0 H (some []) = trim k H0 (.tuple []) H := rfl
theorem t_more (k H0 H v u vs) (h : (v :: u :: vs).any AVal.isTuple = false) : tailA k H0 H (some (v :: u :: vs)) = trim k H0 (.tuple (v :: u :: vs)) H := by
 simp only [tailA, tup, h]; rfl
theorem trim_same (k H v) : trim k H v H = some (v, H) := by
 unfold trim; cases k <;> simp
theorem trimOK_app (n : Nat) : ∀ (H X : Heap), trimOK n H (H ++ X) = true
 | [], X => by cases X <;> rfl
 | B :: H, X => by simp [trimOK, Box.same_refl, trimOK_app n H X]
theorem trim_app (H X v) (h : v.under H.length = true) : trim false H v (H ++ X) = some (v, H) := by
 unfold trim
 cases X with
 | nil => simp
 | cons B X =>
  rw [if_neg (by simp), if_neg (by simp), h, trimOK_app]
  simp
theorem under_ints (n k) : ∀ l : List Int, AVal.underL n (l.map (AVal.int k)) = true
 | [] => rfl
 | x :: l => by simp [AVal.underL, AVal.under, under_ints n k l]
abbrev G0 (w : World) : Gh := ⟨0, fun b _ => b < w.heap.size, fun _ => 0, fun _ => undef, fun _ => 0⟩
theorem law_walk {P : Program} {f : FuncId} {sem : List AVal → Heap → Option (AVal × Heap)} (hf : FnOK P f sem) {args : List AVal} {argv : List Value} {w : World} (hl : args.length = argv.length)
  (hv : ∀ (i : Nat) V v, args[i]? = some V → argv[i]? = some v → Rv (G0 w) w V v ∧ V.plain = true) (hs : sem args [] = some (.bool true, [])) :
  Calls P f argv.toArray w fun e w' => e = .returned (.bool true) ∧ Below w.heap.size w w' := by
 have base : St (entOf (G0 w) (bare [] []) w) (G0 w) (bare [] []) w := {
  n := rfl
  Db := fun b o h => h
  slot := fun t => Rv.any _
  fly := fun k V v h => by simp at h
  box := fun id B h => by simp at h
  ok := fun p a h => by cases p <;> simp [ownP, ownC, own0] at h
  dis := fun p q a b _ h => by cases p <;> simp [ownP, ownC, own0] at h
  fr := ⟨Nat.le_refl _, fun _ _ => ⟨rfl, rfl, rfl⟩, fun _ _ h => h, fun _ _ h _ => .inl h, Nat.le_refl _, fun _ _ _ => rfl, fun _ _ _ => rfl, .refl w⟩
  new := fun p a h => by cases p <;> simp [ownP, ownC, own0] at h }
 have h1 := St.adds args argv [] base hl hv
 rw [List.nil_append] at h1
 have h2 := h1.enter
 obtain ⟨_, hc⟩ := hf (G0 w) [] args argv w (.bool true) [] hl h2 hs
 refine hc.mono fun e w' he => ?_
 obtain ⟨v, G', rfl, hst⟩ := he
 have hv1 := Rv.bool_inv (show Rv G' w' (.bool true) v from hst.fly 0 _ _ rfl)
 subst hv1
 refine ⟨rfl, hst.fr.still.os, hst.fr.still.tape, hst.fr.still.output, hst.fr.size, fun b hb => hst.fr.heap b hb ?_⟩
 rintro ⟨p, a, ha, _⟩
 have noown : ∀ p a, ownP (G0 w) (bare (args.zip argv) []) w p ≠ some a := by
  intro p a ha
  cases p with
  | slot t i => simp [ownP, ownC, own0] at ha
  | fly k i =>
   simp only [ownP] at ha
   split at ha
   ·rename_i V v hk
    rw [List.getElem?_zip_eq_some] at hk
    rw [ownC_plain (hv k V v hk.1 hk.2).2] at ha; cases ha
   ·cases ha
  | cell id off => simp [ownP] at ha
  | box id => simp [ownP] at ha
 exact noown p a ha
theorem cell_lt {w : World} {b o : Nat} {v : Value} (h : w.cell? (at_ b o) = some v) : b < w.heap.size := by
 unfold World.cell? at h
 rcases Nat.lt_or_ge b w.heap.size with h1 | h1
 ·exact h1
 ·rw [Array.getElem?_eq_none h1] at h; cases h
theorem rv_ints {w : World} {k : IntKind} {a : Option Addr} {len cap : Nat} {zs : List Int} (hs : ∀ x, a = some x → x.spot = none)
  (h : (a = none ∧ len = 0 ∧ cap = 0 ∧ zs = []) ∨ ∃ x, a = some x ∧ len ≤ cap ∧ zs.length = cap ∧ (∀ i, i < zs.length → w.cell? (x.add i) = some (.int k (zs.getD i 0)))) :
  Rv (G0 w) w (.list 1 ((zs.take len).map (AVal.int k)) .ro) (.slice a len cap) := by
 rcases h with ⟨rfl, rfl, rfl, rfl⟩ | ⟨x, rfl, hlc, hz, hc⟩
 ·exact .nilList 1 .ro
 ·have hx := hs x rfl
  obtain ⟨b, o, sp⟩ := x
  simp only at hx; subst hx
  have hc' : ∀ i, i < cap → w.cell? (at_ b (o + i)) = some (.int k (zs.getD i 0)) := by
   intro i hi
   rw [← add_at]; exact hc i (by omega)
  have hl : (zs.take len).length = len := by rw [List.length_take]; omega
  refine .list 1 _ .ro b o len cap (fun i => .int k (zs.getD i 0)) (by simp; omega) hlc (by simp) ?_ ?_ (fun i hi => hc' i (by omega)) (fun i hi => cell_lt (hc' i (by omega))) (fun _ _ => rfl)
  ·intro X hX
   obtain ⟨n, _, rfl⟩ := List.mem_map.1 hX
   rfl
  ·intro i X j Y hX hY
   simp only [List.getElem?_map, Option.map_eq_some_iff] at hX
   obtain ⟨n, hn, rfl⟩ := hX
   cases j with
   | zero =>
    simp [AVal.cells] at hY; subst hY
    have : zs.getD (i * 1 + 0) 0 = n := by
     rw [List.getElem?_take] at hn
     split at hn
     ·simp [List.getD_eq_getElem?_getD, hn]
     ·cases hn
    simp only [this]; exact .int k n
   | succ j => simp [AVal.cells] at hY
end Go.Abs
