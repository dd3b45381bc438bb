import Derived.Test.YtheaccppdikjgaaGreatDoorK26d
import Derived.Deep.LoopGhost
namespace Go.Abs
open Go
set_option linter.unusedVariables false
set_option linter.unusedSimpArgs false
def chkCode (P : Program) (nt : Nat) : ACode → Code → Bool
 | .ghost _ x, c => chkCode P nt x c
 | .mloop I x, c => match mShape c with
  | some s => chkM P nt I s && chkCode P nt x s.rest
  | none => false
 | .stuck, _ => true
 | .skip, .skip => true
 | .region xs, .region _ ops false => chkOps P nt ops ops.toList xs
 | .regionS ss, .region _ ops false => chkOps P nt ops ops.toList (ss.flatMap (·.2))
 | .draw xs, .region _ ops true => chkDraw P nt ops xs
 | .seq x y, .seq a b => chkCode P nt x a && chkCode P nt y b
 | .cond x y z, .cond c a b => chkOpd nt c x && chkCode P nt y a && chkCode P nt z b
 | .block i x, .block j c => i == j && chkCode P nt x c
 | .loop x, .loop c => chkCode P nt x c
 | .exit i, .exit j => i == j
 | .ret, .ret => true
 | _, _ => false
def Out.exit' : Out → Exit
 | .normal => .normal
 | .exit i => .exit i
 | .ret => .ret
def LoopOK (lp : (Env → Heap → R) → Env → Heap → R) : Prop := ∀ step e H r, lp step e H = some r → ∃ n, iter n step e H = some r
section
variable {P : Program}
theorem code_ok (hm : P.follows .mixedOrders = true) {call : CallF} {lp : (Env → Heap → R) → Env → Heap → R} (hcall : ∀ f, FnOK P f (call f)) (hlp : LoopOK lp) {nt : Nat} {E : Ent} : ∀ (x : ACode) (c : Code), chkCode P nt x c = true →
  ∀ (a : Act) (G : Gh) (w : World) (e e' : Env) (H H' : Heap) (out : Out) (Q : Exit → Act → World → Prop), nt ≤ a.tmps.size → a.defers = [] → St E G ⟨e.get, tmOf a, [], H⟩ w → aexec call lp x e H = some (out, e', H') →
  (∀ G' a' w', nt ≤ a'.tmps.size → a'.defers = [] → St E G' ⟨e'.get, tmOf a', [], H'⟩ w' → Q out.exit' a' w') → c.wp P Q a w := by
 intro x
 induction x generalizing E with
 | mloop I x ih =>
  intro c hc a G w e e' H H' out Q hsz hd h hx hQ
  replace hc : (match mShape c with | some s => chkM P nt I s && chkCode P nt x s.rest | none => false) = true := by cases c <;> simpa only [chkCode] using hc
  split at hc
  case h_2 => cases hc
  rename_i s hs
  rw [Bool.and_eq_true] at hc
  rw [mShape_eq hs]
  simp only [aexec] at hx
  obtain ⟨⟨e1, H1⟩, h1, h2⟩ := Option.map_eq_some_iff.1 hx
  simp only [Prod.mk.injEq] at h2
  obtain ⟨rfl, rfl, rfl⟩ := h2
  exact mloop_ok hcall hc.1 (fun E a G w e e' H H' Q hsz hd h hx hQ => ih s.rest hc.2 a G w e e' H H' .normal Q hsz hd h hx hQ) hsz hd h h1 hQ
 | stuck =>
  intro c hc a G w e e' H H' out Q hsz hd h hx hQ
  simp only [aexec] at hx
  cases hx
 | skip =>
  intro c hc a G w e e' H H' out Q hsz hd h hx hQ
  cases c <;> simp only [chkCode, Bool.false_eq_true] at hc
  simp only [aexec, Option.some.injEq, Prod.mk.injEq] at hx
  obtain ⟨rfl, rfl, rfl⟩ := hx
  exact wp_skip (hQ G a w hsz hd h)
 | region xs =>
  intro c hc a G w e e' H H' out Q hsz hd h hx hQ
  cases c <;> try (simp only [chkCode, Bool.false_eq_true] at hc; done)
  rename_i id ops dr
  cases dr <;> first | (simp [chkCode] at hc; done) | skip
  replace hc : chkOps P nt ops ops.toList xs = true := hc
  simp only [aexec] at hx
  obtain ⟨⟨e1, H1⟩, h1, h2⟩ := Option.map_eq_some_iff.1 hx
  simp only [Prod.mk.injEq] at h2
  obtain ⟨rfl, rfl, rfl⟩ := h2
  exact region_ok hcall hc hsz h h1 fun G' a' w' hs hd' hst => hQ G' a' w' hs (hd'.trans hd) hst
 | regionS ss =>
  intro c hc a G w e e' H H' out Q hsz hd h hx hQ
  cases c <;> try (simp only [chkCode, Bool.false_eq_true] at hc; done)
  rename_i id ops dr
  cases dr <;> first | (simp [chkCode] at hc; done) | skip
  replace hc : chkOps P nt ops ops.toList (ss.flatMap (·.2)) = true := hc
  simp only [aexec] at hx
  obtain ⟨⟨e1, H1⟩, h1, h2⟩ := Option.map_eq_some_iff.1 hx
  simp only [Prod.mk.injEq] at h2
  obtain ⟨rfl, rfl, rfl⟩ := h2
  exact regionS_ok hcall hc hsz h h1 fun G' a' w' hs hd' hst => hQ G' a' w' hs (hd'.trans hd) hst
 | draw xs =>
  intro c hc a G w e e' H H' out Q hsz hd h hx hQ
  cases c <;> try (simp only [chkCode, Bool.false_eq_true] at hc; done)
  rename_i id ops dr
  cases dr <;> first | (simp [chkCode] at hc; done) | skip
  replace hc : chkDraw P nt ops xs = true := hc
  simp only [aexec] at hx
  obtain ⟨⟨e1, H1⟩, h1, h2⟩ := Option.map_eq_some_iff.1 hx
  simp only [Prod.mk.injEq] at h2
  obtain ⟨rfl, rfl, rfl⟩ := h2
  exact draw_ok hm hcall hc hsz h h1 fun G' a' w' hs hd' hst => hQ G' a' w' hs (hd'.trans hd) hst
 | ghost g x ih =>
  intro c hc a G w e e' H H' out Q hsz hd h hx hQ
  simp only [aexec] at hx
  obtain ⟨⟨e1, H1⟩, h1, h2⟩ := Option.bind_eq_some_iff.1 hx
  obtain ⟨G', hG⟩ := agh_ok h h1
  exact ih c (by cases c <;> simpa only [chkCode] using hc) a G' w e1 e' H1 H' out Q hsz hd hG h2 hQ
 | seq x y ihx ihy =>
  intro c hc a G w e e' H H' out Q hsz hd h hx hQ
  cases c <;> simp only [chkCode, Bool.false_eq_true, Bool.and_eq_true] at hc
  rename_i c1 c2
  simp only [aexec] at hx
  obtain ⟨⟨o1, e1, H1⟩, h1, h2⟩ := Option.bind_eq_some_iff.1 hx
  refine wp_seq (ihx c1 hc.1 a G w e e1 H H1 o1 _ hsz hd h h1 fun G' a' w' hs hd' hst => ?_)
  cases o1 with
  | normal => exact ihy c2 hc.2 a' G' w' e1 e' H1 H' out Q hs hd' hst h2 hQ
  | exit i => simp only [Option.some.injEq, Prod.mk.injEq] at h2; obtain ⟨rfl, rfl, rfl⟩ := h2; exact hQ G' a' w' hs hd' hst
  | ret => simp only [Option.some.injEq, Prod.mk.injEq] at h2; obtain ⟨rfl, rfl, rfl⟩ := h2; exact hQ G' a' w' hs hd' hst
 | cond cc x y ihx ihy =>
  intro c hc a G w e e' H H' out Q hsz hd h hx hQ
  cases c <;> simp only [chkCode, Bool.false_eq_true, Bool.and_eq_true] at hc
  rename_i c0 c1 c2
  simp only [aexec] at hx
  split at hx
  ·rename_i t ht
   have h1 := rd_ok h rfl ht (chkOpd_ok hc.1.1 a)
   have hv := Rv.bool_inv (show Rv G w (.bool t) (a.eval c0) from h1.fly 0 _ _ rfl)
   refine wp_cond hv ?_
   cases t
   ·simp only [Bool.false_eq_true, if_false] at hx ⊢
    exact ihy c2 hc.2 a G w e e' H H' out Q hsz hd h hx hQ
   ·simp only [if_true] at hx ⊢
    exact ihx c1 hc.1.2 a G w e e' H H' out Q hsz hd h hx hQ
  ·cases hx
 | block id x ih =>
  intro c hc a G w e e' H H' out Q hsz hd h hx hQ
  cases c <;> simp only [chkCode, Bool.false_eq_true, Bool.and_eq_true, beq_iff_eq] at hc
  rename_i id' c1
  obtain ⟨rfl, hc⟩ := hc
  simp only [aexec] at hx
  obtain ⟨⟨o1, e1, H1⟩, h1, h2⟩ := Option.map_eq_some_iff.1 hx
  refine wp_block (ih c1 hc a G w e e1 H H1 o1 _ hsz hd h h1 fun G' a' w' hs hd' hst => ?_)
  cases o1 with
  | normal => simp only [Prod.mk.injEq] at h2; obtain ⟨rfl, rfl, rfl⟩ := h2; exact hQ G' a' w' hs hd' hst
  | exit i =>
   simp only at h2
   show if i = id then Q .normal a' w' else Q (.exit i) a' w'
   split at h2
   ·rename_i hi
    simp only [Prod.mk.injEq] at h2; obtain ⟨rfl, rfl, rfl⟩ := h2
    rw [if_pos hi]; exact hQ G' a' w' hs hd' hst
   ·rename_i hi
    simp only [Prod.mk.injEq] at h2; obtain ⟨rfl, rfl, rfl⟩ := h2
    rw [if_neg hi]; exact hQ G' a' w' hs hd' hst
  | ret => simp only [Prod.mk.injEq] at h2; obtain ⟨rfl, rfl, rfl⟩ := h2; exact hQ G' a' w' hs hd' hst
 | loop x ih =>
  intro c hc a G w e e' H H' out Q hsz hd h hx hQ
  cases c <;> simp only [chkCode, Bool.false_eq_true] at hc
  rename_i c1
  simp only [aexec] at hx
  obtain ⟨n0, hn0⟩ := hlp _ _ _ _ hx
  refine wp_loop_ghost (fun n a w => ∃ G e H, nt ≤ a.tmps.size ∧ a.defers = [] ∧ St E G ⟨e.get, tmOf a, [], H⟩ w ∧ iter n (fun e H => aexec call lp x e H) e H = some (out, e', H')) n0 ⟨G, e, H, hsz, hd, h, hn0⟩ ?_
  rintro n a w ⟨G, e, H, hsz, hd, h, hn⟩
  cases n with
  | zero => simp [iter] at hn
  | succ n =>
   simp only [iter] at hn
   obtain ⟨⟨o1, e1, H1⟩, h1, h2⟩ := Option.bind_eq_some_iff.1 hn
   refine ih c1 hc a G w e e1 H H1 o1 _ hsz hd h h1 fun G' a' w' hs hd' hst => ?_
   cases o1 with
   | normal => exact ⟨n, Nat.lt_succ_self _, G', e1, H1, hs, hd', hst, h2⟩
   | exit i => simp only [Option.some.injEq, Prod.mk.injEq] at h2; obtain ⟨rfl, rfl, rfl⟩ := h2; exact hQ G' a' w' hs hd' hst
   | ret => simp only [Option.some.injEq, Prod.mk.injEq] at h2; obtain ⟨rfl, rfl, rfl⟩ := h2; exact hQ G' a' w' hs hd' hst
 | exit id =>
  intro c hc a G w e e' H H' out Q hsz hd h hx hQ
  cases c <;> simp only [chkCode, Bool.false_eq_true, beq_iff_eq] at hc
  subst hc
  simp only [aexec, Option.some.injEq, Prod.mk.injEq] at hx
  obtain ⟨rfl, rfl, rfl⟩ := hx
  exact wp_exit (hQ G a w hsz hd h)
 | ret =>
  intro c hc a G w e e' H H' out Q hsz hd h hx hQ
  cases c <;> simp only [chkCode, Bool.false_eq_true] at hc
  simp only [aexec, Option.some.injEq, Prod.mk.injEq] at hx
  obtain ⟨rfl, rfl, rfl⟩ := hx
  exact wp_ret (hQ G a w hsz hd h)
def chkFn (P : Program) (f : FuncId) (af : AFunc) : Bool :=
 match P.funcs[f]? with
 | some fn => (match fn.body with | some c => chkCode P af.nt af.body c | none => false) && af.nt == fn.ntmps && chkRes P fn.results.toList af.res && !(fn.name == "runtime.NumGoroutine")
 | none => false
theorem initEnv_get : ∀ (vs : List AVal) (i t : Nat), (initEnv i vs).get t = if i ≤ t then vs.getD (t - i) .any else .any
 | [], i, t => by simp [initEnv, Env.get]
 | v :: vs, i, t => by
  simp only [initEnv, Env.get, initEnv_get vs]
  by_cases h : t = i
  ·subst h; simp
  ·simp only [h, if_false]
   by_cases h2 : i + 1 ≤ t
   ·rw [if_pos h2, if_pos (by omega), show t - i = (t - (i + 1)) + 1 by omega]; rfl
   ·rw [if_neg h2, if_neg (by omega)]
theorem St.begin {E G H w} {args : List AVal} {argv : List Value} (hl : args.length = argv.length) (h : St E G (bare (args.zip argv) H) w) (n : Nat) :
  St E G ⟨(initEnv 0 args).get, tmOf ⟨argv.toArray ++ Array.replicate n undef, []⟩, [], H⟩ w := by
 have hget : ∀ t, (initEnv 0 args).get t = args.getD t .any := by intro t; rw [initEnv_get]; simp
 have hin : ∀ t, (ht : t < args.length) → (args.zip argv)[t]? = some (args[t], argv[t]) ∧ (initEnv 0 args).get t = args[t] ∧ tmOf ⟨argv.toArray ++ Array.replicate n undef, []⟩ t = argv[t] := by
  intro t ht
  refine ⟨?_, ?_, ?_⟩
  ·rw [List.getElem?_zip_eq_some]; exact ⟨List.getElem?_eq_getElem ht, List.getElem?_eq_getElem (by omega)⟩
  ·rw [hget, List.getD_eq_getElem?_getD, List.getElem?_eq_getElem ht]; rfl
  ·simp only [tmOf, Array.getD_eq_getD_getElem?]
   rw [Array.getElem?_append_left (by simp; omega)]
   simp [show t < argv.length by omega]
 have hout : ∀ t, ¬ t < args.length → (initEnv 0 args).get t = .any := by
  intro t ht; rw [hget, List.getD_eq_getElem?_getD, List.getElem?_eq_none (by omega)]; rfl
 refine h.shuffle rfl (fun t => ?_) (fun k V v hk => by simp at hk) (fun p => match p with | .slot t i => .fly t i | p => p) (fun p a ha => ?_) (fun p q a b hp hq hpq => ?_)
 ·by_cases ht : t < args.length
  ·obtain ⟨h1, h2, h3⟩ := hin t ht
   have h4 := h.fly t _ _ h1
   simp only [h2, h3]; exact h4
  ·simp only [hout t ht]; exact Rv.any _
 ·cases p with
  | slot t i =>
   by_cases ht : t < args.length
   ·obtain ⟨h1, h2, h3⟩ := hin t ht
    simp only [ownP, h2, h3] at ha
    simp only [ownP, h1]; exact ha
   ·simp only [ownP, hout t ht] at ha; cases i <;> simp [ownC, own0] at ha
  | fly k i => simp [ownP] at ha
  | _ => exact ha
 ·cases p <;> cases q <;> first
   | (simp [ownP] at hp; done)
   | (simp [ownP] at hq; done)
   | (simp only [Pos.fly.injEq] at hpq; obtain ⟨rfl, rfl⟩ := hpq; rfl)
   | exact hpq
   | cases hpq
theorem fn_ok (hm : P.follows .mixedOrders = true) {call : CallF} {lp : (Env → Heap → R) → Env → Heap → R} (hcall : ∀ f, FnOK P f (call f)) (hlp : LoopOK lp) {f : FuncId} {af : AFunc} (hc : chkFn P f af = true) :
  FnOK P f (runFn call lp af) := by
 intro G H args argv w V H' hl h hr
 unfold chkFn at hc
 split at hc
 ·rename_i fn hf
  simp only [Bool.and_eq_true, beq_iff_eq, Bool.not_eq_true'] at hc
  obtain ⟨⟨⟨h1, h2⟩, h3⟩, h4⟩ := hc
  split at h1
  ·rename_i c hb
   refine ⟨⟨fn, hf, by simpa using h4, by rw [hb]; rfl⟩, ?_⟩
   simp only [runFn] at hr
   obtain ⟨⟨out, e', H1⟩, hx, hr⟩ := Option.bind_eq_some_iff.1 hr
   refine calls_of_wp hf hb ?_
   refine code_ok hm hcall hlp af.body c h1 _ G w _ e' H H1 out _ ?_ rfl (St.begin hl h _) hx ?_
   ·rw [h2]; simp; omega
   ·intro G' a' w' hs hd hst
    have fin : out ≠ .exit 0 → ∀ Vs, getRes e' H1 af.res = some Vs → ∀ V1, tup Vs = some V1 → trim af.keep H V1 H1 = some (V, H') →
      a'.defers = [] ∧ ∃ v, (results fn a'.tmps).run P w' = .ok v w' ∧ ∃ v1 G1, Ending.returned v = .returned v1 ∧ St (entOf G (bare (args.zip argv) H) w) G1 (bare [(V, v1)] H') w' := by
     intro _ Vs hVs V1 hV1 htr
     obtain ⟨vs, env', g1, g2, g3⟩ := res_ok (P := P) (tmps := a'.tmps) fn.results.toList af.res e' [] Vs h3 hVs hst
     have g4 := tup_ok g2 hV1 (by simpa using g3)
     obtain ⟨rfl, G1, g5⟩ := trim_ok h.n h.box htr g4
     refine ⟨hd, _, ?_, _, G1, rfl, g5⟩
     simp only [results]
     rw [Array.mapM_eq_mapM_toList]
     simp only [bind_map_left, Sem.run_bind]
     exact (congrArg (fun r => Result.andThen r _) g1).trans rfl
    cases out with
    | exit i => simp at hr
    | normal =>
     simp only at hr
     obtain ⟨Vs, hVs, hr⟩ := Option.bind_eq_some_iff.1 hr
     obtain ⟨V1, hV1, hr⟩ := Option.bind_eq_some_iff.1 hr
     exact fin (by simp) Vs hVs V1 hV1 hr
    | ret =>
     simp only at hr
     obtain ⟨Vs, hVs, hr⟩ := Option.bind_eq_some_iff.1 hr
     obtain ⟨V1, hV1, hr⟩ := Option.bind_eq_some_iff.1 hr
     exact fin (by simp) Vs hVs V1 hV1 hr
  ·cases h1
 ·cases hc
end
end Go.Abs
