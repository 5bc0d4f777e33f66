/- DERIVED. Texts laid together: KD KH. -/
import Derived.Test.YtcedljbapgmdmaaGreatZlF
/- DERIVED. Lifts: the law's own run. -/
set_option linter.all false
namespace Go.Proofs.YtcedljbapgmdmaaGreat.En
open Go Go.RowKit

noncomputable abbrev SLf (l : List (FuncId × Nat × Nat × Bool)) (I : Inp Fe) : Sig Fe := sigOf (P := Tryz.prog) ([conFAdd, conFSub, conFMul, conFSquare, conFNeg, conFIsZero, conFEqual, conTwice] ++ (psG ++ (psH ++ ([conLift, conRef, conRLift] ++ psA)))) [] [conWide] (I := I) [] msF (advP (dcf l) [62] [])
theorem SLf_ok (l : List (FuncId × Nat × Nat × Bool)) {I : Inp Fe} (h : InpOk I) : SigOk Tryz.prog (SLf l I) := sigOf_ok _ [] [conWide] [] msF_ok _ h
abbrev lfI (n : Nat) (f : Nat → Int) : Inp Fe := inOf [rwsB n f]
abbrev lfArgs (n : Nat) (s : Bool) : List (LV Fe) := [.vec (.inp 0 0) n, .bool s]
--@run lfBig (n : Nat) (f : Nat → Int) (s : Bool) := callF Tryz.prog (SLf [(10, 4, 5, true)] (lfI n f)) 60 4 (lfArgs n s) [] => .bool true
--@[
set_option maxRecDepth 100000 in
def lfBig_G (n : Nat) (f : Nat → Int) (s : Bool) : Prop := true = true ∧ true = true ∧ decide ((100 : Int) < (↑n : Int)) = true
set_option maxRecDepth 100000 in
theorem lfBig (n : Nat) (f : Nat → Int) (s : Bool) : (callF Tryz.prog (SLf [(10, 4, 5, true)] (lfI n f)) 60 4 (lfArgs n s) []).map (fun r => (r.1, r.2.2)) = some (.bool true, some (lfBig_G n f s)) := by kernel_rfl
--@]
noncomputable abbrev lfDs (b : Bool) : List (FuncId × Nat × Nat × Bool) := [(10, 4, 5, false), (4, 6, 5, b), (4, 7, 6, b), (4, 8, 8, true), (4, 8, 17, true), (4, 10, 6, b), (4, 11, 7, true)]
--@run lfF (n : Nat) (f : Nat → Int) (s : Bool) := callF Tryz.prog (SLf (lfDs false) (lfI n f)) 60 4 (lfArgs n s) [] => .bool true
--@[
set_option maxRecDepth 100000 in
def lfF_G (n : Nat) (f : Nat → Int) (s : Bool) : Prop := (true = true ∧ true = true ∧ decide ((100 : Int) < (↑n : Int)) = false) ∧ ((((∀ (j : Nat), j < n → Like (A := Fe) [LV.int IntKind.u8 (f j)] [LV.int IntKind.u8 (f j)]) ∧ n = n ∧ n ≤ 100) ∧ true = true) ∧ true = true) ∧ (liftT (wdF n f) = false ∧ true = true) ∧ (rtRT (sideF (wdF n f)) = false ∧ true = true) ∧ isz (Prod.snd (Prod.snd (liftF s (wdF n f)))) = true ∧ (liftT (wdF n f) = false ∧ true = true) ∧ ceqF (Prod.fst (liftF (!s) (wdF n f)), Prod.fst (Prod.snd (liftF (!s) (wdF n f))), Prod.snd (Prod.snd (liftF (!s) (wdF n f)))) (Prod.fst (liftF s (wdF n f)), fneg (Prod.fst (Prod.snd (liftF s (wdF n f)))), Prod.snd (Prod.snd (liftF s (wdF n f)))) = true
set_option maxRecDepth 100000 in
theorem lfF (n : Nat) (f : Nat → Int) (s : Bool) : (callF Tryz.prog (SLf (lfDs false) (lfI n f)) 60 4 (lfArgs n s) []).map (fun r => (r.1, r.2.2)) = some (.bool true, some (lfF_G n f s)) := by kernel_rfl
--@]
--@run lfT (n : Nat) (f : Nat → Int) (s : Bool) := callF Tryz.prog (SLf (lfDs true) (lfI n f)) 60 4 (lfArgs n s) [] => .bool true
--@[
set_option maxRecDepth 100000 in
def lfT_G (n : Nat) (f : Nat → Int) (s : Bool) : Prop := (true = true ∧ true = true ∧ decide ((100 : Int) < (↑n : Int)) = false) ∧ ((((∀ (j : Nat), j < n → Like (A := Fe) [LV.int IntKind.u8 (f j)] [LV.int IntKind.u8 (f j)]) ∧ n = n ∧ n ≤ 100) ∧ true = true) ∧ true = true) ∧ (liftT (wdF n f) = true ∧ true = true) ∧ (rtRT (sideF (wdF n f)) = true ∧ true = true) ∧ sameF (Prod.fst (liftF s (wdF n f)), Prod.fst (Prod.snd (liftF s (wdF n f))), Prod.snd (Prod.snd (liftF s (wdF n f)))) ((Prod.fst (Prod.fst (rlF s (wdF n f))), Prod.snd (Prod.fst (rlF s (wdF n f)))), (Prod.fst (Prod.fst (Prod.snd (rlF s (wdF n f)))), Prod.snd (Prod.fst (Prod.snd (rlF s (wdF n f))))), Prod.fst (Prod.snd (Prod.snd (rlF s (wdF n f)))), Prod.snd (Prod.snd (Prod.snd (rlF s (wdF n f))))) = true ∧ (liftT (wdF n f) = true ∧ true = true) ∧ ceqF (Prod.fst (liftF (!s) (wdF n f)), Prod.fst (Prod.snd (liftF (!s) (wdF n f))), Prod.snd (Prod.snd (liftF (!s) (wdF n f)))) (Prod.fst (liftF s (wdF n f)), fneg (Prod.fst (Prod.snd (liftF s (wdF n f)))), Prod.snd (Prod.snd (liftF s (wdF n f)))) = true
set_option maxRecDepth 100000 in
theorem lfT (n : Nat) (f : Nat → Int) (s : Bool) : (callF Tryz.prog (SLf (lfDs true) (lfI n f)) 60 4 (lfArgs n s) []).map (fun r => (r.1, r.2.2)) = some (.bool true, some (lfT_G n f s)) := by kernel_rfl
--@]
end Go.Proofs.YtcedljbapgmdmaaGreat.En

/- DERIVED. Lifts: the law's call. -/
set_option linter.all false
namespace Go.Proofs.YtcedljbapgmdmaaGreat.En
open Go Go.RowKit Go.Proofs.YtcedljbapgmdmaaGreat.Alg

/-- The y that is asked for. -/
noncomputable def yk (s : Bool) (a : Fe) : KF := bif s then -(za (sqF (sideF a))) else za (sqF (sideF a))
theorem yk_not (s : Bool) (a : Fe) : yk (!s) a = -(yk s a) := by
  cases s with
  | false => rfl
  | true => exact (Go.Proofs.YtcedljbapgmdmaaGreat.Alg.neg_neg _).symm
theorem lift_t {a : Fe} (h : liftT a = true) (s : Bool) : liftF s a = (a, (bif s then fneg (sqF (sideF a)) else sqF (sideF a)), fOne) := by unfold liftF; rw [h, cond_true]
theorem lift_f {a : Fe} (h : liftT a = false) (s : Bool) : liftF s a = zPt := by unfold liftF; rw [h, cond_false]
theorem yk_za (s : Bool) (a : Fe) : za (bif s then fneg (sqF (sideF a)) else sqF (sideF a)) = yk s a := by
  cases s with
  | false => rfl
  | true => exact za_neg _
theorem lift_rep {a : Fe} (h : liftT a = true) (s : Bool) : RepF (liftF s a) (some (za a, yk s a)) := by
  rw [lift_t h, ← yk_za]
  generalize (bif s then fneg (sqF (sideF a)) else sqF (sideF a)) = y
  exact rep_one a y
theorem lift_on {a : Fe} (h : liftT a = true) (s : Bool) : OnO (some (za a, yk s a)) := by
  have h1 := affT_iff.1 (sq_aff h)
  unfold yk
  generalize za (sqF (sideF a)) = y at *
  cases s with
  | false => exact h1
  | true => exact OnC.neg h1
theorem rlift_t {a : Fe} (h : rtRT (sideF a) = true) (s : Bool) : rlF s a = ((a, zE), (bif s then eneg (sqE (sideF a)) else sqE (sideF a)), eOne) := by unfold rlF; rw [h, cond_true]
theorem rlift_rep' {a q p : Fe} (hq : za q = za p) (s : Bool) : RepC ((a, zE), (bif s then eneg (q, zE) else (q, zE)), eOne) (some (za a, bif s then -(za p) else za p)) := by
  have h1 := rep_one a (bif s then fneg p else p)
  have hz := rz_re q
  rw [hq] at hz
  cases s with
  | false => exact ⟨(za a, za p, za fOne), ⟨rz_re a, hz, rz_re fOne⟩, h1⟩
  | true =>
    have h2 : RepF (a, fneg p, fOne) (some (za a, za (fneg p))) := h1
    rw [za_neg] at h2
    have h3 : Rep (za a, -(za p), za fOne) (some (za a, -(za p))) := by
      have e : z3 (a, fneg p, fOne) = (za a, -(za p), za fOne) := by
        show (za a, za (fneg p), za fOne) = _
        rw [za_neg]
      rw [← e]; exact h2
    exact ⟨(za a, -(za p), za fOne), ⟨rz_re a, rz_neg hz, rz_re fOne⟩, h3⟩
theorem rlift_rep {a : Fe} (h : rtRT (sideF a) = true) (s : Bool) : RepC (rlF s a) (some (za a, yk s a)) := by
  rw [rlift_t h, sqE_1 h]
  have hq : za (sqR (sideF a)) = za (sqF (sideF a)) := sq_za rfl
  unfold yk
  generalize sqR (sideF a) = q at *
  generalize sqF (sideF a) = p at *
  exact rlift_rep' hq s
theorem rt_lift (a : Fe) : rtRT (sideF a) = liftT a := rt_eq rfl
theorem lifts_eq {a : Fe} (h : liftT a = true) (s : Bool) : ceqF (p3 (liftF (!s) a)) (p3 (negF (p3 (liftF s a)))) = true :=
  (rep_ceqF (rep_p3' (lift_rep h (!s))) (rep_p3' (rep_negF (rep_p3' (lift_rep h s))))).2 (by rw [yk_not]; rfl)
where rep_p3' {P : Pt} {A : Option (KF × KF)} (h : RepF P A) : RepF (P.1, P.2.1, P.2.2) A := h
theorem lifts_same {a : Fe} (h : liftT a = true) (s : Bool) : sameF (p3 (liftF s a)) (c6 (rlF s a)) = true :=
  (rep_sameF (lift_rep h s) (rlift_rep ((rt_lift a).trans h) s) (lift_on h s) (lift_on h s)).2 rfl
theorem lifts_none {a : Fe} (h : liftT a = false) (s : Bool) : isz (liftF s a).2.2 = true ∧ ceqF (p3 (liftF (!s) a)) (p3 (negF (p3 (liftF s a)))) = true := by
  rw [lift_f h, lift_f h]
  exact ⟨isz_iff.2 za_zE, (rep_ceqF rep_zPt (rep_negF rep_zPt)).2 rfl⟩
theorem lfF_ok {n : Nat} {f : Nat → Int} {s : Bool} (hn : n ≤ 100) (h : liftT (wdF n f) = false) : lfF_G n f s :=
  ⟨⟨rfl, rfl, decide_eq_false (by omega)⟩, ⟨⟨⟨fun _ _ => Like.refl _, rfl, hn⟩, rfl⟩, rfl⟩, ⟨h, rfl⟩, ⟨(rt_lift _).trans h, rfl⟩, (lifts_none h s).1, ⟨h, rfl⟩, (lifts_none h s).2⟩
theorem lfT_ok {n : Nat} {f : Nat → Int} {s : Bool} (hn : n ≤ 100) (h : liftT (wdF n f) = true) : lfT_G n f s :=
  ⟨⟨rfl, rfl, decide_eq_false (by omega)⟩, ⟨⟨⟨fun _ _ => Like.refl _, rfl, hn⟩, rfl⟩, rfl⟩, ⟨h, rfl⟩, ⟨(rt_lift _).trans h, rfl⟩, lifts_same h s, ⟨h, rfl⟩, lifts_eq h s⟩
/-- The law's call answers true. -/
theorem lifts_call (n : Nat) (f : Nat → Int) (s : Bool) {ρ : Key → Loc} {W : World} (hm : MemRel (lfI n f) ρ [] W) (k0 : n ≤ (ρ (.inp 0 0)).cap) :
    Calls Tryz.prog 4 (trs ρ (lfArgs n s)).toArray W fun r W' => r = .returned (.bool true) ∧ Below W.heap.size W W' := by
  have hI : InpOk (lfI n f) := inOf1_ok (rwsB_plain n f)
  have hkI : ∀ t j, kinL (okKey ([] : Mem Fe) ρ) (lfI n f t j) := fun t j => by
    cases t with
    | succ t => trivial
    | zero =>
      match j with
      | 0 => exact plainL_kin _ _ (rwsB_plain _ _)
      | j + 1 => trivial
  have ha : kinL (okKey ([] : Mem Fe) ρ) (lfArgs n s) := ⟨k0, trivial, trivial⟩
  by_cases h3 : n ≤ 100
  · cases h : liftT (wdF n f) with
    | false => exact calls_top (SLf_ok _ hI) mixed (lfF n f s) (lfF_ok h3 h) hm ha hkI fun _ _ => rfl
    | true => exact calls_top (SLf_ok _ hI) mixed (lfT n f s) (lfT_ok h3 h) hm ha hkI fun _ _ => rfl
  · exact calls_top (SLf_ok _ hI) mixed (lfBig n f s) ⟨rfl, rfl, decide_eq_true (by omega)⟩ hm ha hkI fun _ _ => rfl
end Go.Proofs.YtcedljbapgmdmaaGreat.En
