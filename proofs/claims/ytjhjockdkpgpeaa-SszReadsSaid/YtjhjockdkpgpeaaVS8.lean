/- DERIVED. An operation that touches no memory, in a walk: all of them. -/
import Derived.Test.YtjhjockdkpgpeaaVS7
set_option linter.all false
namespace Go.Proofs.Ytjhjockdkpgpeaa.En
open Go Go.RowKit

section
variable {A : Type} [Ab A] {P : Program}

section
variable {I : Nat → Nat → List (LV A)} {Own : Dom} {w0 : World} {ρ : Key → Loc} {s : LS A} {a : Act} {w : World}

theorem eqGuard_scalar (op : BinOp) (t : TypeId) (x y : Operand) {u v w : LV A} {rc : Bool} {d : Option Bool} {c : Cnd} (h : binR P rc d op t u v = some (w, c)) (hn : ∀ us vs, u = .agg us → v = .agg vs → False) : eqGuard op t x y (LV.tr ρ u) (LV.tr ρ v) = pure () := by
  unfold binR at h
  split at h
  · simp only [LV.tr]; exact eqGuard_at_int _ _ _ _ _ _ _
  · exact (hn _ _ rfl rfl).elim
  · simp only [LV.tr]; exact eqGuard_at_bool _ _ _ _ _ _
  · simp only [LV.tr]; simp [eqGuard]
  · simp only [LV.tr]; simp [eqGuard]
  · cases h

/-- The bounds of a slicing. -/
theorem bnds_sound (hr : Rl I Own w0 ρ s a w) (isSlice : Bool) {len cap : Nat} {low high max : Option Operand} {l h m : Nat} {ok : Bool} (hb : bnds (ev s.tmps) len cap low high max = some (l, h, m, ok)) (hok : ok = true) :
    (Instr.sliceBounds isSlice len cap (low.map a.eval) (high.map a.eval) (max.map a.eval)).run P w = .ok (l, h, m) w ∧ l ≤ h ∧ h ≤ m ∧ m ≤ cap ∧ (low = none → l = 0) := by
  have one : ∀ (x : Operand) (k : IntKind) (i : Int) (y : Nat) (code : BoundsCode), ev s.tmps x = some (.int k i) → 0 ≤ i → i ≤ y → (Instr.sliceBound (a.eval x) y code).run P w = .ok i.toNat w := by
    intro x k i y code hx h0 h1
    have hx := (ev_sound hr hx).1
    simp [Instr.sliceBound, hx, LV.tr, asIntOf, h0, h1]
  subst hok
  simp only [bnds] at hb
  split at hb
  rotate_left
  · cases hb
  rename_i l' h' m' e0 e1 e2 e3
  simp only [Option.some.injEq, Prod.mk.injEq] at hb
  obtain ⟨rfl, rfl, rfl, hd⟩ := hb
  have hd := of_decide_eq_true hd
  refine ⟨?_, by omega, by omega, by omega, ?_⟩
  rotate_left
  · rintro rfl
    simp only [Option.some.injEq] at e1
    subst e1; rfl
  have key : ∀ (o : Option Operand) (n : Nat) (i : Int), (match o with
      | none => some (n : Int)
      | some x => match ev s.tmps x with
        | some (.int _ i) => some i
        | _ => none) = some i → (o = none ∧ i = n) ∨ ∃ x k, o = some x ∧ ev s.tmps x = some (.int k i) := by
    intro o n i h
    cases o with
    | none => simp only [Option.some.injEq] at h; exact .inl ⟨rfl, h.symm⟩
    | some x =>
      simp only at h
      split at h
      · rename_i k j hx; cases h; exact .inr ⟨x, k, rfl, hx⟩
      · cases h
  have k1 := key _ _ _ e1
  have k2 := key _ _ _ e2
  have k3 := key _ _ _ e3
  unfold Instr.sliceBounds
  rcases k3 with ⟨rfl, rfl⟩ | ⟨x3, t3, rfl, h3⟩
  · rcases k2 with ⟨rfl, rfl⟩ | ⟨x2, t2, rfl, h2⟩
    · rcases k1 with ⟨rfl, rfl⟩ | ⟨x1, t1, rfl, h1⟩
      · simp
      · have := fun y code => one x1 t1 l' y code h1 hd.1
        simp (disch := omega) [this]
    · have r2 := fun y code => one x2 t2 h' y code h2 (by omega)
      rcases k1 with ⟨rfl, rfl⟩ | ⟨x1, t1, rfl, h1⟩
      · simp (disch := omega) [r2]
      · have := fun y code => one x1 t1 l' y code h1 hd.1
        simp (disch := omega) [this, r2]
  · have r3 := fun y code => one x3 t3 m' y code h3 (by omega)
    rcases k2 with ⟨rfl, rfl⟩ | ⟨x2, t2, rfl, h2⟩
    · simp at e0
    · have r2 := fun y code => one x2 t2 h' y code h2 (by omega)
      rcases k1 with ⟨rfl, rfl⟩ | ⟨x1, t1, rfl, h1⟩
      · simp (disch := omega) [r2, r3]
      · have := fun y code => one x1 t1 l' y code h1 hd.1
        simp (disch := omega) [this, r2, r3]
theorem okKey_zero {mem : Mem A} {ρ : Key → Loc} {b : Key} {m : Nat} (h : okKey mem ρ b m) : okKey mem ρ b 0 := by
  cases b with
  | own k => exact ⟨h.1, Nat.zero_le _⟩
  | inp t i => exact Nat.zero_le _
theorem vecV_pos (l : Loc) {n : Nat} (h : n ≠ 0) : vecV l n = .slice (some (l.at 0)) n l.cap := by
  unfold vecV
  rw [beqF h, Bool.and_false]

theorem pure_sound [LawAb A] [LawEq A] {S : Sig A} (hS : SigOk P S) {o : Oper} {rc : Bool} {d : Option Bool} {v : LV A} {c : Cnd} (h : pureR P S rc d (ev s.tmps) o.op = some (v, c)) (hc : condOk c)
    (hr : Rl I Own w0 ρ s a w) : Does P o a w (LV.tr ρ v) ∧ v.kin (okKey s.mem ρ) := by
  obtain ⟨dst, op, ty, pos, after, guard⟩ := o
  cases op <;> simp only [pureR] at h <;> try (cases h; done)
  case move x =>
    have hx := ev_sound hr (okc_sound h)
    exact ⟨does_value (by simp [execOp, hx.1]), hx.2⟩
  case assign x =>
    have hx := ev_sound hr (okc_sound h)
    exact ⟨does_value (by simp [execOp, hx.1]), hx.2⟩
  case pick z x y =>
    split at h
    · rename_i b hz
      have hz := (ev_sound hr hz).1
      generalize hd : dcd d b = q at h
      obtain ⟨b', c'⟩ := q
      split at h
      · rename_i e1 e2
        simp only [Prod.mk.injEq] at e1
        obtain ⟨rfl, rfl⟩ := e1
        simp only [Option.some.injEq, Prod.mk.injEq] at h; obtain ⟨rfl, rfl⟩ := h
        have hb := dcd_val hd hc
        subst hb
        have hx := ev_sound hr e2
        exact ⟨does_value (by simp [execOp, hz, hx.1, LV.tr, asBool]), hx.2⟩
      · rename_i e1 e2
        simp only [Prod.mk.injEq] at e1
        obtain ⟨rfl, rfl⟩ := e1
        simp only [Option.some.injEq, Prod.mk.injEq] at h; obtain ⟨rfl, rfl⟩ := h
        have hb := dcd_val hd hc
        subst hb
        have hx := ev_sound hr e2
        exact ⟨does_value (by simp [execOp, hz, hx.1, LV.tr, asBool]), hx.2⟩
      · cases h
    · cases h
  case binOp op t x y yt =>
    split at h
    · rename_i u1 u2 h1 h2
      have h1 := (ev_sound hr h1).1
      have h2 := (ev_sound hr h2).1
      refine ⟨?_, binR_kin h⟩
      by_cases hag : ∃ us vs, u1 = .agg us ∧ u2 = .agg vs
      · obtain ⟨us, vs, rfl, rfl⟩ := hag
        refine does_value ?_
        simp only [binR] at h
        simp only [LV.tr] at h1 h2
        split at h
        · rename_i us' vs' hu hv
          split at h
          · rename_i hcond
            simp only [Bool.and_eq_true, decide_eq_true_eq, Bool.not_eq_true'] at hcond
            split at h
            · rename_i b hb
              have key := eqAgg_sound (P := P) ρ hu hv hcond.1.1 hcond.2 hb w
              split at h
              · have := tst_sound h hc; cases this
                simp only [execOp, h1, h2]
                simp [run_eqGuard_agg w _ t x y _ _ hcond.1.2, run_eql_struct, key, LV.tr]
              · have := tst_sound h hc; cases this
                simp only [execOp, h1, h2]
                simp [run_eqGuard_agg w _ t x y _ _ hcond.1.2, run_neq_struct, key, LV.tr]
              · cases h
            · cases h
          · cases h
        · cases h
      · have hn : ∀ us vs, u1 = .agg us → u2 = .agg vs → False := fun us vs e e' => hag ⟨us, vs, e, e'⟩
        refine does_value ?_
        simp only [execOp, h1, h2, eqGuard_scalar op t x y h hn]
        simp [binR_sound w (fun us vs e e' => (hn us vs e e').elim) h hc]
    · cases h
  case unOp op t x =>
    split at h
    · rename_i b hx
      have hx := (ev_sound hr hx).1
      have := tst_sound h hc
      cases this
      exact ⟨does_value (by simp [execOp, hx, Op.unary, LV.tr]), trivial⟩
    · rename_i k n hx
      have hx := (ev_sound hr hx).1
      have := okc_sound h
      cases this
      exact ⟨does_value (by simp [execOp, hx, Op.unary, Op.intArith, LV.tr]), trivial⟩
    · cases h
  case convert src dst x =>
    split at h
    · rename_i k n ds k' hx hs hd
      have hx := (ev_sound hr hx).1
      have := okc_sound h
      cases this
      exact ⟨does_value (by simp [execOp, hx, convert, run_underlying hs, run_underlying hd, Conv.intToInt, LV.tr]), trivial⟩
    · cases h
  case nilCheck x =>
    split at h
    · rename_i b off hx
      have hx := ev_sound hr hx
      have := okc_sound h
      cases this
      exact ⟨does_value (by simp [execOp, hx.1, LV.tr]), hx.2⟩
    · cases h
  case makeInterface t x =>
    split at h
    · cases h
    · cases h
    · rename_i dsc hni ht
      split at h
      · rename_i u hx
        have hx := ev_sound hr hx
        have := okc_sound h
        cases this
        refine ⟨does_value ?_, hx.2⟩
        simp only [execOp, Instr.makeInterface, hx.1, LV.tr]
        cases dsc <;> first | (exact absurd rfl (hni _)) | simp [run_underlying ht]
      · cases h
  case makeFunc f first caps =>
    split at h
    · rename_i g hg1 hg2
      split at h
      · rename_i vs hvs
        have := okc_sound h
        cases this
        have hm := mapE_arr hr hvs
        refine ⟨does_value ?_, (mapE_sound hr hvs).2⟩
        have hf : first = #[] := by simpa using hg2
        simp [execOp, Instr.makeFunc, hm, hf, LV.tr]
      · cases h
    · cases h
  case build t parts =>
    split at h
    · rename_i z hz
      split at h
      · rename_i fs hfs
        split at h
        · rename_i hall
          obtain ⟨pl, hrun, hpl⟩ := sized_places (P := P) w hall
          have hz' := run_zero (ρ := ρ) w hz
          obtain ⟨cells, hc1, hc2, hk⟩ := bld_sound (ρ := ρ) (place := (pl[·]?)) (by
            intro i x hx
            split at hx
            · rename_i f hf
              split at hx
              · rename_i n hn
                cases hx
                exact hpl i f n (by simpa using hf) hn
              · cases hx
            · cases hx) (fun x u hx => ev_sound hr hx) parts.toList (units z) v c h (kin_units (hz'.2.1 _))
          refine ⟨does_value ?_, hk⟩
          rw [cellsL_units] at hc1
          simp only [execOp, Instr.build, Sem.run_bind, hz'.1, Result.andThen_ok, run_underlying hfs, hrun, cells_tr ρ hz'.2.2]
          simp [hc1, hc2]
        · cases h
      · rename_i len e he
        split at h
        · rename_i n hn
          have hz' := run_zero (ρ := ρ) w hz
          obtain ⟨cells, hc1, hc2, hk⟩ := bld_sound (ρ := ρ) (place := fun i => some (i * n, n)) (fun i x hx => hx) (fun x u hx => ev_sound hr hx) parts.toList (units z) v c h (kin_units (hz'.2.1 _))
          refine ⟨does_value ?_, hk⟩
          rw [cellsL_units] at hc1
          simp only [execOp, Instr.build, Sem.run_bind, hz'.1, Result.andThen_ok, run_underlying he, run_sizeOf w hn, cells_tr ρ hz'.2.2]
          simp [hc1, hc2]
        · cases h
      · cases h
    · cases h
  case fieldAddr st x f =>
    split at h
    · rename_i b off fs hx hst
      have hx := ev_sound hr hx
      split at h
      · rename_i fd hfd
        split at h
        · rename_i n hz
          have := okc_sound h
          cases this
          refine ⟨does_value ?_, hx.2⟩
          simp only [execOp, hx.1]
          simp [fieldAt_sound w hst hfd hz]
        · cases h
      · cases h
    · cases h
  case field st x f => 
    split at h
    · rename_i us fs hx hst
      have hx := ev_sound hr hx
      split at h
      · rename_i fd hfd
        obtain ⟨c2, h, hc⟩ := tstC_sound h hc
        have hp := part_sound (ρ := ρ) w h hc
        simp only [adr] at hp
        refine ⟨does_value ?_, hp.2 _ hx.2⟩
        simp only [execOp, hx.1, LV.tr]
        simp [Instr.field, run_underlying hst, hfd, asAgg, hp.1]
      · cases h
    · cases h
  case indexAddr t x i =>
    split at h
    · rename_i b off k n len e hx hi ht
      have hx := ev_sound hr hx
      have hi := (ev_sound hr hi).1
      split at h
      · rename_i z hz
        unfold chk at h
        split at h
        · rename_i c' hd
          simp only [Option.some.injEq, Prod.mk.injEq] at h; obtain ⟨rfl, rfl⟩ := h
          have hb := of_decide_eq_true (chkC_ok hd hc)
          refine ⟨does_value ?_, hx.2⟩
          simp only [execOp, hx.1, hi]
          rw [show LV.tr ρ (LV.int k n : LV A) = .int k n from rfl]
          simp [indexAt_array w ht hz hb]
        · cases h
      · cases h
    · rename_i b off len cap k n e hx hi ht
      have hx := ev_sound hr hx
      have hi := (ev_sound hr hi).1
      split at h
      · rename_i z hz
        unfold chk at h
        split at h
        · rename_i c' hd
          simp only [Option.some.injEq, Prod.mk.injEq] at h; obtain ⟨rfl, rfl⟩ := h
          have hb := of_decide_eq_true (chkC_ok hd hc)
          refine ⟨does_value ?_, hx.2⟩
          simp only [execOp, hx.1, hi, LV.tr]
          simp [indexAt_slice w ht hz hb, loc_add, adr_addE]
        · cases h
      · cases h
    · rename_i b len k n e hx hi ht
      have hx := ev_sound hr hx
      have hi := (ev_sound hr hi).1
      split at h
      · rename_i z hz
        unfold chk at h
        split at h
        · rename_i c' hd
          simp only [Option.some.injEq, Prod.mk.injEq] at h; obtain ⟨rfl, rfl⟩ := h
          have hb := of_decide_eq_true (chkC_ok hd hc)
          refine ⟨does_value ?_, okKey_zero hx.2⟩
          simp only [execOp, hx.1, hi, LV.tr, vecV_pos (ρ b) (show len ≠ 0 by omega)]
          simp [indexAt_slice w ht hz hb, loc_add, adr]
        · cases h
      · cases h
    · cases h
  case index t x i =>
    split at h
    · rename_i us k n len e hx hi ht
      have hx := ev_sound hr hx
      have hi := (ev_sound hr hi).1
      split at h
      · rename_i z hz
        split at h
        · rename_i c1 v' c2 hd hv
          obtain ⟨c3, h, hc⟩ := tstC_sound h hc
          simp only [Option.some.injEq, Prod.mk.injEq] at h; obtain ⟨rfl, rfl⟩ := h
          obtain ⟨hc1, hc2⟩ := andC_ok hc
          have hb := of_decide_eq_true (chkC_ok hd hc1)
          have hp := part_sound (ρ := ρ) w hv hc2
          simp only [adr, Nat.zero_add, Nat.add_zero] at hp
          refine ⟨does_value ?_, hp.2 _ hx.2⟩
          simp only [execOp, hx.1, hi, LV.tr]
          simp [Instr.index, run_underlying ht, asIntOf, run_sizeOf w hz, hb.1, hb.2, hp.1]
        · cases h
      · cases h
    · cases h
  case slice t x low high max =>
    split at h
    rotate_left
    · cases h
    rename_i b o p n e hx ha
    have hx := ev_sound hr hx
    split at h
    rotate_left
    · cases h
    rename_i z l hh m ok hz hb
    have fin : ∀ {c' : Cnd}, chkC rc ok = some c' → condOk c' → ∀ (q : List Stp), (if m = l then adr o p else adr o p + l * z) = adr o q →
        Does P ⟨dst, .slice t x low high max, ty, pos, after, guard⟩ a w (LV.tr ρ (.slice b o q (hh - l) (m - l) : LV A)) ∧ (LV.slice b o q (hh - l) (m - l) : LV A).kin (okKey s.mem ρ) := by
      intro c' h1 h2 q hq
      obtain ⟨hrun, _⟩ := bnds_sound (P := P) hr false hb (chkC_ok h1 h2)
      refine ⟨does_value ?_, okKey_zero hx.2⟩
      have hd2 : (if m = l then (ρ b).at (adr o p) else (ρ b).at (adr o p + l * z)) = (ρ b).at (adr o q) := by
        rw [← hq]; split <;> rfl
      have hd3 : (if m = l then some ((ρ b).at (adr o p)) else some ((ρ b).at (adr o p + l * z))) = some ((ρ b).at (adr o q)) := by
        rw [← hd2]; split <;> rfl
      simp only [execOp, hx.1, LV.tr]
      unfold arrOf at ha
      split at ha
      · rename_i n' e' ht
        simp only [Option.some.injEq, Prod.mk.injEq] at ha
        obtain ⟨rfl, rfl⟩ := ha
        simp [Instr.sliceAt, run_underlying ht, Instr.sureAddr, hrun, run_sizeOf w hz, loc_add, hd2]
      · rename_i arr ht
        split at ha
        · rename_i n' e' hta
          simp only [Option.some.injEq, Prod.mk.injEq] at ha
          obtain ⟨rfl, rfl⟩ := ha
          simp [Instr.sliceAt, Instr.slice, run_underlying ht, run_underlying hta, asAddr, hrun, run_sizeOf w hz, loc_add, hd2]
        · cases ha
      · cases ha
    split at h
    · rename_i c' h1
      simp only [Option.some.injEq, Prod.mk.injEq] at h; obtain ⟨rfl, rfl⟩ := h
      obtain ⟨_, _, _, _, hl0⟩ := bnds_sound (P := P) (w := w) hr false hb (chkC_ok h1 hc)
      exact fin h1 hc p (by rw [hl0 rfl]; simp)
    · rename_i c' xl h1
      split at h
      · rename_i hml
        simp only [Option.some.injEq, Prod.mk.injEq] at h; obtain ⟨rfl, rfl⟩ := h
        exact fin h1 hc p (by simp [beqN hml])
      · rename_i hml
        simp only [Option.some.injEq, Prod.mk.injEq] at h; obtain ⟨rfl, rfl⟩ := h
        exact fin h1 hc _ (by rw [adr_addE, if_neg]; rintro rfl; simp [Nat.beq_refl] at hml)
    · cases h
  case extract x i =>
    split at h
    · rename_i vs hx
      have hx := ev_sound hr hx
      obtain ⟨c2, h, hc⟩ := tstC_sound h hc
      have hv := okc_sound h
      refine ⟨does_value ?_, kinL_get hx.2 hv⟩
      simp [execOp, hx.1, LV.tr, Instr.extract, trs_get hv]
    · cases h
  case call c =>
    obtain ⟨callee, args, ats⟩ := c
    simp only at h
    split at h
    rotate_left
    · cases h
    rename_i vs hvs
    have hm := mapE_arr hr hvs
    split at h
    · split at h
      · rename_i f
        have hv := tst_sound h hc
        refine ⟨does_call (f := f) (args := (trs ρ vs).toArray) ?_ (hS.psC f vs v hv ρ w), hS.psK f vs v hv _⟩
        simp [execOp, resolve, Act.eval, Deferred.ofValue, invoke, hm, hS.psE f vs v hv]
      · cases h
    · rename_i r m
      split at h
      · rename_i t u hx
        have hx := (ev_sound hr hx).1
        split at h
        · rename_i f hf
          have hv := tst_sound h hc
          refine ⟨does_call (f := f) (args := (trs ρ (u :: vs)).toArray) ?_ (hS.psC f _ v hv ρ w), hS.psK f _ v hv _⟩
          simp [execOp, resolve, invoke, callMethod, hx, LV.tr, hm, hS.ms t m f hf, trs, hS.psE f _ v hv]
        · cases h
      · cases h
    · rename_i b
      obtain ⟨h1, h2⟩ := blt_sound (ρ := ρ) w ty (args.map fun | .const _ => true | _ => false) h
      refine ⟨does_value ?_, h2 _⟩
      simp only [execOp, resolve, Sem.run_bind, Sem.run_pure, Result.andThen_ok, invoke, hm]
      exact h1
end
end
end Go.Proofs.Ytjhjockdkpgpeaa.En
