/- DERIVED. What is read: the law's call. -/
import Derived.Test.YtjhjockdkpgpeaaTR
import Derived.Test.YtjhjockdkpgpeaaTM
set_option linter.all false
namespace Go.Proofs.Ytjhjockdkpgpeaa.En
open Go Go.RowKit

set_option maxRecDepth 100000 in
theorem rs_code : codeAt Try.prog 6 [0, 1, 0, 1, 1, 1, 1] = .loop (codeAt Try.prog 6 pathRs) := by kernel_rfl
/-- What is asked of the steps and the bytes. -/
structure RsOk (s : Stps) : Prop where
  few : few s
  m : s.m ≤ 2000
  g : okG s
  K : ∀ k, k < s.n → s.K k ≤ 2 ^ 63 - 1
theorem rs_loop (s : Stps) (hr : RsOk s) (q : Nat) (hs : okS s) (h : stopL s q) : ExB 3 Try.prog (inS s) (codeAt Try.prog 6 [0, 1, 0, 1, 1, 1, 1]) (rsB s q hs h) (.exit 0) (rsZ s) := by
  refine ExB.enter (cs := []) (inS_ok s) _ ?_ (rsI s q hs h) ?_ rfl
  · rw [rs_code]
    refine ExB.loop (by simp) (rsJ s) s.n (fun k hk => rs_step s hr.few hr.m hr.g hr.K k hk) (ExB.auto (SRe_ok _ _ _ _ _ s _) (inS_ok s) rfl mixed 60 _ (rsE s) ?_)
    simp only [condOk, rsE_G]
    (and_intros <;> first | exact True.intro | omega | exact fun _ => ⟨trivial, trivial⟩ | exact fun _ _ => Same.refl _ | exact fun _ _ => Like.refl _ | (simp (disch := omega) only [true_and, and_true, Nat.beq_refl, Bool.true_and, decide_eq_true_eq, decide_eq_false_iff_not, beq_iff_eq, bne_iff_ne, beq_eq_false_iff_ne, bne_eq_false_iff_eq, ne_eq, Nat.blt_eq, Nat.ble_eq, Nat.beq_eq, Bool.and_eq_true, Bool.or_eq_true, IntKind.wrap_i64, IntKind.wrap_u64, IntKind.wrap_u8, IntKind.wrap_u32, Int.tdiv_eq_ediv_of_nonneg, Int.tmod_eq_emod_of_nonneg] <;> omega) | rfl | trivial)
  · simp only [condOk, rsI_G, rdSt]
    (and_intros <;> first | exact True.intro | omega | exact fun _ => ⟨trivial, trivial⟩ | exact fun _ _ => Same.refl _ | exact fun _ _ => Like.refl _ | (simp (disch := omega) only [true_and, and_true, Nat.beq_refl, Bool.true_and, decide_eq_true_eq, decide_eq_false_iff_not, beq_iff_eq, bne_iff_ne, beq_eq_false_iff_ne, bne_eq_false_iff_eq, ne_eq, Nat.blt_eq, Nat.ble_eq, Nat.beq_eq, Bool.and_eq_true, Bool.or_eq_true, IntKind.wrap_i64, IntKind.wrap_u64, IntKind.wrap_u8, IntKind.wrap_u32, Int.tdiv_eq_ediv_of_nonneg, Int.tmod_eq_emod_of_nonneg] <;> omega) | rfl | trivial)
set_option maxRecDepth 100000 in
theorem rs_grow (s : Stps) (q : Nat) (hs : okS s) (h : stopL s q) : growB (rsB s q hs h) (rsZ s) = true := by kernel_rfl
set_option maxRecDepth 100000 in
theorem rs_three (s : Stps) (q : Nat) (hs : okS s) (h : stopL s q) : Nat.ble (rsB s q hs h).mem.length 3 = true := by kernel_rfl
noncomputable def rsL (s : Stps) (hr : RsOk s) (q : Nat) (hs : okS s) (h : stopL s q) : LoopF Try.prog (inS s) := LoopF.of (rs_loop s hr q hs h) (rs_grow ..) (rs_three ..)
noncomputable abbrev runR (c d g : Bool) (a b : Option Bool) (s : Stps) (ls : List (LoopF Try.prog (inS s))) := callF Try.prog (SRe c d g a b s ls) 60 6 [.vec (.inp 0 1) s.m, .vec (.inp 0 0) s.n] []
--@gen lr1 (s : Stps) (hr : RsOk s) (q : Nat) (hs : okS s) (h : stopL s q) := (runR true true false (some true) (some true) s [liL s q hs h, rsL s hr q hs h]).map (fun r => r.2.2)
--@[
def lr1_G (s : Stps) (hr : RsOk s) (q : Nat) (hs : okS s) (h : stopL s q) : Prop := (((LS.tmps (LoopF.s (liL s q hs h)) = LS.tmps (LoopF.s (liL s q hs h)) ∧         LS.mem (LoopF.s (liL s q hs h)) = LS.mem (LoopF.s (liL s q hs h))) ∧       decide ((↑(Stps.n s) : Int) ≤ (100 : Int)) = true ∧         decide ((↑(cost s q) : Int) ≤ (5000 : Int)) = true) ∧     decide ((2000 : Int) < (↑(Stps.m s) : Int)) = false) ∧   ((1 = 1 ∧ Stps.m s = Stps.m s) ∧       ((Stps.m s = Stps.m s ∧             ∀ (i : Nat), i < Stps.m s → Same (A := Empty) [LV.int IntKind.u8 (Stps.g s i)] [LV.int IntKind.u8 (Stps.g s i)]) ∧           ∀ (i : Nat), plainL (A := Empty) [LV.int IntKind.u8 (Stps.g s i)]) ∧         Stps.m s ≤ 70368744177664) ∧     (LS.tmps (LoopF.s (rsL s hr q hs h)) = LS.tmps (LoopF.s (rsL s hr q hs h)) ∧         LS.mem (LoopF.s (rsL s hr q hs h)) = LS.mem (LoopF.s (rsL s hr q hs h))) ∧       ((RdS.e (rdSt s (Stps.n s)) == (0 : Int)) = true ∧           decide ((0 : Int) < (↑(RdS.N (rdSt s (Stps.n s))) : Int)) = true) ∧         (((RdS.N (rdSt s (Stps.n s)) = RdS.N (rdSt s (Stps.n s)) ∧                 RdS.e (rdSt s (Stps.n s)) = RdS.e (rdSt s (Stps.n s))) ∧               (RdS.N (rdSt s (Stps.n s)) = RdS.N (rdSt s (Stps.n s)) ∧                   ∀ (i : Nat),                     i < RdS.N (rdSt s (Stps.n s)) →                       Same (A := Empty) [LV.int IntKind.u8 (RdS.f (rdSt s (Stps.n s)) i)]                         [LV.int IntKind.u8 (RdS.f (rdSt s (Stps.n s)) i)]) ∧                 ∀ (i : Nat), plainL (A := Empty) [LV.int IntKind.u8 (RdS.f (rdSt s (Stps.n s)) i)]) ∧             True) ∧           (endV (RdS.N (rdSt s (Stps.n s))) (RdS.e (rdSt s (Stps.n s))) == (170 : Int)) = true
set_option maxRecDepth 100000 in
theorem lr1 (s : Stps) (hr : RsOk s) (q : Nat) (hs : okS s) (h : stopL s q) : (runR true true false (some true) (some true) s [liL s q hs h, rsL s hr q hs h]).map (fun r => r.2.2) = some (some ((lr1_G s hr q hs h))) := by kernel_rfl
--@]
--@gen lr2 (s : Stps) (hr : RsOk s) (q : Nat) (hs : okS s) (h : stopL s q) := (runR true true false (some true) (some false) s [liL s q hs h, rsL s hr q hs h]).map (fun r => r.2.2)
--@[
def lr2_G (s : Stps) (hr : RsOk s) (q : Nat) (hs : okS s) (h : stopL s q) : Prop := (((LS.tmps (LoopF.s (liL s q hs h)) = LS.tmps (LoopF.s (liL s q hs h)) ∧         LS.mem (LoopF.s (liL s q hs h)) = LS.mem (LoopF.s (liL s q hs h))) ∧       decide ((↑(Stps.n s) : Int) ≤ (100 : Int)) = true ∧         decide ((↑(cost s q) : Int) ≤ (5000 : Int)) = true) ∧     decide ((2000 : Int) < (↑(Stps.m s) : Int)) = false) ∧   ((1 = 1 ∧ Stps.m s = Stps.m s) ∧       ((Stps.m s = Stps.m s ∧             ∀ (i : Nat), i < Stps.m s → Same (A := Empty) [LV.int IntKind.u8 (Stps.g s i)] [LV.int IntKind.u8 (Stps.g s i)]) ∧           ∀ (i : Nat), plainL (A := Empty) [LV.int IntKind.u8 (Stps.g s i)]) ∧         Stps.m s ≤ 70368744177664) ∧     (LS.tmps (LoopF.s (rsL s hr q hs h)) = LS.tmps (LoopF.s (rsL s hr q hs h)) ∧         LS.mem (LoopF.s (rsL s hr q hs h)) = LS.mem (LoopF.s (rsL s hr q hs h))) ∧       ((RdS.e (rdSt s (Stps.n s)) == (0 : Int)) = true ∧           decide ((0 : Int) < (↑(RdS.N (rdSt s (Stps.n s))) : Int)) = false) ∧         (((RdS.N (rdSt s (Stps.n s)) = RdS.N (rdSt s (Stps.n s)) ∧                 RdS.e (rdSt s (Stps.n s)) = RdS.e (rdSt s (Stps.n s))) ∧               (RdS.N (rdSt s (Stps.n s)) = RdS.N (rdSt s (Stps.n s)) ∧                   ∀ (i : Nat),                     i < RdS.N (rdSt s (Stps.n s)) →                       Same (A := Empty) [LV.int IntKind.u8 (RdS.f (rdSt s (Stps.n s)) i)]                         [LV.int IntKind.u8 (RdS.f (rdSt s (Stps.n s)) i)]) ∧                 ∀ (i : Nat), plainL (A := Empty) [LV.int IntKind.u8 (RdS.f (rdSt s (Stps.n s)) i)]) ∧             True) ∧           (endV (RdS.N (rdSt s (Stps.n s))) (RdS.e (rdSt s (Stps.n s))) == RdS.e (rdSt s (Stps.n s))) = true
set_option maxRecDepth 100000 in
theorem lr2 (s : Stps) (hr : RsOk s) (q : Nat) (hs : okS s) (h : stopL s q) : (runR true true false (some true) (some false) s [liL s q hs h, rsL s hr q hs h]).map (fun r => r.2.2) = some (some ((lr2_G s hr q hs h))) := by kernel_rfl
--@]
--@gen lr3 (s : Stps) (hr : RsOk s) (q : Nat) (hs : okS s) (h : stopL s q) := (runR true true false (some false) none s [liL s q hs h, rsL s hr q hs h]).map (fun r => r.2.2)
--@[
def lr3_G (s : Stps) (hr : RsOk s) (q : Nat) (hs : okS s) (h : stopL s q) : Prop := (((LS.tmps (LoopF.s (liL s q hs h)) = LS.tmps (LoopF.s (liL s q hs h)) ∧         LS.mem (LoopF.s (liL s q hs h)) = LS.mem (LoopF.s (liL s q hs h))) ∧       decide ((↑(Stps.n s) : Int) ≤ (100 : Int)) = true ∧         decide ((↑(cost s q) : Int) ≤ (5000 : Int)) = true) ∧     decide ((2000 : Int) < (↑(Stps.m s) : Int)) = false) ∧   ((1 = 1 ∧ Stps.m s = Stps.m s) ∧       ((Stps.m s = Stps.m s ∧             ∀ (i : Nat), i < Stps.m s → Same (A := Empty) [LV.int IntKind.u8 (Stps.g s i)] [LV.int IntKind.u8 (Stps.g s i)]) ∧           ∀ (i : Nat), plainL (A := Empty) [LV.int IntKind.u8 (Stps.g s i)]) ∧         Stps.m s ≤ 70368744177664) ∧     (LS.tmps (LoopF.s (rsL s hr q hs h)) = LS.tmps (LoopF.s (rsL s hr q hs h)) ∧         LS.mem (LoopF.s (rsL s hr q hs h)) = LS.mem (LoopF.s (rsL s hr q hs h))) ∧       (RdS.e (rdSt s (Stps.n s)) == (0 : Int)) = false ∧         (((RdS.N (rdSt s (Stps.n s)) = RdS.N (rdSt s (Stps.n s)) ∧                 RdS.e (rdSt s (Stps.n s)) = RdS.e (rdSt s (Stps.n s))) ∧               (RdS.N (rdSt s (Stps.n s)) = RdS.N (rdSt s (Stps.n s)) ∧                   ∀ (i : Nat),                     i < RdS.N (rdSt s (Stps.n s)) →                       Same (A := Empty) [LV.int IntKind.u8 (RdS.f (rdSt s (Stps.n s)) i)]                         [LV.int IntKind.u8 (RdS.f (rdSt s (Stps.n s)) i)]) ∧                 ∀ (i : Nat), plainL (A := Empty) [LV.int IntKind.u8 (RdS.f (rdSt s (Stps.n s)) i)]) ∧             True) ∧           (endV (RdS.N (rdSt s (Stps.n s))) (RdS.e (rdSt s (Stps.n s))) == RdS.e (rdSt s (Stps.n s))) = true
set_option maxRecDepth 100000 in
theorem lr3 (s : Stps) (hr : RsOk s) (q : Nat) (hs : okS s) (h : stopL s q) : (runR true true false (some false) none s [liL s q hs h, rsL s hr q hs h]).map (fun r => r.2.2) = some (some ((lr3_G s hr q hs h))) := by kernel_rfl
--@]
--@gen lr4 (s : Stps) (q : Nat) (hs : okS s) (h : stopL s q) := (runR true true true none none s [liL s q hs h]).map (fun r => r.2.2)
--@[
def lr4_G (s : Stps) (q : Nat) (hs : okS s) (h : stopL s q) : Prop := ((LS.tmps (LoopF.s (liL s q hs h)) = LS.tmps (LoopF.s (liL s q hs h)) ∧       LS.mem (LoopF.s (liL s q hs h)) = LS.mem (LoopF.s (liL s q hs h))) ∧     decide ((↑(Stps.n s) : Int) ≤ (100 : Int)) = true ∧       decide ((↑(cost s q) : Int) ≤ (5000 : Int)) = true) ∧   decide ((2000 : Int) < (↑(Stps.m s) : Int)) = true
set_option maxRecDepth 100000 in
theorem lr4 (s : Stps) (q : Nat) (hs : okS s) (h : stopL s q) : (runR true true true none none s [liL s q hs h]).map (fun r => r.2.2) = some (some ((lr4_G s q hs h))) := by kernel_rfl
--@]
--@gen lr5 (s : Stps) (q : Nat) (hs : okS s) (h : stopL s q) := (runR false true true none none s [liL s q hs h]).map (fun r => r.2.2)
--@[
def lr5_G (s : Stps) (q : Nat) (hs : okS s) (h : stopL s q) : Prop := (LS.tmps (LoopF.s (liL s q hs h)) = LS.tmps (LoopF.s (liL s q hs h)) ∧     LS.mem (LoopF.s (liL s q hs h)) = LS.mem (LoopF.s (liL s q hs h))) ∧   decide ((↑(Stps.n s) : Int) ≤ (100 : Int)) = false
set_option maxRecDepth 100000 in
theorem lr5 (s : Stps) (q : Nat) (hs : okS s) (h : stopL s q) : (runR false true true none none s [liL s q hs h]).map (fun r => r.2.2) = some (some ((lr5_G s q hs h))) := by kernel_rfl
--@]
--@gen lr6 (s : Stps) (q : Nat) (hs : okS s) (h : stopL s q) := (runR true false true none none s [liL s q hs h]).map (fun r => r.2.2)
--@[
def lr6_G (s : Stps) (q : Nat) (hs : okS s) (h : stopL s q) : Prop := (LS.tmps (LoopF.s (liL s q hs h)) = LS.tmps (LoopF.s (liL s q hs h)) ∧     LS.mem (LoopF.s (liL s q hs h)) = LS.mem (LoopF.s (liL s q hs h))) ∧   decide ((↑(Stps.n s) : Int) ≤ (100 : Int)) = true ∧     decide ((↑(cost s q) : Int) ≤ (5000 : Int)) = false
set_option maxRecDepth 100000 in
theorem lr6 (s : Stps) (q : Nat) (hs : okS s) (h : stopL s q) : (runR true false true none none s [liL s q hs h]).map (fun r => r.2.2) = some (some ((lr6_G s q hs h))) := by kernel_rfl
--@]
set_option maxRecDepth 100000 in
theorem lr1_v (s : Stps) (hr : RsOk s) (q : Nat) (hs : okS s) (h : stopL s q) : (runR true true false (some true) (some true) s [liL s q hs h, rsL s hr q hs h]).map (fun r => r.1) = some (.bool true) := by kernel_rfl
set_option maxRecDepth 100000 in
theorem lr2_v (s : Stps) (hr : RsOk s) (q : Nat) (hs : okS s) (h : stopL s q) : (runR true true false (some true) (some false) s [liL s q hs h, rsL s hr q hs h]).map (fun r => r.1) = some (.bool true) := by kernel_rfl
set_option maxRecDepth 100000 in
theorem lr3_v (s : Stps) (hr : RsOk s) (q : Nat) (hs : okS s) (h : stopL s q) : (runR true true false (some false) none s [liL s q hs h, rsL s hr q hs h]).map (fun r => r.1) = some (.bool true) := by kernel_rfl
set_option maxRecDepth 100000 in
theorem lr4_v (s : Stps) (q : Nat) (hs : okS s) (h : stopL s q) : (runR true true true none none s [liL s q hs h]).map (fun r => r.1) = some (.bool true) := by kernel_rfl
set_option maxRecDepth 100000 in
theorem lr5_v (s : Stps) (q : Nat) (hs : okS s) (h : stopL s q) : (runR false true true none none s [liL s q hs h]).map (fun r => r.1) = some (.bool true) := by kernel_rfl
set_option maxRecDepth 100000 in
theorem lr6_v (s : Stps) (q : Nat) (hs : okS s) (h : stopL s q) : (runR true false true none none s [liL s q hs h]).map (fun r => r.1) = some (.bool true) := by kernel_rfl
/-- The law's call answers true. -/
theorem szReads_call (s : Stps) (hs : okS s) (hg : okG s) (hK : ∀ k, k < s.n → s.K k ≤ 2 ^ 63 - 1) {ρ : Key → Loc} {w : World} (hm : MemRel (inS s) ρ [] w) (hk : s.n ≤ (ρ (.inp 0 0)).cap) (hk' : s.m ≤ (ρ (.inp 0 1)).cap) (hkI : ∀ t i, kinL (okKey ([] : Mem Empty) ρ) (inS s t i)) :
    Calls Try.prog 6 (trs ρ [(.vec (.inp 0 1) s.m : LV Empty), .vec (.inp 0 0) s.n]).toArray w fun e w' => e = .returned (.bool true) ∧ Below w.heap.size w w' := by
  obtain ⟨q, hq⟩ := stopL_ex s
  have hfs := few_stop hq
  by_cases hf : few s
  · obtain ⟨h1, h2⟩ := hfs.1 hf
    by_cases hm2 : s.m ≤ 2000
    · have hr : RsOk s := ⟨hf, hm2, hg, hK⟩
      by_cases he : (rdSt s s.n).e = 0
      · by_cases hN : 0 < (rdSt s s.n).N
        · refine calls_top (SRe_ok _ _ _ _ _ s _) mixed (call_both (lr1_v s hr q hs hq) (lr1 s hr q hs hq)) ?_ hm ⟨hk', hk, trivial⟩ hkI fun _ _ => rfl
          simp only [condOk, lr1_G, endV, he, hN, and_self, if_true]
          (and_intros <;> first | exact True.intro | omega | exact fun _ => ⟨trivial, trivial⟩ | exact fun _ _ => Same.refl _ | exact fun _ _ => Like.refl _ | (simp (disch := omega) only [true_and, and_true, Nat.beq_refl, Bool.true_and, decide_eq_true_eq, decide_eq_false_iff_not, beq_iff_eq, bne_iff_ne, beq_eq_false_iff_ne, bne_eq_false_iff_eq, ne_eq, Nat.blt_eq, Nat.ble_eq, Nat.beq_eq, Bool.and_eq_true, Bool.or_eq_true, IntKind.wrap_i64, IntKind.wrap_u64, IntKind.wrap_u8, IntKind.wrap_u32, Int.tdiv_eq_ediv_of_nonneg, Int.tmod_eq_emod_of_nonneg] <;> omega) | rfl | trivial)
        · refine calls_top (SRe_ok _ _ _ _ _ s _) mixed (call_both (lr2_v s hr q hs hq) (lr2 s hr q hs hq)) ?_ hm ⟨hk', hk, trivial⟩ hkI fun _ _ => rfl
          simp only [condOk, lr2_G, endV, he, hN, and_false, if_false]
          (and_intros <;> first | exact True.intro | omega | exact fun _ => ⟨trivial, trivial⟩ | exact fun _ _ => Same.refl _ | exact fun _ _ => Like.refl _ | (simp (disch := omega) only [true_and, and_true, Nat.beq_refl, Bool.true_and, decide_eq_true_eq, decide_eq_false_iff_not, beq_iff_eq, bne_iff_ne, beq_eq_false_iff_ne, bne_eq_false_iff_eq, ne_eq, Nat.blt_eq, Nat.ble_eq, Nat.beq_eq, Bool.and_eq_true, Bool.or_eq_true, IntKind.wrap_i64, IntKind.wrap_u64, IntKind.wrap_u8, IntKind.wrap_u32, Int.tdiv_eq_ediv_of_nonneg, Int.tmod_eq_emod_of_nonneg] <;> omega) | rfl | trivial)
      · refine calls_top (SRe_ok _ _ _ _ _ s _) mixed (call_both (lr3_v s hr q hs hq) (lr3 s hr q hs hq)) ?_ hm ⟨hk', hk, trivial⟩ hkI fun _ _ => rfl
        simp only [condOk, lr3_G, endV, he, false_and, if_false]
        (and_intros <;> first | exact True.intro | omega | exact fun _ => ⟨trivial, trivial⟩ | exact fun _ _ => Same.refl _ | exact fun _ _ => Like.refl _ | (simp (disch := omega) only [true_and, and_true, Nat.beq_refl, Bool.true_and, decide_eq_true_eq, decide_eq_false_iff_not, beq_iff_eq, bne_iff_ne, beq_eq_false_iff_ne, bne_eq_false_iff_eq, ne_eq, Nat.blt_eq, Nat.ble_eq, Nat.beq_eq, Bool.and_eq_true, Bool.or_eq_true, IntKind.wrap_i64, IntKind.wrap_u64, IntKind.wrap_u8, IntKind.wrap_u32, Int.tdiv_eq_ediv_of_nonneg, Int.tmod_eq_emod_of_nonneg] <;> omega) | rfl | trivial)
    · refine calls_top (SRe_ok _ _ _ _ _ s _) mixed (call_both (lr4_v s q hs hq) (lr4 s q hs hq)) ?_ hm ⟨hk', hk, trivial⟩ hkI fun _ _ => rfl
      simp only [condOk, lr4_G]
      (and_intros <;> first | exact True.intro | omega | exact fun _ => ⟨trivial, trivial⟩ | exact fun _ _ => Same.refl _ | exact fun _ _ => Like.refl _ | (simp (disch := omega) only [true_and, and_true, Nat.beq_refl, Bool.true_and, decide_eq_true_eq, decide_eq_false_iff_not, beq_iff_eq, bne_iff_ne, beq_eq_false_iff_ne, bne_eq_false_iff_eq, ne_eq, Nat.blt_eq, Nat.ble_eq, Nat.beq_eq, Bool.and_eq_true, Bool.or_eq_true, IntKind.wrap_i64, IntKind.wrap_u64, IntKind.wrap_u8, IntKind.wrap_u32, Int.tdiv_eq_ediv_of_nonneg, Int.tmod_eq_emod_of_nonneg] <;> omega) | rfl | trivial)
  · by_cases hn : s.n ≤ 100
    · have : 5000 < cost s q := by
        rcases Nat.lt_or_ge 5000 (cost s q) with h | h
        · exact h
        · exact absurd (hfs.2 ⟨hn, h⟩) hf
      refine calls_top (SRe_ok _ _ _ _ _ s _) mixed (call_both (lr6_v s q hs hq) (lr6 s q hs hq)) ?_ hm ⟨hk', hk, trivial⟩ hkI fun _ _ => rfl
      simp only [condOk, lr6_G]
      (and_intros <;> first | exact True.intro | omega | exact fun _ => ⟨trivial, trivial⟩ | exact fun _ _ => Same.refl _ | exact fun _ _ => Like.refl _ | (simp (disch := omega) only [true_and, and_true, Nat.beq_refl, Bool.true_and, decide_eq_true_eq, decide_eq_false_iff_not, beq_iff_eq, bne_iff_ne, beq_eq_false_iff_ne, bne_eq_false_iff_eq, ne_eq, Nat.blt_eq, Nat.ble_eq, Nat.beq_eq, Bool.and_eq_true, Bool.or_eq_true, IntKind.wrap_i64, IntKind.wrap_u64, IntKind.wrap_u8, IntKind.wrap_u32, Int.tdiv_eq_ediv_of_nonneg, Int.tmod_eq_emod_of_nonneg] <;> omega) | rfl | trivial)
    · refine calls_top (SRe_ok _ _ _ _ _ s _) mixed (call_both (lr5_v s q hs hq) (lr5 s q hs hq)) ?_ hm ⟨hk', hk, trivial⟩ hkI fun _ _ => rfl
      simp only [condOk, lr5_G]
      (and_intros <;> first | exact True.intro | omega | exact fun _ => ⟨trivial, trivial⟩ | exact fun _ _ => Same.refl _ | exact fun _ _ => Like.refl _ | (simp (disch := omega) only [true_and, and_true, Nat.beq_refl, Bool.true_and, decide_eq_true_eq, decide_eq_false_iff_not, beq_iff_eq, bne_iff_ne, beq_eq_false_iff_ne, bne_eq_false_iff_eq, ne_eq, Nat.blt_eq, Nat.ble_eq, Nat.beq_eq, Bool.and_eq_true, Bool.or_eq_true, IntKind.wrap_i64, IntKind.wrap_u64, IntKind.wrap_u8, IntKind.wrap_u32, Int.tdiv_eq_ediv_of_nonneg, Int.tmod_eq_emod_of_nonneg] <;> omega) | rfl | trivial)
end Go.Proofs.Ytjhjockdkpgpeaa.En
