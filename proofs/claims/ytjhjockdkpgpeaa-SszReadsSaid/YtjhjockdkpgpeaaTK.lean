/- DERIVED. What is written, step by step: the law's call answers true. -/
import Derived.Test.YtjhjockdkpgpeaaTJ
set_option linter.all false
namespace Go.Proofs.Ytjhjockdkpgpeaa.En
open Go Go.RowKit

theorem pieceN_le (s : Stps) (k : Nat) : pieceN s k ≤ 8 * (1 + s.lb k + s.ll k) := by
  unfold pieceN bytesN
  split
  · omega
  · split
    · omega
    · split <;> omega
theorem outN_le (s : Stps) : ∀ k, outN s k ≤ 8 * cost s k
  | 0 => Nat.le_refl _
  | k + 1 => by
    have h1 := outN_le s k
    have h2 := pieceN_le s k
    simp only [outN, cost]; omega
theorem wr_step (s : Stps) (hf : few s) (k : Nat) (hk : k < s.n) : ExB 1 Try.prog (inS s) (codeAt Try.prog 3 pathWr) (wrJ s k) .normal (wrJ s (k + 1)) := by
  obtain ⟨h1, h2, h3⟩ := cost_at hf.2 hk
  have h4 := outN_le s k
  have h5 : IntKind.wrap IntKind.i64 ((k : Int) + 1) = ((k + 1 : Nat) : Int) := by rw [IntWalk.i64_in _ (by have := hf.1; omega)]; rfl
  have h6 : bytesN (s.ll k) ≤ 5000 := by unfold bytesN; omega
  by_cases c0 : s.W k = 0
  · have e1 : outN s (k + 1) = outN s k + 8 := by simp [outN, pieceN, c0]
    have e2 : outF s (k + 1) = catF (outN s k) (outF s k) (chunkN (s.X k)) := by simp [outF, pieceF, c0]
    refine ExB.auto (SWr_ok _ _ _ s _) (inS_ok s) rfl mixed 60 _ (wrg0 s k) ?_
    simp only [condOk, wrg0_G, Int.toNat_natCast, h5, e1, e2]
    and_intros <;> first | exact beq_iff_eq.2 c0 | exact fun j _ => same_cat _ _ _ j | exact fun _ _ => rfl | exact True.intro | omega | exact fun _ => ⟨trivial, trivial⟩ | exact fun _ _ => Same.refl _ | exact fun _ _ => Like.refl _ | (simp (disch := omega) only [true_and, and_true, Nat.beq_refl, Bool.true_and, decide_eq_true_eq, decide_eq_false_iff_not, beq_iff_eq, bne_iff_ne, beq_eq_false_iff_ne, bne_eq_false_iff_eq, ne_eq, Nat.blt_eq, Nat.ble_eq, Nat.beq_eq, Bool.and_eq_true, Bool.or_eq_true, IntKind.wrap_i64, IntKind.wrap_u64, IntKind.wrap_u8, IntKind.wrap_u32, Int.tdiv_eq_ediv_of_nonneg, Int.tmod_eq_emod_of_nonneg] <;> omega) | rfl | trivial
  by_cases c1 : s.W k = 1
  · have e1 : outN s (k + 1) = outN s k + s.lb k := by simp [outN, pieceN, c1]
    have e2 : outF s (k + 1) = catF (outN s k) (outF s k) (s.B k) := by simp [outF, pieceF, c1]
    refine ExB.auto (SWr_ok _ _ _ s _) (inS_ok s) rfl mixed 60 _ (wrg1 s k) ?_
    simp only [condOk, wrg1_G, Int.toNat_natCast, h5, e1, e2]
    and_intros <;> first | exact beq_eq_false_iff_ne.2 c0 | exact beq_iff_eq.2 c1 | exact fun j _ => same_cat _ _ _ j | exact fun _ _ => rfl | exact fun j _ => (bif_lt ..).symm | exact True.intro | omega | exact fun _ => ⟨trivial, trivial⟩ | exact fun _ _ => Same.refl _ | exact fun _ _ => Like.refl _ | (simp (disch := omega) only [true_and, and_true, Nat.beq_refl, Bool.true_and, decide_eq_true_eq, decide_eq_false_iff_not, beq_iff_eq, bne_iff_ne, beq_eq_false_iff_ne, bne_eq_false_iff_eq, ne_eq, Nat.blt_eq, Nat.ble_eq, Nat.beq_eq, Bool.and_eq_true, Bool.or_eq_true, IntKind.wrap_i64, IntKind.wrap_u64, IntKind.wrap_u8, IntKind.wrap_u32, Int.tdiv_eq_ediv_of_nonneg, Int.tmod_eq_emod_of_nonneg] <;> omega) | rfl | trivial
  by_cases c2 : s.W k = 2
  · have e1 : outN s (k + 1) = outN s k + bytesN (s.ll k) := by simp [outN, pieceN, c2]
    have e2 : outF s (k + 1) = catF (outN s k) (outF s k) (packB (s.L k) (s.ll k)) := by simp [outF, pieceF, c2]
    refine ExB.auto (SWr_ok _ _ _ s _) (inS_ok s) rfl mixed 60 _ (wrg2 s k) ?_
    simp only [condOk, wrg2_G, Int.toNat_natCast, h5, e1, e2]
    and_intros <;> first | exact beq_eq_false_iff_ne.2 c0 | exact beq_eq_false_iff_ne.2 c1 | exact beq_iff_eq.2 c2 | exact fun j _ => same_cat _ _ _ j | exact fun _ _ => rfl | exact fun j _ => (bif_lt ..).symm | exact True.intro | omega | exact fun _ => ⟨trivial, trivial⟩ | exact fun _ _ => Same.refl _ | exact fun _ _ => Like.refl _ | (simp (disch := omega) only [true_and, and_true, Nat.beq_refl, Bool.true_and, decide_eq_true_eq, decide_eq_false_iff_not, beq_iff_eq, bne_iff_ne, beq_eq_false_iff_ne, bne_eq_false_iff_eq, ne_eq, Nat.blt_eq, Nat.ble_eq, Nat.beq_eq, Bool.and_eq_true, Bool.or_eq_true, IntKind.wrap_i64, IntKind.wrap_u64, IntKind.wrap_u8, IntKind.wrap_u32, Int.tdiv_eq_ediv_of_nonneg, Int.tmod_eq_emod_of_nonneg] <;> omega) | rfl | trivial
  · have e1 : outN s (k + 1) = outN s k := by simp [outN, pieceN, c0, c1, c2]
    have e2 : ∀ j, j < outN s k → outF s (k + 1) j = outF s k j := fun j hj => by simp [outF, catF, hj]
    refine ExB.auto (SWr_ok _ _ _ s _) (inS_ok s) rfl mixed 60 _ (wrg3 s k) ?_
    simp only [condOk, wrg3_G, Int.toNat_natCast, h5, e1]
    and_intros <;> first | exact beq_eq_false_iff_ne.2 c0 | exact beq_eq_false_iff_ne.2 c1 | exact beq_eq_false_iff_ne.2 c2 | exact fun j hj => Same.int (e2 j hj).symm | exact fun _ _ => rfl | exact True.intro | omega | exact fun _ => ⟨trivial, trivial⟩ | exact fun _ _ => Same.refl _ | exact fun _ _ => Like.refl _ | (simp (disch := omega) only [true_and, and_true, Nat.beq_refl, Bool.true_and, decide_eq_true_eq, decide_eq_false_iff_not, beq_iff_eq, bne_iff_ne, beq_eq_false_iff_ne, bne_eq_false_iff_eq, ne_eq, Nat.blt_eq, Nat.ble_eq, Nat.beq_eq, Bool.and_eq_true, Bool.or_eq_true, IntKind.wrap_i64, IntKind.wrap_u64, IntKind.wrap_u8, IntKind.wrap_u32, Int.tdiv_eq_ediv_of_nonneg, Int.tmod_eq_emod_of_nonneg] <;> omega) | rfl | trivial
set_option maxRecDepth 100000 in
theorem wr_code : codeAt Try.prog 3 [0, 1, 0, 1, 1, 1, 1, 1] = .loop (codeAt Try.prog 3 pathWr) := by kernel_rfl
theorem wr_loop (s : Stps) (hf : few s) (q : Nat) (hs : okS s) (h : stopL s q) : ExB 1 Try.prog (inS s) (codeAt Try.prog 3 [0, 1, 0, 1, 1, 1, 1, 1]) (wrE s q hs h) (.exit 0) (wrZ s) := by
  refine ExB.enter (cs := []) (inS_ok s) _ ?_ (wrI s q hs h) ?_ rfl
  · rw [wr_code]
    refine ExB.loop (by simp) (wrJ s) s.n (fun k hk => wr_step s hf k hk) (ExB.auto (SWrE_ok s) (inS_ok s) rfl mixed 60 _ (wrg4 s) ?_)
    simp only [condOk, wrg4_G]
    (and_intros <;> first | exact True.intro | omega | exact fun _ => ⟨trivial, trivial⟩ | exact fun _ _ => Same.refl _ | exact fun _ _ => Like.refl _ | (simp (disch := omega) only [true_and, and_true, Nat.beq_refl, Bool.true_and, decide_eq_true_eq, decide_eq_false_iff_not, beq_iff_eq, bne_iff_ne, beq_eq_false_iff_ne, bne_eq_false_iff_eq, ne_eq, Nat.blt_eq, Nat.ble_eq, Nat.beq_eq, Bool.and_eq_true, Bool.or_eq_true, IntKind.wrap_i64, IntKind.wrap_u64, IntKind.wrap_u8, IntKind.wrap_u32, Int.tdiv_eq_ediv_of_nonneg, Int.tmod_eq_emod_of_nonneg] <;> omega) | rfl | trivial)
  · simp only [condOk, wrI_G, outN]
    (and_intros <;> first | exact True.intro | omega | exact fun _ => ⟨trivial, trivial⟩ | exact fun _ _ => Same.refl _ | exact fun _ _ => Like.refl _ | (simp (disch := omega) only [true_and, and_true, Nat.beq_refl, Bool.true_and, decide_eq_true_eq, decide_eq_false_iff_not, beq_iff_eq, bne_iff_ne, beq_eq_false_iff_ne, bne_eq_false_iff_eq, ne_eq, Nat.blt_eq, Nat.ble_eq, Nat.beq_eq, Bool.and_eq_true, Bool.or_eq_true, IntKind.wrap_i64, IntKind.wrap_u64, IntKind.wrap_u8, IntKind.wrap_u32, Int.tdiv_eq_ediv_of_nonneg, Int.tmod_eq_emod_of_nonneg] <;> omega) | rfl | trivial)
set_option maxRecDepth 100000 in
theorem wr_grow (s : Stps) (q : Nat) (hs : okS s) (h : stopL s q) : growB (wrE s q hs h) (wrZ s) = true := by kernel_rfl
set_option maxRecDepth 100000 in
theorem wr_one (s : Stps) (q : Nat) (hs : okS s) (h : stopL s q) : Nat.ble (wrE s q hs h).mem.length 1 = true := by kernel_rfl
noncomputable def wrL (s : Stps) (hf : few s) (q : Nat) (hs : okS s) (h : stopL s q) : LoopF Try.prog (inS s) := LoopF.of (wr_loop s hf q hs h) (wr_grow ..) (wr_one ..)
end Go.Proofs.Ytjhjockdkpgpeaa.En
