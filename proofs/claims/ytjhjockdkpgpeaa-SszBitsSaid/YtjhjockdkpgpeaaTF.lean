/- DERIVED. Bits that are read and written back: the law's call answers true. -/
import Derived.Test.YtjhjockdkpgpeaaTE
set_option linter.all false
namespace Go.Proofs.Ytjhjockdkpgpeaa.En
open Go Go.RowKit

set_option maxRecDepth 100000 in
theorem dA_v (n : Nat) (f : Nat → Int) (x : Int) : (runD true false none none none n f x).map (fun r => r.1) = some (.bool true) := by kernel_rfl
set_option maxRecDepth 100000 in
theorem dB_v (n : Nat) (f : Nat → Int) (x : Int) : (runD false true none none none n f x).map (fun r => r.1) = some (.bool true) := by kernel_rfl
set_option maxRecDepth 100000 in
theorem dC_v (n : Nat) (f : Nat → Int) (x : Int) : (runD false false (some true) none none n f x).map (fun r => r.1) = some (.bool true) := by kernel_rfl
set_option maxRecDepth 100000 in
theorem dD_v (n : Nat) (f : Nat → Int) (x : Int) : (runD false false (some false) (some true) none n f x).map (fun r => r.1) = some (.bool true) := by kernel_rfl
set_option maxRecDepth 100000 in
theorem dE_v (n : Nat) (f : Nat → Int) (x : Int) : (runD false false (some false) (some false) none n f x).map (fun r => r.1) = some (.bool true) := by kernel_rfl
theorem inB_kin (n : Nat) (f : Nat → Int) (ρ : Key → Loc) : ∀ t i, kinL (okKey ([] : Mem Empty) ρ) (inB n f t i) := by
  intro t i
  cases t with
  | succ t => trivial
  | zero =>
    cases i with
    | zero => exact ⟨fun _ => ⟨trivial, trivial⟩, trivial⟩
    | succ i => trivial
theorem szBits_call (n : Nat) (f : Nat → Int) (x : Int) (hf : ∀ j, j < n → 0 ≤ f j ∧ f j < 256) {ρ : Key → Loc} {w : World} (hm : MemRel (inB n f) ρ [] w) (hk : n ≤ (ρ (.inp 0 0)).cap) :
    Calls Try.prog 4 (trs ρ [(.vec (.inp 0 0) n : LV Empty), .int .i64 x]).toArray w fun e w' => e = .returned (.bool true) ∧ Below w.heap.size w w' := by
  have hI := inB_ok n f
  have hkI := inB_kin n f ρ
  by_cases hb : 100 < n
  · exact calls_top (SD_ok _ _ _ _ _ hI) mixed (call_both (dA_v n f x) (dA n f x)) (decide_eq_true (by omega)) hm ⟨hk, trivial, trivial⟩ hkI fun _ _ => rfl
  by_cases hz : n = 0
  · subst hz
    exact calls_top (SD_ok _ _ _ _ _ hI) mixed (call_both (dB_v 0 f x) (dB 0 f x)) ⟨decide_eq_false (by omega), rfl⟩ hm ⟨hk, trivial, trivial⟩ hkI fun _ _ => rfl
  have h1 : IntKind.wrap IntKind.i64 (IntKind.wrap IntKind.i64 ((8 : Int) * (n : Int)) + 1) = 8 * (n : Int) + 1 := by
    rw [IntWalk.i64_in (8 * (n : Int)) (by omega), IntWalk.i64_in _ (by omega)]
  obtain ⟨m, hmm⟩ : ∃ m : Nat, m = (x % (8 * (n : Int) + 1)).toNat := ⟨_, rfl⟩
  have hx0 := Int.emod_nonneg x (show (8 * (n : Int) + 1) ≠ 0 by omega)
  have hx1 := Int.emod_lt_of_pos x (show 0 < (8 * (n : Int) + 1) by omega)
  have h2 : x % (8 * (n : Int) + 1) = (m : Int) := by omega
  have hmn : m ≤ 8 * n := by omega
  have h3 : IntKind.wrap IntKind.i64 (Int.tdiv (IntKind.wrap IntKind.i64 ((m : Int) + 7)) 8) = (bytesN m : Int) := lenB_eq (n := m) (by omega)
  have hK : bytesN m ≤ n := by unfold bytesN; omega
  have hK8 : m ≤ 8 * bytesN m := by unfold bytesN; omega
  have hff : ∀ j, j < bytesN m → 0 ≤ f j ∧ f j < 256 := fun j hj => hf j (by omega)
  have h4 : Int.tmod (m : Int) 8 = ((m % 8 : Nat) : Int) := tmod8 m
  have h5 : ((8 : Int) * (bytesN m : Int)) = ((8 * bytesN m : Nat) : Int) := by omega
  have clean : dirty f m = false → rdOk (bytesN m) f 0 (m : Int) = true := fun hd => by
    unfold rdOk; simp [hd, hK8]
  have unclean : dirty f m = true → rdOk (bytesN m) f 0 (m : Int) = false := fun hd => by
    unfold rdOk; simp [hd]
  by_cases hm8 : m % 8 = 0
  · have hd := dirty_whole (f := f) hm8
    refine calls_top (SD_ok _ _ _ _ _ hI) mixed (call_both (dC_v n f x) (dC n f x)) ?_ hm ⟨hk, trivial, trivial⟩ hkI fun _ _ => rfl
    simp only [condOk, dC_G, h1, h2, h3, h4, rdL, rdN, rdE, rdF, endV, clean hd, hd, hK8, Int.toNat_natCast, if_true, if_false, Bool.false_eq_true]
    and_intros <;> first | exact (clean_same hff hd).2 | (simp only [Nat.sub_self, Nat.lt_irrefl, and_false, if_false]; rfl) | exact True.intro | omega | exact fun _ => ⟨trivial, trivial⟩ | exact fun _ _ => Same.refl _ | exact fun _ _ => Like.refl _ | (simp (disch := omega) only [decide_eq_true_eq, decide_eq_false_iff_not, beq_iff_eq, bne_iff_ne, beq_eq_false_iff_ne, ne_eq, Nat.blt_eq, Nat.ble_eq, Nat.beq_eq, Bool.and_eq_true, Bool.or_eq_true, IntKind.wrap_i64, IntKind.wrap_u64, IntKind.wrap_u8, IntKind.wrap_u32, Int.tdiv_eq_ediv_of_nonneg, Int.tmod_eq_emod_of_nonneg] <;> omega) | rfl | trivial
  · have hl : bytesN m = m / 8 + 1 := by unfold bytesN; omega
    have h6 : (IntKind.wrap IntKind.i64 ((bytesN m : Int) - 1)).toNat = bytesN m - 1 := by rw [IntWalk.i64_in _ (by omega)]; omega
    have h7 : min (m % 8) 8 = m % 8 := by omega
    obtain ⟨g0, g1⟩ := hff (bytesN m - 1) (by omega)
    by_cases hd : dirty f m = true
    · refine calls_top (SD_ok _ _ _ _ _ hI) mixed (call_both (dE_v n f x) (dE n f x)) ?_ hm ⟨hk, trivial, trivial⟩ hkI fun _ _ => rfl
      have hsh : (f (bytesN m - 1)).fdiv (2 ^ (m % 8)) ≠ 0 := fun h => by
        rw [(dirty_iff hm8 g0 g1).2 h] at hd; cases hd
      simp only [condOk, dE_G, h1, h2, h3, h4, rdL, rdN, rdE, rdF, endV, unclean hd, hd, hK8, Int.toNat_natCast, if_true, if_false, Bool.false_eq_true]
      and_intros <;> first | (rw [h6, h7]; exact beq_eq_false_iff_ne.2 hsh) | (simp only [Nat.sub_self, Nat.lt_irrefl, and_false, if_false]; rfl) | exact True.intro | omega | exact fun _ => ⟨trivial, trivial⟩ | exact fun _ _ => Same.refl _ | exact fun _ _ => Like.refl _ | (simp (disch := omega) only [decide_eq_true_eq, decide_eq_false_iff_not, beq_iff_eq, bne_iff_ne, beq_eq_false_iff_ne, ne_eq, Nat.blt_eq, Nat.ble_eq, Nat.beq_eq, Bool.and_eq_true, Bool.or_eq_true, IntKind.wrap_i64, IntKind.wrap_u64, IntKind.wrap_u8, IntKind.wrap_u32, Int.tdiv_eq_ediv_of_nonneg, Int.tmod_eq_emod_of_nonneg] <;> omega) | rfl | trivial
    · have hd : dirty f m = false := by simpa using hd
      refine calls_top (SD_ok _ _ _ _ _ hI) mixed (call_both (dD_v n f x) (dD n f x)) ?_ hm ⟨hk, trivial, trivial⟩ hkI fun _ _ => rfl
      have hsh : (f (bytesN m - 1)).fdiv (2 ^ (m % 8)) = 0 := (dirty_iff hm8 g0 g1).1 hd
      simp only [condOk, dD_G, h1, h2, h3, h4, rdL, rdN, rdE, rdF, endV, clean hd, hd, hK8, Int.toNat_natCast, if_true, if_false, Bool.false_eq_true]
      and_intros <;> first | exact (clean_same hff hd).2 | (rw [h6, h7]; exact beq_iff_eq.2 hsh) | (simp only [Nat.sub_self, Nat.lt_irrefl, and_false, if_false]; rfl) | exact True.intro | omega | exact fun _ => ⟨trivial, trivial⟩ | exact fun _ _ => Same.refl _ | exact fun _ _ => Like.refl _ | (simp (disch := omega) only [decide_eq_true_eq, decide_eq_false_iff_not, beq_iff_eq, bne_iff_ne, beq_eq_false_iff_ne, ne_eq, Nat.blt_eq, Nat.ble_eq, Nat.beq_eq, Bool.and_eq_true, Bool.or_eq_true, IntKind.wrap_i64, IntKind.wrap_u64, IntKind.wrap_u8, IntKind.wrap_u32, Int.tdiv_eq_ediv_of_nonneg, Int.tmod_eq_emod_of_nonneg] <;> omega) | rfl | trivial
end Go.Proofs.Ytjhjockdkpgpeaa.En
