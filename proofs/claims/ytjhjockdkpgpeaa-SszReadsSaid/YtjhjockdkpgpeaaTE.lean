/- DERIVED. Bits that are read and written back: the plain law. -/
import Derived.Test.YtjhjockdkpgpeaaTD
set_option linter.all false
namespace Go.Proofs.Ytjhjockdkpgpeaa.En
open Go Go.RowKit

def bitAt (v : Int) (t : Nat) : Bool := bits .and .u8 (v.fdiv (2 ^ t)) 1 == 1
set_option maxRecDepth 100000 in
theorem orBit_fin : ∀ (v : Fin 256) (t : Fin 8), (if bitAt (v.val : Int) t.val = true then bits .or .u8 ((v.val : Int) % 2 ^ t.val) (IntKind.u8.wrap (1 * 2 ^ min (t.val) 8)) else (v.val : Int) % 2 ^ t.val) = (v.val : Int) % 2 ^ (t.val + 1) := by decide +kernel
theorem orBit {v : Int} (h0 : 0 ≤ v) (h1 : v < 256) {t : Nat} (ht : t < 8) : (if bitAt v t = true then bits .or .u8 (v % 2 ^ t) (IntKind.u8.wrap (1 * 2 ^ min t 8)) else v % 2 ^ t) = v % 2 ^ (t + 1) := by
  have := orBit_fin ⟨v.toNat, by omega⟩ ⟨t, ht⟩
  simp only at this
  rwa [show ((v.toNat : Nat) : Int) = v by omega] at this
set_option maxRecDepth 100000 in
theorem bit_fin : ∀ (v : Fin 256) (t : Fin 8), (∀ s : Fin 8, t.val ≤ s.val → bitAt (v.val : Int) s.val = false) ↔ (v.val : Int).fdiv (2 ^ t.val) = 0 := by decide +kernel
theorem bit_zero {v : Int} (h0 : 0 ≤ v) (h1 : v < 256) {t : Nat} (ht : t < 8) : (∀ s, s < 8 → t ≤ s → bitAt v s = false) ↔ v.fdiv (2 ^ t) = 0 := by
  have := bit_fin ⟨v.toNat, by omega⟩ ⟨t, ht⟩
  simp only at this
  rw [show ((v.toNat : Nat) : Int) = v by omega] at this
  rw [← this]
  exact ⟨fun h s hs => h s.val s.isLt hs, fun h s hs hts => h ⟨s, hs⟩ hts⟩
theorem mod_of_zero {v : Int} (h0 : 0 ≤ v) {t : Nat} (h : v.fdiv (2 ^ t) = 0) : v % 2 ^ t = v := by
  rw [Int.fdiv_eq_ediv_of_nonneg _ (Int.pow_nonneg (by omega))] at h
  have h1 := Int.emod_add_ediv_mul v (2 ^ t)
  rw [h] at h1
  omega
/-- The bits of so many bytes, read, come to the bytes again. -/
theorem packB_bits {f : Nat → Int} {q : Nat} (h0 : 0 ≤ f q) (h1 : f q < 256) : ∀ i, packB (bitB f) i q = f q % 2 ^ (min (i - 8 * q) 8)
  | 0 => by
    simp only [packB, show min (0 - 8 * q) 8 = 0 by omega]
    omega
  | i + 1 => by
    simp only [packB]
    rw [packB_bits h0 h1 i]
    by_cases hq : q = i / 8
    · have e : i - 8 * q = i % 8 := by omega
      have hlt : i % 8 < 8 := by omega
      have := orBit h0 h1 hlt
      rw [show min (i - 8 * q) 8 = i % 8 by omega, show min (i + 1 - 8 * q) 8 = i % 8 + 1 by omega, ← this]
      have hb : bitB f i = bitAt (f q) (i % 8) := by unfold bitB bitAt; rw [hq]
      simp only [hb, hq, and_true, bitW]
    · rw [if_neg (fun h => hq h.2)]
      rcases Nat.lt_or_ge i (8 * q) with hl | hl
      · rw [show min (i - 8 * q) 8 = min (i + 1 - 8 * q) 8 by omega]
      · rw [show min (i - 8 * q) 8 = min (i + 1 - 8 * q) 8 by omega]
theorem dirty_iff {f : Nat → Int} {m : Nat} (hm : m % 8 ≠ 0) (h0 : 0 ≤ f (bytesN m - 1)) (h1 : f (bytesN m - 1) < 256) : dirty f m = false ↔ (f (bytesN m - 1)).fdiv (2 ^ (m % 8)) = 0 := by
  have hb : bytesN m = m / 8 + 1 := by unfold bytesN; omega
  rw [← bit_zero h0 h1 (show m % 8 < 8 by omega)]
  unfold dirty
  rw [List.any_eq_false]
  rw [hb] at h0 h1 ⊢
  rw [show m / 8 + 1 - 1 = m / 8 by omega]
  constructor
  · intro h s hs ht
    have := h (8 * (m / 8) + s) (List.mem_range.2 (by omega))
    simp only [Bool.and_eq_true, decide_eq_true_eq, not_and] at this
    have := this (by omega)
    unfold bitB at this
    rw [show (8 * (m / 8) + s) / 8 = m / 8 by omega, show (8 * (m / 8) + s) % 8 = s by omega] at this
    unfold bitAt
    cases hx : bits .and .u8 ((f (m / 8)).fdiv (2 ^ s)) 1 == 1 with
    | false => rfl
    | true => exact absurd hx this
  · intro h i hi
    have hi := List.mem_range.1 hi
    simp only [Bool.and_eq_true, decide_eq_true_eq, not_and]
    intro hmi
    have := h (i % 8) (by omega) (by omega)
    unfold bitB
    unfold bitAt at this
    rw [show i / 8 = m / 8 by omega, this]
    decide
theorem dirty_whole {f : Nat → Int} {m : Nat} (hm : m % 8 = 0) : dirty f m = false := by
  unfold dirty
  rw [List.any_eq_false]
  intro i hi
  have hi := List.mem_range.1 hi
  have : bytesN m = m / 8 := by unfold bytesN; omega
  simp
  intro h
  omega
theorem clean_same {f : Nat → Int} {m : Nat} (hf : ∀ j, j < bytesN m → 0 ≤ f j ∧ f j < 256) (hd : dirty f m = false) : sameB (bytesN m) (packB (bitB f) m) (bytesN m) f := by
  refine ⟨rfl, fun j hj => ?_⟩
  obtain ⟨h0, h1⟩ := hf j hj
  rw [packB_bits h0 h1]
  by_cases hl : 8 * j + 8 ≤ m
  · rw [show min (m - 8 * j) 8 = 8 by omega]; omega
  · have hb : bytesN m = j + 1 := by unfold bytesN at hj ⊢; omega
    have hm : m % 8 ≠ 0 := by unfold bytesN at hb; omega
    have e : bytesN m - 1 = j := by omega
    have := (dirty_iff hm (by rw [e]; exact h0) (by rw [e]; exact h1)).1 hd
    rw [e] at this
    rw [show min (m - 8 * j) 8 = m % 8 by unfold bytesN at hb; omega]
    exact mod_of_zero h0 this
end Go.Proofs.Ytjhjockdkpgpeaa.En
