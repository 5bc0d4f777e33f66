/- DERIVED. The operations that lay a new block. -/
import Derived.Test.YtjhjockdkpgpeaaVSB
set_option linter.all false
namespace Go.Proofs.Ytjhjockdkpgpeaa.En
open Go Go.RowKit

theorem wrote_ext {C N D D' : List Value} {a : Nat} (h : Wrote C a N D) (h' : Wrote C a N D') : D = D' := by
  apply List.ext_getElem?
  intro j
  rw [h.get j, h'.get j]

section
variable {A : Type} [Ab A] {P : Program}
variable {I : Nat → Nat → List (LV A)} {Own : Dom} {w0 : World} {ρ : Key → Loc} {s : LS A} {a : Act} {w : World}

/-- Zeroes, row by row. -/
theorem made_rows [LawAb A] {us : List (LV A)} {z : Nat} (hz : cszL us = z) (h0 : 0 < z) (n : Nat) : (madeCells (cellsL ρ us).toArray (n * z)).toList = rowCells ρ n z fun _ => us := by
  have hl : (cellsL ρ us).length = z := by rw [len_cellsL]; exact hz
  apply List.ext_getElem?
  intro j
  by_cases hj : j < n * z
  · obtain ⟨i, r, rfl, hr, hi⟩ := row_split' hj
    rw [get_rowCells ρ _ hi hr, fitTo_eq hl]
    have hmod : (i * z + r) % z = r := by rw [Nat.mul_comm, Nat.mul_add_mod]; exact Nat.mod_eq_of_lt hr
    simp [madeCells, hj, hl, hmod, hr]
  · rw [List.getElem?_eq_none (by simp [madeCells]; omega), List.getElem?_eq_none (by rw [len_rowCells]; omega)]

/-- One row laid over. -/
theorem row_over [LawAb A] {u : List (LV A)} {n z i : Nat} {f : Nat → List (LV A)} (hi : i < n) (hu : cszL u = z) :
    (rowCells ρ n z f).take (i * z) ++ cellsL ρ u ++ (rowCells ρ n z f).drop (i * z + z) = rowCells ρ n z fun j => if j = i then u else f j := by
  have hl : (cellsL ρ u).length = z := by rw [len_cellsL]; exact hu
  have hle := row_lt (z := z) hi
  have e := wrote_over (C := rowCells ρ n z f) (N := cellsL ρ u) (a := i * z) (by rw [len_rowCells, hl]; exact hle)
  rw [hl] at e
  refine wrote_ext e ⟨by rw [len_rowCells, len_rowCells], by rw [len_rowCells, hl]; exact hle, fun j => ?_⟩
  rw [hl]
  by_cases hj : j < n * z
  · obtain ⟨k, r, rfl, hr, hk⟩ := row_split' hj
    rw [get_rowCells ρ _ hk hr, get_rowCells ρ _ hk hr]
    by_cases hki : k = i
    · subst hki
      rw [if_pos rfl, if_pos ⟨by omega, by omega⟩, fitTo_eq hl]
      congr 1
      omega
    · rw [if_neg hki, if_neg]
      rintro ⟨h1, h2⟩
      rcases Nat.lt_or_gt_of_ne hki with h' | h'
      · have := row_lt (z := z) h'; omega
      · have := row_lt (z := z) h'; omega
  · rw [List.getElem?_eq_none (by rw [len_rowCells]; omega), if_neg (by omega), List.getElem?_eq_none (by rw [len_rowCells]; omega)]

theorem laid_sound [LawAb A] {E : Operand → Option (LV A)} {z : Nat} {ev' : Operand → Value} {p : Key → Nat → Prop} (hE : ∀ x u, E x = some u → ev' x = LV.tr ρ u ∧ u.kin p) : ∀ (parts : List (Nat × Operand)) (l l' : List (List (LV A))), newR.laid E z l parts = some l' → (∀ us ∈ l, kinL p us) →
      Instr.fill (fun i => some (i * z, z)) (rowCells ρ l.length z fun j => l.getD j []).toArray (parts.map fun x => (x.1, ev' x.2)) = some (rowCells ρ l.length z fun j => l'.getD j []).toArray ∧ (∀ us ∈ l', kinL p us) ∧ l'.length = l.length
  | [], l, l', h, hk => by
    simp only [newR.laid, Option.some.injEq] at h
    subst h
    exact ⟨rfl, hk, rfl⟩
  | (i, x) :: ps, l, l', h, hk => by
    simp only [newR.laid] at h
    split at h
    rotate_left
    · cases h
    rename_i u hu
    split at h
    rotate_left
    · cases h
    rename_i hb
    obtain ⟨hb1, hi⟩ := both hb
    obtain ⟨hnt, hz⟩ := both hb1
    have hz := beqN hz
    have hi := bltN hi
    obtain ⟨e1, k1⟩ := hE x u hu
    have hc1 : (LV.cells ρ u).length = z := by rw [← cellsL_units, len_cellsL]; exact hz
    have hsz : (LV.tr ρ u).cells.size = z := by rw [cells_tr ρ hnt]; simpa using hc1
    obtain ⟨h1, h2, h3⟩ := laid_sound hE ps (l.set i (units u)) l' h (by
      intro us hus
      rcases List.mem_or_eq_of_mem_set hus with h' | rfl
      · exact hk us h'
      · exact kin_units k1)
    rw [List.length_set] at h1 h3
    refine ⟨?_, h2, h3⟩
    simp only [List.map_cons, e1]
    rw [fill_one _ _ i (LV.tr ρ u) _ (i * z) (by rw [hsz]) (by rw [hsz]; have := row_lt (z := z) hi; simpa [len_rowCells] using this)]
    rw [← h1, hsz]
    congr 2
    rw [cells_tr ρ hnt, ← cellsL_units, row_over hi hz]
    congr 1
    funext j
    by_cases hj : j = i
    · subst hj; simp [List.getD, hi]
    · rw [if_neg hj]
      simp [List.getD, List.getElem?_set_ne (fun e => hj e.symm)]

/-- A part of a whole slice, as a block of its own. -/
theorem view_fresh [LawAb A] {mem : Mem A} {b : Key} {bl : Blk A} {rc : Bool} {z len : Nat} {g : Nat → List (LV A)} {c : Cnd} (hm : MemRel I ρ mem w) (hmine : Mine I Own ρ mem) (hocc : ∀ (k : Key) (bl : Blk A), at? I mem k = some bl → kinL (okKey mem ρ) bl.us) (hb : at? I mem b = some bl) (hw : isWr bl.kd = false) (hd : isDead bl.kd = false)
    (hr : rowsP rc bl.us 0 [] z len = some (g, c)) (hc : condOk c) (hlen : len ≤ (ρ b).cap) {l h m' : Nat} (h1 : l ≤ h) (h2 : h ≤ len) (h3 : h ≤ m') (h4 : m' ≤ (ρ b).cap) :
    ∃ loc src, vecV (ρ b) len = .slice src len (ρ b).cap ∧ vecV loc (h - l) = .slice (if m' = l then src else src.map (·.add (l * z))) (h - l) (m' - l) ∧ h - l ≤ loc.cap ∧ Fresh I Own ρ mem w loc ⟨.ro, [.rows (h - l) z fun j => g (l + j)]⟩ := by
  have hnc := hm.nilc b
  refine ⟨⟨(ρ b).blk, if m' = l then (ρ b).off else (ρ b).off + l * z, m' - l, (ρ b).none, (ρ b).at0⟩, match (ρ b).none with | true => (ρ b).at0 | false => some ((ρ b).at 0), ?_, ?_, by simp only; omega, ?_⟩
  · unfold vecV
    cases hn : (ρ b).none with
    | true =>
      have := hnc hn
      have e0 : len = 0 := by omega
      subst e0
      simp [Nat.beq_refl, this]
    | false => rfl
  · unfold vecV
    cases hn : (ρ b).none with
    | true =>
      have := hnc hn
      have e1 : m' = 0 := by omega
      have e2 : h = 0 := by omega
      have e3 : l = 0 := by omega
      subst e1; subst e2; subst e3
      simp [Nat.beq_refl]
    | false =>
      simp only [Bool.false_and]
      split
      · simp [Loc.at]
      · simp only [Option.map_some, loc_add, Nat.zero_add]
        simp only [Loc.at, Nat.add_zero]
  · have hcells : ∀ (i : Nat) (v : Value), (cellsL ρ [LV.rows (h - l) z fun j => g (l + j)])[i]? = some v → m' ≠ l ∧ (cellsL ρ bl.us)[l * z + i]? = some v := by
      intro i v hv
      have hv : (rowCells ρ (h - l) z fun j => g (l + j))[i]? = some v := by simpa [cellsL, LV.cells, rowCells] using hv
      have hlt : i < (h - l) * z := by
        rcases Nat.lt_or_ge i ((h - l) * z) with h' | h'
        · exact h'
        · rw [List.getElem?_eq_none (by rw [len_rowCells]; exact h')] at hv; cases hv
      obtain ⟨q, r, rfl, hrz, hq⟩ := row_split' hlt
      rw [get_rowCells ρ _ hq hrz, (rowsP_sound ρ [] bl.us 0 g c hr hc (l + q) r (by omega) hrz).1] at hv
      refine ⟨by omega, ?_⟩
      rw [← hv]
      simp only [adr, Nat.add_mul]
      congr 1
      omega
    constructor
    · exact ⟨fun i => kin_rowsP _ _ _ _ _ hr (hocc b bl hb) _, trivial⟩
    · intro i v hv
      obtain ⟨h5, h6⟩ := hcells i v hv
      have := hm.cell b bl hb _ v h6
      simp only [Loc.at, if_neg h5] at this ⊢
      rwa [Nat.add_assoc]
    · intro h; cases h
    · intro hn; exact hm.inb b bl hb hd hn
    · intro h; cases h
    · intro hn; exact hmine.src b bl hb hd hn
    · intro h; cases h
    · intro hn k bl' hk hwk hnk
      refine hm.apart k b bl' bl ?_ hk hb hwk hd hnk hn
      rintro rfl
      have := at_own' hb
      rw [hk] at this; cases this
      rw [hw] at hwk; cases hwk
    · intro e h; cases h
    · intro hn
      have := hnc hn
      show m' - l = 0
      omega
    · intro hn
      have := hnc hn
      simp only [cszL, csz]
      have : h - l = 0 := by omega
      simp [this]
    · rfl
end
end Go.Proofs.Ytjhjockdkpgpeaa.En
