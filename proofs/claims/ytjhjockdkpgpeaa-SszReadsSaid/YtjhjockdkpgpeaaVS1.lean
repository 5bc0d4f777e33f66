/- DERIVED. The second executor's values and units, as cells of the model: plain lemmas. -/
import Derived.Test.YtjhjockdkpgpeaaVEng
set_option linter.all false
namespace Go.Proofs.Ytjhjockdkpgpeaa.En
open Go

/-- The chunks' cells are whole numbers, as many as it says. -/
class LawAb (A : Type) [Ab A] : Prop where
  len : ∀ x : A, (Ab.cells x).length = Ab.size x
  flat : ∀ x : A, ∀ v ∈ Ab.cells x, ∃ k n, v = Value.int k n

section
variable {A : Type} [Ab A] (ρ : Key → Loc)

theorem beqN {a b : Nat} (h : Nat.beq a b = true) : a = b := Nat.eq_of_beq_eq_true h
theorem both {a b : Bool} (h : (a && b) = true) : a = true ∧ b = true := by simpa using h
theorem bleN {a b : Nat} (h : Nat.ble a b = true) : a ≤ b := Nat.le_of_ble_eq_true h
theorem bltN {a b : Nat} (h : Nat.blt a b = true) : a < b := Nat.le_of_ble_eq_true h

theorem len_fitTo (z : Nat) (l : List Value) : (fitTo z l).length = z := by simp [fitTo]
theorem fitTo_of_le {z : Nat} {l : List Value} (i : Nat) (h : l.length ≤ z) (hi : i < l.length) : (fitTo z l)[i]? = l[i]? := by
  rw [fitTo, List.getElem?_take_of_lt (by omega), List.getElem?_append_left hi]
theorem fitTo_eq {z : Nat} {l : List Value} (h : l.length = z) : fitTo z l = l := by
  subst h
  simp [fitTo]

theorem len_rows (z : Nat) (g : Nat → List Value) (h : ∀ i, (g i).length = z) : ∀ n, ((List.range n).flatMap g).length = n * z
  | 0 => by simp
  | n + 1 => by
    rw [List.range_succ, List.flatMap_append, List.length_append, len_rows z g h n]
    simp [h, Nat.succ_mul]

/-- A cell of rows. -/
theorem get_rows (z : Nat) (g : Nat → List Value) (h : ∀ i, (g i).length = z) : ∀ (n i j : Nat), i < n → j < z → ((List.range n).flatMap g)[i * z + j]? = (g i)[j]?
  | 0, i, j, hi, _ => by omega
  | n + 1, i, j, hi, hj => by
    rw [List.range_succ, List.flatMap_append]
    by_cases hin : i < n
    · have : i * z + j < ((List.range n).flatMap g).length := by
        rw [len_rows z g h n]
        have := Nat.mul_le_mul_right z (show i + 1 ≤ n from hin)
        rw [Nat.succ_mul] at this
        omega
      rw [List.getElem?_append_left this]
      exact get_rows z g h n i j hin hj
    · have : i = n := by omega
      subst this
      rw [List.getElem?_append_right (by rw [len_rows z g h i]; omega), len_rows z g h i]
      simp

theorem cells_tr {v : LV A} (h : noTup v = true) : (LV.tr ρ v).cells = (LV.cells ρ v).toArray := by
  cases v
  case tup vs => simp [noTup] at h
  case any => simp [noTup] at h
  case undef => simp [noTup] at h
  case vec b len =>
    simp only [LV.tr, LV.cells, vecV]
    split <;> rfl
  all_goals simp [LV.tr, LV.cells, Value.cells]

mutual
theorem len_cells [LawAb A] : ∀ v : LV A, (LV.cells ρ v).length = csz v
  | .abs x => by simp [LV.cells, csz, LawAb.len]
  | .rows n z f => by
    simp only [LV.cells, csz]
    exact len_rows z _ (fun i => len_fitTo z _) n
  | .agg us => by simp only [LV.cells, csz]; exact len_cellsL us
  | .any => rfl
  | .undef => rfl
  | .int _ _ => rfl
  | .bool _ => rfl
  | .str _ => rfl
  | .ptr _ _ _ => rfl
  | .nilp => rfl
  | .slice _ _ _ _ _ => rfl
  | .vec _ _ => rfl
  | .nils => rfl
  | .nilfn => rfl
  | .niliface => rfl
  | .tup _ => rfl
  | .iface _ _ => rfl
  | .func _ _ => rfl
theorem len_cellsL [LawAb A] : ∀ us : List (LV A), (cellsL ρ us).length = cszL us
  | [] => rfl
  | v :: l => by simp only [cellsL, cszL, List.length_append]; rw [len_cells v, len_cellsL l]
end

theorem cellsL_append (us vs : List (LV A)) : cellsL ρ (us ++ vs) = cellsL ρ us ++ cellsL ρ vs := by
  induction us with
  | nil => rfl
  | cons u us ih => simp [cellsL, ih]

theorem cellsL_units (v : LV A) : cellsL ρ (units v) = LV.cells ρ v := by
  cases v <;> simp [units, cellsL, LV.cells]

/-- What 'rd' reads. -/
theorem rd_sound [LawAb A] : ∀ (us : List (LV A)) (off sz : Nat) (r : List (LV A)), rd us off sz = some r →
    cellsL ρ r = ((cellsL ρ us).drop off).take sz ∧ off + sz ≤ cszL us
  | [], off, sz, r, h => by
    simp only [rd] at h
    split at h
    · rename_i hb
      cases h; simp [cellsL, cszL, beqN (both hb).1, beqN (both hb).2]
    · cases h
  | u :: us, off, sz, r, h => by
    have hl : (LV.cells ρ u).length = csz u := len_cells ρ u
    simp only [rd] at h
    split at h
    · rename_i hb
      cases h; rw [beqN (both hb).1, beqN (both hb).2]; simp [cellsL]
    · split at h
      · rename_i h0
        have h0 := beqN h0
        subst h0
        split at h
        · rename_i hb
          have hb := bleN hb
          split at h
          · rename_i r' hr
            cases h
            have ih := rd_sound us _ _ _ hr
            refine ⟨?_, by simp only [cszL]; omega⟩
            simp only [cellsL]
            have e2 : (LV.cells ρ u).take sz = LV.cells ρ u := List.take_of_length_le (by omega)
            rw [ih.1, List.drop_zero, List.drop_zero, List.take_append, hl, e2]
          · cases h
        · cases h
      · split at h
        · rename_i hb
          have hb := bleN hb
          have ih := rd_sound us _ _ _ h
          refine ⟨?_, by simp only [cszL]; omega⟩
          rw [ih.1]
          simp only [cellsL]
          have e1 : (LV.cells ρ u).drop off = [] := List.drop_eq_nil_of_le (by omega)
          rw [List.drop_append, hl, e1, List.nil_append]
        · cases h

theorem skipU_sound [LawAb A] : ∀ (us : List (LV A)) (n : Nat) (r : List (LV A)), skipU us n = some r →
    cellsL ρ r = (cellsL ρ us).drop n ∧ n ≤ cszL us
  | [], n, r, h => by
    simp only [skipU] at h
    split at h
    · rename_i hb; cases h; simp [cellsL, beqN hb]
    · cases h
  | u :: us, n, r, h => by
    have hl : (LV.cells ρ u).length = csz u := len_cells ρ u
    simp only [skipU] at h
    split at h
    · rename_i hb; cases h; rw [beqN hb]; simp
    · split at h
      · rename_i hb
        have hb := bleN hb
        have ih := skipU_sound us _ _ h
        refine ⟨?_, by simp only [cszL]; omega⟩
        have e1 : (LV.cells ρ u).drop n = [] := List.drop_eq_nil_of_le (by omega)
        rw [ih.1]
        simp only [cellsL]
        rw [List.drop_append, hl, e1, List.nil_append]
      · cases h

/-- What 'wrU' writes. -/
theorem wrU_sound [LawAb A] : ∀ (us : List (LV A)) (off : Nat) (new r : List (LV A)), wrU us off new = some r →
    cellsL ρ r = (cellsL ρ us).take off ++ cellsL ρ new ++ (cellsL ρ us).drop (off + cszL new) ∧ off + cszL new ≤ cszL us
  | [], off, new, r, h => by
    simp only [wrU] at h
    split at h
    · rename_i hb; cases h
      have h1 := beqN (both hb).1
      have h2 := beqN (both hb).2
      simp [cellsL, cszL, h1, h2]
    · cases h
  | u :: us, off, new, r, h => by
    have hl : (LV.cells ρ u).length = csz u := len_cells ρ u
    simp only [wrU] at h
    split at h
    · rename_i hb
      split at h
      · rename_i r' hs
        cases h
        obtain ⟨h1, h2⟩ := skipU_sound ρ _ _ _ hs
        rw [beqN hb, cellsL_append, h1]
        simpa using h2
      · cases h
    · split at h
      · rename_i hb
        have hb := bleN hb
        split at h
        · rename_i r' hs
          cases h
          obtain ⟨h1, h2⟩ := wrU_sound us _ _ _ hs
          refine ⟨?_, by simp only [cszL]; omega⟩
          simp only [cellsL]
          have e1 : (LV.cells ρ u).drop (off + cszL new) = [] := List.drop_eq_nil_of_le (by omega)
          have e2 : (LV.cells ρ u).take off = LV.cells ρ u := List.take_of_length_le (by omega)
          rw [h1, List.drop_append, List.take_append, hl, e1, e2, List.nil_append, show off + cszL new - csz u = off - csz u + cszL new by omega]
          simp
        · cases h
      · cases h

/-! ## either of two -/
mutual
theorem mrg_sound (c : Bool) : ∀ (u v r : LV A), mrg c u v = some r → LV.cells ρ r = cond c (LV.cells ρ u) (LV.cells ρ v)
  | .int k a, v, r, h => by
    cases v <;> simp only [mrg, reduceCtorEq] at h
    split at h
    · rename_i e; subst e; cases h; cases c <;> rfl
    · cases h
  | .bool a, v, r, h => by cases v <;> simp only [mrg, reduceCtorEq] at h; cases h; cases c <;> rfl
  | .str a, v, r, h => by cases v <;> simp only [mrg, reduceCtorEq] at h; cases h; cases c <;> rfl
  | .abs a, v, r, h => by cases v <;> simp only [mrg, reduceCtorEq] at h; cases h; cases c <;> rfl
  | .nils, v, r, h => by cases v <;> simp only [mrg, reduceCtorEq] at h; cases h; cases c <;> rfl
  | .nilp, v, r, h => by cases v <;> simp only [mrg, reduceCtorEq] at h; cases h; cases c <;> rfl
  | .rows n z f, v, r, h => by
    cases v <;> simp only [mrg, reduceCtorEq] at h
    rename_i n' z' g
    split at h
    · rename_i e
      have e1 := beqN (both e).1
      have e2 := beqN (both e).2
      subst e1; subst e2
      cases h
      have key : ∀ j, cellsL ρ (mrgR c (f j) (g j)) = cond c (cellsL ρ (f j)) (cellsL ρ (g j)) := by
        intro j
        unfold mrgR
        split
        · rename_i r hr; exact mrgL_sound c (f j) (g j) r hr
        · cases c <;> rfl
      show (List.range n).flatMap (fun i => fitTo z (cellsL ρ (mrgR c (f i) (g i)))) = _
      simp only [key]
      cases c <;> rfl
    · cases h
  | .any, v, r, h => by simp [mrg] at h
  | .undef, v, r, h => by simp [mrg] at h
  | .ptr _ _ _, v, r, h => by simp [mrg] at h
  | .slice _ _ _ _ _, v, r, h => by simp [mrg] at h
  | .vec _ _, v, r, h => by simp [mrg] at h
  | .nilfn, v, r, h => by simp [mrg] at h
  | .niliface, v, r, h => by simp [mrg] at h
  | .agg _, v, r, h => by simp [mrg] at h
  | .tup _, v, r, h => by simp [mrg] at h
  | .iface _ _, v, r, h => by simp [mrg] at h
  | .func _ _, v, r, h => by simp [mrg] at h
theorem mrgL_sound (c : Bool) : ∀ (us vs r : List (LV A)), mrgL c us vs = some r → cellsL ρ r = cond c (cellsL ρ us) (cellsL ρ vs)
  | [], vs, r, h => by
    cases vs <;> simp only [mrgL, reduceCtorEq] at h
    cases h; cases c <;> rfl
  | u :: us, vs, r, h => by
    cases vs <;> simp only [mrgL, reduceCtorEq] at h
    rename_i v vs
    split at h
    · rename_i x hx
      split at h
      · rename_i xs hxs
        cases h
        simp only [cellsL, mrg_sound c u v x hx, mrgL_sound c us vs xs hxs]
        cases c <;> rfl
      · cases h
    · cases h
end
theorem mrgR_sound (c : Bool) (us vs : List (LV A)) : cellsL ρ (mrgR c us vs) = cond c (cellsL ρ us) (cellsL ρ vs) := by
  unfold mrgR
  split
  · rename_i r hr; exact mrgL_sound ρ c us vs r hr
  · cases c <;> rfl

mutual
/-- No cell is a struct, an array or a tuple. -/
theorem one_cells [LawAb A] : ∀ v : LV A, ∀ u ∈ LV.cells ρ v, u.oneCell' = true
  | .abs x, u, hu => by obtain ⟨k, n, rfl⟩ := LawAb.flat x u hu; rfl
  | .rows n z f, u, hu => by
    simp only [LV.cells, List.mem_flatMap, fitTo] at hu
    obtain ⟨i, _, hu⟩ := hu
    rcases List.mem_append.1 (List.mem_of_mem_take hu) with hu | hu
    · exact one_cellsL (f i) u hu
    · rw [(List.mem_replicate.1 hu).2]; rfl
  | .agg us, u, hu => one_cellsL us u hu
  | .vec b len, u, hu => by
    simp only [LV.cells, List.mem_singleton] at hu
    subst hu
    unfold vecV
    split <;> rfl
  | .any, u, hu => by simp only [LV.cells, List.mem_singleton] at hu; subst hu; rfl
  | .undef, u, hu => by simp only [LV.cells, List.mem_singleton] at hu; subst hu; rfl
  | .int _ _, u, hu => by simp only [LV.cells, List.mem_singleton] at hu; subst hu; rfl
  | .bool _, u, hu => by simp only [LV.cells, List.mem_singleton] at hu; subst hu; rfl
  | .str _, u, hu => by simp only [LV.cells, List.mem_singleton] at hu; subst hu; rfl
  | .ptr _ _ _, u, hu => by simp only [LV.cells, List.mem_singleton] at hu; subst hu; rfl
  | .nilp, u, hu => by simp only [LV.cells, List.mem_singleton] at hu; subst hu; rfl
  | .slice _ _ _ _ _, u, hu => by simp only [LV.cells, List.mem_singleton] at hu; subst hu; rfl
  | .nils, u, hu => by simp only [LV.cells, List.mem_singleton] at hu; subst hu; rfl
  | .nilfn, u, hu => by simp only [LV.cells, List.mem_singleton] at hu; subst hu; rfl
  | .niliface, u, hu => by simp only [LV.cells, List.mem_singleton] at hu; subst hu; rfl
  | .tup _, u, hu => by simp only [LV.cells, List.mem_singleton] at hu; subst hu; rfl
  | .iface _ _, u, hu => by simp only [LV.cells, List.mem_singleton] at hu; subst hu; rfl
  | .func _ _, u, hu => by simp only [LV.cells, List.mem_singleton] at hu; subst hu; rfl
theorem one_cellsL [LawAb A] : ∀ us : List (LV A), ∀ u ∈ cellsL ρ us, u.oneCell' = true
  | [], u, hu => by cases hu
  | v :: l, u, hu => by
    simp only [cellsL, List.mem_append] at hu
    rcases hu with hu | hu
    · exact one_cells v u hu
    · exact one_cellsL l u hu
end
end
end Go.Proofs.Ytjhjockdkpgpeaa.En
