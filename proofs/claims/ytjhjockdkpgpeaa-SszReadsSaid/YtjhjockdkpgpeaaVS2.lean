/- DERIVED. Places behind elements of open number: what is read and written there. -/
import Derived.Test.YtjhjockdkpgpeaaVS1
set_option linter.all false
namespace Go.Proofs.Ytjhjockdkpgpeaa.En
open Go

def condOk : Cnd → Prop
  | none => True
  | some c => c

theorem leB {a b : Nat} (h : a ≤ b) : Nat.ble a b = true := Nat.ble_eq_true_of_le h
theorem ltB {a b : Nat} (h : a < b) : Nat.blt a b = true := Nat.ble_eq_true_of_le h
theorem beqF {a b : Nat} (h : a ≠ b) : Nat.beq a b = false := by
  cases e : Nat.beq a b with
  | true => exact absurd (beqN e) h
  | false => rfl
theorem andC_ok {a b : Cnd} (h : condOk (andC a b)) : condOk a ∧ condOk b := by
  cases a <;> cases b <;> simp_all [andC, condOk]
theorem chkC_ok {rc b : Bool} {c : Cnd} (h : chkC rc b = some c) (hc : condOk c) : b = true := by
  cases rc
  · cases b
    · simp [chkC] at h
    · rfl
  · simp only [chkC, Option.some.injEq] at h
    subst h
    exact hc

theorem adr_add (a b : Nat) : ∀ p : List Stp, adr (a + b) p = a + adr b p
  | [] => rfl
  | s :: p => by
    simp only [adr]
    rw [show a + b + s.i * s.z + s.o = a + (b + s.i * s.z + s.o) by omega, adr_add a _ p]

/-- D is C with N laid over it from a on. -/
structure Wrote (C : List Value) (a : Nat) (N D : List Value) : Prop where
  len : D.length = C.length
  fit : a + N.length ≤ C.length
  get : ∀ j, D[j]? = if a ≤ j ∧ j < a + N.length then N[j - a]? else C[j]?

theorem wrote_over {C N : List Value} {a : Nat} (h : a + N.length ≤ C.length) : Wrote C a N (C.take a ++ N ++ C.drop (a + N.length)) where
  len := by simp; omega
  fit := h
  get j := by
    by_cases h1 : j < a
    · rw [if_neg (by omega), List.append_assoc, List.getElem?_append_left (by simp; omega), List.getElem?_take_of_lt h1]
    · by_cases h2 : j < a + N.length
      · rw [if_pos ⟨by omega, h2⟩, List.append_assoc, List.getElem?_append_right (by simp; omega), List.getElem?_append_left (by simp; omega)]
        congr 1
        simp; omega
      · rw [if_neg (by omega), List.getElem?_append_right (by simp; omega), List.getElem?_drop]
        congr 1
        simp; omega

section
variable {A : Type} [Ab A] (ρ : Key → Loc)

/-- The cells of rows. -/
def rowCells (n z : Nat) (f : Nat → List (LV A)) : List Value := (List.range n).flatMap fun i => fitTo z (cellsL ρ (f i))
theorem len_rowCells (n z : Nat) (f : Nat → List (LV A)) : (rowCells ρ n z f).length = n * z := len_rows z _ (fun _ => len_fitTo _ _) n
theorem get_rowCells {n z : Nat} (f : Nat → List (LV A)) {i j : Nat} (hi : i < n) (hj : j < z) : (rowCells ρ n z f)[i * z + j]? = (fitTo z (cellsL ρ (f i)))[j]? :=
  get_rows z (fun i => fitTo z (cellsL ρ (f i))) (fun _ => len_fitTo _ _) n i j hi hj

theorem rowsAt_sound [LawAb A] : ∀ (us : List (LV A)) (o n z : Nat) (f : Nat → List (LV A)), rowsAt us o = some (n, z, f) →
    o + n * z ≤ cszL us ∧ ((cellsL ρ us).drop o).take (n * z) = rowCells ρ n z f ∧ ∀ g, cellsL ρ (setRows us o g) = (cellsL ρ us).take o ++ rowCells ρ n z g ++ (cellsL ρ us).drop (o + n * z)
  | [], o, n, z, f, h => by simp [rowsAt] at h
  | u :: us, o, n, z, f, h => by
    have hl : (LV.cells ρ u).length = csz u := len_cells ρ u
    simp only [rowsAt] at h
    split at h
    · rename_i h0
      have h0 := beqN h0
      subst h0
      cases u <;> simp only [reduceCtorEq, Option.some.injEq, Prod.mk.injEq] at h
      obtain ⟨rfl, rfl, rfl⟩ := h
      rename_i n z f
      have hr := len_rowCells ρ n z f
      refine ⟨by simp [cszL, csz], ?_, fun g => ?_⟩
      · simp only [cellsL, LV.cells, List.drop_zero]
        exact List.take_left' hr
      · simp only [setRows, cellsL, LV.cells, List.take_zero, List.nil_append, Nat.zero_add]
        congr 1
        exact (List.drop_left' hr).symm
    · rename_i h0
      split at h
      · rename_i hb
        have hle := bleN hb
        obtain ⟨h1, h2, h3⟩ := rowsAt_sound us _ n z f h
        refine ⟨by simp only [cszL]; omega, ?_, fun g => ?_⟩
        · have e1 : (LV.cells ρ u).drop o = [] := List.drop_eq_nil_of_le (by omega)
          rw [← h2]
          simp only [cellsL]
          rw [List.drop_append, hl, e1, List.nil_append]
        · simp only [setRows, h0, hb, cellsL, h3]
          have e1 : (LV.cells ρ u).drop (o + n * z) = [] := List.drop_eq_nil_of_le (by omega)
          have e2 : (LV.cells ρ u).take o = LV.cells ρ u := List.take_of_length_le (by omega)
          rw [List.drop_append, List.take_append, hl, e1, e2, List.nil_append, show o + n * z - csz u = o - csz u + n * z by omega]
          simp
      · cases h

theorem rowsAt_get [LawAb A] {us : List (LV A)} {o n z : Nat} {f : Nat → List (LV A)} (h : rowsAt us o = some (n, z, f)) {i j : Nat} (hi : i < n) (hj : j < z) :
    (cellsL ρ us)[o + i * z + j]? = (fitTo z (cellsL ρ (f i)))[j]? := by
  obtain ⟨_, h2, _⟩ := rowsAt_sound ρ us o n z f h
  rw [← get_rowCells ρ f hi hj, ← h2, List.getElem?_take_of_lt, List.getElem?_drop]
  · congr 1; omega
  · have := Nat.mul_le_mul_right z (show i + 1 ≤ n from hi)
    rw [Nat.succ_mul] at this
    omega

theorem row_lt {i n z : Nat} (hi : i < n) : i * z + z ≤ n * z := by
  have := Nat.mul_le_mul_right z (show i + 1 ≤ n from hi)
  rwa [Nat.succ_mul] at this

/-- What 'rdP' reads. -/
theorem rdP_sound [LawAb A] {rc : Bool} : ∀ (p : List Stp) (us : List (LV A)) (o sz : Nat) (r : List (LV A)) (c : Cnd), rdP rc us o p sz = some (r, c) → condOk c →
    cellsL ρ r = ((cellsL ρ us).drop (adr o p)).take sz ∧ adr o p + sz ≤ cszL us
  | [], us, o, sz, r, c, h, _ => by
    simp only [rdP] at h
    split at h
    · rename_i r' hr
      cases h
      exact rd_sound ρ us o sz r hr
    · cases h
  | s :: p, us, o, sz, r, c, h, hc => by
    simp only [rdP] at h
    simp only [adr]
    split at h
    · rename_i n z f hra
      split at h
      · rename_i c1 hb h1
        split at h
        · rename_i r' c2 hr
          cases h
          obtain ⟨hc1, hc2⟩ := andC_ok hc
          have hz := beqN (both hb).1
          have hle := bleN (both hb).2
          have hi := bltN (chkC_ok h1 hc1)
          obtain ⟨i1, i2⟩ := rdP_sound p (f s.i) s.o sz r c2 hr hc2
          obtain ⟨j1, _, _⟩ := rowsAt_sound ρ us o n z f hra
          have hrow := row_lt (z := z) hi
          rw [← hz, adr_add]
          refine ⟨?_, by omega⟩
          rw [i1]
          apply List.ext_getElem?
          intro j
          by_cases hj : j < sz
          · rw [List.getElem?_take_of_lt hj, List.getElem?_take_of_lt hj, List.getElem?_drop, List.getElem?_drop]
            rw [show o + s.i * z + adr s.o p + j = o + s.i * z + (adr s.o p + j) by omega, rowsAt_get ρ hra hi (by omega)]
            rw [fitTo_of_le _ (by rw [len_cellsL]; omega) (by rw [len_cellsL]; omega)]
          · rw [List.getElem?_eq_none (by simp; omega), List.getElem?_eq_none (by simp; omega)]
        · cases h
      · cases h
    · exact rdP_sound p us _ sz r c h hc

/-- A place in a row: its row and its place in the row. -/
theorem row_split {o n z x : Nat} (h1 : o ≤ x) (h2 : x < o + n * z) : ∃ i j, x = o + i * z + j ∧ j < z ∧ i < n := by
  have hz0 : 0 < z := by
    rcases Nat.eq_zero_or_pos z with e | e
    · subst e; simp at h2; omega
    · exact e
  have hx := Nat.div_add_mod (x - o) z
  rw [Nat.mul_comm] at hx
  refine ⟨(x - o) / z, (x - o) % z, by omega, Nat.mod_lt _ hz0, ?_⟩
  have := Nat.mod_lt (x - o) hz0
  rcases Nat.lt_or_ge ((x - o) / z) n with h' | h'
  · exact h'
  · have := Nat.mul_le_mul_right z h'; omega

/-- A list whose middle is made of rows. -/
theorem mid_get {C : List Value} {o n z : Nat} (g : Nat → List (LV A)) (hC : o + n * z ≤ C.length) (x : Nat) :
    (C.take o ++ rowCells ρ n z g ++ C.drop (o + n * z))[x]? = if o ≤ x ∧ x < o + n * z then (rowCells ρ n z g)[x - o]? else C[x]? := by
  have hlen := len_rowCells ρ n z g
  have := (wrote_over (C := C) (N := rowCells ρ n z g) (a := o) (by omega)).get x
  rw [hlen] at this
  exact this

theorem wrote_in_row [LawAb A] {us r : List (LV A)} {o n z i a : Nat} {f : Nat → List (LV A)} {N : List Value} (hra : rowsAt us o = some (n, z, f)) (hi : i < n) (hle : cszL (f i) ≤ z) (hw : Wrote (cellsL ρ (f i)) a N (cellsL ρ r)) :
    Wrote (cellsL ρ us) (o + i * z + a) N (cellsL ρ (setRows us o (fun j => mrgR (Nat.beq j i) r (f j)))) := by
  obtain ⟨j1, j2, j3⟩ := rowsAt_sound ρ us o n z f hra
  have hrow := row_lt (z := z) hi
  have hL := len_cellsL ρ us
  have hF := len_cellsL ρ (f i)
  have hfit := hw.fit
  have hlen : (rowCells ρ n z fun j => mrgR (Nat.beq j i) r (f j)).length = n * z := len_rowCells ρ n z _
  refine ⟨by rw [j3]; simp [hlen]; omega, by omega, fun x => ?_⟩
  rw [j3, mid_get ρ _ (by omega)]
  by_cases hx : o ≤ x ∧ x < o + n * z
  · obtain ⟨i', j, hxe, hj, hin⟩ := row_split hx.1 hx.2
    rw [if_pos hx, show x - o = i' * z + j by omega, get_rowCells ρ _ hin hj, mrgR_sound]
    by_cases hii : i' = i
    · subst hii
      rw [show Nat.beq i' i' = true by simp]
      simp only [cond_true]
      have hwg := hw.get j
      by_cases hjf : j < (cellsL ρ (f i')).length
      · rw [fitTo_of_le _ (by rw [hw.len]; omega) (by rw [hw.len]; exact hjf), hwg]
        have hc0 : (cellsL ρ us)[x]? = (cellsL ρ (f i'))[j]? := by
          rw [hxe, rowsAt_get ρ hra hi hj, fitTo_of_le _ (by omega) hjf]
        by_cases hin2 : a ≤ j ∧ j < a + N.length
        · rw [if_pos hin2, if_pos (by omega)]
          congr 1; omega
        · rw [if_neg hin2, if_neg (by omega), hc0]
      · have e3 : (fitTo z (cellsL ρ r))[j]? = (fitTo z (cellsL ρ (f i')))[j]? := by
          simp only [fitTo]
          rw [List.getElem?_take_of_lt hj, List.getElem?_take_of_lt hj, List.getElem?_append_right (by rw [hw.len]; omega), List.getElem?_append_right (by omega), hw.len]
        rw [e3, if_neg (by omega), hxe, rowsAt_get ρ hra hi hj]
    · rw [beqF hii]
      simp only [cond_false]
      have : ¬ (o + i * z + a ≤ x ∧ x < o + i * z + a + N.length) := by
        rcases Nat.lt_or_gt_of_ne hii with h' | h'
        · have := row_lt (z := z) h'; omega
        · have := row_lt (z := z) h'; omega
      rw [if_neg this, hxe, rowsAt_get ρ hra hin hj]
  · rw [if_neg hx, if_neg (by omega)]

/-- Rows written over rows. -/
theorem wrote_rows {C D : List Value} {o len z lo n : Nat} {g h : Nat → List (LV A)} (hC : o + len * z ≤ C.length) (hD : D = C.take o ++ rowCells ρ len z h ++ C.drop (o + len * z)) (hn : lo + n ≤ len)
    (hg : ∀ j, j < len → lo ≤ j ∧ j < lo + n → cellsL ρ (h j) = cellsL ρ (g (j - lo)))
    (ho : ∀ j, j < len → ¬ (lo ≤ j ∧ j < lo + n) → ∀ b, b < z → (fitTo z (cellsL ρ (h j)))[b]? = C[o + j * z + b]?) : Wrote C (o + lo * z) (rowCells ρ n z g) D := by
  subst hD
  have hlen : (rowCells ρ len z h).length = len * z := len_rowCells ρ len z h
  have hlen' : (rowCells ρ n z g).length = n * z := len_rowCells ρ n z g
  have hm : lo * z + n * z ≤ len * z := by rw [← Nat.add_mul]; exact Nat.mul_le_mul_right z hn
  refine ⟨by simp [hlen]; omega, by omega, fun x => ?_⟩
  rw [mid_get ρ _ hC]
  by_cases hx : o ≤ x ∧ x < o + len * z
  · obtain ⟨i, j, hxe, hj, hin⟩ := row_split hx.1 hx.2
    rw [if_pos hx, show x - o = i * z + j by omega, get_rowCells ρ _ hin hj]
    by_cases hi : lo ≤ i ∧ i < lo + n
    · have h1 := Nat.mul_le_mul_right z hi.1
      have h2 := row_lt (z := z) (show i - lo < n by omega)
      have h3 : i * z = lo * z + (i - lo) * z := by rw [← Nat.add_mul]; congr 1; omega
      rw [hg i hin hi, if_pos (by omega), show x - (o + lo * z) = (i - lo) * z + j by omega, get_rowCells ρ _ (by omega) hj]
    · rw [ho i hin hi j hj, ← hxe, if_neg]
      rintro ⟨h1, h2⟩
      apply hi
      constructor
      · rcases Nat.lt_or_ge i lo with h' | h'
        · have := row_lt (z := z) h'; omega
        · exact h'
      · rcases Nat.lt_or_ge i (lo + n) with h' | h'
        · exact h'
        · have := Nat.mul_le_mul_right z h'
          rw [Nat.add_mul] at this; omega
  · rw [if_neg hx, if_neg (by omega)]

/-- What 'wrP' writes. -/
theorem wrP_sound [LawAb A] {rc : Bool} : ∀ (p : List Stp) (us : List (LV A)) (o : Nat) (new r : List (LV A)) (c : Cnd), wrP rc us o p new = some (r, c) → condOk c →
    Wrote (cellsL ρ us) (adr o p) (cellsL ρ new) (cellsL ρ r)
  | [], us, o, new, r, c, h, _ => by
    simp only [wrP] at h
    split at h
    · rename_i r' hr
      cases h
      obtain ⟨h1, h2⟩ := wrU_sound ρ us o new r hr
      rw [h1, ← len_cellsL ρ new]
      exact wrote_over (by rw [len_cellsL, len_cellsL]; exact h2)
    · cases h
  | s :: p, us, o, new, r, c, h, hc => by
    simp only [wrP] at h
    simp only [adr]
    split at h
    · rename_i n z f hra
      split at h
      · rename_i c1 hb h1
        split at h
        · rename_i r' c2 hr
          cases h
          obtain ⟨hc1, hc2⟩ := andC_ok hc
          rw [← beqN (both hb).1, adr_add]
          exact wrote_in_row ρ hra (bltN (chkC_ok h1 hc1)) (bleN (both hb).2) (wrP_sound p (f s.i) s.o new r' c2 hr hc2)
        · cases h
      · cases h
    · exact wrP_sound p us _ new r c h hc

theorem cutRows_sound [LawAb A] (us : List (LV A)) (z : Nat) : ∀ (n o : Nat) (l : List (List (LV A))), cutRows us o z n = some l →
    ∀ i, i < n → cellsL ρ (l.getD i []) = ((cellsL ρ us).drop (o + i * z)).take z ∧ o + i * z + z ≤ cszL us
  | 0, o, l, _ => fun i hi => by omega
  | n + 1, o, l, h => by
    simp only [cutRows] at h
    split at h
    · rename_i r hr
      split at h
      · rename_i rs hrs
        cases h
        intro i hi
        cases i with
        | zero =>
          have := rd_sound ρ us o z r hr
          simpa using this
        | succ i =>
          have := cutRows_sound us z n (o + z) rs hrs i (by omega)
          rw [List.getD_cons_succ, show o + (i + 1) * z = o + z + i * z by rw [Nat.succ_mul]; omega]
          exact this
      · cases h
    · cases h

theorem cut_get [LawAb A] {us : List (LV A)} {z n o : Nat} {l : List (List (LV A))} (h : cutRows us o z n = some l) {i j : Nat} (hi : i < n) (hj : j < z) : (fitTo z (cellsL ρ (l.getD i [])))[j]? = (cellsL ρ us)[o + i * z + j]? := by
  obtain ⟨h1, h2⟩ := cutRows_sound ρ us z n o l h i hi
  have hL := len_cellsL ρ us
  have : (cellsL ρ (l.getD i [])).length = z := by rw [h1]; simp; omega
  rw [fitTo_eq this, h1, List.getElem?_take_of_lt hj, List.getElem?_drop]

/-- What 'rowsP' reads. -/
theorem rowsP_sound [LawAb A] {rc : Bool} {z len : Nat} : ∀ (p : List Stp) (us : List (LV A)) (o : Nat) (g : Nat → List (LV A)) (c : Cnd), rowsP rc us o p z len = some (g, c) → condOk c →
    ∀ i j, i < len → j < z → (fitTo z (cellsL ρ (g i)))[j]? = (cellsL ρ us)[adr o p + i * z + j]? ∧ adr o p + i * z + j < (cellsL ρ us).length
  | [], us, o, g, c, h, hc => by
    simp only [rowsP] at h
    simp only [adr]
    intro i j hi hj
    have hL := len_cellsL ρ us
    split at h
    · rename_i n z' f hra
      split at h
      · rename_i c' hz h1
        cases h
        have hz := beqN hz
        subst hz
        have hle := bleN (chkC_ok h1 hc)
        obtain ⟨j1, _, _⟩ := rowsAt_sound ρ us o n z _ hra
        have := row_lt (z := z) (show i < n by omega)
        exact ⟨(rowsAt_get ρ hra (by omega) hj).symm, by omega⟩
      · cases h
    · split at h
      · rename_i l hl
        cases h
        have := (cutRows_sound ρ us z len o l hl i hi).2
        exact ⟨cut_get ρ hl hi hj, by omega⟩
      · cases h
  | s :: q, us, o, g, c, h, hc => by
    simp only [rowsP] at h
    simp only [adr]
    have hL := len_cellsL ρ us
    split at h
    · rename_i n z' f hra
      obtain ⟨j1, _, _⟩ := rowsAt_sound ρ us o n z' f hra
      split at h
      · rename_i hz'
        have hz' := beqN hz'
        split at h
        · rename_i hb
          have hz := beqN (both (both hb).1).1
          have h0 := beqN (both (both hb).1).2
          have hq : q = [] := List.isEmpty_iff.1 (both hb).2
          subst hq
          split at h
          · rename_i c' h1
            cases h
            have hle := bleN (chkC_ok h1 hc)
            intro i j hi hj
            simp only [adr, h0]
            subst hz'
            have hz2 : z = s.z := hz
            rw [hz2] at hj ⊢
            have := row_lt (z := s.z) (show s.i + i < n by omega)
            rw [Nat.add_mul] at this
            rw [show o + s.i * s.z + 0 + i * s.z + j = o + (s.i + i) * s.z + j by rw [Nat.add_mul]; omega]
            refine ⟨(rowsAt_get ρ hra (by omega) hj).symm, ?_⟩
            rw [Nat.add_mul]; omega
          · cases h
        · split at h
          · rename_i c1 hb h1
            split at h
            · rename_i g' c2 hr
              cases h
              obtain ⟨hc1, hc2⟩ := andC_ok hc
              have hi' := bltN (chkC_ok h1 hc1)
              have hle := bleN hb
              intro i j hi hj
              obtain ⟨k1, k2⟩ := rowsP_sound q (f s.i) s.o g c2 hr hc2 i j hi hj
              have hF := len_cellsL ρ (f s.i)
              have hrow := row_lt (z := z') hi'
              rw [← hz', adr_add, k1]
              rw [show o + s.i * z' + adr s.o q + i * z + j = o + s.i * z' + (adr s.o q + i * z + j) by omega, rowsAt_get ρ hra hi' (by omega)]
              exact ⟨(fitTo_of_le _ (by omega) k2).symm, by omega⟩
            · cases h
          · cases h
      · cases h
    · exact rowsP_sound q us _ g c h hc

/-- What 'putRows' writes. -/
theorem putRows_sound [LawAb A] {rc : Bool} {z len n : Nat} {g : Nat → List (LV A)} : ∀ (p : List Stp) (us : List (LV A)) (o : Nat) (r : List (LV A)) (c : Cnd), putRows rc us o p z len n g = some (r, c) → condOk c →
    Wrote (cellsL ρ us) (adr o p) (rowCells ρ n z g) (cellsL ρ r)
  | [], us, o, r, c, h, hc => by
    simp only [putRows] at h
    simp only [adr]
    have hL := len_cellsL ρ us
    split at h
    · rename_i n' z' f hra
      split at h
      · rename_i c' hz h1
        cases h
        have hz := beqN hz
        subst hz
        have hle := bleN (chkC_ok h1 hc)
        obtain ⟨j1, _, j3⟩ := rowsAt_sound ρ us o n' z f hra
        have := wrote_rows ρ (o := o) (lo := 0) (n := n) (g := g) (by omega) (j3 (fun j => mrgR (Nat.blt j n) (g j) (f j))) (by omega)
          (fun j hj h => by rw [mrgR_sound, ltB (show j < n by omega)]; rfl)
          (fun j hj h b hb => by
            rw [mrgR_sound, show Nat.blt j n = false from by cases e : Nat.blt j n with | true => exact absurd ⟨Nat.zero_le _, by have := bltN e; omega⟩ h | false => rfl]
            exact (rowsAt_get ρ hra hj hb).symm)
        simpa using this
      · cases h
    · split at h
      · rename_i l c' hl h1
        split at h
        · rename_i r' hr
          cases h
          have hle := bleN (chkC_ok h1 hc)
          obtain ⟨k1, k2⟩ := wrU_sound ρ us o _ r hr
          have e : cszL [LV.rows len z fun j => mrgR (Nat.blt j n) (g j) (l.getD j [])] = len * z := by simp [cszL, csz]
          rw [e] at k1 k2
          have := wrote_rows ρ (C := cellsL ρ us) (D := cellsL ρ r) (o := o) (len := len) (z := z) (lo := 0) (n := n) (g := g) (h := fun j => mrgR (Nat.blt j n) (g j) (l.getD j [])) (by omega) (by rw [k1]; simp [cellsL, LV.cells, rowCells]) (by omega)
            (fun j hj h => by rw [mrgR_sound, ltB (show j < n by omega)]; rfl)
            (fun j hj h b hb => by
              rw [mrgR_sound, show Nat.blt j n = false from by cases e : Nat.blt j n with | true => exact absurd ⟨Nat.zero_le _, by have := bltN e; omega⟩ h | false => rfl]
              exact cut_get ρ hl hj hb)
          simpa using this
        · cases h
      · cases h
  | s :: q, us, o, r, c, h, hc => by
    simp only [putRows] at h
    simp only [adr]
    have hL := len_cellsL ρ us
    split at h
    · rename_i n' z' f hra
      obtain ⟨j1, _, j3⟩ := rowsAt_sound ρ us o n' z' f hra
      split at h
      · rename_i hz'
        have hz' := beqN hz'
        split at h
        · rename_i hb
          have hz := beqN (both (both hb).1).1
          have h0 := beqN (both (both hb).1).2
          have hq : q = [] := List.isEmpty_iff.1 (both hb).2
          subst hq
          split at h
          · rename_i c' h1
            cases h
            have hle := bleN (chkC_ok h1 hc)
            simp only [adr, h0]
            have hzz : z = z' := hz.trans hz'.symm
            subst hzz
            have := wrote_rows ρ (o := o) (lo := s.i) (n := n) (g := g) (by omega) (j3 (fun j => mrgR (Nat.ble s.i j && Nat.blt j (s.i + n)) (g (j - s.i)) (f j))) (by omega)
              (fun j hj h => by rw [mrgR_sound, leB h.1, ltB h.2]; rfl)
              (fun j hj h b hb => by
                rw [mrgR_sound, show (Nat.ble s.i j && Nat.blt j (s.i + n)) = false from by
                  cases e : (Nat.ble s.i j && Nat.blt j (s.i + n)) with
                  | true => exact absurd ⟨bleN (both e).1, bltN (both e).2⟩ h
                  | false => rfl]
                exact (rowsAt_get ρ hra hj hb).symm)
            rw [← hz]
            simpa using this
          · cases h
        · split at h
          · rename_i c1 hb h1
            split at h
            · rename_i r' c2 hr
              cases h
              obtain ⟨hc1, hc2⟩ := andC_ok hc
              rw [← hz', adr_add]
              exact wrote_in_row ρ hra (bltN (chkC_ok h1 hc1)) (bleN hb) (putRows_sound q (f s.i) s.o r' c2 hr hc2)
            · cases h
          · cases h
      · cases h
    · exact putRows_sound q us _ r c h hc
end
end Go.Proofs.Ytjhjockdkpgpeaa.En
