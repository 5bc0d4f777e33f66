/- DERIVED. Which blocks a value names; constants. -/
import Derived.Test.YtjhjockdkpgpeaaVS2
set_option linter.all false
namespace Go.Proofs.Ytjhjockdkpgpeaa.En
open Go Go.RowKit

section
variable {A : Type}

/-! ## which blocks a value names, and as slices of what length -/
mutual
def LV.kin (p : Key → Nat → Prop) : LV A → Prop
  | .ptr b _ _ => p b 0
  | .slice b _ _ _ _ => p b 0
  | .vec b len => p b len
  | .rows _ _ f => ∀ i, kinL p (f i)
  | .agg us => kinL p us
  | .tup vs => kinL p vs
  | .iface _ v => LV.kin p v
  | .func _ caps => kinL p caps
  | .any => True
  | .undef => True
  | .int _ _ => True
  | .bool _ => True
  | .str _ => True
  | .nilp => True
  | .nils => True
  | .nilfn => True
  | .niliface => True
  | .abs _ => True
def kinL (p : Key → Nat → Prop) : List (LV A) → Prop
  | [] => True
  | v :: l => LV.kin p v ∧ kinL p l
end

theorem kinL_iff (p : Key → Nat → Prop) (l : List (LV A)) : kinL p l ↔ ∀ v ∈ l, LV.kin p v := by
  induction l with
  | nil => simp [kinL]
  | cons v l ih => simp [kinL, ih]

mutual
theorem kin_mono {p q : Key → Nat → Prop} (h : ∀ k m, p k m → q k m) : ∀ v : LV A, v.kin p → v.kin q
  | .ptr b _ _, hv => h b 0 hv
  | .slice b _ _ _ _, hv => h b 0 hv
  | .vec b len, hv => h b len hv
  | .rows _ _ f, hv => fun i => kinL_mono h (f i) (hv i)
  | .agg us, hv => kinL_mono h us hv
  | .tup vs, hv => kinL_mono h vs hv
  | .iface _ v, hv => kin_mono h v hv
  | .func _ caps, hv => kinL_mono h caps hv
  | .any, _ => trivial
  | .undef, _ => trivial
  | .int _ _, _ => trivial
  | .bool _, _ => trivial
  | .str _, _ => trivial
  | .nilp, _ => trivial
  | .nils, _ => trivial
  | .nilfn, _ => trivial
  | .niliface, _ => trivial
  | .abs _, _ => trivial
theorem kinL_mono {p q : Key → Nat → Prop} (h : ∀ k m, p k m → q k m) : ∀ l : List (LV A), kinL p l → kinL q l
  | [], _ => trivial
  | v :: l, hv => ⟨kin_mono h v hv.1, kinL_mono h l hv.2⟩
end

theorem kin_units {p : Key → Nat → Prop} {v : LV A} (h : v.kin p) : kinL p (units v) := by
  cases v <;> first | exact h | exact ⟨h, trivial⟩

theorem kin_ofUnits {p : Key → Nat → Prop} {b : Bool} {us : List (LV A)} {v : LV A} (h : ofUnits b us = some v) (hk : kinL p us) : v.kin p := by
  unfold ofUnits at h
  split at h
  · cases h; exact hk
  · split at h
    · split at h <;> cases h <;> exact hk.1
    · cases h

theorem kinL_append {p : Key → Nat → Prop} {l m : List (LV A)} (h : kinL p l) (h' : kinL p m) : kinL p (l ++ m) := by
  rw [kinL_iff] at *
  intro v hv
  rcases List.mem_append.1 hv with hv | hv
  · exact h v hv
  · exact h' v hv
theorem kinL_get {p : Key → Nat → Prop} {l : List (LV A)} (h : kinL p l) {i : Nat} {v : LV A} (hv : l[i]? = some v) : v.kin p := (kinL_iff p l).1 h v (List.mem_of_getElem? hv)
theorem kinL_set {p : Key → Nat → Prop} {l : List (LV A)} (h : kinL p l) (i : Nat) {v : LV A} (hv : v.kin p) : kinL p (l.set i v) := by
  rw [kinL_iff] at *
  intro u hu
  rcases List.mem_or_eq_of_mem_set hu with hu | rfl
  · exact h u hu
  · exact hv
theorem kin_getD {p : Key → Nat → Prop} {l : List (List (LV A))} (h : ∀ us ∈ l, kinL p us) (i : Nat) : kinL p (l.getD i []) := by
  rw [List.getD_eq_getElem?_getD]
  cases e : l[i]? with
  | none => trivial
  | some us => exact h us (List.mem_of_getElem? e)

mutual
theorem kin_mrg {p : Key → Nat → Prop} (c : Bool) : ∀ (u v r : LV A), mrg c u v = some r → u.kin p → v.kin p → r.kin p
  | .int k a, v, r, h, _, _ => by
    cases v <;> simp only [mrg, reduceCtorEq] at h
    split at h <;> cases h
    trivial
  | .bool a, v, r, h, _, _ => by cases v <;> simp only [mrg, reduceCtorEq] at h; cases h; trivial
  | .str a, v, r, h, _, _ => by cases v <;> simp only [mrg, reduceCtorEq] at h; cases h; trivial
  | .abs a, v, r, h, _, _ => by cases v <;> simp only [mrg, reduceCtorEq] at h; cases h; trivial
  | .nils, v, r, h, _, _ => by cases v <;> simp only [mrg, reduceCtorEq] at h; cases h; trivial
  | .nilp, v, r, h, _, _ => by cases v <;> simp only [mrg, reduceCtorEq] at h; cases h; trivial
  | .rows n z f, v, r, h, hu, hv => by
    cases v <;> simp only [mrg, reduceCtorEq] at h
    rename_i n' z' g
    split at h
    · cases h
      intro j
      show kinL p (mrgR c (f j) (g j))
      unfold mrgR
      split
      · rename_i r hr; exact kin_mrgL c (f j) (g j) r hr (hu j) (hv j)
      · cases c
        · exact hv j
        · exact hu j
    · cases h
  | .any, v, r, h, _, _ => by simp [mrg] at h
  | .undef, v, r, h, _, _ => by simp [mrg] at h
  | .ptr _ _ _, v, r, h, _, _ => by simp [mrg] at h
  | .slice _ _ _ _ _, v, r, h, _, _ => by simp [mrg] at h
  | .vec _ _, v, r, h, _, _ => by simp [mrg] at h
  | .nilfn, v, r, h, _, _ => by simp [mrg] at h
  | .niliface, v, r, h, _, _ => by simp [mrg] at h
  | .agg _, v, r, h, _, _ => by simp [mrg] at h
  | .tup _, v, r, h, _, _ => by simp [mrg] at h
  | .iface _ _, v, r, h, _, _ => by simp [mrg] at h
  | .func _ _, v, r, h, _, _ => by simp [mrg] at h
theorem kin_mrgL {p : Key → Nat → Prop} (c : Bool) : ∀ (us vs r : List (LV A)), mrgL c us vs = some r → kinL p us → kinL p vs → kinL p r
  | [], vs, r, h, _, _ => by
    cases vs <;> simp only [mrgL, reduceCtorEq] at h
    cases h; trivial
  | u :: us, vs, r, h, hu, hv => by
    cases vs <;> simp only [mrgL, reduceCtorEq] at h
    rename_i v vs
    split at h
    · rename_i x hx
      split at h
      · rename_i xs hxs
        cases h
        exact ⟨kin_mrg c u v x hx hu.1 hv.1, kin_mrgL c us vs xs hxs hu.2 hv.2⟩
      · cases h
    · cases h
end
theorem kin_mrgR {p : Key → Nat → Prop} (c : Bool) {us vs : List (LV A)} (hu : kinL p us) (hv : kinL p vs) : kinL p (mrgR c us vs) := by
  unfold mrgR
  split
  · rename_i r hr; exact kin_mrgL c us vs r hr hu hv
  · cases c
    · exact hv
    · exact hu

variable [Ab A]

theorem vecV_congr {l l' : Loc} (h : l = l') (n : Nat) : vecV l n = vecV l' n := by rw [h]
mutual
theorem tr_congr {p : Key → Nat → Prop} {ρ ρ' : Key → Loc} (h : ∀ k m, p k m → ρ k = ρ' k) : ∀ v : LV A, v.kin p → LV.tr ρ v = LV.tr ρ' v
  | .ptr b _ _, hv => by simp only [LV.tr, h b 0 hv]
  | .slice b _ _ _ _, hv => by simp only [LV.tr, h b 0 hv]
  | .vec b len, hv => by simp only [LV.tr, h b len hv]
  | .rows n z f, hv => by
    have := fun i => cellsL_congr h (f i) (hv i)
    simp only [LV.tr, this]
  | .agg us, hv => by simp only [LV.tr, cellsL_congr h us hv]
  | .tup vs, hv => by simp only [LV.tr, trs_congr h vs hv]
  | .iface _ v, hv => by simp only [LV.tr, tr_congr h v hv]
  | .func _ caps, hv => by simp only [LV.tr, trs_congr h caps hv]
  | .any, _ => rfl
  | .undef, _ => rfl
  | .int _ _, _ => rfl
  | .bool _, _ => rfl
  | .str _, _ => rfl
  | .nilp, _ => rfl
  | .nils, _ => rfl
  | .nilfn, _ => rfl
  | .niliface, _ => rfl
  | .abs _, _ => rfl
theorem cells_congr {p : Key → Nat → Prop} {ρ ρ' : Key → Loc} (h : ∀ k m, p k m → ρ k = ρ' k) : ∀ v : LV A, v.kin p → LV.cells ρ v = LV.cells ρ' v
  | .ptr b _ _, hv => by simp only [LV.cells, h b 0 hv]
  | .slice b _ _ _ _, hv => by simp only [LV.cells, h b 0 hv]
  | .vec b len, hv => by simp only [LV.cells, h b len hv]
  | .rows n z f, hv => by
    have := fun i => cellsL_congr h (f i) (hv i)
    simp only [LV.cells, this]
  | .agg us, hv => by simp only [LV.cells, cellsL_congr h us hv]
  | .tup vs, hv => rfl
  | .iface _ v, hv => by simp only [LV.cells, tr_congr h v hv]
  | .func _ caps, hv => by simp only [LV.cells, trs_congr h caps hv]
  | .any, _ => rfl
  | .undef, _ => rfl
  | .int _ _, _ => rfl
  | .bool _, _ => rfl
  | .str _, _ => rfl
  | .nilp, _ => rfl
  | .nils, _ => rfl
  | .nilfn, _ => rfl
  | .niliface, _ => rfl
  | .abs _, _ => rfl
theorem trs_congr {p : Key → Nat → Prop} {ρ ρ' : Key → Loc} (h : ∀ k m, p k m → ρ k = ρ' k) : ∀ l : List (LV A), kinL p l → trs ρ l = trs ρ' l
  | [], _ => rfl
  | v :: l, hv => by simp only [trs]; rw [tr_congr h v hv.1, trs_congr h l hv.2]
theorem cellsL_congr {p : Key → Nat → Prop} {ρ ρ' : Key → Loc} (h : ∀ k m, p k m → ρ k = ρ' k) : ∀ l : List (LV A), kinL p l → cellsL ρ l = cellsL ρ' l
  | [], _ => rfl
  | v :: l, hv => by simp only [cellsL]; rw [cells_congr h v hv.1, cellsL_congr h l hv.2]
end

theorem kin_rd {p : Key → Nat → Prop} : ∀ (us : List (LV A)) (off sz : Nat) (r : List (LV A)), rd us off sz = some r → kinL p us → kinL p r
  | [], off, sz, r, h, _ => by
    simp only [rd] at h
    split at h <;> cases h
    trivial
  | u :: us, off, sz, r, h, hk => by
    simp only [rd] at h
    split at h
    · cases h; trivial
    · split at h
      · split at h
        · split at h
          · rename_i r' hr; cases h; exact ⟨hk.1, kin_rd us _ _ _ hr hk.2⟩
          · cases h
        · cases h
      · split at h
        · exact kin_rd us _ _ _ h hk.2
        · cases h
theorem kin_skipU {p : Key → Nat → Prop} : ∀ (us : List (LV A)) (n : Nat) (r : List (LV A)), skipU us n = some r → kinL p us → kinL p r
  | [], n, r, h, _ => by
    simp only [skipU] at h
    split at h <;> cases h
    trivial
  | u :: us, n, r, h, hk => by
    simp only [skipU] at h
    split at h
    · cases h; exact hk
    · split at h
      · exact kin_skipU us _ _ h hk.2
      · cases h
theorem kin_wrU {p : Key → Nat → Prop} : ∀ (us : List (LV A)) (off : Nat) (new r : List (LV A)), wrU us off new = some r → kinL p us → kinL p new → kinL p r
  | [], off, new, r, h, _, hn => by
    simp only [wrU] at h
    split at h <;> cases h
    exact hn
  | u :: us, off, new, r, h, hk, hn => by
    simp only [wrU] at h
    split at h
    · split at h
      · rename_i r' hr; cases h; exact kinL_append hn (kin_skipU _ _ _ hr hk)
      · cases h
    · split at h
      · split at h
        · rename_i r' hr; cases h; exact ⟨hk.1, kin_wrU us _ _ _ hr hk.2 hn⟩
        · cases h
      · cases h
theorem kin_rowsAt {p : Key → Nat → Prop} : ∀ (us : List (LV A)) (o n z : Nat) (f : Nat → List (LV A)), rowsAt us o = some (n, z, f) → kinL p us → ∀ i, kinL p (f i)
  | [], o, n, z, f, h, _ => by simp [rowsAt] at h
  | u :: us, o, n, z, f, h, hk => by
    simp only [rowsAt] at h
    split at h
    · cases u <;> simp only [reduceCtorEq, Option.some.injEq, Prod.mk.injEq] at h
      obtain ⟨rfl, rfl, rfl⟩ := h
      exact hk.1
    · split at h
      · exact kin_rowsAt us _ n z f h hk.2
      · cases h
theorem kin_setRows {p : Key → Nat → Prop} {g : Nat → List (LV A)} (hg : ∀ i, kinL p (g i)) : ∀ (us : List (LV A)) (o : Nat), kinL p us → kinL p (setRows us o g)
  | [], o, h => h
  | u :: us, o, h => by
    simp only [setRows]
    split
    · cases u <;> first | exact ⟨hg, h.2⟩ | exact h
    · split
      · exact ⟨h.1, kin_setRows hg us _ h.2⟩
      · exact h
theorem kin_rdP {p : Key → Nat → Prop} {rc : Bool} : ∀ (q : List Stp) (us : List (LV A)) (o sz : Nat) (r : List (LV A)) (c : Cnd), rdP rc us o q sz = some (r, c) → kinL p us → kinL p r
  | [], us, o, sz, r, c, h, hk => by
    simp only [rdP] at h
    split at h
    · rename_i r' hr; cases h; exact kin_rd us o sz r hr hk
    · cases h
  | s :: q, us, o, sz, r, c, h, hk => by
    simp only [rdP] at h
    split at h
    · rename_i n z f hra
      split at h
      · split at h
        · rename_i r' c2 hr
          cases h
          exact kin_rdP q (f s.i) s.o sz r c2 hr (kin_rowsAt us o n z f hra hk s.i)
        · cases h
      · cases h
    · exact kin_rdP q us _ sz r c h hk
theorem kin_wrP {p : Key → Nat → Prop} {rc : Bool} : ∀ (q : List Stp) (us : List (LV A)) (o : Nat) (new r : List (LV A)) (c : Cnd), wrP rc us o q new = some (r, c) → kinL p us → kinL p new → kinL p r
  | [], us, o, new, r, c, h, hk, hn => by
    simp only [wrP] at h
    split at h
    · rename_i r' hr; cases h; exact kin_wrU us o new r hr hk hn
    · cases h
  | s :: q, us, o, new, r, c, h, hk, hn => by
    simp only [wrP] at h
    split at h
    · rename_i n z f hra
      have hf := kin_rowsAt us o n z f hra hk
      split at h
      · split at h
        · rename_i r' c2 hr
          cases h
          exact kin_setRows (fun j => kin_mrgR _ (kin_wrP q (f s.i) s.o new r' c2 hr (hf s.i) hn) (hf j)) us o hk
        · cases h
      · cases h
    · exact kin_wrP q us _ new r c h hk hn
theorem kin_cutRows {p : Key → Nat → Prop} {us : List (LV A)} {z : Nat} (hk : kinL p us) : ∀ (n o : Nat) (l : List (List (LV A))), cutRows us o z n = some l → ∀ r ∈ l, kinL p r
  | 0, o, l, h => by simp only [cutRows, Option.some.injEq] at h; subst h; intro r hr; cases hr
  | n + 1, o, l, h => by
    simp only [cutRows] at h
    split at h
    · rename_i r hr
      split at h
      · rename_i rs hrs
        cases h
        intro x hx
        rcases List.mem_cons.1 hx with rfl | hx
        · exact kin_rd us o z _ hr hk
        · exact kin_cutRows hk n _ rs hrs x hx
      · cases h
    · cases h
theorem kin_rowsP {p : Key → Nat → Prop} {rc : Bool} {z len : Nat} : ∀ (q : List Stp) (us : List (LV A)) (o : Nat) (g : Nat → List (LV A)) (c : Cnd), rowsP rc us o q z len = some (g, c) → kinL p us → ∀ i, kinL p (g i)
  | [], us, o, g, c, h, hk => by
    simp only [rowsP] at h
    split at h
    · rename_i n z' f hra
      split at h
      · cases h; exact kin_rowsAt us o n z' _ hra hk
      · cases h
    · split at h
      · rename_i l hl
        cases h
        exact fun i => kin_getD (kin_cutRows hk len o l hl) i
      · cases h
  | s :: q, us, o, g, c, h, hk => by
    simp only [rowsP] at h
    split at h
    · rename_i n z' f hra
      have hf := kin_rowsAt us o n z' f hra hk
      split at h
      · split at h
        · split at h
          · cases h; exact fun i => hf _
          · cases h
        · split at h
          · split at h
            · rename_i g' c2 hr
              cases h
              exact kin_rowsP q (f s.i) s.o g c2 hr (hf s.i)
            · cases h
          · cases h
      · cases h
    · exact kin_rowsP q us _ g c h hk
theorem kin_putRows {p : Key → Nat → Prop} {rc : Bool} {z len n : Nat} {g : Nat → List (LV A)} (hg : ∀ i, kinL p (g i)) : ∀ (q : List Stp) (us : List (LV A)) (o : Nat) (r : List (LV A)) (c : Cnd), putRows rc us o q z len n g = some (r, c) → kinL p us → kinL p r
  | [], us, o, r, c, h, hk => by
    simp only [putRows] at h
    split at h
    · rename_i n' z' f hra
      split at h
      · cases h; exact kin_setRows (fun j => kin_mrgR _ (hg j) (kin_rowsAt us o n' z' f hra hk j)) us o hk
      · cases h
    · split at h
      · rename_i l c' hl h1
        split at h
        · rename_i r' hr
          cases h
          exact kin_wrU us o _ r hr hk ⟨fun j => kin_mrgR _ (hg j) (kin_getD (kin_cutRows hk len o l hl) j), trivial⟩
        · cases h
      · cases h
  | s :: q, us, o, r, c, h, hk => by
    simp only [putRows] at h
    split at h
    · rename_i n' z' f hra
      have hf := kin_rowsAt us o n' z' f hra hk
      split at h
      · split at h
        · split at h
          · cases h; exact kin_setRows (fun j => kin_mrgR _ (hg _) (hf j)) us o hk
          · cases h
        · split at h
          · split at h
            · rename_i r' c2 hr
              cases h
              exact kin_setRows (fun j => kin_mrgR _ (kin_putRows hg q (f s.i) s.o r' c2 hr (hf s.i)) (hf j)) us o hk
            · cases h
          · cases h
      · cases h
    · exact kin_putRows hg q us _ r c h hk

/-! ## constants -/
theorem ofCell_sound (ρ : Key → Loc) {v : Value} {u : LV A} (h : ofCell v = some u) : LV.tr ρ u = v ∧ LV.cells ρ u = [v] ∧ ∀ p, u.kin p := by
  unfold ofCell at h
  split at h <;> cases h <;> exact ⟨rfl, rfl, fun _ => trivial⟩
theorem ofCells_sound (ρ : Key → Loc) : ∀ {l : List Value} {us : List (LV A)}, ofCells l = some us → cellsL ρ us = l ∧ ∀ p, kinL p us
  | [], us, h => by simp only [ofCells] at h; cases h; exact ⟨rfl, fun _ => trivial⟩
  | v :: l, us, h => by
    simp only [ofCells] at h
    split at h
    · rename_i u hu
      split at h
      · rename_i us' hus
        cases h
        have h1 := ofCell_sound ρ hu
        have h2 := ofCells_sound ρ hus
        exact ⟨by simp [cellsL, h1.2.1, h2.1], fun p => ⟨h1.2.2 p, h2.2 p⟩⟩
      · cases h
    · cases h
theorem ofConst_sound (ρ : Key → Loc) {v : Value} {u : LV A} (h : ofConst v = some u) : LV.tr ρ u = v ∧ ∀ p, u.kin p := by
  unfold ofConst at h
  split at h
  · split at h
    · rename_i us hus
      cases h
      have h2 := ofCells_sound ρ hus
      exact ⟨by simp [LV.tr, h2.1], h2.2⟩
    · cases h
  · have h1 := ofCell_sound ρ h; exact ⟨h1.1, h1.2.2⟩
end
end Go.Proofs.Ytjhjockdkpgpeaa.En
