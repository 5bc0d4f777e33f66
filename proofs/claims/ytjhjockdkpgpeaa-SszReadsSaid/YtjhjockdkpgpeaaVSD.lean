/- DERIVED. The operations that lay a new block: all of them. -/
import Derived.Test.YtjhjockdkpgpeaaVSC
set_option linter.all false
namespace Go.Proofs.Ytjhjockdkpgpeaa.En
open Go Go.RowKit

section
variable {A : Type} [Ab A] {P : Program}
variable {I : Nat → Nat → List (LV A)} {Own : Dom} {w0 : World} {ρ : Key → Loc} {s : LS A} {a : Act} {w : World}

theorem inb_lt [LawAb A] {mem : Mem A} (hm : MemRel I ρ mem w) (b : Nat) (hb : w.heap.size ≤ b) : ∀ k bl', at? I mem k = some bl' → isDead bl'.kd = false → (ρ k).none = false → (ρ k).blk ≠ b := by
  intro k bl' h1 h2 h3 e
  have := hm.inb k bl' h1 h2 h3
  omega

theorem rowCells_nil (z : Nat) (f : Nat → List (LV A)) : rowCells ρ 0 z f = [] := rfl
theorem cellsL_rows (n z : Nat) (f : Nat → List (LV A)) : cellsL ρ [LV.rows n z f] = rowCells ρ n z f := by simp [cellsL, LV.cells, rowCells]

/-- A block of cells, laid at the heap's end. -/
theorem fresh_alloc [LawAb A] {mem : Mem A} (hm : MemRel I ρ mem w) (hnew : ∀ b, w.heap.size ≤ b → Own b ∧ Own.src b) {us : List (LV A)} (hus : kinL (okKey mem ρ) us) (kd : Kd) (e : TypeId) (cap : Nat) {cs : List Value} (hcs : cellsL ρ us = cs) (hd : isDead kd = false)
    (hrow : ∀ e', kd = .row e' → e' = e ∧ ∃ n z f, us = [.rows n z f] ∧ n ≤ maxLen ∧ cap = n) : Fresh I Own ρ mem (w.alloc (.cells cs.toArray e)) ⟨w.heap.size, 0, cap, false, none⟩ ⟨kd, us⟩ where
  kin := hus
  cell i v hv := by
    simp only [Loc.at, Nat.zero_add]
    rw [World.cell?_alloc_new]
    simpa [← hcs] using hv
  free _ i _ := by
    simp only [Loc.at, Nat.zero_add]
    rw [World.frozen?_alloc_new]
  inb _ := by simp only [World.size_alloc]; omega
  own _ _ := (hnew _ (Nat.le_refl _)).1
  src _ := (hnew _ (Nat.le_refl _)).2
  far _ _ := inb_lt hm _ (Nat.le_refl _)
  near _ k bl' h1 h2 h3 := inb_lt hm _ (Nat.le_refl _) _ _ (at_own h1) (by cases hk : bl'.kd <;> rw [hk] at h2 <;> first | rfl | cases h2) h3
  row e' he := by
    obtain ⟨rfl, n, z, f, h1, h2, rfl⟩ := hrow e' he
    refine ⟨cap, z, f, h1, rfl, ?_⟩
    have : vecV (⟨w.heap.size, 0, cap, false, none⟩ : Loc) cap = .slice (some ⟨w.heap.size, 0, none⟩) cap cap := rfl
    rw [this]
    have := World.ownsRow_lit (w := w) (base := 0) (e := e') (size := z) cs.toArray cap (Nat.zero_le _) h2 (by
      subst hcs
      subst h1
      rw [cellsL_rows]
      simpa using len_rowCells ρ cap z f)
    simpa [hcs] using this
  nilc h := by cases h
  empt h := by cases h
  dead := hd

theorem grown_alloc (w : World) (o : Obj) : w.grownBy (w.alloc o) none := World.grownBy_alloc w o none

theorem new_sound [LawAb A] {S : Sig A} (hI : S.inp = I) {o : Oper} {rc : Bool} {base key : Nat} {v : LV A} {b : Option (Blk A)} {c : Cnd} (h : newR P S rc (ev s.tmps) (s.mem.take base) key o.op = some (v, b, c)) (hc : condOk c) (hk : b.isSome = true → s.mem[key]? = some none)
    (hr : Rl I Own w0 ρ s a w) : ∃ w' ρ', (execOp a.eval o).run P w = .ok (.value (LV.tr ρ' v)) w' ∧ Next I Own ρ ρ' s.mem (putB s.mem key b) w w' ∧ v.kin (okKey (putB s.mem key b) ρ') := by
  obtain ⟨dst, op, ty, pos, after, guard⟩ := o
  have hnew : ∀ b, w.heap.size ≤ b → Own b ∧ Own.src b := fun b hb => hr.new b (Nat.le_trans hr.keeps.size hb)
  have lay : ∀ {w' : World} {l : Loc} {bl : Blk A}, s.mem[key]? = some none → w.grownBy w' none → Fresh I Own ρ s.mem w' l bl → Next I Own ρ (upd ρ key l) s.mem (s.mem.set key (some bl)) w w' ∧ okKey (s.mem.set key (some bl)) (upd ρ key l) (.own key) l.cap :=
    fun h1 h2 h3 => Next.fresh hr.mem hr.mine hr.occM h1 h2 (fun _ _ _ _ _ e => by cases e) (fun _ e => by cases e) h3
  cases op <;> simp only [newR] at h <;> try (cases h; done)
  case alloc t =>
    split at h
    · rename_i z hz
      simp only [Option.some.injEq, Prod.mk.injEq] at h; obtain ⟨rfl, rfl, rfl⟩ := h
      have hz' := run_zero (ρ := ρ) w hz
      obtain ⟨h1, h2⟩ := lay (hk rfl) (grown_alloc w (.cells (cellsL ρ (units z)).toArray t)) (fresh_alloc hr.mem hnew (kin_units (hz'.2.1 _)) .rw t 0 rfl rfl (by simp))
      refine ⟨_, _, ?_, h1, okKey_le h2 (Nat.zero_le _)⟩
      simp [execOp, Instr.alloc, hz'.1, newVar, newRow, cells_tr ρ hz'.2.2, cellsL_units, LV.tr, upd_self, Loc.at, adr]
    · cases h
  case box t x =>
    split at h
    · rename_i u n hx hz
      split at h
      · rename_i hnt
        simp only [Option.some.injEq, Prod.mk.injEq] at h; obtain ⟨rfl, rfl, rfl⟩ := h
        have hx := ev_sound hr hx
        obtain ⟨h1, h2⟩ := lay (hk rfl) (grown_alloc w (.cells (cellsL ρ (units u)).toArray t)) (fresh_alloc hr.mem hnew (kin_units hx.2) .rw t 0 rfl rfl (by simp))
        refine ⟨_, _, ?_, h1, okKey_le h2 (Nat.zero_le _)⟩
        simp [execOp, Instr.box, hx.1, newVar, newRow, cells_tr ρ hnt, cellsL_units, LV.tr, upd_self, Loc.at, adr]
      · cases h
    · cases h
  case makeSlice t len cap =>
    split at h
    rotate_left
    · cases h
    rename_i e kl n kc m ht hx hy
    split at h
    rotate_left
    · cases h
    rename_i z bs u hz hb hu
    split at h
    rotate_left
    · cases h
    rename_i c' hcc hb2
    simp only [Option.some.injEq, Prod.mk.injEq] at h; obtain ⟨rfl, rfl, rfl⟩ := h
    obtain ⟨hcz, hbs⟩ := both hb2
    have hcz := beqN hcz
    have hbs := bltN hbs
    obtain ⟨rfl, h0, h48⟩ := of_decide_eq_true (chkC_ok hcc hc)
    have hx := (ev_sound hr hx).1
    have hy := (ev_sound hr hy).1
    have hu' := run_zero (ρ := ρ) w hu
    obtain ⟨i, hi, hisz, hib, z', hiz, hztr⟩ : ∃ i, P.info? e = some i ∧ i.size = z + 1 ∧ i.bytes = bs ∧ ∃ z', i.zero = some z' ∧ LV.tr ρ u = z' := by
      unfold sizeT at hz; unfold bytesT at hb; unfold zeroT at hu
      split at hz
      · rename_i i hi
        rw [hi] at hb hu
        simp only [Option.some.injEq] at hz hb
        simp only at hu
        split at hu
        · rename_i v hv; exact ⟨i, hi, hz, hb, v, hv, (ofConst_sound ρ hu).1⟩
        · cases hu
      · cases hz
    have hle : n ≤ 281474976710656 := by
      have h2 : (1 : Int) * n ≤ (bs : Int) * n := Int.mul_le_mul_of_nonneg_right (by omega) h0
      omega
    have hrun := run_make (P := P) w t e i z' ht hi hiz kl kc n n h0 (Int.le_refl _) (by rw [hib]; exact h48) (by omega)
    have hcells : (madeCells z'.cells (n.toNat * i.size)).toList = rowCells ρ n.toNat (z + 1) fun _ => units u := by
      rw [← made_rows hcz (Nat.succ_pos z) n.toNat, hisz, ← hztr, cells_tr ρ hu'.2.2, cellsL_units]
    obtain ⟨h1, h2⟩ := lay (hk rfl) (grown_alloc w (.cells (rowCells ρ n.toNat (z + 1) fun _ => units u).toArray e))
      (fresh_alloc (us := [.rows n.toNat (z + 1) fun _ => units u]) hr.mem hnew ⟨fun _ => kin_units (hu'.2.1 _), trivial⟩ (.row e) e n.toNat (cellsL_rows _ _ _) rfl (by
        intro e' he; cases he
        refine ⟨rfl, _, _, _, rfl, ?_, rfl⟩
        simp only [maxLen]; omega))
    refine ⟨_, _, ?_, h1, okKey_le h2 (Nat.le_refl _)⟩
    rw [← hcells] at *
    simp only [execOp, hx, hy, LV.tr]
    simp [hrun, upd_self, vecV, Loc.at]
  case buildSlice t len parts =>
    split at h
    rotate_left
    · cases h
    rename_i e ht
    split at h
    rotate_left
    · cases h
    rename_i z u hz hu
    split at h
    rotate_left
    · cases h
    rename_i hb2
    obtain ⟨hcz, h24⟩ := both hb2
    have hcz := beqN hcz
    have h24 := bleN h24
    split at h
    rotate_left
    · cases h
    rename_i l hl
    simp only [Option.some.injEq, Prod.mk.injEq] at h; obtain ⟨rfl, rfl, rfl⟩ := h
    have hu' := run_zero (ρ := ρ) w hu
    obtain ⟨hf, hkin, hlen⟩ := laid_sound (ρ := ρ) (p := okKey s.mem ρ) (fun x u hx => ev_sound hr hx) parts.toList _ l hl (by
      intro us hus
      rw [(List.mem_replicate.1 hus).2]
      exact kin_units (hu'.2.1 _))
    rw [List.length_replicate] at hf hlen
    have hrep : (rowCells ρ len (z + 1) fun j => (List.replicate len (units u)).getD j []) = (madeCells (LV.tr ρ u).cells (len * (z + 1))).toList := by
      rw [cells_tr ρ hu'.2.2, ← cellsL_units, made_rows hcz (Nat.succ_pos z)]
      apply List.ext_getElem?
      intro j
      by_cases hj : j < len * (z + 1)
      · obtain ⟨i, r, rfl, hr', hi⟩ := row_split' hj
        rw [get_rowCells ρ _ hi hr', get_rowCells ρ _ hi hr']
        simp [List.getD, hi]
      · rw [List.getElem?_eq_none (by rw [len_rowCells]; omega), List.getElem?_eq_none (by rw [len_rowCells]; omega)]
    rw [hrep] at hf
    have hlm : len ≤ maxLen := by
      have h3 : len * 1 ≤ len * (z + 1) := Nat.mul_le_mul_left len (by omega)
      simp only [maxLen]; omega
    obtain ⟨h1, h2⟩ := lay (hk rfl) (grown_alloc w (.cells (rowCells ρ len (z + 1) fun j => l.getD j []).toArray e))
      (fresh_alloc (us := [.rows len (z + 1) fun j => l.getD j []]) hr.mem hnew ⟨fun i => kin_getD hkin i, trivial⟩ (.row e) e len (cellsL_rows _ _ _) rfl (by
        intro e' he; cases he
        exact ⟨rfl, _, _, _, rfl, hlm, rfl⟩))
    refine ⟨_, _, ?_, h1, okKey_le h2 (Nat.le_refl _)⟩
    have h24' : ¬ (2 ^ 24 < len * (z + 1)) := by omega
    have hf' : Instr.fill (fun i => some (i * (z + 1), z + 1)) (madeCells (LV.tr ρ u).cells (len * (z + 1))) (Array.map (fun x => (x.fst, a.eval x.snd)) parts).toList = some (rowCells ρ len (z + 1) fun j => l.getD j []).toArray := by
      rw [Array.toList_map, ← hf]
    simp only [execOp, Instr.buildSlice, Sem.run_bind, run_underlying ht, Result.andThen_ok, run_sizeOf w hz, Nat.succ_eq_add_one]
    rw [if_neg (by simpa using h24')]
    simp only [Sem.run_pure, Result.andThen_ok, Sem.run_bind]
    by_cases h0 : len * (z + 1) = 0
    · have hmk : (Array.range (len * (z + 1))).map (fun x => (#[] : Array Value)[x % (#[] : Array Value).size]!) = madeCells (LV.tr ρ u).cells (len * (z + 1)) := by
        rw [h0]; simp [madeCells]
      rw [if_pos h0]
      simp only [Sem.run_bind, Sem.run_pure, Result.andThen_ok, hmk, hf']
      simp [newRow, LV.tr, upd_self, vecV, Loc.at]
    · have hmk : (Array.range (len * (z + 1))).map (fun x => (LV.tr ρ u).cells[x % (LV.tr ρ u).cells.size]!) = madeCells (LV.tr ρ u).cells (len * (z + 1)) := rfl
      rw [if_neg h0]
      simp only [Sem.run_bind, Sem.run_pure, Result.andThen_ok, hu'.1, hmk, hf']
      simp [newRow, LV.tr, upd_self, vecV, Loc.at]
  case slice t x low high max =>
    split at h
    · rename_i b len e hx ht
      have hx := ev_sound hr hx
      split at h
      rotate_left
      · cases h
      rename_i z hz
      split at h
      rotate_left
      · cases h
      rename_i v' bl' c' b0 hv hb0
      split at h
      rotate_left
      · cases h
      rename_i hro
      simp only [Option.some.injEq, Prod.mk.injEq] at h; obtain ⟨rfl, rfl, rfl⟩ := h
      simp only [viewR] at hv
      split at hv
      rotate_left
      · cases hv
      rename_i l hh m ok bl1 hbn hb1
      rw [hb1] at hb0
      simp only [Option.some.injEq] at hb0
      subst hb0
      rw [getB_at, hI] at hb1
      have hb1 := at_take hb1
      split at hv
      rotate_left
      · cases hv
      rename_i c1 g c2 hck hrow
      have fin : condOk c1 → condOk c2 → ∃ w' ρ', (execOp a.eval { dst, op := .slice t x low high max, type := ty, pos, after, guard }).run P w = .ok (.value (LV.tr ρ' (.vec (.own key) (hh - l) : LV A))) w' ∧ Next I Own ρ ρ' s.mem (putB s.mem key (some ⟨.ro, [.rows (hh - l) z fun j => g (l + j)]⟩)) w w' ∧ (LV.vec (.own key) (hh - l) : LV A).kin (okKey (putB s.mem key (some ⟨.ro, [.rows (hh - l) z fun j => g (l + j)]⟩)) ρ') := by
        intro k1 k2
        have hcap : len ≤ (ρ b).cap := by
          have := hx.2
          cases b with
          | own k => exact this.2
          | inp t i => exact this
        obtain ⟨m', h1, h2, h3, h4, h5, _⟩ := bnds_cap (P := P) hr hcap hbn (chkC_ok hck k1)
        have hwd : isWr bl1.kd = false ∧ isDead bl1.kd = false := by cases hkk : bl1.kd <;> rw [hkk] at hro <;> first | exact ⟨rfl, rfl⟩ | cases hro
        obtain ⟨loc, src, e1, e2, e3, hf⟩ := view_fresh (Own := Own) hr.mem hr.mine hr.occM hb1 hwd.1 hwd.2 hrow k2 hcap h2 h3 h4 h5
        obtain ⟨n1, n2⟩ := lay (hk rfl) ⟨rfl, rfl, rfl, Nat.le_refl _, fun _ _ _ => rfl⟩ hf
        refine ⟨w, _, ?_, n1, okKey_le n2 e3⟩
        have he : LV.tr ρ (.vec b len : LV A) = .slice src len (ρ b).cap := e1
        simp only [execOp, hx.1, he]
        simp [Instr.sliceAt, Instr.slice, run_underlying ht, h1, run_sizeOf w hz, LV.tr, upd_self, e2]
      split at hv
      · simp only [Option.some.injEq, Prod.mk.injEq] at hv; obtain ⟨rfl, rfl, rfl⟩ := hv
        obtain ⟨k1, k2⟩ := andC_ok hc
        obtain ⟨_, _, _, _, _, _, hl0⟩ := bnds_cap (P := P) (w := w) hr (Nat.le_refl len) hbn (chkC_ok hck k1)
        have hl0 := hl0 rfl
        subst hl0
        have := fin k1 k2
        simpa using this
      · simp only [Option.some.injEq, Prod.mk.injEq] at hv; obtain ⟨rfl, rfl, rfl⟩ := hv
        obtain ⟨k1, k2⟩ := andC_ok hc
        exact fin k1 k2
    · rename_i b o p len cap e hx ht
      have hx := ev_sound hr hx
      split at h
      rotate_left
      · cases h
      rename_i z l hh m ok hz hb
      have fin : ∀ {c' : Cnd}, chkC rc ok = some c' → condOk c' → ∀ (q : List Stp), (if m = l then adr o p else adr o p + l * z) = adr o q →
          ∃ w' ρ', (execOp a.eval { dst, op := .slice t x low high max, type := ty, pos, after, guard }).run P w = .ok (.value (LV.tr ρ' (.slice b o q (hh - l) (m - l) : LV A))) w' ∧ Next I Own ρ ρ' s.mem (putB s.mem key none) w w' ∧ (LV.slice b o q (hh - l) (m - l) : LV A).kin (okKey (putB s.mem key none) ρ') := by
        intro c' h1 h2 q hq
        obtain ⟨hrun, _⟩ := bnds_sound (P := P) hr true hb (chkC_ok h1 h2)
        refine ⟨w, ρ, ?_, hr.self, okKey_zero hx.2⟩
        have hd2 : (if m = l then (ρ b).at (adr o p) else (ρ b).at (adr o p + l * z)) = (ρ b).at (adr o q) := by
          rw [← hq]; split <;> rfl
        have hd3 : (if m = l then some ((ρ b).at (adr o p)) else some ((ρ b).at (adr o p + l * z))) = some ((ρ b).at (adr o q)) := by
          rw [← hd2]; split <;> rfl
        simp only [execOp, hx.1, LV.tr]
        simp [Instr.sliceAt, Instr.slice, run_underlying ht, hrun, run_sizeOf w hz, loc_add, hd3]
      split at h
      · rename_i c' h1
        simp only [Option.some.injEq, Prod.mk.injEq] at h; obtain ⟨rfl, rfl, rfl⟩ := h
        obtain ⟨_, _, _, _, hl0⟩ := bnds_sound (P := P) (w := w) hr false hb (chkC_ok h1 hc)
        exact fin h1 hc p (by rw [hl0 rfl]; simp)
      · rename_i c' xl h1
        split at h
        · rename_i hml
          simp only [Option.some.injEq, Prod.mk.injEq] at h; obtain ⟨rfl, rfl, rfl⟩ := h
          exact fin h1 hc p (by simp [beqN hml])
        · rename_i hml
          simp only [Option.some.injEq, Prod.mk.injEq] at h; obtain ⟨rfl, rfl, rfl⟩ := h
          exact fin h1 hc _ (by rw [adr_addE, if_neg]; rintro rfl; simp [Nat.beq_refl] at hml)
      · cases h
    · rename_i e hx ht
      have hx := ev_sound hr hx
      split at h
      rotate_left
      · cases h
      rename_i z l hh m ok hz hb
      split at h
      rotate_left
      · cases h
      rename_i c' h1
      simp only [Option.some.injEq, Prod.mk.injEq] at h; obtain ⟨rfl, rfl, rfl⟩ := h
      obtain ⟨hrun, h2, h3, h4, _⟩ := bnds_sound (P := P) hr true hb (chkC_ok h1 hc)
      have e1 : m = 0 := by omega
      have e2 : hh = 0 := by omega
      have e3 : l = 0 := by omega
      subst e1; subst e2; subst e3
      refine ⟨w, ρ, ?_, hr.self, trivial⟩
      simp only [execOp, hx.1, LV.tr]
      simp [Instr.sliceAt, Instr.slice, run_underlying ht, hrun, run_sizeOf w hz]
    · cases h
end
end Go.Proofs.Ytjhjockdkpgpeaa.En
