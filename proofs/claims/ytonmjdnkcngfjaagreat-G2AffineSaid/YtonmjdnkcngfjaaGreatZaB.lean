/- DERIVED. Texts laid together: VSD VSX VSE VSF VSG VSH VSI VSJ VSK VSL VSM. -/
import Derived.Test.YtonmjdnkcngfjaaGreatZaA
import Derived.WalkKit
import Derived.Orders
import Derived.Lib.AppendZerosOnto
import Derived.Scope
/- DERIVED. The operations that lay a new block: all of them. -/
set_option linter.all false
namespace Go.Proofs.YtonmjdnkcngfjaaGreat.En
open Go Go.RowKit

section
variable {A : Type} [Ab A] {P : Program}
variable {I : Nat → Nat → List (LV A)} {Own : Dom} {w0 : World} {ρ : Key → Loc} {s : LS A} {a : Act} {w : World}

theorem inb_lt [LawAb A] {mem : Mem A} (hm : MemRel I ρ mem w) (b : Nat) (hb : w.heap.size ≤ b) : ∀ k bl', at? I mem k = some bl' → isDead bl'.kd = false → (ρ k).none = false → (ρ k).blk ≠ b := by
  intro k bl' h1 h2 h3 e
  have := hm.inb k bl' h1 h2 h3
  omega

theorem rowCells_nil (z : Nat) (f : Nat → List (LV A)) : rowCells ρ 0 z f = [] := rfl
theorem cellsL_rows (n z : Nat) (f : Nat → List (LV A)) : cellsL ρ [LV.rows n z f] = rowCells ρ n z f := by simp [cellsL, LV.cells, rowCells]

/-- A block of cells, laid at the heap's end. -/
theorem fresh_alloc [LawAb A] {mem : Mem A} (hm : MemRel I ρ mem w) (hnew : ∀ b, w.heap.size ≤ b → Own b ∧ Own.src b) {us : List (LV A)} (hus : kinL (okKey mem ρ) us) (kd : Kd) (e : TypeId) (cap : Nat) {cs : List Value} (hcs : cellsL ρ us = cs) (hd : isDead kd = false)
    (hrow : ∀ e', kd = .row e' → e' = e ∧ ∃ n z f, us = [.rows n z f] ∧ n ≤ maxLen ∧ cap = n) : Fresh I Own ρ mem (w.alloc (.cells cs.toArray e)) ⟨w.heap.size, 0, cap, false, none⟩ ⟨kd, us⟩ where
  kin := hus
  cell i v hv := by
    simp only [Loc.at, Nat.zero_add]
    rw [World.cell?_alloc_new]
    simpa [← hcs] using hv
  free _ i _ := by
    simp only [Loc.at, Nat.zero_add]
    rw [World.frozen?_alloc_new]
  inb _ := by simp only [World.size_alloc]; omega
  own _ _ := (hnew _ (Nat.le_refl _)).1
  src _ := (hnew _ (Nat.le_refl _)).2
  far _ _ := inb_lt hm _ (Nat.le_refl _)
  near _ k bl' h1 h2 h3 := inb_lt hm _ (Nat.le_refl _) _ _ (at_own h1) (by cases hk : bl'.kd <;> rw [hk] at h2 <;> first | rfl | cases h2) h3
  row e' he := by
    obtain ⟨rfl, n, z, f, h1, h2, rfl⟩ := hrow e' he
    refine ⟨cap, z, f, h1, rfl, ?_⟩
    have : vecV (⟨w.heap.size, 0, cap, false, none⟩ : Loc) cap = .slice (some ⟨w.heap.size, 0, none⟩) cap cap := rfl
    rw [this]
    have := World.ownsRow_lit (w := w) (base := 0) (e := e') (size := z) cs.toArray cap (Nat.zero_le _) h2 (by
      subst hcs
      subst h1
      rw [cellsL_rows]
      simpa using len_rowCells ρ cap z f)
    simpa [hcs] using this
  nilc h := by cases h
  empt h := by cases h
  dead := hd

theorem grown_alloc (w : World) (o : Obj) : w.grownBy (w.alloc o) none := World.grownBy_alloc w o none

theorem new_sound [LawAb A] {S : Sig A} (hI : S.inp = I) {o : Oper} {rc : Bool} {base key : Nat} {v : LV A} {b : Option (Blk A)} {c : Cnd} (h : newR P S rc (ev s.tmps) (s.mem.take base) key o.op = some (v, b, c)) (hc : condOk c) (hk : b.isSome = true → s.mem[key]? = some none)
    (hr : Rl I Own w0 ρ s a w) : ∃ w' ρ', (execOp a.eval o).run P w = .ok (.value (LV.tr ρ' v)) w' ∧ Next I Own ρ ρ' s.mem (putB s.mem key b) w w' ∧ v.kin (okKey (putB s.mem key b) ρ') := by
  obtain ⟨dst, op, ty, pos, after, guard⟩ := o
  have hnew : ∀ b, w.heap.size ≤ b → Own b ∧ Own.src b := fun b hb => hr.new b (Nat.le_trans hr.keeps.size hb)
  have lay : ∀ {w' : World} {l : Loc} {bl : Blk A}, s.mem[key]? = some none → w.grownBy w' none → Fresh I Own ρ s.mem w' l bl → Next I Own ρ (upd ρ key l) s.mem (s.mem.set key (some bl)) w w' ∧ okKey (s.mem.set key (some bl)) (upd ρ key l) (.own key) l.cap :=
    fun h1 h2 h3 => Next.fresh hr.mem hr.mine hr.occM h1 h2 (fun _ _ _ _ _ e => by cases e) (fun _ e => by cases e) h3
  cases op <;> simp only [newR] at h <;> try (cases h; done)
  case alloc t =>
    split at h
    · rename_i z hz
      simp only [Option.some.injEq, Prod.mk.injEq] at h; obtain ⟨rfl, rfl, rfl⟩ := h
      have hz' := run_zero (ρ := ρ) w hz
      obtain ⟨h1, h2⟩ := lay (hk rfl) (grown_alloc w (.cells (cellsL ρ (units z)).toArray t)) (fresh_alloc hr.mem hnew (kin_units (hz'.2.1 _)) .rw t 0 rfl rfl (by simp))
      refine ⟨_, _, ?_, h1, okKey_le h2 (Nat.zero_le _)⟩
      simp [execOp, Instr.alloc, hz'.1, newVar, newRow, cells_tr ρ hz'.2.2, cellsL_units, LV.tr, upd_self, Loc.at, adr]
    · cases h
  case box t x =>
    split at h
    · rename_i u n hx hz
      split at h
      · rename_i hnt
        simp only [Option.some.injEq, Prod.mk.injEq] at h; obtain ⟨rfl, rfl, rfl⟩ := h
        have hx := ev_sound hr hx
        obtain ⟨h1, h2⟩ := lay (hk rfl) (grown_alloc w (.cells (cellsL ρ (units u)).toArray t)) (fresh_alloc hr.mem hnew (kin_units hx.2) .rw t 0 rfl rfl (by simp))
        refine ⟨_, _, ?_, h1, okKey_le h2 (Nat.zero_le _)⟩
        simp [execOp, Instr.box, hx.1, newVar, newRow, cells_tr ρ hnt, cellsL_units, LV.tr, upd_self, Loc.at, adr]
      · cases h
    · cases h
  case makeSlice t len cap =>
    split at h
    rotate_left
    · cases h
    rename_i e kl n kc m ht hx hy
    split at h
    rotate_left
    · cases h
    rename_i z bs u hz hb hu
    split at h
    rotate_left
    · cases h
    rename_i c' hcc hb2
    simp only [Option.some.injEq, Prod.mk.injEq] at h; obtain ⟨rfl, rfl, rfl⟩ := h
    obtain ⟨hcz, hbs⟩ := both hb2
    have hcz := beqN hcz
    have hbs := bltN hbs
    obtain ⟨rfl, h0, h48⟩ := of_decide_eq_true (chkC_ok hcc hc)
    have hx := (ev_sound hr hx).1
    have hy := (ev_sound hr hy).1
    have hu' := run_zero (ρ := ρ) w hu
    obtain ⟨i, hi, hisz, hib, z', hiz, hztr⟩ : ∃ i, P.info? e = some i ∧ i.size = z + 1 ∧ i.bytes = bs ∧ ∃ z', i.zero = some z' ∧ LV.tr ρ u = z' := by
      unfold sizeT at hz; unfold bytesT at hb; unfold zeroT at hu
      split at hz
      · rename_i i hi
        rw [hi] at hb hu
        simp only [Option.some.injEq] at hz hb
        simp only at hu
        split at hu
        · rename_i v hv; exact ⟨i, hi, hz, hb, v, hv, (ofConst_sound ρ hu).1⟩
        · cases hu
      · cases hz
    have hle : n ≤ 281474976710656 := by
      have h2 : (1 : Int) * n ≤ (bs : Int) * n := Int.mul_le_mul_of_nonneg_right (by omega) h0
      omega
    have hrun := run_make (P := P) w t e i z' ht hi hiz kl kc n n h0 (Int.le_refl _) (by rw [hib]; exact h48) (by omega)
    have hcells : (madeCells z'.cells (n.toNat * i.size)).toList = rowCells ρ n.toNat (z + 1) fun _ => units u := by
      rw [← made_rows hcz (Nat.succ_pos z) n.toNat, hisz, ← hztr, cells_tr ρ hu'.2.2, cellsL_units]
    obtain ⟨h1, h2⟩ := lay (hk rfl) (grown_alloc w (.cells (rowCells ρ n.toNat (z + 1) fun _ => units u).toArray e))
      (fresh_alloc (us := [.rows n.toNat (z + 1) fun _ => units u]) hr.mem hnew ⟨fun _ => kin_units (hu'.2.1 _), trivial⟩ (.row e) e n.toNat (cellsL_rows _ _ _) rfl (by
        intro e' he; cases he
        refine ⟨rfl, _, _, _, rfl, ?_, rfl⟩
        simp only [maxLen]; omega))
    refine ⟨_, _, ?_, h1, okKey_le h2 (Nat.le_refl _)⟩
    rw [← hcells] at *
    simp only [execOp, hx, hy, LV.tr]
    simp [hrun, upd_self, vecV, Loc.at]
  case buildSlice t len parts =>
    split at h
    rotate_left
    · cases h
    rename_i e ht
    split at h
    rotate_left
    · cases h
    rename_i z u hz hu
    split at h
    rotate_left
    · cases h
    rename_i hb2
    obtain ⟨hcz, h24⟩ := both hb2
    have hcz := beqN hcz
    have h24 := bleN h24
    split at h
    rotate_left
    · cases h
    rename_i l hl
    simp only [Option.some.injEq, Prod.mk.injEq] at h; obtain ⟨rfl, rfl, rfl⟩ := h
    have hu' := run_zero (ρ := ρ) w hu
    obtain ⟨hf, hkin, hlen⟩ := laid_sound (ρ := ρ) (p := okKey s.mem ρ) (fun x u hx => ev_sound hr hx) parts.toList _ l hl (by
      intro us hus
      rw [(List.mem_replicate.1 hus).2]
      exact kin_units (hu'.2.1 _))
    rw [List.length_replicate] at hf hlen
    have hrep : (rowCells ρ len (z + 1) fun j => (List.replicate len (units u)).getD j []) = (madeCells (LV.tr ρ u).cells (len * (z + 1))).toList := by
      rw [cells_tr ρ hu'.2.2, ← cellsL_units, made_rows hcz (Nat.succ_pos z)]
      apply List.ext_getElem?
      intro j
      by_cases hj : j < len * (z + 1)
      · obtain ⟨i, r, rfl, hr', hi⟩ := row_split' hj
        rw [get_rowCells ρ _ hi hr', get_rowCells ρ _ hi hr']
        simp [List.getD, hi]
      · rw [List.getElem?_eq_none (by rw [len_rowCells]; omega), List.getElem?_eq_none (by rw [len_rowCells]; omega)]
    rw [hrep] at hf
    have hlm : len ≤ maxLen := by
      have h3 : len * 1 ≤ len * (z + 1) := Nat.mul_le_mul_left len (by omega)
      simp only [maxLen]; omega
    obtain ⟨h1, h2⟩ := lay (hk rfl) (grown_alloc w (.cells (rowCells ρ len (z + 1) fun j => l.getD j []).toArray e))
      (fresh_alloc (us := [.rows len (z + 1) fun j => l.getD j []]) hr.mem hnew ⟨fun i => kin_getD hkin i, trivial⟩ (.row e) e len (cellsL_rows _ _ _) rfl (by
        intro e' he; cases he
        exact ⟨rfl, _, _, _, rfl, hlm, rfl⟩))
    refine ⟨_, _, ?_, h1, okKey_le h2 (Nat.le_refl _)⟩
    have h24' : ¬ (2 ^ 24 < len * (z + 1)) := by omega
    have hf' : Instr.fill (fun i => some (i * (z + 1), z + 1)) (madeCells (LV.tr ρ u).cells (len * (z + 1))) (Array.map (fun x => (x.fst, a.eval x.snd)) parts).toList = some (rowCells ρ len (z + 1) fun j => l.getD j []).toArray := by
      rw [Array.toList_map, ← hf]
    simp only [execOp, Instr.buildSlice, Sem.run_bind, run_underlying ht, Result.andThen_ok, run_sizeOf w hz, Nat.succ_eq_add_one]
    rw [if_neg (by simpa using h24')]
    simp only [Sem.run_pure, Result.andThen_ok, Sem.run_bind]
    by_cases h0 : len * (z + 1) = 0
    · have hmk : (Array.range (len * (z + 1))).map (fun x => (#[] : Array Value)[x % (#[] : Array Value).size]!) = madeCells (LV.tr ρ u).cells (len * (z + 1)) := by
        rw [h0]; simp [madeCells]
      rw [if_pos h0]
      simp only [Sem.run_bind, Sem.run_pure, Result.andThen_ok, hmk, hf']
      simp [newRow, LV.tr, upd_self, vecV, Loc.at]
    · have hmk : (Array.range (len * (z + 1))).map (fun x => (LV.tr ρ u).cells[x % (LV.tr ρ u).cells.size]!) = madeCells (LV.tr ρ u).cells (len * (z + 1)) := rfl
      rw [if_neg h0]
      simp only [Sem.run_bind, Sem.run_pure, Result.andThen_ok, hu'.1, hmk, hf']
      simp [newRow, LV.tr, upd_self, vecV, Loc.at]
  case slice t x low high max =>
    split at h
    · rename_i b len e hx ht
      have hx := ev_sound hr hx
      split at h
      rotate_left
      · cases h
      rename_i z hz
      split at h
      rotate_left
      · cases h
      rename_i v' bl' c' b0 hv hb0
      split at h
      rotate_left
      · cases h
      rename_i hro
      simp only [Option.some.injEq, Prod.mk.injEq] at h; obtain ⟨rfl, rfl, rfl⟩ := h
      simp only [viewR] at hv
      split at hv
      rotate_left
      · cases hv
      rename_i l hh m ok bl1 hbn hb1
      rw [hb1] at hb0
      simp only [Option.some.injEq] at hb0
      subst hb0
      rw [getB_at, hI] at hb1
      have hb1 := at_take hb1
      split at hv
      rotate_left
      · cases hv
      rename_i c1 g c2 hck hrow
      have fin : condOk c1 → condOk c2 → ∃ w' ρ', (execOp a.eval { dst, op := .slice t x low high max, type := ty, pos, after, guard }).run P w = .ok (.value (LV.tr ρ' (.vec (.own key) (hh - l) : LV A))) w' ∧ Next I Own ρ ρ' s.mem (putB s.mem key (some ⟨.ro, [.rows (hh - l) z fun j => g (l + j)]⟩)) w w' ∧ (LV.vec (.own key) (hh - l) : LV A).kin (okKey (putB s.mem key (some ⟨.ro, [.rows (hh - l) z fun j => g (l + j)]⟩)) ρ') := by
        intro k1 k2
        have hcap : len ≤ (ρ b).cap := by
          have := hx.2
          cases b with
          | own k => exact this.2
          | inp t i => exact this
        obtain ⟨m', h1, h2, h3, h4, h5, _⟩ := bnds_cap (P := P) hr hcap hbn (chkC_ok hck k1)
        have hwd : isWr bl1.kd = false ∧ isDead bl1.kd = false := by cases hkk : bl1.kd <;> rw [hkk] at hro <;> first | exact ⟨rfl, rfl⟩ | cases hro
        obtain ⟨loc, src, e1, e2, e3, hf⟩ := view_fresh (Own := Own) hr.mem hr.mine hr.occM hb1 hwd.1 hwd.2 hrow k2 hcap h2 h3 h4 h5
        obtain ⟨n1, n2⟩ := lay (hk rfl) ⟨rfl, rfl, rfl, Nat.le_refl _, fun _ _ _ => rfl⟩ hf
        refine ⟨w, _, ?_, n1, okKey_le n2 e3⟩
        have he : LV.tr ρ (.vec b len : LV A) = .slice src len (ρ b).cap := e1
        simp only [execOp, hx.1, he]
        simp [Instr.sliceAt, Instr.slice, run_underlying ht, h1, run_sizeOf w hz, LV.tr, upd_self, e2]
      split at hv
      · simp only [Option.some.injEq, Prod.mk.injEq] at hv; obtain ⟨rfl, rfl, rfl⟩ := hv
        obtain ⟨k1, k2⟩ := andC_ok hc
        obtain ⟨_, _, _, _, _, _, hl0⟩ := bnds_cap (P := P) (w := w) hr (Nat.le_refl len) hbn (chkC_ok hck k1)
        have hl0 := hl0 rfl
        subst hl0
        have := fin k1 k2
        simpa using this
      · simp only [Option.some.injEq, Prod.mk.injEq] at hv; obtain ⟨rfl, rfl, rfl⟩ := hv
        obtain ⟨k1, k2⟩ := andC_ok hc
        exact fin k1 k2
    · rename_i b o p len cap e hx ht
      have hx := ev_sound hr hx
      split at h
      rotate_left
      · cases h
      rename_i z l hh m ok hz hb
      have fin : ∀ {c' : Cnd}, chkC rc ok = some c' → condOk c' → ∀ (q : List Stp), (if m = l then adr o p else adr o p + l * z) = adr o q →
          ∃ w' ρ', (execOp a.eval { dst, op := .slice t x low high max, type := ty, pos, after, guard }).run P w = .ok (.value (LV.tr ρ' (.slice b o q (hh - l) (m - l) : LV A))) w' ∧ Next I Own ρ ρ' s.mem (putB s.mem key none) w w' ∧ (LV.slice b o q (hh - l) (m - l) : LV A).kin (okKey (putB s.mem key none) ρ') := by
        intro c' h1 h2 q hq
        obtain ⟨hrun, _⟩ := bnds_sound (P := P) hr true hb (chkC_ok h1 h2)
        refine ⟨w, ρ, ?_, hr.self, okKey_zero hx.2⟩
        have hd2 : (if m = l then (ρ b).at (adr o p) else (ρ b).at (adr o p + l * z)) = (ρ b).at (adr o q) := by
          rw [← hq]; split <;> rfl
        have hd3 : (if m = l then some ((ρ b).at (adr o p)) else some ((ρ b).at (adr o p + l * z))) = some ((ρ b).at (adr o q)) := by
          rw [← hd2]; split <;> rfl
        simp only [execOp, hx.1, LV.tr]
        simp [Instr.sliceAt, Instr.slice, run_underlying ht, hrun, run_sizeOf w hz, loc_add, hd3]
      split at h
      · rename_i c' h1
        simp only [Option.some.injEq, Prod.mk.injEq] at h; obtain ⟨rfl, rfl, rfl⟩ := h
        obtain ⟨_, _, _, _, hl0⟩ := bnds_sound (P := P) (w := w) hr false hb (chkC_ok h1 hc)
        exact fin h1 hc p (by rw [hl0 rfl]; simp)
      · rename_i c' xl h1
        split at h
        · rename_i hml
          simp only [Option.some.injEq, Prod.mk.injEq] at h; obtain ⟨rfl, rfl, rfl⟩ := h
          exact fin h1 hc p (by simp [beqN hml])
        · rename_i hml
          simp only [Option.some.injEq, Prod.mk.injEq] at h; obtain ⟨rfl, rfl, rfl⟩ := h
          exact fin h1 hc _ (by rw [adr_addE, if_neg]; rintro rfl; simp [Nat.beq_refl] at hml)
      · cases h
    · rename_i e hx ht
      have hx := ev_sound hr hx
      split at h
      rotate_left
      · cases h
      rename_i z l hh m ok hz hb
      split at h
      rotate_left
      · cases h
      rename_i c' h1
      simp only [Option.some.injEq, Prod.mk.injEq] at h; obtain ⟨rfl, rfl, rfl⟩ := h
      obtain ⟨hrun, h2, h3, h4, _⟩ := bnds_sound (P := P) hr true hb (chkC_ok h1 hc)
      have e1 : m = 0 := by omega
      have e2 : hh = 0 := by omega
      have e3 : l = 0 := by omega
      subst e1; subst e2; subst e3
      refine ⟨w, ρ, ?_, hr.self, trivial⟩
      simp only [execOp, hx.1, LV.tr]
      simp [Instr.sliceAt, Instr.slice, run_underlying ht, hrun, run_sizeOf w hz]
    · cases h
end
end Go.Proofs.YtonmjdnkcngfjaaGreat.En

/- DERIVED. An append of so many zero values. -/
set_option linter.all false
namespace Go.Proofs.YtonmjdnkcngfjaaGreat.En
open Go

theorem zeros_room {P : Program} (w : World) (t tn ty e : TypeId) (i : TypeInfo) (z : Value) (kq kn : IntKind) (ht : P.underlying t = some (.slice e)) (htn : P.underlying tn = some (.int kn)) (hi : P.info? e = some i) (hz : i.zero = some z)
    (g n cap : Nat) (cur : Array Value) (hg : w.heap[g]? = some (.cells cur e (0, 0))) (m : Nat) (h0 : 0 < m) (hs : 0 < i.size) (hzs : z.cells.size = i.size) (h63 : (m : Int) ≤ 9223372036854775807) (h48 : m * i.bytes ≤ 281474976710656)
    (h1 : ∀ u ∈ (Builtin.zeroCells z.cells m).toList, u.oneCell' = true) (hroom : n + m ≤ cap) (hfit : n * i.size + m * i.size ≤ cur.size) :
    (Builtin.append_ #[t, tn] ty #[.slice (some ⟨g, 0, none⟩) n cap, .int kq m]).run P w =
      .ok (.slice (some ⟨g, 0, none⟩) (n + m) cap) (w.setRow g (cur.toList.take (n * i.size) ++ (Builtin.zeroCells z.cells m).toList ++ cur.toList.drop (n * i.size + (Builtin.zeroCells z.cells m).toList.length)).toArray) := by
  have hk : m ≠ 0 := by omega
  have hw : IntKind.i64.wrap (m : Int) = m := by rw [IntKind.wrap_i64]; omega
  have h48i : ¬ (281474976710656 < (m : Int) * (i.bytes : Int)) := by
    rw [← Int.natCast_mul]
    omega
  have hneg : ¬ ((m : Int) < 0) := by omega
  have hns : ¬ (m * i.size = 0) := Nat.mul_ne_zero hk (by omega)
  have hst := run_storeCells_at P g (n * i.size) e (Builtin.zeroCells z.cells m).toList 0 cur w hg (by rw [Array.length_toList, size_zeroCells, hzs]; exact hfit) h1
  simp only [Nat.add_zero] at hst
  simp [Builtin.append_, run_underlying ht, run_underlying htn, sizeOf, typeInfo, zeroValue, hi, hz, asInt, asIntOf, hw, hk, hneg, hns, h48i, hroom, Addr.add_lit] at hst ⊢
  rw [hst]
  rfl
theorem zeros_none {P : Program} (w : World) (t tn ty e : TypeId) (i : TypeInfo) (kq kn : IntKind) (ht : P.underlying t = some (.slice e)) (htn : P.underlying tn = some (.int kn)) (hi : P.info? e = some i)
    (base : Option Addr) (n cap : Nat) (hle : n ≤ cap) :
    (Builtin.append_ #[t, tn] ty #[.slice base n cap, .int kq ((0 : Nat) : Int)]).run P w = .ok (.slice base n cap) w := by
  have hw : IntKind.i64.wrap (0 : Int) = 0 := by rw [IntKind.wrap_i64]; rfl
  cases base <;> simp [Builtin.append_, run_underlying ht, run_underlying htn, sizeOf, typeInfo, zeroValue, hi, asInt, asIntOf, hw, hle, storeCells]
end Go.Proofs.YtonmjdnkcngfjaaGreat.En

/- DERIVED. The operations that write. -/
set_option linter.all false
namespace Go.Proofs.YtonmjdnkcngfjaaGreat.En
open Go Go.RowKit

section
variable {A : Type} [Ab A] {P : Program}
variable {I : Nat → Nat → List (LV A)} {Own : Dom} {w0 : World} {ρ : Key → Loc} {s : LS A} {a : Act} {w : World}

theorem appTy_spec {t t' e : TypeId} {z bs : Nat} (h : appTy (A := A) P t t' = some (e, z, bs)) :
    P.underlying t = some (.slice e) ∧ (∃ e', P.underlying t' = some (.slice e')) ∧ ∃ i z', P.info? e = some i ∧ i.zero = some z' ∧ i.size = z ∧ i.bytes = bs ∧ (∀ [LawAb A], z'.cells.size = z) ∧ 0 < z ∧ 0 < bs := by
  unfold appTy at h
  split at h
  rotate_left
  · cases h
  rename_i e1 e2 ht ht'
  split at h
  rotate_left
  · cases h
  rename_i z1 b1 u hz hb hu
  split at h
  rotate_left
  · cases h
  rename_i hh
  simp only [Option.some.injEq, Prod.mk.injEq] at h; obtain ⟨rfl, rfl, rfl⟩ := h
  obtain ⟨h1, h2⟩ := both hh
  obtain ⟨h3, h4⟩ := both h1
  refine ⟨ht, ⟨_, ht'⟩, ?_⟩
  unfold sizeT at hz; unfold bytesT at hb; unfold zeroT at hu
  split at hz
  · rename_i i hi
    rw [hi] at hb hu
    simp only [Option.some.injEq] at hz hb
    simp only at hu
    split at hu
    · rename_i v hv
      refine ⟨i, v, hi, hv, hz, hb, ?_, bltN h3, bltN h4⟩
      intro _
      have e1 := (ofConst_sound (fun _ => ⟨0, 0, 0, false, none⟩) hu).1
      rw [← e1, cells_tr _ (ofConst_noTup hu)]
      simp only [List.size_toArray]
      rw [← cellsL_units, len_cellsL]
      exact beqN h2
    · cases hu
  · cases hz

theorem append_types (w : World) {t t' e e' ty : TypeId} (ht : P.underlying t = some (.slice e)) (ht' : P.underlying t' = some (.slice e')) (v x : Value) :
    (Builtin.append_ #[t, t'] ty #[v, x]).run P w = (Builtin.append_ #[t, t] ty #[v, x]).run P w := by
  simp only [Builtin.append_, List.getElem?_toArray, List.getElem?_cons_zero, List.getElem?_cons_succ, Sem.run_bind, run_underlying ht, Result.andThen_ok]
  cases v <;> try rfl
  simp only [Sem.run_bind]
  cases hq : (sizeOf e).run P w <;> simp only [Result.andThen_ok, Sem.run_bind, Sem.run_pure, run_underlying ht, run_underlying ht']

theorem append_run [LawAb A] {t t' e ty : TypeId} {z bs : Nat} (h : appTy (A := A) P t t' = some (e, z, bs)) {v : Value} {n : Nat} {xs : List Value} (hown : w.ownsRow 0 e z v n xs) {src : Option Addr} {m cap : Nat} {news : List Value} (hsrc : src = none → m = 0 ∧ cap = 0)
    (hl : news.length = m * z) (hcells : ∀ ad, src = some ad → ∀ j u, news[j]? = some u → w.cell? (ad.add j) = some u) (h1 : ∀ u ∈ news, u.oneCell' = true) (hb : (n + m) * bs ≤ 2 ^ 47) :
    ∃ v' w', (Builtin.append_ #[t, t'] ty #[v, .slice src m cap]).run P w = .ok v' w' ∧ w'.ownsRow 0 e z v' (n + m) (xs ++ news) ∧ w.grownBy w' v.ownBlock ∧ (∀ g, v'.ownBlock = some g → v.ownBlock = some g ∨ w.heap.size ≤ g) := by
  obtain ⟨ht, ⟨e', ht'⟩, i, z', hi, hz, hsz, hbs, hzs, h0z, h0b⟩ := appTy_spec h
  have hzs := hzs
  rw [append_types w ht ht']
  have hnm : n + m ≤ (n + m) * bs := Nat.le_mul_of_pos_right _ h0b
  have hmax : n + m ≤ maxLen := by simp only [maxLen]; omega
  cases src with
  | none =>
    obtain ⟨rfl, rfl⟩ := hsrc rfl
    have hn : news = [] := List.eq_nil_of_length_eq_zero (by simpa using hl)
    subst hn
    exact ⟨v, w, run_append_owned_none (P := P) w 0 t ty e i z ht hi v n xs hown, by simpa using hown, ⟨rfl, rfl, rfl, Nat.le_refl _, fun _ _ _ => rfl⟩, fun g hg => .inl hg⟩
  | some ad =>
    have hnews := hcells ad rfl
    obtain ⟨v', w', hrun, h2, h3, h4⟩ := run_append_own (P := P) w 0 t ty e i z' z bs ht hi hz hsz hbs hzs h0z v n xs hown ad m cap news hl hnews h1 hmax (by omega) (Nat.zero_le _)
    refine ⟨v', w', hrun, h2, h3, fun g hg => ?_⟩
    subst hsz
    subst hbs
    rcases hown.2 with ⟨rfl, rfl⟩ | ⟨g0, cap0, cur, rfl, _, hg0, hnc, _, hcs, htake⟩
    · by_cases hm : m = 0
      · subst hm
        rw [h4.2 ⟨rfl, rfl⟩] at hg
        simp [Value.ownBlock] at hg
      · have hr := run_append_nil (P := P) w t ty e i z' ht hi hz ad m cap news hl hnews (by omega) (by simp only [maxLen] at hmax; omega) (by simp only [Nat.zero_add] at hb; omega)
        rw [hrun] at hr
        cases hr
        simp only [Value.ownBlock, Option.some.injEq] at hg
        omega
    · by_cases hroom : n + m ≤ cap0
      · have hfit : n * i.size + news.length ≤ cur.size := by rw [hl, hcs, ← Nat.add_mul]; exact Nat.mul_le_mul_right _ hroom
        have hr := run_append_room (P := P) w t ty e i ht hi g0 n cap0 cur hg0 ad m cap news hl hnews h1 hroom hfit
        rw [hrun] at hr
        cases hr
        exact .inl hg
      · have holds : ∀ j u, xs[j]? = some u → w.cell? ((⟨g0, 0, none⟩ : Addr).add j) = some u := hown.cells (g := g0) rfl
        have hr := run_append_grow (P := P) w t ty e i z' ht hi hz ⟨g0, 0, none⟩ n cap0 xs hown.1 holds ad m cap news hl hnews (by omega) (by simp only [maxLen] at hmax; omega) (growslice_fits (by omega) (by omega))
        rw [hrun] at hr
        cases hr
        simp only [Value.ownBlock, Option.some.injEq] at hg
        omega

/-- An append of so many zero values. -/
theorem zeros_run {t tn e ty : TypeId} {z bs : Nat} {kq kn : IntKind} {zv : Value} {i : TypeInfo} (ht : P.underlying t = some (.slice e)) (htn : P.underlying tn = some (.int kn)) (hi : P.info? e = some i) (hz : i.zero = some zv) (hsz : i.size = z) (hbs : i.bytes = bs)
    (hzs : zv.cells.size = z) (h0z : 0 < z) (h0b : 0 < bs) {v : Value} {n : Nat} {xs : List Value} (hown : w.ownsRow 0 e z v n xs) (m : Nat) (h1 : ∀ u ∈ (Builtin.zeroCells zv.cells m).toList, u.oneCell' = true) (hb : (n + m) * bs ≤ 2 ^ 47) :
    ∃ v' w', (Builtin.append_ #[t, tn] ty #[v, .int kq m]).run P w = .ok v' w' ∧ w'.ownsRow 0 e z v' (n + m) (xs ++ (Builtin.zeroCells zv.cells m).toList) ∧ w.grownBy w' v.ownBlock ∧ (∀ g, v'.ownBlock = some g → v.ownBlock = some g ∨ w.heap.size ≤ g) := by
  subst hsz
  subst hbs
  have hnm : n + m ≤ (n + m) * i.bytes := Nat.le_mul_of_pos_right _ h0b
  have hmm : m * i.bytes ≤ (n + m) * i.bytes := Nat.mul_le_mul_right _ (by omega)
  have hmax : n + m ≤ maxLen := by simp only [maxLen]; omega
  have hl : (Builtin.zeroCells zv.cells m).toList.length = m * i.size := by rw [Array.length_toList, size_zeroCells, hzs]
  have hlen : (xs ++ (Builtin.zeroCells zv.cells m).toList).length = (n + m) * i.size := by rw [List.length_append, hown.1, hl, Nat.add_mul]
  have grown : ∀ (old : Nat), old < n + m → ∀ (row : Option Nat),
      (w.drew.alloc (.cells (xs.toArray ++ Builtin.zeroCells zv.cells m ++ Builtin.zeroCells zv.cells (grownCap w (n + m) old e - (n + m))) e)).ownsRow 0 e i.size
        (.slice (some ⟨w.heap.size, 0, none⟩) (n + m) (grownCap w (n + m) old e)) (n + m) (xs ++ (Builtin.zeroCells zv.cells m).toList) ∧
      w.grownBy (w.drew.alloc (.cells (xs.toArray ++ Builtin.zeroCells zv.cells m ++ Builtin.zeroCells zv.cells (grownCap w (n + m) old e - (n + m))) e)) row := by
    intro old ho row
    have hge := grownCap_ge w (n + m) old e
    have hcm : grownCap w (n + m) old e ≤ maxLen := grownCap_le_maxLen w (n + m) old e hmax
    refine ⟨⟨hlen, .inr ⟨w.heap.size, _, _, rfl, Nat.zero_le _, heap_alloc_new w.drew _, hge, hcm, ?_, ?_⟩⟩, ⟨rfl, rfl, rfl, by simp, fun k hk _ => heap_alloc_old w.drew _ hk⟩⟩
    · simp only [Array.size_append, List.size_toArray, size_zeroCells, hzs, hown.1, ← Nat.add_mul]
      congr 1
      omega
    · simp only [Array.toList_append, List.append_assoc]
      rw [← List.append_assoc, ← hlen]
      exact List.take_left
  by_cases hm : m = 0
  · subst hm
    have hz0 : (Builtin.zeroCells zv.cells 0).toList = [] := List.eq_nil_of_length_eq_zero (by simpa using hl)
    have hle : ∃ b0 c0, v = .slice b0 n c0 ∧ n ≤ c0 := by
      rcases hown.2 with ⟨rfl, rfl⟩ | ⟨g, cap, cur, rfl, _, _, hnc, _⟩
      · exact ⟨_, _, rfl, Nat.le_refl _⟩
      · exact ⟨_, _, rfl, hnc⟩
    obtain ⟨b0, c0, rfl, hc0⟩ := hle
    exact ⟨_, w, zeros_none (P := P) w t tn ty e i kq kn ht htn hi b0 n c0 hc0, by simpa [hz0] using hown, ⟨rfl, rfl, rfl, Nat.le_refl _, fun _ _ _ => rfl⟩, fun g hg => .inl hg⟩
  · rcases hown.2 with ⟨rfl, rfl⟩ | ⟨g, cap, cur, rfl, _, hg, hnc, hcm, hcs, htake⟩
    · have hx : xs = [] := List.eq_nil_of_length_eq_zero (by simpa using hown.1)
      subst hx
      have hr := Go.Lib.run_append_nil_zeros (P := P) w t tn ty e i zv kq kn ht htn hi hz m (by omega) h0z (by simp only [maxLen] at hmax; omega) (by omega)
      have hgr := grown 0 (by omega) (Value.ownBlock (.slice none 0 0))
      simp only [Nat.zero_add, List.nil_append, Array.empty_append] at hgr ⊢
      exact ⟨_, _, hr, hgr.1, hgr.2, fun g hg => by simp only [Value.ownBlock, Option.some.injEq] at hg; omega⟩
    · by_cases hroom : n + m ≤ cap
      · have hfit : n * i.size + m * i.size ≤ cur.size := by rw [hcs, ← Nat.add_mul]; exact Nat.mul_le_mul_right _ hroom
        have hr := zeros_room (P := P) w t tn ty e i zv kq kn ht htn hi hz g n cap cur hg m (by omega) h0z hzs (by simp only [maxLen] at hmax; omega) (by omega) h1 hroom hfit
        refine ⟨_, _, hr, ⟨hlen, .inr ⟨g, cap, _, rfl, Nat.zero_le _, setRow_heap w g cur _ e _ hg, hroom, hcm, ?_, ?_⟩⟩, ⟨rfl, rfl, rfl, by simp, fun k _ hk => setRow_other w g k _ (fun e => hk (by simp [Value.ownBlock, e]))⟩, fun g' hg' => .inl hg'⟩
        · simp only [List.size_toArray, List.length_append, List.length_take, List.length_drop, hl, Array.length_toList]
          omega
        · simp only [htake]
          rw [← hlen]
          exact List.take_left
      · have holds : ∀ j u, xs[j]? = some u → w.cell? ((⟨g, 0, none⟩ : Addr).add j) = some u := hown.cells (g := g) rfl
        have hold := run_firstCells_some (P := P) w.drew i.size n ⟨g, 0, none⟩ n cap xs hown.1 holds
        have hr := Go.Lib.run_append_grow_zeros (P := P) w t tn ty e i zv kq kn ht htn hi hz (some ⟨g, 0, none⟩) n cap xs hold m (by omega) h0z (by omega) (by simp only [maxLen] at hmax; omega) (by omega) (growslice_fits (by omega) hb)
        have hgr := grown cap (by omega) (Value.ownBlock (.slice (some ⟨g, 0, none⟩) n cap))
        exact ⟨_, _, hr, hgr.1, hgr.2, fun g' hg' => by simp only [Value.ownBlock, Option.some.injEq] at hg'; omega⟩

/-- An append, as what it leaves of memory. -/
theorem append_next [LawAb A] {mem : Mem A} (hm : MemRel I ρ mem w) (hmine : Mine I Own ρ mem)
    (hocc : ∀ (k : Key) (bl : Blk A), at? I mem k = some bl → kinL (okKey mem ρ) bl.us) (hnew : ∀ b, w.heap.size ≤ b → Own b ∧ Own.src b) {key : Nat} (hk : mem[key]? = some none)
    {t t' e ty : TypeId} {z : Nat} {v X : Value} {n m : Nat} {xs news : List Value}
    (hR : ∃ v' w', (Builtin.append_ #[t, t'] ty #[v, X]).run P w = .ok v' w' ∧ w'.ownsRow 0 e z v' (n + m) (xs ++ news) ∧ w.grownBy w' v.ownBlock ∧ (∀ g, v'.ownBlock = some g → v.ownBlock = some g ∨ w.heap.size ≤ g))
    (hv : ∀ g, v.ownBlock = some g → (Own g ∧ Own.src g) ∧ ∀ k bl, at? I mem k = some bl → isDead bl.kd = false → (ρ k).none = false → (ρ k).blk ≠ g) {F : Nat → List (LV A)} (hF : rowCells ρ (n + m) z F = xs ++ news) (hFk : ∀ i, kinL (okKey mem ρ) (F i)) :
    ∃ w' ρ', (Builtin.append_ #[t, t'] ty #[v, X]).run P w = .ok (LV.tr ρ' (.vec (.own key) (n + m) : LV A)) w' ∧ Next I Own ρ ρ' mem (mem.set key (some ⟨.row e, [.rows (n + m) z F]⟩)) w w' ∧
      (LV.vec (.own key) (n + m) : LV A).kin (okKey (mem.set key (some ⟨.row e, [.rows (n + m) z F]⟩)) ρ') := by
  obtain ⟨v', w', hrun, h2, h3, h4⟩ := hR
  have hc : cellsL ρ [LV.rows (n + m) z F] = xs ++ news := by rw [cellsL_rows, hF]
  have hrow : ∀ k bl, at? I mem k = some bl → isDead bl.kd = false → (ρ k).none = false → some (ρ k).blk ≠ v.ownBlock := by
    intro k bl h5 h6 h7 e
    exact (hv _ e.symm).2 k bl h5 h6 h7 rfl
  have fin : ∀ l : Loc, vecV l (n + m) = v' → n + m ≤ l.cap → Fresh I Own ρ mem w' l ⟨.row e, [.rows (n + m) z F]⟩ → ∃ w' ρ', (Builtin.append_ #[t, t'] ty #[v, X]).run P w = .ok (LV.tr ρ' (.vec (.own key) (n + m) : LV A)) w' ∧ Next I Own ρ ρ' mem (mem.set key (some ⟨.row e, [.rows (n + m) z F]⟩)) w w' ∧
      (LV.vec (.own key) (n + m) : LV A).kin (okKey (mem.set key (some ⟨.row e, [.rows (n + m) z F]⟩)) ρ') := by
    intro l hlv hcap hf
    obtain ⟨n1, n2⟩ := Next.fresh hm hmine hocc hk h3 hrow (fun b hb => (hv b hb).1.1) hf
    exact ⟨w', _, by rw [hrun, ← hlv]; simp [LV.tr, upd_self], n1, okKey_le n2 hcap⟩
  rcases h2.2 with ⟨e1, e2⟩ | ⟨g, cap', cur, e1, _, e3, e4, e5, e6, e7⟩
  · subst e1
    have hlv : vecV ⟨0, 0, 0, true, none⟩ (n + m) = .slice none 0 0 := by rw [e2]; rfl
    refine fin ⟨0, 0, 0, true, none⟩ hlv (by simp only; omega) ?_
    have hx : xs ++ news = [] := List.eq_nil_of_length_eq_zero (by rw [h2.1, e2]; simp)
    exact {
      kin := ⟨hFk, trivial⟩
      cell := fun i u hu => by rw [hc, hx] at hu; simp at hu
      free := fun _ i hi => by simp [cszL, csz, e2] at hi
      inb := fun hn => by cases hn
      own := fun _ hn => by cases hn
      src := fun hn => by cases hn
      far := fun _ hn => by cases hn
      near := fun hn => by cases hn
      row := fun e' he' => by cases he'; exact ⟨n + m, z, F, rfl, rfl, by rw [hlv, hc]; exact h2⟩
      nilc := fun _ => rfl
      empt := fun _ => by simp [cszL, csz, e2]
      dead := rfl }
  · subst e1
    have hlv : vecV ⟨g, 0, cap', false, none⟩ (n + m) = .slice (some ⟨g, 0, none⟩) (n + m) cap' := rfl
    refine fin ⟨g, 0, cap', false, none⟩ hlv e4 ?_
    have hg := h4 g rfl
    have hfar : ∀ k bl', at? I mem k = some bl' → isDead bl'.kd = false → (ρ k).none = false → (ρ k).blk ≠ g := by
      intro k bl' h5 h6 h7
      rcases hg with hg | hg
      · exact (hv g hg).2 k bl' h5 h6 h7
      · exact inb_lt hm g hg k bl' h5 h6 h7
    exact {
      kin := ⟨hFk, trivial⟩
      cell := fun i u hu => by
        rw [hc] at hu
        have := h2.cells (g := g) rfl i u hu
        rw [Addr.add_lit] at this
        exact this
      free := fun _ i hi => by simp [World.frozen?, Loc.at, e3]
      inb := fun _ => (Array.getElem?_eq_some_iff.1 e3).1
      own := fun _ _ => by
        rcases hg with hg | hg
        · exact (hv g hg).1.1
        · exact (hnew g hg).1
      src := fun _ => by
        rcases hg with hg | hg
        · exact (hv g hg).1.2
        · exact (hnew g hg).2
      far := fun _ _ => hfar
      near := fun _ k bl' h5 h6 h7 => hfar _ bl' (at_own h5) (by cases hk' : bl'.kd <;> rw [hk'] at h6 <;> first | rfl | cases h6) h7
      row := fun e' he' => by cases he'; exact ⟨n + m, z, F, rfl, rfl, by rw [hlv, hc]; exact h2⟩
      nilc := fun hn => by cases hn
      empt := fun hn => by cases hn
      dead := rfl }

/-- Rows, and rows behind them. -/
theorem rowCells_append (n m z : Nat) (f g : Nat → List (LV A)) : rowCells ρ (n + m) z (fun j => mrgR (Nat.blt j n) (f j) (g (j - n))) = rowCells ρ n z f ++ rowCells ρ m z g := by
  apply List.ext_getElem?
  intro j
  by_cases hj : j < (n + m) * z
  · obtain ⟨i, r, rfl, hr, hi⟩ := row_split' hj
    rw [get_rowCells ρ _ hi hr, mrgR_sound]
    by_cases hin : i < n
    · have := row_lt (z := z) hin
      rw [List.getElem?_append_left (by rw [len_rowCells]; omega), get_rowCells ρ _ hin hr, ltB hin]
      rfl
    · have e1 : Nat.blt i n = false := by
        cases hb : Nat.blt i n with
        | true => exact absurd (bltN hb) hin
        | false => rfl
      have e2 : n * z ≤ i * z := Nat.mul_le_mul_right z (by omega)
      rw [List.getElem?_append_right (by rw [len_rowCells]; omega), len_rowCells, e1]
      have e3 : i * z + r - n * z = (i - n) * z + r := by rw [Nat.sub_mul]; omega
      rw [e3, get_rowCells ρ _ (by omega) hr]
      rfl
  · rw [List.getElem?_eq_none (by rw [len_rowCells]; omega), List.getElem?_eq_none (by simp [len_rowCells, ← Nat.add_mul]; omega)]

theorem rows_one [LawAb A] (n z : Nat) (g : Nat → List (LV A)) : ∀ u ∈ rowCells ρ n z g, u.oneCell' = true := by
  intro u hu
  exact one_cells ρ (.rows n z g) u hu
theorem appZ_spec [LawAb A] {t t' e : TypeId} {z bs : Nat} {v : LV A} (h : appZ P t t' = some (e, z, bs, v)) :
    P.underlying t = some (.slice e) ∧ (∃ k, P.underlying t' = some (.int k)) ∧ ∃ i z', P.info? e = some i ∧ i.zero = some z' ∧ i.size = z ∧ i.bytes = bs ∧ z'.cells.size = z ∧ 0 < z ∧ 0 < bs ∧ (∀ ρ, z'.cells.toList = cellsL ρ (units v)) ∧ ∀ p, v.kin p := by
  unfold appZ at h
  split at h
  rotate_left
  · cases h
  rename_i e1 e2 ht ht'
  split at h
  rotate_left
  · cases h
  rename_i z1 b1 u hz hb hu
  split at h
  rotate_left
  · cases h
  rename_i hh
  simp only [Option.some.injEq, Prod.mk.injEq] at h; obtain ⟨rfl, rfl, rfl, rfl⟩ := h
  obtain ⟨h1, h2⟩ := both hh
  obtain ⟨h3, h4⟩ := both h1
  refine ⟨ht, ⟨_, ht'⟩, ?_⟩
  unfold sizeT at hz; unfold bytesT at hb; unfold zeroT at hu
  split at hz
  · rename_i i hi
    rw [hi] at hb hu
    simp only [Option.some.injEq] at hz hb
    simp only at hu
    split at hu
    · rename_i v' hv
      have key : ∀ ρ, v'.cells.toList = cellsL ρ (units u) := fun ρ => by
        have e1 := (ofConst_sound ρ hu).1
        rw [← e1, cells_tr _ (ofConst_noTup hu), cellsL_units]
      refine ⟨i, v', hi, hv, hz, hb, ?_, bltN h3, bltN h4, key, (ofConst_sound (fun _ => ⟨0, 0, 0, false, none⟩) hu).2⟩
      rw [← Array.length_toList, key (fun _ => ⟨0, 0, 0, false, none⟩), len_cellsL]
      exact beqN h2
    · cases hu
  · cases hz
/-- What is appended, as the model appends it. -/
theorem appSrc_run [LawAb A] {S : Sig A} (hI : S.inp = I) {rc : Bool} {mem : Mem A} {t t' e ty : TypeId} {x : LV A} {z bs m : Nat} {g : Nat → List (LV A)} {c : Cnd} (hm : MemRel I ρ mem w) (h : appSrc P S rc mem t t' x = some (e, z, bs, m, g, c)) (hc : condOk c)
    {v : Value} {n : Nat} {xs : List Value} (hown : w.ownsRow 0 e z v n xs) (hb : (n + m) * bs ≤ 2 ^ 47) :
    (∃ v' w', (Builtin.append_ #[t, t'] ty #[v, LV.tr ρ x]).run P w = .ok v' w' ∧ w'.ownsRow 0 e z v' (n + m) (xs ++ rowCells ρ m z g) ∧ w.grownBy w' v.ownBlock ∧ (∀ g, v'.ownBlock = some g → v.ownBlock = some g ∨ w.heap.size ≤ g)) ∧
      ∀ p, (∀ (k : Key) (bl : Blk A), at? I mem k = some bl → kinL p bl.us) → ∀ i, kinL p (g i) := by
  unfold appSrc at h
  split at h
  · rename_i e1 z1 b1 hty
    split at h
    · rename_i m1 g1 c1 hrows
      simp only [Option.some.injEq, Prod.mk.injEq] at h; obtain ⟨rfl, rfl, rfl, rfl, rfl, rfl⟩ := h
      obtain ⟨src, cap1, e1, e2, e3, e4⟩ := rowsV_sound hI hm hrows hc
      rw [e1]
      exact ⟨append_run hty hown e2 (len_rowCells ρ _ _ g1) e3 (rows_one _ _ _) hb, e4⟩
    · cases h
  · split at h
    · rename_i e1 z1 b1 u hz
      split at h
      · rename_i k n1
        split at h
        · rename_i c1 h1
          simp only [Option.some.injEq, Prod.mk.injEq] at h; obtain ⟨rfl, rfl, rfl, rfl, rfl, rfl⟩ := h
          obtain ⟨ht, ⟨kn, htn⟩, i, z', hi, hz', hsz, hbs, hzs, h0z, h0b, key, hkin⟩ := appZ_spec hz
          have hn := of_decide_eq_true (chkC_ok h1 hc)
          have hcell : (Builtin.zeroCells z'.cells n1.toNat).toList = rowCells ρ n1.toNat z1 (fun _ => units u) := by
            apply List.ext_getElem?
            intro j
            by_cases hj : j < n1.toNat * z1
            · obtain ⟨q, r, rfl, hr, hq⟩ := row_split' hj
              have hul : (cellsL ρ (units u)).length = z1 := by rw [← key ρ, Array.length_toList, hzs]
              rw [get_rowCells ρ _ hq hr, fitTo_eq hul, ← key ρ]
              have hlt : q * z1 + r < n1.toNat * z'.cells.size := by rw [hzs]; exact hj
              have hrs : r < z'.cells.size := by rw [hzs]; exact hr
              have hmod : (q * z1 + r) % z1 = r := by
                rw [Nat.add_comm, Nat.add_mul_mod_self_right, Nat.mod_eq_of_lt hr]
              simp only [Builtin.zeroCells, Array.toList_map, Array.toList_range, List.getElem?_map, hzs, List.getElem?_range hj, Option.map_some, hmod]
              rw [Array.getElem?_toList, Array.getElem?_eq_getElem hrs, getElem!_pos z'.cells r hrs]
            · rw [List.getElem?_eq_none (by rw [Array.length_toList, size_zeroCells, hzs]; omega), List.getElem?_eq_none (by rw [len_rowCells]; omega)]
          have := zeros_run (P := P) (ty := ty) (kq := k) ht htn hi hz' hsz hbs hzs h0z h0b hown n1.toNat (by rw [hcell]; exact rows_one _ _ _) hb
          rw [hcell, show ((n1.toNat : Nat) : Int) = n1 by omega] at this
          exact ⟨this, fun p _ _ => kin_units (hkin p)⟩
        · cases h
      · cases h
    · cases h
end
end Go.Proofs.YtonmjdnkcngfjaaGreat.En

/- DERIVED. The operations that write: all of them; one step. -/
set_option linter.all false
namespace Go.Proofs.YtonmjdnkcngfjaaGreat.En
open Go Go.RowKit

section
variable {A : Type} [Ab A] {P : Program}
variable {I : Nat → Nat → List (LV A)} {Own : Dom} {w0 : World} {ρ : Key → Loc} {s : LS A} {a : Act} {w : World}

theorem MemRel.sub {mem mem' : Mem A} (h : MemRel I ρ mem w) (hs : ∀ (k : Nat) bl, mem'[k]? = some (some bl) → mem[k]? = some (some bl)) : MemRel I ρ mem' w := by
  have at' : ∀ k bl, at? I mem' k = some bl → at? I mem k = some bl := by
    intro k bl hk
    cases k with
    | own k => exact at_own (hs k bl (at_own' hk))
    | inp t i => exact hk
  exact {
    cell := fun k bl hk => h.cell k bl (at' k bl hk)
    free := fun k bl hk => h.free k bl (hs k bl hk)
    apart := fun k k' bl bl' hne hk hk' => h.apart k k' bl bl' hne (hs k bl hk) (at' k' bl' hk')
    inb := fun k bl hk => h.inb k bl (at' k bl hk)
    row := fun k bl e hk => h.row k bl e (hs k bl hk)
    nilc := h.nilc
    empt := fun k bl hk => h.empt k bl (at' k bl hk)
    dead := fun k bl hk => h.dead k bl (hs k bl hk) }

theorem lt_of_get {l : Mem A} {k : Nat} {x : Option (Blk A)} (h : l[k]? = some x) : k < l.length := by
  rcases Nat.lt_or_ge k l.length with h' | h'
  · exact h'
  · rw [List.getElem?_eq_none h'] at h; cases h

/-- Memory made longer by nothing. -/
theorem ext_get {m d : Mem A} {n k : Nat} {bl : Blk A} (hd : ∀ (k : Nat) bl, d[k]? ≠ some (some bl)) : (m ++ List.replicate n none ++ d)[k]? = some (some bl) ↔ m[k]? = some (some bl) := by
  constructor
  · intro h
    rw [List.append_assoc, List.getElem?_append] at h
    split at h
    · exact h
    · rw [List.getElem?_append] at h
      split at h
      · rw [List.getElem?_replicate] at h
        split at h <;> cases h
      · exact absurd h (hd _ _)
  · intro h
    rw [List.append_assoc, List.getElem?_append_left (lt_of_get h)]
    exact h

/-- A copy. -/
theorem copy_sound [LawAb A] {S : Sig A} (hI : S.inp = I) {rc : Bool} {x : LV A} {m z : Nat} {g : Nat → List (LV A)} {c1 c2 : Cnd} (hr : Rl I Own w0 ρ s a w) (hrows : rowsV S rc s.mem z x = some (m, g, c1)) (hc1 : condOk c1) {dT sT ty e : TypeId} (ht : P.underlying dT = some (.slice e)) (hz : sizeT P e = some z)
    {b : Nat} {o : Nat} {p : List Stp} {len : Nat} {bl : Blk A} {us' : List (LV A)} (hb : s.mem[b]? = some (some bl)) (hw : isWr bl.kd = true) (hput : putRows rc bl.us o p z len (Nat.min m len) g = some (us', c2)) (hc2 : condOk c2) (hok : rowOk bl.kd bl.us us' = true) :
    (∀ cap, ∃ w', (Builtin.copy_ #[dT, sT] ty #[.slice (some ((ρ (.own b)).at (adr o p))) len cap, LV.tr ρ x]).run P w = .ok (.int .i64 (Nat.min m len)) w' ∧ Next I Own ρ ρ s.mem (s.mem.set b (some ⟨bl.kd, us'⟩)) w w') ∧
    (Nat.min m len = 0 → ∀ (q : Option Addr) cap, (Builtin.copy_ #[dT, sT] ty #[.slice q len cap, LV.tr ρ x]).run P w = .ok (.int .i64 (Nat.min m len)) w ∧ Next I Own ρ ρ s.mem (s.mem.set b (some ⟨bl.kd, us'⟩)) w w) := by
  obtain ⟨src, cap1, e1, e2, e3, e4⟩ := rowsV_sound hI hr.mem hrows hc1
  have hkin := e4 _ hr.occM
  have hwr := putRows_sound ρ p bl.us o us' c2 hput hc2
  have hkk : kinL (okKey s.mem ρ) us' := kin_putRows hkin p bl.us o us' c2 hput (hr.occM _ bl (at_own hb))
  have hn1 : Nat.min m len ≤ m := Nat.min_le_left _ _
  have hl := len_rowCells ρ (Nat.min m len) z g
  have hfirst : (Builtin.firstCells z (Nat.min m len) (LV.tr ρ x)).run P w = .ok (rowCells ρ (Nat.min m len) z g).toArray w := by
    rw [e1]
    cases src with
    | none =>
      have h0 : Nat.min m len = 0 := by have := (e2 rfl).1; omega
      rw [h0]
      simp [Builtin.firstCells, rowCells]
    | some ad =>
      refine run_firstCells_some w z _ ad m cap1 _ hl ?_
      intro j u hj
      have hlt : j < Nat.min m len * z := by
        rcases Nat.lt_or_ge j (Nat.min m len * z) with h' | h'
        · exact h'
        · rw [List.getElem?_eq_none (by rw [hl]; exact h')] at hj; cases hj
      refine e3 ad rfl j u ?_
      obtain ⟨i, r, rfl, hr', hi⟩ := row_split' hlt
      rw [get_rowCells ρ _ hi hr'] at hj
      rw [get_rowCells ρ _ (by omega) hr']
      exact hj
  have hlen : (Builtin.lenOf (LV.tr ρ x)).run P w = .ok m w := by rw [e1]; rfl
  have hst : ∀ j, j < (rowCells ρ (Nat.min m len) z g).length → (w.cell? ((ρ (.own b)).at (adr o p + (0 + j)))).isSome = true ∧ w.frozen? ((ρ (.own b)).at (adr o p + (0 + j))) = false := by
    intro j hj
    have hfit := hwr.fit
    have hL := len_cellsL ρ bl.us
    rw [Nat.zero_add]
    refine ⟨?_, hr.mem.free b bl hb hw _ (by omega)⟩
    rw [hr.mem.cell _ bl (at_own hb) (adr o p + j) _ (List.getElem?_eq_getElem (by omega))]
    rfl
  constructor
  · intro cap
    obtain ⟨w', h1, h2⟩ := run_storeCells_put (P := P) (ρ (.own b)) (adr o p) _ 0 w hst (rows_one _ _ _)
    refine ⟨w', ?_, Next.put hr.mem hr.mine hr.occM hb hw (by simpa using h2) hwr hok hkk⟩
    simp [Builtin.copy_, run_underlying ht, hlen, run_sizeOf w hz, hfirst, h1, goInt]
  · intro h0 q cap
    have hx : rowCells ρ (Nat.min m len) z g = [] := by rw [h0]; rfl
    obtain ⟨w', h1, h2⟩ := run_storeCells_put (P := P) (ρ (.own b)) (adr o p) _ 0 w hst (rows_one _ _ _)
    have hw' : w' = w := h2.none hx
    subst hw'
    refine ⟨?_, Next.put hr.mem hr.mine hr.occM hb hw (by simpa using h2) hwr hok hkk⟩
    cases q with
    | none => simp [Builtin.copy_, run_underlying ht, hlen, run_sizeOf w' hz, hfirst, goInt]
    | some ad =>
      rw [hx] at hfirst
      simp [Builtin.copy_, run_underlying ht, hlen, run_sizeOf w' hz, hfirst, goInt, storeCells]

/-- A call that writes, out of its contract. -/
theorem call_sound [LawAb A] {cr : CallR A} (hcr : CallOk P I cr) {key r : Nat} {f : FuncId} {vs : List (LV A)} {v : LV A} {m' : Mem A} {c : Cnd} (h : cr f vs (s.mem.take key) = some (v, m', c)) (hc : condOk c) (hkl : key ≤ s.mem.length) (hfree : ∀ k, key ≤ k → ∀ bl, s.mem[k]? ≠ some (some bl))
    (hr : Rl I Own w0 ρ s a w) (hvs : kinL (okKey s.mem ρ) vs) : Calls P f (trs ρ vs).toArray w fun e w' => ∃ ρ', e = .returned (LV.tr ρ' v) ∧ Next I Own ρ ρ' s.mem (m' ++ List.replicate (key + r - m'.length) none ++ s.mem.drop (key + r)) w w' ∧ v.kin (okKey (m' ++ List.replicate (key + r - m'.length) none ++ s.mem.drop (key + r)) ρ') := by
  have hnew : ∀ b, w.heap.size ≤ b → Own b ∧ Own.src b := fun b hb => hr.new b (Nat.le_trans hr.keeps.size hb)
  have hlt : ∀ (k : Nat) bl, s.mem[k]? = some (some bl) → k < key := by
    intro k bl hk
    rcases Nat.lt_or_ge k key with h' | h'
    · exact h'
    · exact absurd hk (hfree k h' bl)
  have hdrop : ∀ (k : Nat) bl, (s.mem.drop (key + r))[k]? ≠ some (some bl) := by
    intro k bl hk
    rw [List.getElem?_drop] at hk
    exact hfree _ (by omega) bl hk
  have hto : ∀ k q, okKey s.mem ρ k q → okKey (s.mem.take key) ρ k q := by
    intro k q hk
    cases k with
    | own k =>
      obtain ⟨⟨bl, hb⟩, hq⟩ := hk
      exact ⟨⟨bl, by rw [List.getElem?_take_of_lt (hlt k bl hb)]; exact hb⟩, hq⟩
    | inp t i => exact hk
  have hah : Ahead I Own ρ (s.mem.take key) vs w := {
    mem := hr.mem.take key
    mine := hr.mine.sub fun k bl hk => take_get hk
    new := hnew
    kinV := kinL_mono hto _ hvs
    kinM := fun k bl hk => kinL_mono hto _ (hr.occM k bl (at_take hk)) }
  refine (hcr.call f vs _ v m' c h hc Own ρ w hah).mono ?_
  rintro e w' ⟨ρ', he, hl⟩
  refine ⟨ρ', he, ?_, ?_⟩
  · have hg := (hcr.grow f vs _ v m' c h).2
    refine ⟨?_, ?_, hl.mem.sub (fun k bl hk => (ext_get hdrop).1 hk), hl.mine.sub (fun k bl hk => (ext_get hdrop).1 hk), hl.keeps, ?_⟩
    · exact fun k q hk => hl.agree k q (hto k q hk)
    · intro k bl hb
      have h1 := hlt k bl hb
      obtain ⟨bl', hb'⟩ := (hg k (by rw [List.length_take, Nat.min_eq_left hkl]; exact h1)).1 ⟨bl, by rw [List.getElem?_take_of_lt h1]; exact hb⟩
      exact ⟨bl', (ext_get hdrop).2 hb'⟩
    · intro k bl hk
      refine kinL_mono ?_ _ (hl.kinM k bl ?_)
      · intro k q hk
        cases k with
        | own k => obtain ⟨⟨b1, hb1⟩, hq⟩ := hk; exact ⟨⟨b1, (ext_get hdrop).2 hb1⟩, hq⟩
        | inp t i => exact hk
      · cases k with
        | own k => exact at_own ((ext_get hdrop).1 (at_own' hk))
        | inp t i => exact hk
  · refine kin_mono ?_ _ hl.kinV
    intro k q hk
    cases k with
    | own k => obtain ⟨⟨b1, hb1⟩, hq⟩ := hk; exact ⟨⟨b1, (ext_get hdrop).2 hb1⟩, hq⟩
    | inp t i => exact hk

theorem wr_sound [LawAb A] {S : Sig A} {cr : CallR A} (hI : S.inp = I) (hcr : CallOk P I cr) {o : Oper} {rc : Bool} {key r : Nat} {v : LV A} {m : Mem A} {c : Cnd} (h : wrR P S cr rc (ev s.tmps) s.mem key r o.op = some (v, m, c)) (hc : condOk c) (hk : 0 < r → s.mem[key]? = some none) (hkl : key ≤ s.mem.length)
    (hfree : ∀ k, key ≤ k → ∀ bl, s.mem[k]? ≠ some (some bl)) (hr : Rl I Own w0 ρ s a w) {K : Act → World → Prop} {Q : Exit → Act → World → Prop} (hK : ∀ ρ' w', Next I Own ρ ρ' s.mem m w w' → v.kin (okKey m ρ') → K (a.put o.dst (LV.tr ρ' v)) w') : o.wp P a w K Q := by
  obtain ⟨dst, op, ty, pos, after, guard⟩ := o
  have hnew : ∀ b, w.heap.size ≤ b → Own b ∧ Own.src b := fun b hb => hr.new b (Nat.le_trans hr.keeps.size hb)
  cases op <;> simp only [wrR] at h <;> try (cases h; done)
  case store t x y =>
    split at h
    rotate_left
    · cases h
    rename_i b o p u hx hy
    have hx := (ev_sound hr hx).1
    have hy := ev_sound hr hy
    split at h
    rotate_left
    · cases h
    rename_i bl hb
    split at h
    rotate_left
    · cases h
    rename_i n hz
    split at h
    rotate_left
    · cases h
    rename_i hst
    obtain ⟨hst1, hst2⟩ := both hst
    obtain ⟨hwr, hn⟩ := both hst1
    have hn := beqN hn
    split at h
    rotate_left
    · cases h
    rename_i us' c' hw
    split at h
    rotate_left
    · cases h
    rename_i c3 hok0
    simp only [Option.some.injEq, Prod.mk.injEq] at h; obtain ⟨rfl, rfl, rfl⟩ := h
    obtain ⟨hc, hc3⟩ := andC_ok hc
    have hok := chkC_ok hok0 hc3
    have hwr' := wrP_sound ρ p bl.us o (units u) us' c' hw hc
    rw [cellsL_units] at hwr'
    have hlen : (cellsL ρ bl.us).length = cszL bl.us := len_cellsL ρ bl.us
    have hvl : (LV.cells ρ u).length = n := by rw [← cellsL_units, len_cellsL]; exact hn
    have hcell : ∀ j, j < (LV.cells ρ u).length → (w.cell? ((ρ (.own b)).at (adr o p + (0 + j)))).isSome = true ∧ w.frozen? ((ρ (.own b)).at (adr o p + (0 + j))) = false := by
      intro j hj
      have := hwr'.fit
      rw [Nat.zero_add]
      refine ⟨?_, hr.mem.free b _ hb hwr _ (by omega)⟩
      rw [hr.mem.cell _ bl (at_own hb) (adr o p + j) _ (List.getElem?_eq_getElem (by omega))]
      rfl
    obtain ⟨w', hrun, hw2⟩ := run_storeCells_put (P := P) (ρ (.own b)) (adr o p) (LV.cells ρ u) 0 w hcell (one_cells ρ u)
    have hne := Next.put hr.mem hr.mine hr.occM hb hwr (by simpa using hw2) hwr' hok (kin_wrP _ _ _ _ _ _ hw (hr.occM _ bl (at_own hb)) (kin_units hy.2))
    have hcl : (LV.tr ρ u).cells = (LV.cells ρ u).toArray := by
      cases u
      case vec b len => simp only [LV.tr, LV.cells, vecV]; split <;> rfl
      case tup vs => simp [units, stor] at hst2
      case any => simp [units, stor] at hst2
      case undef => simp [units, stor] at hst2
      all_goals simp [LV.tr, LV.cells, Value.cells]
    have hrun' : (execOp a.eval { dst, op := .store t x y, type := ty, pos, after, guard }).run P w = .ok .skip w' := by
      simp only [execOp, hx, hy.1, Instr.storeAt, Instr.sureAddr, LV.tr, storeVar, Sem.run_bind, Sem.run_pure, Result.andThen_ok, run_sizeOf w hz, hcl]
      have : (LV.cells ρ u).toArray.size = n := by simpa using hvl
      rw [if_neg (by rw [this]; simp)]
      simp [hrun]
    unfold Oper.wp
    rw [hrun', Oper.upon_skip]
    exact hK ρ w' hne trivial
  case slice t x low high max =>
    split at h
    rotate_left
    · cases h
    rename_i b len e hx ht
    have hx := ev_sound hr hx
    split at h
    rotate_left
    · cases h
    rename_i z b0 hz hb0
    split at h
    rotate_left
    · cases h
    rename_i v' bl' c' hv hdd
    simp only [Option.some.injEq, Prod.mk.injEq] at h; obtain ⟨rfl, rfl, rfl⟩ := h
    simp only [Bool.or_eq_false_iff] at hdd
    obtain ⟨hdead, hr0⟩ := hdd
    have hr0 : 0 < r := by
      rcases Nat.eq_zero_or_pos r with h' | h'
      · subst h'; simp [Nat.beq_refl] at hr0
      · exact h'
    simp only [viewR] at hv
    split at hv
    rotate_left
    · cases hv
    rename_i l hh m ok bl1 hbn hb1
    have hb1' : bl1 = b0 := by
      simp only [getB, hb0, Option.some.injEq] at hb1
      exact hb1.symm
    subst hb1'
    split at hv
    rotate_left
    · cases hv
    rename_i c1 g c2 hck hrow
    have n0 := Next.weak (bl' := ⟨.ro, bl1.us⟩) hr.mem hr.mine hr.occM hb0 (.inl ⟨rfl, hdead⟩)
    have fin : condOk c1 → condOk c2 → ∃ w' ρ', (execOp a.eval { dst, op := .slice t x low high max, type := ty, pos, after, guard }).run P w = .ok (.value (LV.tr ρ' (.vec (.own key) (hh - l) : LV A))) w' ∧ Next I Own ρ ρ' s.mem ((s.mem.set b (some ⟨.ro, bl1.us⟩)).set key (some ⟨.ro, [.rows (hh - l) z fun j => g (l + j)]⟩)) w w' ∧ (LV.vec (.own key) (hh - l) : LV A).kin (okKey ((s.mem.set b (some ⟨.ro, bl1.us⟩)).set key (some ⟨.ro, [.rows (hh - l) z fun j => g (l + j)]⟩)) ρ') := by
      intro k1 k2
      have hcap : len ≤ (ρ (.own b)).cap := hx.2.2
      obtain ⟨m', h1, h2, h3, h4, h5, _⟩ := bnds_cap (P := P) hr hcap hbn (chkC_ok hck k1)
      have hbs : (s.mem.set b (some ⟨.ro, bl1.us⟩))[b]? = some (some ⟨.ro, bl1.us⟩) := List.getElem?_set_self (lt_of_get hb0)
      obtain ⟨loc, src, e1, e2, e3, hf⟩ := view_fresh (Own := Own) (bl := ⟨.ro, bl1.us⟩) n0.mem n0.mine n0.occM (at_own hbs) rfl rfl hrow k2 hcap h2 h3 h4 h5
      have hkk : (s.mem.set b (some (⟨.ro, bl1.us⟩ : Blk A)))[key]? = some none := by
        have := hk hr0
        rw [List.getElem?_set_ne (by rintro rfl; rw [hb0] at this; cases this)]
        exact this
      obtain ⟨n1, n2⟩ := Next.fresh n0.mem n0.mine n0.occM hkk (w' := w) (row := none) ⟨rfl, rfl, rfl, Nat.le_refl _, fun _ _ _ => rfl⟩ (fun _ _ _ _ _ e => by cases e) (fun _ e => by cases e) hf
      refine ⟨w, _, ?_, n0.trans n1, okKey_le n2 e3⟩
      have he : LV.tr ρ (.vec (.own b) len : LV A) = .slice src len (ρ (.own b)).cap := e1
      simp only [execOp, hx.1, he]
      simp [Instr.sliceAt, Instr.slice, run_underlying ht, h1, run_sizeOf w hz, LV.tr, upd_self, e2]
    have go : ∀ {v' : LV A} {m1 : Mem A}, (∃ w' ρ', (execOp a.eval { dst, op := .slice t x low high max, type := ty, pos, after, guard }).run P w = .ok (.value (LV.tr ρ' v')) w' ∧ Next I Own ρ ρ' s.mem m1 w w' ∧ v'.kin (okKey m1 ρ')) → (∀ ρ' w', Next I Own ρ ρ' s.mem m1 w w' → v'.kin (okKey m1 ρ') → K (a.put dst (LV.tr ρ' v')) w') → Oper.wp P { dst, op := .slice t x low high max, type := ty, pos, after, guard } a w K Q := by
      rintro v' m1 ⟨w', ρ', h1, h2, h3⟩ hK
      unfold Oper.wp
      rw [h1, Oper.upon_value]
      exact hK ρ' w' h2 h3
    split at hv
    · simp only [Option.some.injEq, Prod.mk.injEq] at hv; obtain ⟨rfl, rfl, rfl⟩ := hv
      obtain ⟨k1, k2⟩ := andC_ok hc
      obtain ⟨_, _, _, _, _, _, hl0⟩ := bnds_cap (P := P) (w := w) hr (Nat.le_refl len) hbn (chkC_ok hck k1)
      have hl0 := hl0 rfl
      subst hl0
      have := fin k1 k2
      simp only [Nat.sub_zero, Nat.zero_add] at this
      exact go this hK
    · simp only [Option.some.injEq, Prod.mk.injEq] at hv; obtain ⟨rfl, rfl, rfl⟩ := hv
      obtain ⟨k1, k2⟩ := andC_ok hc
      exact go (fin k1 k2) hK
  case call cl =>
    obtain ⟨callee, args, ats⟩ := cl
    simp only at h
    split at h
    rotate_left
    · cases h
    rename_i vs hvs
    have hm := mapE_arr hr hvs
    have hkv := (mapE_sound hr hvs).2
    split at h
    · -- append
      split at h
      rotate_left
      · cases h
      rename_i s1 x t t' hats
      split at h
      rotate_left
      · cases h
      rename_i e z bs mm g c1 r' hsrc
      have hats' : ats = #[t, t'] := by apply Array.ext'; simpa using hats
      subst hats'
      have go : ∀ {v' : LV A} {m1 : Mem A}, (∃ w' ρ', (Builtin.append_ #[t, t'] ty #[LV.tr ρ s1, LV.tr ρ x]).run P w = .ok (LV.tr ρ' v') w' ∧ Next I Own ρ ρ' s.mem m1 w w' ∧ v'.kin (okKey m1 ρ')) → (∀ ρ' w', Next I Own ρ ρ' s.mem m1 w w' → v'.kin (okKey m1 ρ') → K (a.put dst (LV.tr ρ' v')) w') →
          Oper.wp P { dst, op := .call ⟨.builtin .append, args, #[t, t']⟩, type := ty, pos, after, guard } a w K Q := by
        rintro v' m1 ⟨w', ρ', h1, h2, h3⟩ hK
        have : (execOp a.eval { dst, op := .call ⟨.builtin .append, args, #[t, t']⟩, type := ty, pos, after, guard }).run P w = .ok (.value (LV.tr ρ' v')) w' := by
          simp only [execOp, resolve, Sem.run_bind, Sem.run_pure, Result.andThen_ok, invoke, hm, builtin, trs]
          rw [h1]
          rfl
        unfold Oper.wp
        rw [this, Oper.upon_value]
        exact hK ρ' w' h2 h3
      split at h
      · split at h
        rotate_left
        · cases h
        rename_i c2 h2
        simp only [Option.some.injEq, Prod.mk.injEq] at h; obtain ⟨rfl, rfl, rfl⟩ := h
        obtain ⟨k1, k2⟩ := andC_ok hc
        obtain ⟨hR, e4⟩ := appSrc_run (P := P) (ty := ty) hI hr.mem hsrc k1 (World.ownsRow_nil w 0 e z) (by have := bleN (chkC_ok h2 k2); simpa using this)
        refine go ?_ hK
        have := append_next (P := P) (ty := ty) hr.mem hr.mine hr.occM hnew (hk (Nat.succ_pos _)) hR
          (fun g hg => by simp [Value.ownBlock] at hg) (F := g) (by simp) (fun i => e4 _ hr.occM i)
        simp only [Nat.zero_add] at this
        exact this
      · rename_i b n
        split at h
        rotate_left
        · cases h
        rename_i e' n' z' f hb
        split at h
        rotate_left
        · cases h
        rename_i c2 hez h2
        simp only [Option.some.injEq, Prod.mk.injEq] at h; obtain ⟨rfl, rfl, rfl⟩ := h
        obtain ⟨k1, k2⟩ := andC_ok hc
        obtain ⟨hee, hzz⟩ := both hez
        have hee := of_decide_eq_true hee
        have hzz := beqN hzz
        subst hee
        subst hzz
        obtain ⟨hnn, hbd⟩ := both (chkC_ok h2 k2)
        have hnn := beqN hnn
        subst hnn
        refine go ?_ hK
        have n0 := Next.weak (bl' := ⟨.dead, []⟩) hr.mem hr.mine hr.occM hb (.inr rfl)
        obtain ⟨n2, z2, f2, hus, hat0, hown⟩ := hr.mem.row b _ e hb rfl
        simp only [List.cons.injEq, LV.rows.injEq, and_true] at hus
        obtain ⟨rfl, rfl, rfl⟩ := hus
        rw [cellsL_rows] at hown
        have hkk : (s.mem.set b (some (⟨.dead, []⟩ : Blk A)))[key]? = some none := by
          have := hk (Nat.succ_pos _)
          rw [List.getElem?_set_ne (by rintro rfl; rw [hb] at this; cases this)]
          exact this
        have hvb : ∀ g, (vecV (ρ (.own b)) n').ownBlock = some g → (ρ (.own b)).none = false ∧ g = (ρ (.own b)).blk := by
          intro g hg
          refine ⟨?_, ?_⟩
          · cases hn : (ρ (.own b)).none with
            | false => rfl
            | true =>
              exfalso
              rcases hown.2 with ⟨h5, h6⟩ | ⟨g', cap', cur, h5, _, h7, h8, _⟩
              · rw [h5] at hg; simp [Value.ownBlock] at hg
              · have hcap := hr.mem.nilc _ hn
                unfold vecV at h5 hg
                split at h5
                · rw [hat0] at h5; cases h5
                · rename_i hb0
                  simp only [Value.slice.injEq] at h5
                  have : n' = 0 := by omega
                  rw [this, hn] at hb0
                  simp [Nat.beq_refl] at hb0
          · unfold vecV at hg
            split at hg
            · rw [hat0] at hg; simp [Value.ownBlock] at hg
            · simp only [Value.ownBlock, Loc.at, Option.some.injEq] at hg; exact hg.symm
        obtain ⟨hR, e4⟩ := appSrc_run (P := P) (ty := ty) hI hr.mem hsrc k1 hown (bleN hbd)
        have := append_next (P := P) (ty := ty) n0.mem n0.mine n0.occM hnew hkk hR
          (fun g hg => by
            obtain ⟨h5, rfl⟩ := hvb g hg
            refine ⟨⟨hr.mine.own b _ hb rfl h5, hr.mine.src _ _ (at_own hb) rfl h5⟩, fun k bl hk' hd' hn' => ?_⟩
            rcases at_set hk' with ⟨_, rfl⟩ | ⟨h6, h7⟩
            · cases hd'
            · exact fun e => hr.mem.apart b k _ bl (Ne.symm h6) hb h7 rfl hd' h5 hn' e.symm)
          (F := fun j => mrgR (Nat.blt j n') (f j) (g (j - n'))) (rowCells_append _ _ _ _ _)
          (fun i => kin_mrgR _ (kinL_mono n0.mono _ ((hr.occM _ _ (at_own hb)).1 i)) (kinL_mono n0.mono _ (e4 _ hr.occM _)))
        obtain ⟨w', ρ', r1, r2, r3⟩ := this
        exact ⟨w', ρ', r1, n0.trans r2, r3⟩
      · cases h
    · -- copy
      split at h
      rotate_left
      · cases h
      rename_i dst' src' t t' hats
      have hats' : ats = #[t, t'] := by apply Array.ext'; simpa using hats
      subst hats'
      split at h
      rotate_left
      · cases h
      rename_i e ht
      split at h
      rotate_left
      · cases h
      rename_i z hz
      split at h
      rotate_left
      · cases h
      rename_i mm g c1 hrows
      have go : ∀ {v' : LV A} {m1 : Mem A}, (∃ w' ρ', (Builtin.copy_ #[t, t'] ty #[LV.tr ρ dst', LV.tr ρ src']).run P w = .ok (LV.tr ρ' v') w' ∧ Next I Own ρ ρ' s.mem m1 w w' ∧ v'.kin (okKey m1 ρ')) → (∀ ρ' w', Next I Own ρ ρ' s.mem m1 w w' → v'.kin (okKey m1 ρ') → K (a.put dst (LV.tr ρ' v')) w') →
          Oper.wp P { dst, op := .call ⟨.builtin .copy, args, #[t, t']⟩, type := ty, pos, after, guard } a w K Q := by
        rintro v' m1 ⟨w', ρ', h1, h2, h3⟩ hK
        have : (execOp a.eval { dst, op := .call ⟨.builtin .copy, args, #[t, t']⟩, type := ty, pos, after, guard }).run P w = .ok (.value (LV.tr ρ' v')) w' := by
          simp only [execOp, resolve, Sem.run_bind, Sem.run_pure, Result.andThen_ok, invoke, hm, builtin, trs]
          rw [h1]
          rfl
        unfold Oper.wp
        rw [this, Oper.upon_value]
        exact hK ρ' w' h2 h3
      split at h
      · rename_i b o p len cap
        split at h
        rotate_left
        · cases h
        rename_i bl hb
        split at h
        rotate_left
        · cases h
        rename_i us' c2 hwr hput
        split at h
        rotate_left
        · cases h
        rename_i c3 hok0
        simp only [Option.some.injEq, Prod.mk.injEq] at h; obtain ⟨rfl, rfl, rfl⟩ := h
        obtain ⟨hc, hc3⟩ := andC_ok hc
        have hok := chkC_ok hok0 hc3
        obtain ⟨k1, k2⟩ := andC_ok hc
        obtain ⟨w', h1, h2⟩ := (copy_sound (P := P) (ty := ty) (sT := t') hI hr hrows k1 ht hz hb hwr hput k2 hok).1 cap
        exact go (v' := .int .i64 (Nat.min mm len)) ⟨w', ρ, h1, h2, trivial⟩ hK
      · rename_i b len
        split at h
        rotate_left
        · cases h
        rename_i bl hb
        split at h
        rotate_left
        · cases h
        rename_i us' c2 hwr hput
        split at h
        rotate_left
        · cases h
        rename_i c3 hok0
        simp only [Option.some.injEq, Prod.mk.injEq] at h; obtain ⟨rfl, rfl, rfl⟩ := h
        obtain ⟨hc, hc3⟩ := andC_ok hc
        have hok := chkC_ok hok0 hc3
        obtain ⟨k1, k2⟩ := andC_ok hc
        have hcs := copy_sound (P := P) (ty := ty) (sT := t') hI hr hrows k1 ht hz hb hwr hput k2 hok
        refine go ?_ hK
        show ∃ w' ρ', (Builtin.copy_ #[t, t'] ty #[vecV (ρ (.own b)) len, LV.tr ρ src']).run P w = _ ∧ _
        unfold vecV
        split
        · rename_i hnl
          have h0 := beqN (both hnl).2
          subst h0
          have h0 : Nat.min mm 0 = 0 := Nat.min_zero mm
          obtain ⟨h1, h2⟩ := hcs.2 h0 (ρ (.own b)).at0 0
          exact ⟨w, ρ, h1, h2, trivial⟩
        · obtain ⟨w', h1, h2⟩ := hcs.1 (ρ (.own b)).cap
          exact ⟨w', ρ, h1, h2, trivial⟩
      · cases h
    · -- a call
      rename_i f
      split at h
      rotate_left
      · cases h
      rename_i g caps hf
      have hf := ev_sound hr hf
      split at h
      rotate_left
      · cases h
      rename_i v' m' c' hcall
      split at h
      rotate_left
      · cases h
      rename_i hle
      simp only [Option.some.injEq, Prod.mk.injEq] at h; obtain ⟨rfl, rfl, rfl⟩ := h
      have hrun : (execOp a.eval { dst, op := .call ⟨.value f, args, ats⟩, type := ty, pos, after, guard }).run P w = .ok (.enter g (trs ρ (vs ++ caps)).toArray) w := by
        have e1 : a.eval f = .func (.func g) #[] (trs ρ caps).toArray := hf.1
        have e2 : (trs ρ (vs ++ caps)).toArray = (trs ρ vs).toArray ++ (trs ρ caps).toArray := by
          apply Array.ext'
          have : ∀ l : List (LV A), trs ρ (l ++ caps) = trs ρ l ++ trs ρ caps := by
            intro l
            induction l with
            | nil => rfl
            | cons x l ih => simp [trs, ih]
          simp [this]
        simp [execOp, resolve, Deferred.ofValue, invoke, e1, hm, e2, hcr.ent _ _ _ _ hcall]
      unfold Oper.wp
      rw [hrun, Oper.upon_enter]
      have hkk : kinL (okKey s.mem ρ) (vs ++ caps) := kinL_append hkv hf.2
      refine (call_sound hcr (r := r) hcall hc hkl hfree hr hkk).mono ?_
      rintro e w' ⟨ρ', rfl, h1, h2⟩
      exact hK ρ' w' h1 h2
    · cases h
end
end Go.Proofs.YtonmjdnkcngfjaaGreat.En

/- DERIVED. One step of the executor, and a region in its own order. -/
set_option linter.all false
namespace Go.Proofs.YtonmjdnkcngfjaaGreat.En
open Go Go.RowKit

section
variable {A : Type} [Ab A] {P : Program}
variable {I : Nat → Nat → List (LV A)} {Own : Dom} {w0 : World} {ρ : Key → Loc} {s : LS A} {a : Act} {w : World}

theorem memK_spec {l : List Nat} {k : Nat} (h : memK l k = false) : k ∉ l := by
  intro hk
  unfold memK at h
  rw [List.any_eq_false] at h
  exact h k hk (Nat.beq_refl k)
omit [Ab A] in
theorem onlyM_get (F : List Nat) : ∀ (i : Nat) (m : Mem A) (k : Nat), (onlyM F i m)[k]? = match memK F (i + k) with | true => m[k]? | false => (m[k]?).map fun _ => none
  | i, [], k => by
    simp only [onlyM, List.getElem?_nil, Option.map_none]
    cases memK F (i + k) <;> rfl
  | i, b :: l, 0 => by
    simp only [onlyM, List.getElem?_cons_zero, Nat.add_zero]
    cases memK F i <;> rfl
  | i, b :: l, k + 1 => by
    simp only [onlyM, List.getElem?_cons_succ]
    rw [onlyM_get F (i + 1) l k, show i + 1 + k = i + (k + 1) by omega]
omit [Ab A] in
theorem snapM_get {F : List Nat} {m : Mem A} {k : Nat} {bl : Blk A} (h : (snapM F m)[k]? = some (some bl)) : m[k]? = some (some bl) := by
  unfold snapM at h
  split at h
  · simp at h
  · rw [onlyM_get] at h
    split at h
    · exact h
    · cases hm : m[k]? <;> rw [hm] at h <;> cases h
theorem lookR_snap {S : Sig A} {rc : Bool} {d : Option Bool} {E : Operand → Option (LV A)} {F : List Nat} {m : Mem A} {o : Op} {r : LV A × Cnd} (hl : isLoad o = true) (h : lookR P S rc d E (snapM F m) o = some r) : lookR P S rc d E m o = some r := by
  cases o <;> simp only [isLoad, Bool.false_eq_true, reduceCtorEq] at hl
  simp only [lookR] at h ⊢
  split at h
  · rename_i b o p hx
    split at h
    · rename_i bl hb
      have : getB S m b = some bl := by
        cases b with
        | inp t i => exact hb
        | own k =>
          simp only [getB] at hb ⊢
          split at hb
          · rename_i b' hk; cases hb; rw [snapM_get hk]
          · cases hb
      rw [this]; exact h
    · cases h
  · cases h
theorem pureL_sound [LawAb A] [LawEq A] {S : Sig A} (hI : S.inp = I) (hS : SigOk P S) {o : Oper} {rc : Bool} {d : Option Bool} {v : LV A} {c : Cnd} {F : List Nat} {base : Nat} (h : pureL P S rc d (ev s.tmps) (snapM F (s.mem.take base)) o.op = some (v, c)) (hc : condOk c)
    (hr : Rl I Own w0 ρ s a w) : Does P o a w (LV.tr ρ v) ∧ v.kin (okKey s.mem ρ) := by
  unfold pureL at h
  split at h
  · rename_i hl
    exact look_sound (base := base) hI hS (lookR_snap hl h) hc hr
  · exact pure_sound hS h hc hr
/-- One step. -/
theorem step_sound [LawAb A] [LawEq A] {S : Sig A} (hI : S.inp = I) (hS : SigOk P S) {cr : CallR A} (hcr : CallOk P I cr) {x : Ctl} {o : Oper} {s' : LS A} (h : step P S cr x o s = some s')
    (hc : ∀ c, s'.conds[x.ck]? = some c → condOk c) (hck : x.ck < s.conds.length) (hk : 0 < x.r → s.mem[x.key]? = some none) (hkl : x.key ≤ s.mem.length) (hfree : kind P S.how x.fz o.op = .wr → ∀ k, x.key ≤ k → ∀ bl, s.mem[k]? ≠ some (some bl)) (hr : Rl I Own w0 ρ s a w)
    {K : Act → World → Prop} {Q : Exit → Act → World → Prop} (hK : ∀ ρ' a' w', (∀ k m, okKey s.mem ρ k m → ρ k = ρ' k) → Rl I Own w0 ρ' s' a' w' → K a' w') : o.wp P a w K Q := by
  unfold step at h
  simp only at h
  split at h
  · split at h
    · rename_i v c hp
      cases h
      have hc := hc c (by simp [hck])
      obtain ⟨h1, h2⟩ := pureL_sound hI hS hp hc hr
      exact h1 K Q fun w' hb => hK ρ _ _ (fun _ _ _ => rfl) (hr.next (hr.under hb) o.dst h2 _)
    · cases h
  · split at h
    · rename_i v c hp
      cases h
      have hc := hc c (by simp [hck])
      obtain ⟨h1, h2⟩ := look_sound hI hS hp hc hr
      exact h1 K Q fun w' hb => hK ρ _ _ (fun _ _ _ => rfl) (hr.next (hr.under hb) o.dst h2 _)
    · cases h
  · split at h
    · rename_i v b c hp
      split at h
      · rename_i hb
        cases h
        have hc := hc c (by simp [hck])
        obtain ⟨w', ρ', h1, h2, h3⟩ := new_sound hI hp hc (fun e => hk (by
          rcases Nat.eq_zero_or_pos x.r with h' | h'
          · rw [e, h'] at hb; simp [Nat.beq_refl] at hb
          · exact h')) hr
        unfold Oper.wp
        rw [h1, Oper.upon_value]
        exact hK ρ' _ _ h2.agree (hr.next h2 o.dst h3 _)
      · cases h
    · cases h
  · rename_i hkd
    split at h
    rotate_left
    · cases h
    split at h
    · rename_i v m c hp
      cases h
      have hc := hc c (by simp [hck])
      exact wr_sound hI hcr hp hc hk hkl (hfree hkd) hr fun ρ' w' h2 h3 => hK ρ' _ _ h2.agree (hr.next h2 o.dst h3 _)
    · cases h

theorem want_sound {ops : Array Oper} {o : Oper} {b : Bool} (h : want ops.toList s.tmps o = some b) (hr : Rl I Own w0 ρ s a w) : Region.wanted o (yielded ops a.tmps) = b := by
  unfold want at h
  unfold Region.wanted
  split at h
  · rename_i hg; cases h; simp [hg]
  · rename_i j wnt hg
    simp only [hg, yielded]
    split at h
    · rename_i oj hj
      have hj' : ops[j]? = some oj := by simpa using hj
      simp only [hj', Option.bind_some]
      split at h
      · rename_i t ht
        simp only [ht, Option.bind_some]
        split at h
        · rename_i x hx
          cases h
          rcases hr.val t _ hx with e | e
          · cases e
          · simp [e, LV.tr]
        · rename_i hx
          cases h
          rcases hr.val t _ hx with e | e
          · cases e
          · simp [e, LV.tr, Go.undef]
        · cases h
      · rename_i ht; cases h; simp [ht]
    · rename_i hj
      have hj' : ops[j]? = none := by simpa using hj
      cases h; simp [hj']

theorem step_nodefer {S : Sig A} {cr : CallR A} {x : Ctl} {o : Oper} {s s' : LS A} (h : step P S cr x o s = some s') : ∀ c, o.op ≠ .defer c := by
  intro c hc
  unfold step at h
  rw [hc] at h
  simp [kind, pureL, isLoad, pureR] at h
/-- One step of a region. -/
theorem stepG_sound [LawAb A] [LawEq A] {S : Sig A} (hI : S.inp = I) (hS : SigOk P S) {cr : CallR A} (hcr : CallOk P I cr) {x : Ctl} {ops : Array Oper} {i : Nat} {o : Oper} (ho : ops[i]? = some o) {s' : LS A} (h : stepG P S cr x ops.toList o s = some s')
    (hc : ∀ c, s'.conds[x.ck]? = some c → condOk c) (hck : x.ck < s.conds.length) (hk : 0 < x.r → s.mem[x.key]? = some none) (hkl : x.key ≤ s.mem.length) (hfree : kind P S.how x.fz o.op = .wr → ∀ k, x.key ≤ k → ∀ bl, s.mem[k]? ≠ some (some bl)) (hr : Rl I Own w0 ρ s a w)
    {K : Act → World → Prop} {Q : Exit → Act → World → Prop} (hK : ∀ ρ' a' w', (∀ k m, okKey s.mem ρ k m → ρ k = ρ' k) → Rl I Own w0 ρ' s' a' w' → K a' w') : wpOpR P ops Q i K a w := by
  refine wpOpR_of ho (fun hw => ?_) ?_
  · unfold stepG at h
    split at h
    · exact step_nodefer h
    · rename_i hw'
      rw [want_sound hw' hr] at hw; cases hw
    · cases h
  unfold stepG at h
  split at h
  · rename_i hw
    rw [if_pos (want_sound hw hr)]
    exact (step_sound hI hS hcr h hc hck hk hkl hfree hr hK)
  · rename_i hw
    rw [if_neg (by rw [want_sound hw hr]; simp)]
    cases h
    exact hK ρ _ _ (fun _ _ _ => rfl) (hr.next hr.self o.dst (v := .undef) trivial s.conds)
  · cases h

/-- What a step leaves of the state's shape. -/
structure Shape (key r ck : Nat) (s s' : LS A) : Prop where
  mlen : s'.mem.length = s.mem.length
  clen : s'.conds.length = s.conds.length
  tlen : s'.tmps.length = s.tmps.length
  none : ∀ k : Nat, k < key ∨ key + r ≤ k → s.mem[k]? = some none → s'.mem[k]? = some none
  live : ∀ (k : Nat) (bl : Blk A), s.mem[k]? = some (some bl) → ∃ bl' : Blk A, s'.mem[k]? = some (some bl')
  cond : ∀ j : Nat, j ≠ ck → s'.conds[j]? = s.conds[j]?

/-- Calls leave the blocks that there were. -/
def GrowOk (cr : CallR A) : Prop := ∀ f vs mem v mem' c, cr f vs mem = some (v, mem', c) → mem.length ≤ mem'.length ∧ ∀ (k : Nat), k < mem.length → ((∃ bl, mem[k]? = some (some bl)) ↔ ∃ bl, mem'[k]? = some (some bl))

structure MShape (key r : Nat) (m m' : Mem A) : Prop where
  len : m'.length = m.length
  none : ∀ k : Nat, k < key ∨ key + r ≤ k → m[k]? = some none → m'[k]? = some none
  live : ∀ (k : Nat) (bl : Blk A), m[k]? = some (some bl) → ∃ bl' : Blk A, m'[k]? = some (some bl')

theorem MShape.refl (key r : Nat) (m : Mem A) : MShape key r m m := ⟨rfl, fun _ _ h => h, fun _ bl h => ⟨bl, h⟩⟩
theorem MShape.set {key r : Nat} {m m' : Mem A} (h : MShape key r m m') {b : Nat} (hb : (∃ bl, m[b]? = some (some bl)) ∨ (key = b ∧ 0 < r)) (y : Blk A) : MShape key r m (m'.set b (some y)) where
  len := by simp [h.len]
  none k hk hn := by
    have : b ≠ k := by
      rintro rfl
      rcases hb with ⟨bl, hb⟩ | ⟨rfl, hr⟩
      · rw [hb] at hn; cases hn
      · omega
    rw [List.getElem?_set_ne this]
    exact h.none k hk hn
  live k bl hk := by
    obtain ⟨bl', h'⟩ := h.live k bl hk
    exact set_live h'

theorem wrR_shape {S : Sig A} {cr : CallR A} (hg : GrowOk cr) {rc : Bool} {E : Operand → Option (LV A)} {mem m : Mem A} {key r : Nat} {o : Op} {v : LV A} {c : Cnd} (h : wrR P S cr rc E mem key r o = some (v, m, c)) (hkr : key + r ≤ mem.length) (hn : ∀ k, key ≤ k → k < key + r → mem[k]? = some none) : MShape key r mem m := by
  cases o <;> simp only [wrR] at h <;> try (cases h; done)
  case store t x y =>
    repeat' split at h
    all_goals first
      | (cases h; done)
      | (simp only [Option.some.injEq, Prod.mk.injEq] at h; obtain ⟨_, rfl, _⟩ := h; exact (MShape.refl _ _ _).set (.inl ⟨_, by assumption⟩) _)
  case slice t x low high max =>
    repeat' split at h
    all_goals first
      | (cases h; done)
      | skip
    rename_i hdd
    simp only [Option.some.injEq, Prod.mk.injEq] at h; obtain ⟨_, rfl, _⟩ := h
    simp only [Bool.or_eq_false_iff] at hdd
    refine ((MShape.refl _ _ _).set (.inl ⟨_, by assumption⟩) _).set (.inr ⟨rfl, ?_⟩) _
    rcases Nat.eq_zero_or_pos r with h' | h'
    · have := hdd.2; subst h'; simp [Nat.beq_refl] at this
    · exact h'
  case call cl =>
    obtain ⟨callee, args, ats⟩ := cl
    simp only at h
    split at h
    rotate_left
    · cases h
    split at h
    · repeat' split at h
      all_goals first
        | (cases h; done)
        | skip
      · simp only [Option.some.injEq, Prod.mk.injEq] at h; obtain ⟨_, rfl, _⟩ := h
        exact (MShape.refl _ _ _).set (.inr ⟨rfl, Nat.succ_pos _⟩) _
      · simp only [Option.some.injEq, Prod.mk.injEq] at h; obtain ⟨_, rfl, _⟩ := h
        exact ((MShape.refl _ _ _).set (.inl ⟨_, by assumption⟩) _).set (.inr ⟨rfl, Nat.succ_pos _⟩) _
    · repeat' split at h
      all_goals first
        | (cases h; done)
        | (simp only [Option.some.injEq, Prod.mk.injEq] at h; obtain ⟨_, rfl, _⟩ := h; exact (MShape.refl _ _ _).set (.inl ⟨_, by assumption⟩) _)
    · split at h
      rotate_left
      · cases h
      split at h
      rotate_left
      · cases h
      rename_i v' m' c' hcall
      split at h
      rotate_left
      · cases h
      rename_i hle
      have hle := bleN hle
      simp only [Option.some.injEq, Prod.mk.injEq] at h; obtain ⟨_, rfl, _⟩ := h
      obtain ⟨g1, g2⟩ := hg _ _ _ _ _ _ hcall
      rw [List.length_take, Nat.min_eq_left (by omega)] at g1 g2
      refine ⟨by simp; omega, ?_, ?_⟩
      · intro k hk hn0
        rcases hk with hk | hk
        · rw [List.append_assoc, List.getElem?_append_left (by omega)]
          have h2 : m'[k]? = some m'[k] := List.getElem?_eq_getElem (by omega)
          rw [h2]
          cases hq : m'[k] with
          | none => rfl
          | some bl =>
            exfalso
            obtain ⟨b1, hb1⟩ := (g2 k hk).2 ⟨bl, by rw [h2, hq]⟩
            rw [List.getElem?_take_of_lt hk, hn0] at hb1
            cases hb1
        · rw [List.getElem?_append_right (by simp; omega), List.getElem?_drop]
          rw [← hn0]; congr 1; simp; omega
      · intro k bl hk
        rcases Nat.lt_or_ge k key with h' | h'
        · obtain ⟨b1, hb1⟩ := (g2 k h').1 ⟨bl, by rw [List.getElem?_take_of_lt h']; exact hk⟩
          exact ⟨b1, by rw [List.append_assoc, List.getElem?_append_left (by omega)]; exact hb1⟩
        · rcases Nat.lt_or_ge k (key + r) with h2 | h2
          · rw [hn k h' h2] at hk; cases hk
          · exact ⟨bl, by rw [List.getElem?_append_right (by simp; omega), List.getElem?_drop, ← hk]; congr 1; simp; omega⟩
    · cases h

theorem step_shape {S : Sig A} {cr : CallR A} (hg : GrowOk cr) {x : Ctl} {o : Oper} {s s' : LS A} (h : step P S cr x o s = some s') (hkr : x.key + x.r ≤ s.mem.length) (hn : ∀ k, x.key ≤ k → k < x.key + x.r → s.mem[k]? = some none) : Shape x.key x.r x.ck s s' := by
  have ck' : ∀ (cs : List Cnd) (c : Cnd) (j : Nat), j ≠ x.ck → (cs.set x.ck c)[j]? = cs[j]? := fun cs c j hj => List.getElem?_set_ne (fun e => hj e.symm)
  unfold step at h
  simp only at h
  split at h
  · split at h
    · cases h
      exact ⟨rfl, by simp, len_put _ _ _, fun _ _ h => h, fun k bl h => ⟨bl, h⟩, fun j hj => ck' _ _ j hj⟩
    · cases h
  · split at h
    · cases h
      exact ⟨rfl, by simp, len_put _ _ _, fun _ _ h => h, fun k bl h => ⟨bl, h⟩, fun j hj => ck' _ _ j hj⟩
    · cases h
  · split at h
    · rename_i v b c hp
      split at h
      · rename_i hb
        cases h
        have hms : MShape x.key x.r s.mem (putB s.mem x.key b) := by
          cases b with
          | none => exact MShape.refl _ _ _
          | some b =>
            refine (MShape.refl _ _ _).set (.inr ⟨rfl, ?_⟩) _
            rcases Nat.eq_zero_or_pos x.r with h' | h'
            · rw [h'] at hb; simp [Nat.beq_refl] at hb
            · exact h'
        exact ⟨hms.len, by simp, len_put _ _ _, hms.none, hms.live, fun j hj => ck' _ _ j hj⟩
      · cases h
    · cases h
  · split at h
    rotate_left
    · cases h
    split at h
    · rename_i v m c hw
      cases h
      have hms := wrR_shape hg hw hkr hn
      exact ⟨hms.len, by simp, len_put _ _ _, hms.none, hms.live, fun j hj => ck' _ _ j hj⟩
    · cases h

theorem stepG_shape {S : Sig A} {cr : CallR A} (hg : GrowOk cr) {x : Ctl} {ops : List Oper} {o : Oper} {s s' : LS A} (h : stepG P S cr x ops o s = some s') (hkr : x.key + x.r ≤ s.mem.length) (hn : ∀ k, x.key ≤ k → k < x.key + x.r → s.mem[k]? = some none) : Shape x.key x.r x.ck s s' := by
  unfold stepG at h
  split at h
  · exact step_shape hg h hkr hn
  · cases h
    exact ⟨rfl, rfl, len_put _ _ _, fun _ _ h => h, fun k bl h => ⟨bl, h⟩, fun _ _ => rfl⟩
  · cases h

/-- The free places and the open conditions ahead of the operation number i. -/
structure Ready (n0 r c0 n i : Nat) (s : LS A) : Prop where
  mem : ∀ k, n0 + r * i ≤ k → k < n0 + r * n → s.mem[k]? = some none
  mlen : s.mem.length = n0 + r * n
  clen : s.conds.length = c0 + n

theorem Ready.next {n0 r c0 n i : Nat} {s s' : LS A} (h : Ready n0 r c0 n i s) (hs : Shape (n0 + r * i) r (c0 + i) s s') : Ready n0 r c0 n (i + 1) s' :=
  ⟨fun k h1 h2 => by
    rw [Nat.mul_succ] at h1
    exact hs.none k (.inr (by omega)) (h.mem k (by omega) h2), by rw [hs.mlen, h.mlen], by rw [hs.clen, h.clen]⟩

theorem Ready.room {n0 r c0 n i : Nat} {s : LS A} (h : Ready n0 r c0 n i s) (hi : i < n) : n0 + r * i + r ≤ s.mem.length ∧ ∀ k, n0 + r * i ≤ k → k < n0 + r * i + r → s.mem[k]? = some none := by
  have h1 : r * i + r ≤ r * n := by
    have := Nat.mul_le_mul_left r (show i + 1 ≤ n from hi)
    rwa [Nat.mul_succ] at this
  refine ⟨by rw [h.mlen]; omega, fun k h2 h3 => h.mem k h2 (by omega)⟩

theorem trim_get : ∀ (m : Mem A) (k : Nat) (bl : Blk A), (trimM.trim m)[k]? = some (some bl) ↔ m[k]? = some (some bl)
  | [], _, _ => Iff.rfl
  | some b :: l, k, bl => by
    cases k with
    | zero => simp [trimM.trim]
    | succ k => simpa [trimM.trim] using trim_get l k bl
  | none :: l, k, bl => by
    simp only [trimM.trim]
    split
    · rename_i h
      constructor
      · intro h'; simp at h'
      · intro h'
        cases k with
        | zero => simp at h'
        | succ k =>
          have := (trim_get l k bl).2 (by simpa using h')
          rw [h] at this; simp at this
    · cases k with
      | zero => simp
      | succ k => simpa using trim_get l k bl
theorem trimM_get (n : Nat) (m : Mem A) (k : Nat) (bl : Blk A) : (trimM n m)[k]? = some (some bl) ↔ m[k]? = some (some bl) := by
  unfold trimM
  by_cases hk : k < (m.take n).length
  · rw [List.getElem?_append_left hk, List.getElem?_take_of_lt (by simp at hk; omega)]
  · rw [List.getElem?_append_right (by omega), trim_get, List.getElem?_drop]
    by_cases hn : n ≤ m.length
    · rw [show n + (k - (m.take n).length) = k by simp at hk ⊢; omega]
    · rw [List.getElem?_eq_none (by omega), List.getElem?_eq_none (by simp at hk; omega)]
theorem trimM_len (n : Nat) (m : Mem A) (h : n ≤ m.length) : n ≤ (trimM n m).length := by
  unfold trimM
  simp
  omega

def AllOk (cs : List Cnd) : Prop := ∀ c ∈ cs, condOk c
theorem forceN_eq {β : Type} (n : Nat) (f : Nat → β) : forceN n f = f n := by cases n <;> rfl

theorem pad_get {s : LS A} {n r k : Nat} {bl : Blk A} (h : (pad n r s).mem[k]? = some (some bl)) : s.mem[k]? = some (some bl) := by
  simp only [pad] at h
  rw [List.getElem?_append] at h
  split at h
  · exact h
  · rw [List.getElem?_replicate] at h
    split at h <;> cases h
theorem get_pad {s : LS A} {n r k : Nat} {bl : Blk A} (h : s.mem[k]? = some (some bl)) : (pad n r s).mem[k]? = some (some bl) := by
  simp only [pad]
  rw [List.getElem?_append_left (lt_of_get h)]; exact h

theorem Rl.padded {s : LS A} (h : Rl I Own w0 ρ s a w) (n r : Nat) : Rl I Own w0 ρ (pad n r s) a w := by
  have at' : ∀ k bl, at? I (pad n r s).mem k = some bl → at? I s.mem k = some bl := by
    intro k bl hk
    cases k with
    | own k => exact at_own (pad_get (at_own' hk))
    | inp t i => exact hk
  have key : ∀ k m, okKey s.mem ρ k m → okKey (pad n r s).mem ρ k m := by
    intro k m hk
    cases k with
    | own k => obtain ⟨⟨bl, hb⟩, hm⟩ := hk; exact ⟨⟨bl, get_pad hb⟩, hm⟩
    | inp t i => exact hk
  exact {
    size := h.size, val := h.val, defers := h.defers,
    mem := h.mem.sub fun k bl hk => pad_get hk,
    mine := h.mine.sub fun k bl hk => pad_get hk, new := h.new, keeps := h.keeps,
    occT := fun i v hv => kin_mono key v (h.occT i v hv), occM := fun k bl hk => kinL_mono key bl.us (h.occM k bl (at' k bl hk)) }

theorem pad_ready (s : LS A) (n r : Nat) : Ready s.mem.length r 0 n 0 (pad n (r * n) s) := by
  refine ⟨fun k h1 h2 => ?_, by simp [pad], by simp [pad]⟩
  simp only [pad]
  rw [List.getElem?_append_right (by omega), List.getElem?_replicate, if_pos (by omega)]


theorem Rl.sub' {s t : LS A} (h : Rl I Own w0 ρ s a w) (ht : t.tmps = s.tmps) (hm : ∀ (k : Nat) (bl : Blk A), t.mem[k]? = some (some bl) ↔ s.mem[k]? = some (some bl)) : Rl I Own w0 ρ t a w := by
  have at' : ∀ k bl, at? I t.mem k = some bl → at? I s.mem k = some bl := by
    intro k bl hk
    cases k with
    | own k => exact at_own ((hm k bl).1 (at_own' hk))
    | inp t i => exact hk
  have key : ∀ k m, okKey s.mem ρ k m → okKey t.mem ρ k m := by
    intro k m hk
    cases k with
    | own k => obtain ⟨⟨bl, hb⟩, hm'⟩ := hk; exact ⟨⟨bl, (hm k bl).2 hb⟩, hm'⟩
    | inp t i => exact hk
  exact {
    size := by rw [ht]; exact h.size, val := by rw [ht]; exact h.val, defers := h.defers,
    mem := h.mem.sub fun k bl hk => (hm k bl).1 hk,
    mine := h.mine.sub fun k bl hk => (hm k bl).1 hk, new := h.new, keeps := h.keeps,
    occT := fun i v hv => kin_mono key v (h.occT i v (by rw [← ht]; exact hv)), occM := fun k bl hk => kinL_mono key bl.us (h.occM k bl (at' k bl hk)) }
theorem more_get (r : Nat) (s : LS A) (k : Nat) (bl : Blk A) : (more r s).mem[k]? = some (some bl) ↔ s.mem[k]? = some (some bl) := by
  simp only [more]
  rw [List.getElem?_append]
  split
  · exact Iff.rfl
  · rename_i hk
    rw [List.getElem?_replicate]
    constructor
    · intro h; split at h <;> cases h
    · intro h; rw [List.getElem?_eq_none (by omega)] at h; cases h
theorem trimM_none (n : Nat) (m : Mem A) (k : Nat) (hk : k < n) : (trimM n m)[k]? = m[k]? := by
  unfold trimM
  by_cases hm : k < m.length
  · rw [List.getElem?_append_left (by simp; omega), List.getElem?_take_of_lt hk]
  · rw [List.getElem?_eq_none (by omega : m.length ≤ k)]
    rw [List.take_of_length_le (by omega), List.drop_of_length_le (by omega)]
    simp only [trimM.trim, List.append_nil]
    exact List.getElem?_eq_none (by omega)

/-- What one operation leaves, its free places put by. -/
theorem stepO_shape {S : Sig A} {cr : CallR A} (hg : GrowOk cr) {x : Ctl} {ops : List Oper} {o : Oper} {s s' : LS A} (hx : x.key = s.mem.length) (h : stepG P S cr x ops o (more x.r s) = some s') :
    (cutS s.mem.length s').conds.length = s.conds.length ∧ (cutS s.mem.length s').tmps.length = s.tmps.length ∧ s.mem.length ≤ (cutS s.mem.length s').mem.length ∧
    (∀ (k : Nat) (bl : Blk A), s.mem[k]? = some (some bl) → ∃ bl' : Blk A, (cutS s.mem.length s').mem[k]? = some (some bl')) ∧
    (∀ k : Nat, k < s.mem.length → s.mem[k]? = some none → (cutS s.mem.length s').mem[k]? = some none) ∧ ∀ j : Nat, j ≠ x.ck → (cutS s.mem.length s').conds[j]? = s.conds[j]? := by
  have hl : (more x.r s).mem.length = s.mem.length + x.r := by simp [more]
  have sh := stepG_shape hg h (by rw [hl, hx]; exact Nat.le_refl _) fun k h1 h2 => by
    simp only [more]
    rw [List.getElem?_append_right (by omega), List.getElem?_replicate, if_pos (by omega)]
  refine ⟨sh.clen, sh.tlen, trimM_len _ _ (by rw [sh.mlen, hl]; omega), fun k bl hb => ?_, fun k hk hn => ?_, sh.cond⟩
  · obtain ⟨b1, hb1⟩ := sh.live k bl ((more_get _ _ _ _).2 hb)
    exact ⟨b1, (trimM_get _ _ _ _).2 hb1⟩
  · show (trimM _ _)[k]? = _
    rw [trimM_none _ _ _ hk]
    refine sh.none k (.inl (by omega)) ?_
    simp only [more]
    rw [List.getElem?_append_left hk]; exact hn

section
variable {S : Sig A} {cr : CallR A} {cur rid r : Nat}

/-- What conditions and blocks a run leaves. -/
structure Kept (c0 : Nat) (s t : LS A) : Prop where
  cond : ∀ j : Nat, j < c0 → t.conds[j]? = s.conds[j]?
  mlen : s.mem.length ≤ t.mem.length
  clen : t.conds.length = s.conds.length
  tlen : t.tmps.length = s.tmps.length
  live : ∀ (k : Nat) (bl : Blk A), s.mem[k]? = some (some bl) → ∃ bl' : Blk A, t.mem[k]? = some (some bl')
  none : ∀ k, k < s.mem.length → s.mem[k]? = some none → t.mem[k]? = some none

theorem runOps_keeps (hg : GrowOk cr) {ops : List Oper} {c0 : Nat} : ∀ (os : List Oper) (i : Nat) (s t : LS A), runOpsO P S cr cur rid ops c0 i os s = some t → Kept (c0 + i) s t
  | [], i, s, t, h => by
    simp only [runOpsO] at h; cases h
    exact ⟨fun _ _ => rfl, Nat.le_refl _, rfl, rfl, fun k bl h => ⟨bl, h⟩, fun _ _ h => h⟩
  | o :: os, i, s, t, h => by
    simp only [runOpsO, forceN_eq] at h
    split at h
    · rename_i s' hs
      obtain ⟨e1, e2, e3, e4, e5, e6⟩ := stepO_shape hg rfl hs
      have hk := runOps_keeps hg os (i + 1) _ t h
      refine ⟨fun j hj => (hk.cond j (by omega)).trans (e6 j (by show j ≠ c0 + i; omega)), Nat.le_trans e3 hk.mlen, hk.clen.trans e1, hk.tlen.trans e2, fun k bl hb => ?_, fun k h3 h4 => hk.none k (by omega) (e5 k h3 h4)⟩
      obtain ⟨b1, hb1⟩ := e4 k bl hb
      exact hk.live k b1 hb1
    · cases h

theorem runOps_sound [LawAb A] [LawEq A] (hI : S.inp = I) (hS : SigOk P S) (hcr : CallOk P I cr) {ops : Array Oper} {c0 : Nat} {Q : Exit → Act → World → Prop} :
    ∀ (os : List Oper) (i : Nat) (s t : LS A) (ρ : Key → Loc) (a : Act) (w : World), runOpsO P S cr cur rid ops.toList c0 i os s = some t → (∀ j, os[j]? = ops[i + j]?) → i + os.length = ops.size → AllOk t.conds → s.conds.length = c0 + ops.size →
      Rl I Own w0 ρ s a w → (∀ ρ' a' w', (∀ k m, okKey s.mem ρ k m → ρ k = ρ' k) → Rl I Own w0 ρ' t a' w' → Q .normal a' w') → wpOpsR P ops Q (List.range' i os.length) a w
  | [], i, s, t, ρ, a, w, h, _, _, _, _, hr, hQ => by
    simp only [runOpsO] at h; cases h
    exact wpOpsR_nil (hQ ρ a w (fun _ _ _ => rfl) hr)
  | o :: os, i, s, t, ρ, a, w, h, ho, hn, hc, hcl, hr, hQ => by
    simp only [runOpsO, forceN_eq] at h
    split at h
    · rename_i s' hs
      simp only [List.length_cons] at hn
      obtain ⟨e1, e2, e3, e4, e5, e6⟩ := stepO_shape hcr.grow rfl hs
      have kp := runOps_keeps hcr.grow os (i + 1) _ t h
      rw [List.length_cons, List.range'_succ]
      refine wpOpsR_cons ?_
      have hoi : ops[i]? = some o := by have := ho 0; simpa using this.symm
      have hl : (more (rO P S cur rid o) s).mem.length = s.mem.length + rO P S cur rid o := by simp [more]
      refine stepG_sound hI hS hcr hoi hs ?_ (by show c0 + i < s.conds.length; omega) (fun hp => ?_) (by show s.mem.length ≤ _; omega) ?_ (hr.sub' rfl fun k bl => more_get _ s k bl) ?_
      · intro c hcc
        have hcc : (cutS s.mem.length s').conds[c0 + i]? = some c := hcc
        rw [← kp.cond (c0 + i) (by omega)] at hcc
        exact hc c (List.mem_of_getElem? hcc)
      · have hp : 0 < rO P S cur rid o := hp
        show (more (rO P S cur rid o) s).mem[s.mem.length]? = _
        simp only [more]
        rw [List.getElem?_append_right (Nat.le_refl _), List.getElem?_replicate, if_pos (by omega)]
      · intro _ k hk bl hb
        have hk : s.mem.length ≤ k := hk
        have := lt_of_get ((more_get _ s k bl).1 hb)
        omega
      · intro ρ' a' w' he hr'
        refine runOps_sound hI hS hcr os (i + 1) _ t ρ' a' w' h (fun j => ?_) (by omega) hc (by rw [e1]; exact hcl) (hr'.sub' rfl fun k bl => trimM_get _ _ k bl) ?_
        · have := ho (j + 1)
          rw [List.getElem?_cons_succ] at this
          rw [this]; congr 1; omega
        · intro ρ2 a2 w2 he2 hr2
          have up : ∀ k m, okKey s.mem ρ k m → okKey (more (rO P S cur rid o) s).mem ρ k m := by
            intro k m hk
            cases k with
            | own k => obtain ⟨⟨bl, hb⟩, hm⟩ := hk; exact ⟨⟨bl, (more_get _ _ _ _).2 hb⟩, hm⟩
            | inp t i => exact hk
          refine hQ ρ2 a2 w2 (fun k m hk => (he k m (up k m hk)).trans (he2 k m ?_)) hr2
          have e := he k m (up k m hk)
          cases k with
          | own k =>
            obtain ⟨⟨bl, hb⟩, hm⟩ := hk
            exact ⟨e4 k bl hb, by rw [← e]; exact hm⟩
          | inp t i => show m ≤ _; rw [← e]; exact hk
    · cases h

/-- A region whose order is that of the text. -/
theorem region_sound [LawAb A] [LawEq A] (hI : S.inp = I) (hS : SigOk P S) (hcr : CallOk P I cr) {ops : Array Oper} {Q : Exit → Act → World → Prop} {s t : LS A} {ρ : Key → Loc} {a : Act} {w : World}
    (h : runOpsO P S cr cur rid ops.toList 0 0 ops.toList (pad ops.toList.length 0 s) = some t) (hc : AllOk t.conds) (hr : Rl I Own w0 ρ s a w)
    (hQ : ∀ ρ' a' w', (∀ k m, okKey s.mem ρ k m → ρ k = ρ' k) → Rl I Own w0 ρ' t a' w' → Q .normal a' w') : wpR P (Code.region rid ops false) Q a w := by
  refine wpR_region ?_
  have := runOps_sound (Q := Q) hI hS hcr ops.toList 0 (pad ops.toList.length 0 s) t ρ a w h (fun j => by simp) (by simp) hc (by simp [pad]) (hr.padded _ _) ?_
  · rw [List.range_eq_range']
    simpa using this
  · intro ρ' a' w' he hr'
    refine hQ ρ' a' w' (fun k m hk => he k m ?_) hr'
    cases k with
    | own k => obtain ⟨⟨bl, hb⟩, hm⟩ := hk; exact ⟨⟨bl, get_pad hb⟩, hm⟩
    | inp t i => exact hk
end
end
end Go.Proofs.YtonmjdnkcngfjaaGreat.En

/- DERIVED. Two operations that may change places. -/
set_option linter.all false
namespace Go.Proofs.YtonmjdnkcngfjaaGreat.En
open Go Go.RowKit

section
variable {A : Type} [Ab A] {P : Program}

/-! ## what an operation hangs on -/
theorem mapE_congr {E E' : Operand → Option (LV A)} : ∀ {l : List Operand}, (∀ x ∈ l, E x = E' x) → mapE E l = mapE E' l
  | [], _ => rfl
  | x :: l, h => by simp only [mapE]; rw [h x (by simp), mapE_congr (fun y hy => h y (by simp [hy]))]

theorem bld_congr {pl : Nat → Option (Nat × Nat)} {E E' : Operand → Option (LV A)} : ∀ (parts : List (Nat × Operand)) (us : List (LV A)), (∀ x ∈ parts, E x.2 = E' x.2) → pureR.bld pl E us parts = pureR.bld pl E' us parts
  | [], _, _ => rfl
  | (i, x) :: ps, us, h => by
    simp only [pureR.bld]
    have ih : ∀ us', pureR.bld pl E us' ps = pureR.bld pl E' us' ps := fun us' => bld_congr ps us' (fun y hy => h y (by simp [hy]))
    rw [h (i, x) (by simp)]
    simp only [ih]
theorem laid_congr {z : Nat} {E E' : Operand → Option (LV A)} : ∀ (parts : List (Nat × Operand)) (l : List (List (LV A))), (∀ x ∈ parts, E x.2 = E' x.2) → newR.laid E z l parts = newR.laid E' z l parts
  | [], _, _ => rfl
  | (i, x) :: ps, l, h => by
    simp only [newR.laid]
    have ih : ∀ l', newR.laid E z l' ps = newR.laid E' z l' ps := fun l' => laid_congr ps l' (fun y hy => h y (by simp [hy]))
    rw [h (i, x) (by simp)]
    simp only [ih]
theorem bnds_congr {E E' : Operand → Option (LV A)} {len cap : Nat} {low high max : Option Operand} (hl : ∀ x, low = some x → E x = E' x) (hh : ∀ x, high = some x → E x = E' x) (hm : ∀ x, max = some x → E x = E' x) : bnds E len cap low high max = bnds E' len cap low high max := by
  unfold bnds
  cases low <;> cases high <;> cases max <;> simp_all

theorem pureR_congr {S : Sig A} {rc : Bool} {d : Option Bool} {E E' : Operand → Option (LV A)} {o : Op} (h : ∀ x ∈ o.operands, E x = E' x) : pureR P S rc d E o = pureR P S rc d E' o := by
  cases o <;> simp only [Op.operands] at h <;> simp only [pureR] <;> try rfl
  case move x => rw [h x (by simp)]
  case assign x => rw [h x (by simp)]
  case pick c x y => rw [h c (by simp), h x (by simp), h y (by simp)]
  case binOp op t x y yt => rw [h x (by simp), h y (by simp)]
  case unOp op t x => rw [h x (by simp)]
  case convert s t x => rw [h x (by simp)]
  case nilCheck x => rw [h x (by simp)]
  case makeInterface t x => rw [h x (by simp)]
  case makeFunc f first caps => rw [mapE_congr (l := caps.toList) (fun x hx => h x (by simp at hx ⊢; exact .inr hx))]
  case build t parts =>
    have hb : ∀ x ∈ parts.toList, E x.2 = E' x.2 := fun x hx => h x.2 (by simp; exact ⟨x.1, by simpa using hx⟩)
    simp only [bld_congr _ _ hb]
  case fieldAddr s x f => rw [h x (by simp)]
  case field s x f => rw [h x (by simp)]
  case indexAddr t x i => rw [h x (by simp), h i (by simp)]
  case index t x i => rw [h x (by simp), h i (by simp)]
  case slice t x low high max =>
    rw [h x (by simp)]
    have hb : ∀ n, bnds E n n low high max = bnds E' n n low high max := fun n => bnds_congr (fun y hy => h y (by simp [hy])) (fun y hy => h y (by simp [hy])) (fun y hy => h y (by simp [hy]))
    simp only [hb]
  case extract x i => rw [h x (by simp)]
  case call c =>
    obtain ⟨callee, args, ats⟩ := c
    simp only [Call.operands] at h
    have ha : mapE E args.toList = mapE E' args.toList := mapE_congr (fun x hx => h x (by simp at hx ⊢; exact .inr hx))
    simp only [ha]
    cases callee with
    | value f => rfl
    | builtin b => rfl
    | invoke r m => simp only [h r (by simp)]
theorem lookR_congr {S : Sig A} {rc : Bool} {d : Option Bool} {E E' : Operand → Option (LV A)} {mem : Mem A} {o : Op} (h : ∀ x ∈ o.operands, E x = E' x) : lookR P S rc d E mem o = lookR P S rc d E' mem o := by
  cases o <;> simp only [Op.operands] at h <;> simp only [lookR] <;> try rfl
  case load t x => rw [h x (by simp)]
  case convert s t x => rw [h x (by simp)]
  case call c =>
    obtain ⟨callee, args, ats⟩ := c
    simp only [Call.operands] at h
    have ha : mapE E args.toList = mapE E' args.toList := mapE_congr (fun x hx => h x (by simp at hx ⊢; exact .inr hx))
    rw [ha]
theorem viewR_congr {S : Sig A} {rc : Bool} {E E' : Operand → Option (LV A)} {mem : Mem A} {key z : Nat} {b : Key} {len : Nat} {low high max : Option Operand} (hl : ∀ x, low = some x → E x = E' x) (hh : ∀ x, high = some x → E x = E' x) (hm : ∀ x, max = some x → E x = E' x) :
    viewR S rc E mem key z b len low high max = viewR S rc E' mem key z b len low high max := by
  unfold viewR
  rw [bnds_congr hl hh hm]
theorem newR_congr {S : Sig A} {rc : Bool} {E E' : Operand → Option (LV A)} {mem : Mem A} {key : Nat} {o : Op} (h : ∀ x ∈ o.operands, E x = E' x) : newR P S rc E mem key o = newR P S rc E' mem key o := by
  cases o <;> simp only [Op.operands] at h <;> simp only [newR] <;> try rfl
  case box t x => rw [h x (by simp)]
  case makeSlice t x y => rw [h x (by simp), h y (by simp)]
  case buildSlice t len parts =>
    have hb : ∀ x ∈ parts.toList, E x.2 = E' x.2 := fun x hx => h x.2 (by simp; exact ⟨x.1, by simpa using hx⟩)
    simp only [laid_congr _ _ hb]
  case slice t x low high max =>
    rw [h x (by simp)]
    have h1 : ∀ y, low = some y → E y = E' y := fun y hy => h y (by simp [hy])
    have h2 : ∀ y, high = some y → E y = E' y := fun y hy => h y (by simp [hy])
    have h3 : ∀ y, max = some y → E y = E' y := fun y hy => h y (by simp [hy])
    have hb : ∀ n m, bnds E n m low high max = bnds E' n m low high max := fun n m => bnds_congr h1 h2 h3
    have hv : ∀ z b len, viewR S rc E mem key z b len low high max = viewR S rc E' mem key z b len low high max := fun z b len => viewR_congr h1 h2 h3
    simp only [hb, hv]
theorem wrR_congr {S : Sig A} {cr : CallR A} {rc : Bool} {E E' : Operand → Option (LV A)} {mem : Mem A} {key r : Nat} {o : Op} (h : ∀ x ∈ o.operands, E x = E' x) : wrR P S cr rc E mem key r o = wrR P S cr rc E' mem key r o := by
  cases o <;> simp only [Op.operands] at h <;> simp only [wrR] <;> try rfl
  case store t x y => rw [h x (by simp), h y (by simp)]
  case slice t x low high max =>
    rw [h x (by simp)]
    have h1 : ∀ y, low = some y → E y = E' y := fun y hy => h y (by simp [hy])
    have h2 : ∀ y, high = some y → E y = E' y := fun y hy => h y (by simp [hy])
    have h3 : ∀ y, max = some y → E y = E' y := fun y hy => h y (by simp [hy])
    have hv : ∀ z b len, viewR S rc E mem key z b len low high max = viewR S rc E' mem key z b len low high max := fun z b len => viewR_congr h1 h2 h3
    simp only [hv]
  case call c =>
    obtain ⟨callee, args, ats⟩ := c
    simp only [Call.operands] at h
    have ha : mapE E args.toList = mapE E' args.toList := mapE_congr (fun x hx => h x (by simp at hx ⊢; exact .inr hx))
    simp only [ha]
    cases callee with
    | value f => simp only [h f (by simp)]
    | builtin b => cases b <;> rfl
    | invoke r m => rfl

/-! ## a step as what it does -/
inductive MemEff (A : Type) where
  | keep
  | put (k : Nat) (b : Blk A)
  | all (m : Mem A)
theorem pureL_congr {S : Sig A} {rc : Bool} {d : Option Bool} {E E' : Operand → Option (LV A)} {o : Op} {m : Mem A} (h : ∀ x ∈ o.operands, E x = E' x) : pureL P S rc d E m o = pureL P S rc d E' m o := by
  unfold pureL
  rw [pureR_congr h, lookR_congr h]
def MemEff.on (m : Mem A) : MemEff A → Mem A
  | .keep => m
  | .put k b => m.set k (some b)
  | .all m' => m'
def effB (key : Nat) : Option (Blk A) → MemEff A
  | none => .keep
  | some b => .put key b
theorem effB_on (m : Mem A) (key : Nat) (b : Option (Blk A)) : (effB key b).on m = putB m key b := by cases b <;> rfl
def setC (cs : List Cnd) (ck : Nat) : Option Cnd → List Cnd
  | none => cs
  | some c => cs.set ck c

def eff (P : Program) (S : Sig A) (cr : CallR A) (x : Ctl) (ops : List Oper) (o : Oper) (tmps : List (LV A)) (mem : Mem A) : Option (LV A × MemEff A × Option Cnd) :=
  match want ops tmps o with
  | some false => some (.undef, .keep, none)
  | none => none
  | some true => match kind P S.how x.fz o.op with
    | .pure => match pureL P S x.rc x.d (ev tmps) (snapM x.sn (mem.take x.base)) o.op with
      | some (v, c) => some (v, .keep, some c)
      | none => none
    | .look => match lookR P S x.rc x.d (ev tmps) (mem.take x.base) o.op with
      | some (v, c) => some (v, .keep, some c)
      | none => none
    | .new => match newR P S x.rc (ev tmps) (mem.take x.base) x.key o.op with
      | some (v, b, c) => match b.isSome && Nat.beq x.r 0 with
        | false => some (v, effB x.key b, some c)
        | true => none
      | none => none
    | .wr => match safeW S x.sn x.key (ev tmps) mem o.op with
      | true => match wrR P S cr x.rc (ev tmps) mem x.key x.r o.op with
        | some (v, m, c) => some (v, .all m, some c)
        | none => none
      | false => none

theorem stepG_eff {S : Sig A} {cr : CallR A} {x : Ctl} {ops : List Oper} {o : Oper} {s : LS A} :
    stepG P S cr x ops o s = match eff P S cr x ops o s.tmps s.mem with
      | some (v, me, c) => some ⟨putT s.tmps o.dst v, me.on s.mem, setC s.conds x.ck c⟩
      | none => none := by
  unfold stepG eff
  split
  · rename_i hw
    simp only [hw]
    unfold step
    simp only
    split
    · rename_i hk; simp only [hk]; split <;> rename_i hp <;> simp only [hp, MemEff.on, setC]
    · rename_i hk; simp only [hk]; split <;> rename_i hp <;> simp only [hp, MemEff.on, setC]
    · rename_i hk; simp only [hk]; split <;> rename_i hp <;> simp only [hp]
      split <;> rename_i hb <;> simp only [hb, effB_on, setC]
    · rename_i hk; simp only [hk]; split <;> rename_i hsf <;> simp only [hsf]
      split <;> rename_i hp <;> simp only [hp, MemEff.on, setC]
  · rename_i hw
    simp only [hw, MemEff.on, setC]
  · rename_i hw
    simp only [hw]

/-- The temporaries that an operation looks at stand alike. -/
def Alike (ops : Array Oper) (o : Oper) (l m : List (LV A)) : Prop := ∀ t ∈ o.looksAt ops, l[t]? = m[t]?

theorem ev_alike {ops : Array Oper} {o : Oper} {l m : List (LV A)} (h : Alike ops o l m) : ∀ x ∈ o.op.operands, ev l x = ev m x := by
  intro x hx
  cases x with
  | tmp t =>
    have : l[t]? = m[t]? := h t (by
      simp only [Oper.looksAt, List.mem_append, List.mem_filterMap]
      exact .inl ⟨.tmp t, by simpa using hx, rfl⟩)
    simp only [ev, getT, this]
  | const v => rfl
  | global g => rfl
  | func f => rfl
theorem want_alike {ops : Array Oper} {o : Oper} {l m : List (LV A)} (h : Alike ops o l m) : want ops.toList l o = want ops.toList m o := by
  unfold want
  split
  · rfl
  · rename_i j w hg
    split
    · rename_i oj hj
      split
      · rename_i t ht
        have : l[t]? = m[t]? := h t (by
          have hj' : ops[j]? = some oj := by simpa using hj
          simp only [Oper.looksAt, hg, List.mem_append]
          right
          simp [hj', ht])
        rw [this]
      · rfl
    · rfl

theorem safeW_congr {S : Sig A} {F : List Nat} {key : Nat} {E E' : Operand → Option (LV A)} {mem : Mem A} {o : Op} (h : ∀ x ∈ o.operands, E x = E' x) : safeW S F key E mem o = safeW S F key E' mem o := by
  unfold safeW
  cases F with
  | nil => rfl
  | cons a F =>
    simp only
    cases o <;> simp only [Op.operands] at h <;> try rfl
    case store t x y => simp only [h x (by simp)]
    case call c =>
      obtain ⟨callee, args, ats⟩ := c
      simp only [Call.operands] at h
      have ha : mapE E args.toList = mapE E' args.toList := mapE_congr (fun x hx => h x (by simp at hx ⊢; exact .inr hx))
      simp only [ha]
      cases callee with
      | value f => simp only [h f (by simp)]
      | builtin b => cases b <;> rfl
      | invoke r m => rfl
/-- What writes leaves the blocks that are looked at. -/
theorem wr_snap {S : Sig A} {cr : CallR A} (hg : GrowOk cr) (htc : TcOk S cr) {rc : Bool} {E : Operand → Option (LV A)} {mem m : Mem A} {key r n0 : Nat} {F : List Nat} {o : Op} {v : LV A} {c : Cnd} (hs : safeW S F key E mem o = true) (h : wrR P S cr rc E mem key r o = some (v, m, c)) (hn : n0 ≤ key) :
    snapM F (m.take n0) = snapM F (mem.take n0) := by
  have fin : ∀ {F : List Nat}, (∀ k, k < n0 → memK F k = true → m[k]? = mem[k]?) → (m.take n0).length = (mem.take n0).length → snapM F (m.take n0) = snapM F (mem.take n0) := by
    intro F hh hl
    simp only [List.length_take] at hl
    unfold snapM
    split
    · rfl
    · refine List.ext_getElem? fun k => ?_
      rw [onlyM_get, onlyM_get, Nat.zero_add]
      by_cases hk : k < n0
      · rw [List.getElem?_take_of_lt hk, List.getElem?_take_of_lt hk]
        cases hm : memK F k with
        | true => exact hh k hk hm
        | false =>
          show Option.map _ _ = Option.map _ _
          rcases Nat.lt_or_ge k m.length with h1 | h1
          · rw [List.getElem?_eq_getElem h1, List.getElem?_eq_getElem (by omega)]; rfl
          · rw [List.getElem?_eq_none h1, List.getElem?_eq_none (by omega)]
      · have e1 : (m.take n0)[k]? = none := List.getElem?_eq_none (by simp; omega)
        have e2 : (mem.take n0)[k]? = none := List.getElem?_eq_none (by simp; omega)
        rw [e1, e2]
  cases F with
  | nil => rfl
  | cons a F =>
    unfold safeW at hs
    simp only at hs
    have one : ∀ {b : Nat} {y : Blk A}, memK (a :: F) b = false → m = mem.set b (some y) → snapM (a :: F) (m.take n0) = snapM (a :: F) (mem.take n0) := by
      intro b y hb e
      subst e
      refine fin (fun k _ hk => List.getElem?_set_ne ?_) (by simp)
      rintro rfl
      rw [hb] at hk; cases hk
    have two : ∀ {b b' : Nat} {y y' : Blk A}, memK (a :: F) b = false → memK (a :: F) b' = false → m = (mem.set b (some y)).set b' (some y') → snapM (a :: F) (m.take n0) = snapM (a :: F) (mem.take n0) := by
      intro b b' y y' hb hb' e
      subst e
      refine fin (fun k _ hk => ?_) (by simp)
      rw [List.getElem?_set_ne, List.getElem?_set_ne]
      · rintro rfl
        rw [hb] at hk; cases hk
      · rintro rfl
        rw [hb'] at hk; cases hk
    cases o <;> simp only [wrR] at h <;> simp only [Bool.false_eq_true] at hs
    case store t x y =>
      split at h
      · rename_i b o p v' hx hy
        simp only [hx] at hs
        repeat' split at h
        all_goals first
          | (cases h; done)
          | (simp only [Option.some.injEq, Prod.mk.injEq] at h; obtain ⟨_, rfl, _⟩ := h; exact one (by simpa using hs) rfl)
      · cases h
    case call cl =>
      obtain ⟨callee, args, ats⟩ := cl
      simp only at h hs
      split at h
      rotate_left
      · cases h
      rename_i vs ha
      split at h
      · simp only [ha] at hs
        repeat' split at h
        all_goals first
          | (cases h; done)
          | (simp only [Option.some.injEq, Prod.mk.injEq] at h; obtain ⟨_, rfl, _⟩ := h; exact one (by simpa using hs) rfl)
          | (simp only [Option.some.injEq, Prod.mk.injEq] at h; obtain ⟨_, rfl, _⟩ := h; simp only [Bool.and_eq_true, Bool.not_eq_true'] at hs; exact two hs.1 hs.2 rfl)
      · simp only [ha] at hs
        repeat' split at h
        all_goals first
          | (cases h; done)
          | (simp only [Option.some.injEq, Prod.mk.injEq] at h; obtain ⟨_, rfl, _⟩ := h; exact one (by simpa using hs) rfl)
      · rename_i f
        simp only [ha] at hs
        split at h
        rotate_left
        · cases h
        rename_i g caps hf
        simp only [hf] at hs
        split at hs
        · cases hs
        rename_i hil
        split at hs
        rotate_left
        · cases hs
        rename_i l hl
        split at h
        rotate_left
        · cases h
        rename_i v' m' c' hcall
        split at h
        rotate_left
        · cases h
        rename_i hle
        have hle := bleN hle
        simp only [Option.some.injEq, Prod.mk.injEq] at h; obtain ⟨_, rfl, _⟩ := h
        have hk := htc _ _ _ _ _ _ _ hil hcall hl
        simp only [Bool.and_eq_true, List.all_eq_true] at hs
        obtain ⟨hkm, hs⟩ := hs
        have hkm := Nat.le_of_ble_eq_true hkm
        obtain ⟨g1, _⟩ := hg _ _ _ _ _ _ hcall
        simp only [List.length_take] at g1
        refine fin (fun k hk0 hm => ?_) (by simp; omega)
        unfold memK at hm
        rw [List.any_eq_true] at hm
        obtain ⟨x, hx, e⟩ := hm
        have e := beqN e
        subst e
        obtain ⟨h1, _⟩ := hs x hx
        have hk := hk x (by simp; omega) (memK_spec (by simpa using h1))
        rw [List.getElem?_take_of_lt (by omega)] at hk
        rw [← hk]
        rw [List.append_assoc, List.getElem?_append_left (by omega)]
      · cases h
theorem eff_alike {S : Sig A} {cr : CallR A} {x : Ctl} {ops : Array Oper} {o : Oper} {l m : List (LV A)} {mem mem' : Mem A} (h : Alike ops o l m)
    (hp : kind P S.how x.fz o.op = .wr → mem = mem') (hq : kind P S.how x.fz o.op ≠ .pure → mem.take x.base = mem'.take x.base) (hs : kind P S.how x.fz o.op = .pure → snapM x.sn (mem.take x.base) = snapM x.sn (mem'.take x.base)) :
    eff P S cr x ops.toList o l mem = eff P S cr x ops.toList o m mem' := by
  have he := ev_alike h
  unfold eff
  rw [want_alike h, pureL_congr he, newR_congr he, lookR_congr he, wrR_congr he, safeW_congr he]
  split
  · rfl
  · rfl
  · cases hk : kind P S.how x.fz o.op with
    | pure => simp only; rw [hs hk]
    | look => simp only; rw [hq (by rw [hk]; simp)]
    | new => simp only; rw [hq (by rw [hk]; simp)]
    | wr => simp only; rw [hp hk]

theorem putT_comm (l : List (LV A)) {x y : Option Nat} (v u : LV A) (h : ∀ d, x = some d → y ≠ some d) : putT (putT l x v) y u = putT (putT l y u) x v := by
  cases x with
  | none => rfl
  | some d =>
    cases y with
    | none => rfl
    | some e =>
      have hne : d ≠ e := fun he => h d rfl (he ▸ rfl)
      simp only [putT]
      exact List.set_comm _ _ hne
theorem setC_comm (cs : List Cnd) {i j : Nat} (c e : Option Cnd) (h : i ≠ j) : setC (setC cs i c) j e = setC (setC cs j e) i c := by
  cases c <;> cases e <;> simp only [setC]
  exact List.set_comm _ _ h
theorem putT_alike {ops : Array Oper} {o : Oper} {l : List (LV A)} {x : Option Nat} {v : LV A} (h : ∀ d, x = some d → d ∉ o.looksAt ops) : Alike ops o (putT l x v) l := by
  intro t ht
  cases x with
  | none => rfl
  | some d =>
    have : d ≠ t := fun e => h d rfl (e ▸ ht)
    simp only [putT]
    exact List.getElem?_set_ne this

theorem eff_mem {S : Sig A} {cr : CallR A} {x : Ctl} {ops : List Oper} {o : Oper} {l : List (LV A)} {mem : Mem A} {v : LV A} {me : MemEff A} {c : Option Cnd} (h : eff P S cr x ops o l mem = some (v, me, c)) :
    (kind P S.how x.fz o.op ≠ .wr → me = .keep ∨ (0 < x.r ∧ ∃ b, me = .put x.key b)) ∧ (kind P S.how x.fz o.op = .pure → me = .keep) := by
  unfold eff at h
  split at h
  · cases h; exact ⟨fun _ => .inl rfl, fun _ => rfl⟩
  · cases h
  · split at h
    · split at h
      · cases h; exact ⟨fun _ => .inl rfl, fun _ => rfl⟩
      · cases h
    · split at h
      · cases h; exact ⟨fun _ => .inl rfl, fun _ => rfl⟩
      · cases h
    · rename_i hk
      split at h
      · rename_i v b c hp
        split at h
        · rename_i hb
          cases h
          refine ⟨fun _ => ?_, fun e => by rw [hk] at e; cases e⟩
          cases b with
          | none => exact .inl rfl
          | some b =>
            right
            refine ⟨?_, b, rfl⟩
            rcases Nat.eq_zero_or_pos x.r with h' | h'
            · rw [h'] at hb; simp [Nat.beq_refl] at hb
            · exact h'
        · cases h
      · cases h
    · rename_i hk
      split at h
      rotate_left
      · cases h
      split at h
      · cases h; exact ⟨fun e => absurd hk e, fun e => by rw [hk] at e; cases e⟩
      · cases h

theorem eff_snap {S : Sig A} {cr : CallR A} (hg : GrowOk cr) (htc : TcOk S cr) {x : Ctl} {ops : List Oper} {o : Oper} {l : List (LV A)} {mem : Mem A} {v : LV A} {me : MemEff A} {c : Option Cnd} {n0 : Nat} (h : eff P S cr x ops o l mem = some (v, me, c)) (hw : kind P S.how x.fz o.op = .wr) (hn : n0 ≤ x.key) :
    snapM x.sn ((me.on mem).take n0) = snapM x.sn (mem.take n0) := by
  unfold eff at h
  rw [hw] at h
  split at h
  · cases h; rfl
  · cases h
  · simp only at h
    split at h
    rotate_left
    · cases h
    rename_i hsf
    split at h
    · rename_i v m c hp
      cases h
      exact wr_snap hg htc hsf hp hn
    · cases h
/-- Two independent steps change places. -/
theorem stepG_comm {S : Sig A} {cr : CallR A} (hg : GrowOk cr) (htc : TcOk S cr) {sn : List Nat} {xi xj : Ctl} (hsi : xi.sn = sn) (hsj : xj.sn = sn) {ops : Array Oper} {fz : Fm} {n0 : Nat} {x y : Oper} {s s1 t : LS A} (hi : indep P S.how fz ops x y = true) (hfi : xi.fz = fz) (hfj : xj.fz = fz) (hbi : xi.base = n0) (hbj : xj.base = n0) (hki : n0 ≤ xi.key) (hkj : n0 ≤ xj.key)
    (hk : 0 < xi.r → 0 < xj.r → xi.key ≠ xj.key) (hc : xi.ck ≠ xj.ck)
    (h1 : stepG P S cr xi ops.toList x s = some s1) (h2 : stepG P S cr xj ops.toList y s1 = some t) :
    ∃ s2, stepG P S cr xj ops.toList y s = some s2 ∧ stepG P S cr xi ops.toList x s2 = some t := by
  rw [stepG_eff] at h1 h2
  split at h1
  rotate_left
  · cases h1
  rename_i vi mi cni hei
  cases h1
  split at h2
  rotate_left
  · cases h2
  rename_i vj mj cnj hej
  cases h2
  simp only at hej
  simp only [indep, Bool.and_eq_true] at hi
  obtain ⟨hap, hkd⟩ := hi
  obtain ⟨a1, a2, a3⟩ := Oper.apart_spec hap
  have hmi := (eff_mem hei).1
  have hmj := (eff_mem hej).1
  have hpi := (eff_mem hei).2
  have hpj := (eff_mem hej).2
  rw [hfi] at hmi hpi
  rw [hfj] at hmj hpj
  -- the memory that the other leaves
  have tk : ∀ (m : Mem A) (k : Nat) (b : Blk A), n0 ≤ k → (m.set k (some b)).take n0 = m.take n0 := by
    intro m k b hk
    rw [List.take_set, List.set_eq_of_length_le (by simp; omega)]
  have hai : Alike ops y (putT s.tmps x.dst vi) s.tmps := putT_alike a1
  have haj : Alike ops x (putT s.tmps y.dst vj) s.tmps := putT_alike a3
  by_cases hwx : kind P S.how fz x.op = .wr
  · -- x writes, y touches no memory
    have hy : kind P S.how fz y.op = .pure := by
      rw [hwx] at hkd
      cases hk : kind P S.how fz y.op <;> rw [hk] at hkd <;> simp_all
    have ej : eff P S cr xj ops.toList y s.tmps s.mem = some (vj, mj, cnj) := by
      rw [← hej]
      exact (eff_alike hai (by rw [hfj, hy]; simp) (by rw [hfj, hy]; simp) (fun _ => by rw [hbj, hsj, ← hsi]; exact eff_snap hg htc hei (hfi ▸ hwx) hki)).symm
    have hmj0 := hpj hy
    subst hmj0
    refine ⟨⟨putT s.tmps y.dst vj, s.mem, setC s.conds xj.ck cnj⟩, by rw [stepG_eff, ej]; rfl, ?_⟩
    have ei : eff P S cr xi ops.toList x (putT s.tmps y.dst vj) s.mem = some (vi, mi, cni) := by
      rw [← hei]; exact eff_alike haj (fun _ => rfl) (fun _ => rfl) (fun _ => rfl)
    rw [stepG_eff, ei]
    simp only [MemEff.on]
    rw [putT_comm s.tmps vj vi (fun d hd => fun e => a2 d e hd), setC_comm s.conds cnj cni (Ne.symm hc)]
  · by_cases hwy : kind P S.how fz y.op = .wr
    · -- y writes, x touches no memory
      have hx : kind P S.how fz x.op = .pure := by
        rw [hwy] at hkd
        cases hk : kind P S.how fz x.op <;> rw [hk] at hkd <;> simp_all
      have hmi0 := hpi hx
      subst hmi0
      simp only [MemEff.on] at hej ⊢
      have ej : eff P S cr xj ops.toList y s.tmps s.mem = some (vj, mj, cnj) := by
        rw [← hej]; exact (eff_alike hai (fun _ => rfl) (fun _ => rfl) (fun _ => rfl)).symm
      refine ⟨⟨putT s.tmps y.dst vj, mj.on s.mem, setC s.conds xj.ck cnj⟩, by rw [stepG_eff, ej], ?_⟩
      have ei : eff P S cr xi ops.toList x (putT s.tmps y.dst vj) (mj.on s.mem) = some (vi, .keep, cni) := by
        rw [← hei]; exact eff_alike haj (by rw [hfi, hx]; simp) (by rw [hfi, hx]; simp) (fun _ => by rw [hbi, hsi, ← hsj]; exact eff_snap hg htc ej (hfj ▸ hwy) hkj)
      rw [stepG_eff, ei]
      simp only [MemEff.on]
      rw [putT_comm s.tmps vj vi (fun d hd => fun e => a2 d e hd), setC_comm s.conds cnj cni (Ne.symm hc)]
    · -- neither writes
      have hmi' := hmi hwx
      have hmj' := hmj hwy
      have t1 : (mi.on s.mem).take n0 = s.mem.take n0 := by
        rcases hmi' with rfl | ⟨_, b, rfl⟩
        · rfl
        · exact tk _ _ _ hki
      have t2 : (mj.on s.mem).take n0 = s.mem.take n0 := by
        rcases hmj' with rfl | ⟨_, b, rfl⟩
        · rfl
        · exact tk _ _ _ hkj
      have ej : eff P S cr xj ops.toList y s.tmps s.mem = some (vj, mj, cnj) := by
        rw [← hej]; exact (eff_alike hai (fun e => absurd (hfj ▸ e) hwy) (fun _ => by rw [hbj]; exact t1) (fun _ => by rw [hbj]; exact congrArg _ t1)).symm
      refine ⟨⟨putT s.tmps y.dst vj, mj.on s.mem, setC s.conds xj.ck cnj⟩, by rw [stepG_eff, ej], ?_⟩
      have ei : eff P S cr xi ops.toList x (putT s.tmps y.dst vj) (mj.on s.mem) = some (vi, mi, cni) := by
        rw [← hei]; exact eff_alike haj (fun e => absurd (hfi ▸ e) hwx) (fun _ => by rw [hbi]; exact t2) (fun _ => by rw [hbi]; exact congrArg _ t2)
      rw [stepG_eff, ei]
      simp only
      rw [putT_comm s.tmps vj vi (fun d hd => fun e => a2 d e hd), setC_comm s.conds cnj cni (Ne.symm hc)]
      congr 2
      rcases hmi' with rfl | ⟨r1, b, rfl⟩ <;> rcases hmj' with rfl | ⟨r2, b', rfl⟩ <;> simp only [MemEff.on]
      exact List.set_comm _ _ (Ne.symm (hk r1 r2))
end
end Go.Proofs.YtonmjdnkcngfjaaGreat.En

/- DERIVED. A region whose order Go leaves open: whatever order it takes, it comes to the same. -/
set_option linter.all false
namespace Go.Proofs.YtonmjdnkcngfjaaGreat.En
open Go Go.RowKit

section
variable {A : Type} [Ab A] {P : Program}

/-! ## who stands ahead of whom -/
theorem maskOf_bit {ms : List Nat} {o : Oper} {i : Nat} (h : (maskOf ms o).testBit i = true) : ∃ e ∈ o.after.toList, Region.binds .any e = true ∧ (e.on = i ∨ (ms.getD e.on 0).testBit i = true) := by
  have key : ∀ (l : List Edge) (s : Nat), (l.foldl (fun s e => match Region.binds .any e with
      | true => s ||| 2 ^ e.on ||| ms.getD e.on 0
      | false => s) s).testBit i = true → s.testBit i = true ∨ ∃ e ∈ l, Region.binds .any e = true ∧ (e.on = i ∨ (ms.getD e.on 0).testBit i = true) := by
    intro l
    induction l with
    | nil => intro s h; exact .inl h
    | cons e l ih =>
      intro s h
      simp only [List.foldl_cons] at h
      rcases ih _ h with h | ⟨e', he', h⟩
      · cases hb : Region.binds .any e with
        | true =>
          rw [hb] at h
          simp only [Nat.testBit_or, Bool.or_eq_true, Nat.testBit_two_pow, decide_eq_true_eq] at h
          rcases h with (h | h) | h
          · exact .inl h
          · exact .inr ⟨e, by simp, hb, .inl h⟩
          · exact .inr ⟨e, by simp, hb, .inr h⟩
        | false =>
          rw [hb] at h
          exact .inl h
      · exact .inr ⟨e', by simp [he'], h⟩
  rcases key _ _ h with h | h
  · simp at h
  · exact h

theorem masks_get : ∀ (os : List Oper) (ms : List Nat) (j : Nat), (j < ms.length → (masks os ms).getD j 0 = ms.getD j 0) ∧
    (∀ o, ms.length ≤ j → os[j - ms.length]? = some o → ∃ ms', (masks os ms).getD j 0 = maskOf ms' o ∧ ∀ k, k < j → ms'.getD k 0 = (masks os ms).getD k 0)
  | [], ms, j => by
    refine ⟨fun _ => rfl, fun o _ h => by simp at h⟩
  | o :: os, ms, j => by
    have ih := masks_get os (ms ++ [maskOf ms o])
    simp only [List.length_append, List.length_singleton] at ih
    refine ⟨fun h => ?_, fun o' hle ho => ?_⟩
    · simp only [masks]
      rw [(ih j).1 (by omega)]
      simp [List.getD, List.getElem?_append_left h]
    · simp only [masks]
      by_cases e : j = ms.length
      · subst e
        simp only [Nat.sub_self, List.getElem?_cons_zero, Option.some.injEq] at ho
        subst ho
        refine ⟨ms, ?_, fun k hk => ?_⟩
        · rw [(ih ms.length).1 (by omega)]
          simp [List.getD]
        · rw [(ih k).1 (by omega)]
          simp [List.getD, List.getElem?_append_left hk]
      · refine (ih j).2 o' (by omega) ?_
        rw [show j - ms.length = (j - (ms.length + 1)) + 1 by omega, List.getElem?_cons_succ] at ho
        exact ho

theorem edgesOk_get : ∀ (os : List Oper) (i : Nat), edgesOk i os = true → ∀ (j : Nat) (o : Oper), os[j]? = some o → ∀ e ∈ o.after.toList, Region.binds .any e = true → e.on < i + j
  | [], _, _, _, _, h => by simp at h
  | o :: os, i, h, j, o', ho => by
    simp only [edgesOk, Bool.and_eq_true] at h
    intro e he hb
    cases j with
    | zero =>
      simp only [List.getElem?_cons_zero, Option.some.injEq] at ho
      subst ho
      have := List.all_eq_true.1 h.1 e he
      rw [hb] at this
      have h2 : Nat.blt e.on i = true := by simpa using this
      have := Nat.le_of_ble_eq_true h2
      omega
    | succ j =>
      have := edgesOk_get os (i + 1) h.2 j o' (by simpa using ho) e he hb
      omega

/-- What is listed has all that stands ahead of it listed. -/
def Dc (ops : Array Oper) (T : Nat → Bool) : Prop := ∀ (j : Nat) (o : Oper), ops[j]? = some o → T j = true → ∀ e ∈ o.after.toList, Region.binds .any e = true → T e.on = true

theorem anc_in {ops : Array Oper} (he : edgesOk 0 ops.toList = true) {T : Nat → Bool} (hT : Dc ops T) (i : Nat) : ∀ (n j : Nat), j < n → j < ops.size → T j = true → ((masks ops.toList []).getD j 0).testBit i = true → T i = true
  | 0, _, h, _, _, _ => by omega
  | n + 1, j, hj, hs, ht, hb => by
    have ho : ops[j]? = some ops[j] := Array.getElem?_eq_getElem hs
    obtain ⟨ms', h1, h2⟩ := (masks_get ops.toList [] j).2 ops[j] (by simp) (by simpa using ho)
    rw [h1] at hb
    obtain ⟨e, hem, hbd, h⟩ := maskOf_bit hb
    have hlt := edgesOk_get ops.toList 0 he j ops[j] (by simp [ho]) e hem hbd
    have hte := hT j _ ho ht e hem hbd
    rcases h with rfl | h
    · exact hte
    · rw [h2 _ (by omega)] at h
      exact anc_in he hT i n e.on (by omega) (by omega) hte h

theorem pair_indep {how : FuncId → Kn} {fz : Fm} {ops : Array Oper} (hd : drawOk P how fz ops = true) {T : Nat → Bool} (hT : Dc ops T) {i j : Nat} {x y : Oper} (hij : i < j) (hi : T i = false) (hj : T j = true) (hx : ops[i]? = some x) (hy : ops[j]? = some y) : indep P how fz ops x y = true := by
  simp only [drawOk, Bool.and_eq_true] at hd
  obtain ⟨⟨he, _⟩, hp⟩ := hd
  have hjs : j < ops.size := by
    rcases Nat.lt_or_ge j ops.size with h | h
    · exact h
    · rw [Array.getElem?_eq_none h] at hy; cases hy
  have := List.all_eq_true.1 (List.all_eq_true.1 hp j (by simp; exact hjs)) i (by simp; omega)
  unfold pairOk at this
  have hb : Nat.blt i j = true := Nat.ble_eq_true_of_le hij
  simp only [hb] at this
  split at this
  · rename_i hbit
    have := anc_in he hT i (j + 1) j (by omega) hjs hj hbit
    rw [hi] at this; cases this
  · simpa [hx, hy] using this

/-! ## the run of a part of a region -/
section
variable {S : Sig A} {cr : CallR A} {cur rid r : Nat} {ops : Array Oper} {n0 c0 : Nat} {sn : List Nat}

def stepD (P : Program) (S : Sig A) (cr : CallR A) (cur rid r : Nat) (ops : Array Oper) (n0 c0 : Nat) (sn : List Nat) (i : Nat) (o : Oper) (s : LS A) : Option (LS A) :=
  stepG P S cr (ctl S cur rid r n0 c0 sn i n0) ops.toList o s
def runSet (P : Program) (S : Sig A) (cr : CallR A) (cur rid r : Nat) (ops : Array Oper) (n0 c0 : Nat) (sn : List Nat) (T : Nat → Bool) : Nat → List Oper → LS A → Option (LS A)
  | _, [], s => some s
  | i, o :: os, s => match T i with
    | true => match stepD P S cr cur rid r ops n0 c0 sn i o s with
      | some s' => runSet P S cr cur rid r ops n0 c0 sn T (i + 1) os s'
      | none => none
    | false => runSet P S cr cur rid r ops n0 c0 sn T (i + 1) os s

theorem runSet_all {T : Nat → Bool} : ∀ (os : List Oper) (i : Nat) (s : LS A), (∀ j, i ≤ j → j < i + os.length → T j = true) → runSet P S cr cur rid r ops n0 c0 sn T i os s = runOpsD P S cr cur rid r ops.toList n0 c0 sn i os s
  | [], _, _, _ => rfl
  | o :: os, i, s, h => by
    simp only [List.length_cons] at h
    simp only [runSet, runOpsD, h i (Nat.le_refl _) (by omega), stepD]
    cases hs : stepG P S cr (ctl S cur rid r n0 c0 sn i n0) ops.toList o s with
    | some s' => exact runSet_all os (i + 1) s' (fun j h1 h2 => h j (by omega) (by omega))
    | none => rfl

theorem runSet_congr {T T' : Nat → Bool} : ∀ (os : List Oper) (i : Nat) (s : LS A), (∀ j, i ≤ j → j < i + os.length → T j = T' j) → runSet P S cr cur rid r ops n0 c0 sn T i os s = runSet P S cr cur rid r ops n0 c0 sn T' i os s
  | [], _, _, _ => rfl
  | o :: os, i, s, h => by
    simp only [List.length_cons] at h
    have ih := fun s' => runSet_congr os (i + 1) s' (fun j h1 h2 => h j (by omega) (by omega))
    simp only [runSet, h i (Nat.le_refl _) (by omega), ih]

theorem key_ne {r i j : Nat} (h : i ≠ j) (hr : 0 < r) : n0 + r * i ≠ n0 + r * j := by
  intro e
  exact h (Nat.eq_of_mul_eq_mul_left hr (by omega))

/-- A step is carried behind those that come after it. -/
theorem runSet_push (hg : GrowOk cr) (htc : TcOk S cr) {T : Nat → Bool} {i : Nat} {oi : Oper} : ∀ (os : List Oper) (k : Nat) (s s1 t : LS A), (∀ j, os[j]? = ops[k + j]?) → i < k → stepD P S cr cur rid r ops n0 c0 sn i oi s = some s1 → runSet P S cr cur rid r ops n0 c0 sn T k os s1 = some t →
    (∀ j oj, k ≤ j → T j = true → ops[j]? = some oj → indep P S.how (S.fz cur rid) ops oi oj = true) → ∃ u, runSet P S cr cur rid r ops n0 c0 sn T k os s = some u ∧ stepD P S cr cur rid r ops n0 c0 sn i oi u = some t
  | [], k, s, s1, t, _, _, h1, h2, _ => by
    simp only [runSet] at h2; cases h2
    exact ⟨s, rfl, h1⟩
  | o :: os, k, s, s1, t, ho, hik, h1, h2, hind => by
    have hok : ops[k]? = some o := by have := ho 0; simpa using this.symm
    have ho' : ∀ j, os[j]? = ops[k + 1 + j]? := fun j => by
      have := ho (j + 1)
      rw [List.getElem?_cons_succ] at this
      rw [this]; congr 1; omega
    simp only [runSet] at h2 ⊢
    cases hT : T k with
    | true =>
      simp only [hT] at h2
      split at h2
      · rename_i s1' hs
        obtain ⟨s2, e1, e2⟩ := stepG_comm hg htc (sn := sn) rfl rfl (fz := S.fz cur rid) (n0 := n0) (hind k o (Nat.le_refl _) hT hok) rfl rfl rfl rfl (Nat.le_add_right _ _) (Nat.le_add_right _ _) (fun h _ => key_ne (by omega) h) (by show c0 + i ≠ c0 + k; omega) h1 hs
        obtain ⟨u, e3, e4⟩ := runSet_push hg htc os (k + 1) s2 s1' t ho' (by omega) e2 h2 (fun j oj hj => hind j oj (by omega))
        refine ⟨u, ?_, e4⟩
        have e1' : stepD P S cr cur rid r ops n0 c0 sn k o s = some s2 := e1
        simp only [e1', e3]
      · cases h2
    | false =>
      simp only [hT] at h2
      exact runSet_push hg htc os (k + 1) s s1 t ho' (by omega) h1 h2 (fun j oj hj => hind j oj (by omega))

theorem runSet_last (hg : GrowOk cr) (htc : TcOk S cr) {T T' : Nat → Bool} {i : Nat} {oi : Oper} (hi : ops[i]? = some oi) (hTi : T i = false) (hT' : ∀ k, T' k = (T k || decide (k = i)))
    (hind : ∀ j oj, i < j → T j = true → ops[j]? = some oj → indep P S.how (S.fz cur rid) ops oi oj = true) : ∀ (os : List Oper) (k : Nat) (s t : LS A), (∀ j, os[j]? = ops[k + j]?) → k ≤ i → i < k + os.length → runSet P S cr cur rid r ops n0 c0 sn T' k os s = some t →
    ∃ u, runSet P S cr cur rid r ops n0 c0 sn T k os s = some u ∧ stepD P S cr cur rid r ops n0 c0 sn i oi u = some t
  | [], k, s, t, _, h1, h2, _ => by simp at h2; omega
  | o :: os, k, s, t, ho, h1, h2, hr => by
    have hok : ops[k]? = some o := by have := ho 0; simpa using this.symm
    have ho' : ∀ j, os[j]? = ops[k + 1 + j]? := fun j => by
      have := ho (j + 1)
      rw [List.getElem?_cons_succ] at this
      rw [this]; congr 1; omega
    simp only [List.length_cons] at h2
    by_cases e : k = i
    · subst e
      rw [hi] at hok
      cases hok
      have e1 : T' k = true := by rw [hT']; simp
      simp only [runSet, e1, hTi] at hr ⊢
      split at hr
      · rename_i s1 hs
        rw [runSet_congr (T := T') (T' := T) os (k + 1) s1 (fun j hj _ => by rw [hT']; simp; omega)] at hr
        exact runSet_push hg htc os (k + 1) s s1 t ho' (by omega) hs hr (fun j oj hj => hind j oj (by omega))
      · cases hr
    · have e1 : T' k = T k := by rw [hT']; simp [e]
      simp only [runSet, e1] at hr ⊢
      cases hTk : T k with
      | true =>
        simp only [hTk] at hr
        split at hr
        · rename_i s1 hs
          simp only
          exact runSet_last hg htc hi hTi hT' hind os (k + 1) s1 t ho' (by omega) (by omega) hr
        · cases hr
      | false =>
        simp only [hTk] at hr
        exact runSet_last hg htc hi hTi hT' hind os (k + 1) s t ho' (by omega) (by omega) hr

theorem stepD_cond {i : Nat} {o : Oper} {s t : LS A} (h : stepD P S cr cur rid r ops n0 c0 sn i o s = some t) (j : Nat) (hj : j ≠ c0 + i) : t.conds[j]? = s.conds[j]? := by
  unfold stepD at h
  rw [stepG_eff] at h
  split at h
  · rename_i v me c _
    cases h
    cases c with
    | none => rfl
    | some c => exact List.getElem?_set_ne (fun e => hj e.symm)
  · cases h
theorem stepD_pure {i : Nat} {o : Oper} {s t : LS A} (h : stepD P S cr cur rid r ops n0 c0 sn i o s = some t) (hk : kind P S.how (S.fz cur rid) o.op = .pure) : t.mem = s.mem := by
  unfold stepD at h
  rw [stepG_eff] at h
  split at h
  · rename_i v me c he
    cases h
    have := (eff_mem he).2 hk
    subst this
    rfl
  · cases h

/-- Every part that may have been carried out comes to a state. -/
theorem runSet_some (hg : GrowOk cr) (htc : TcOk S cr) (hd : drawOk P S.how (S.fz cur rid) ops = true) {T : Nat → Bool} (hT : Dc ops T) {s tf : LS A} (hf : runOpsD P S cr cur rid r ops.toList n0 c0 sn 0 ops.toList s = some tf) :
    ∃ u, runSet P S cr cur rid r ops n0 c0 sn T 0 ops.toList s = some u ∧ ∀ i, T i = true → u.conds[c0 + i]? = tf.conds[c0 + i]? := by
  have key : ∀ d m, m + d = ops.size → ∃ u, runSet P S cr cur rid r ops n0 c0 sn (fun k => T k || decide (k < m)) 0 ops.toList s = some u ∧ ∀ i, T i = true → u.conds[c0 + i]? = tf.conds[c0 + i]? := by
    intro d
    induction d with
    | zero =>
      intro m hm
      refine ⟨tf, ?_, fun _ _ => rfl⟩
      rw [runSet_all ops.toList 0 s (fun j _ h2 => by simp at h2; simp; right; omega)]
      exact hf
    | succ d ih =>
      intro m hm
      obtain ⟨u, hu, hc⟩ := ih (m + 1) (by omega)
      cases hTm : T m with
      | true =>
        refine ⟨u, ?_, hc⟩
        rw [← hu]
        refine runSet_congr _ _ _ (fun j _ _ => ?_)
        by_cases e : j = m
        · subst e; simp [hTm]
        · show (T j || decide (j < m)) = (T j || decide (j < m + 1))
          have : decide (j < m) = decide (j < m + 1) := by
            by_cases h : j < m
            · simp [h, show j < m + 1 by omega]
            · simp [h, show ¬ j < m + 1 by omega]
          rw [this]
      | false =>
        have hms : m < ops.size := by omega
        have ho : ops[m]? = some ops[m] := Array.getElem?_eq_getElem hms
        obtain ⟨u', e1, e2⟩ := runSet_last hg htc (T := fun k => T k || decide (k < m)) (T' := fun k => T k || decide (k < m + 1)) ho (by simp [hTm]) (fun k => by
            simp only [Bool.or_assoc]
            congr 1
            rw [← Bool.decide_or]
            congr 1
            simp
            omega)
          (fun j oj hj hTj hoj => pair_indep hd hT hj hTm (by simpa [show ¬ j < m by omega] using hTj) ho hoj) ops.toList 0 s u (fun j => by simp) (by omega) (by simp; exact hms) hu
        refine ⟨u', e1, fun i hi => ?_⟩
        rw [← hc i hi]
        exact (stepD_cond e2 (c0 + i) (by intro e; have : i = m := by omega
                                          subst this; rw [hTm] at hi; cases hi)).symm
  obtain ⟨u, hu, hc⟩ := key ops.size 0 (by omega)
  refine ⟨u, ?_, hc⟩
  rw [← hu]
  exact runSet_congr _ _ _ (fun j _ _ => by simp)

theorem range_apart {r i j q : Nat} (h : i ≠ j) (h1 : n0 + r * i ≤ q) (h2 : q < n0 + r * i + r) : q < n0 + r * j ∨ n0 + r * j + r ≤ q := by
  rcases Nat.lt_or_gt_of_ne h with h' | h'
  · have := Nat.mul_le_mul_left r (show i + 1 ≤ j from h')
    rw [Nat.mul_succ] at this
    omega
  · have := Nat.mul_le_mul_left r (show j + 1 ≤ i from h')
    rw [Nat.mul_succ] at this
    omega

/-- What lies open ahead, of a part that has been carried out. -/
theorem runSet_open (hg : GrowOk cr) {T : Nat → Bool} {n : Nat} : ∀ (os : List Oper) (k : Nat) (s u : LS A), runSet P S cr cur rid r ops n0 c0 sn T k os s = some u → k + os.length ≤ n → (∀ j, os[j]? = ops[k + j]?) → s.mem.length = n0 + r * n →
    (∀ i, k ≤ i → i < n → T i = true → ∀ q, n0 + r * i ≤ q → q < n0 + r * i + r → s.mem[q]? = some none) →
    (∀ q, s.mem[q]? = some none → (∀ j o, k ≤ j → ops[j]? = some o → T j = true → kind P S.how (S.fz cur rid) o.op ≠ .pure → q < n0 + r * j ∨ n0 + r * j + r ≤ q) → u.mem[q]? = some none) ∧ u.conds.length = s.conds.length ∧ u.mem.length = s.mem.length ∧ u.tmps.length = s.tmps.length ∧
      (∀ (q : Nat) (bl : Blk A), s.mem[q]? = some (some bl) → ∃ bl' : Blk A, u.mem[q]? = some (some bl')) ∧ (∀ j : Nat, j < c0 + k → u.conds[j]? = s.conds[j]?)
  | [], k, s, u, h, _, _, _, _ => by
    simp only [runSet] at h; cases h
    exact ⟨fun q h _ => h, rfl, rfl, rfl, fun q bl h => ⟨bl, h⟩, fun _ _ => rfl⟩
  | o :: os, k, s, u, h, hn, ho, hl, hs => by
    have hok : ops[k]? = some o := by have := ho 0; simpa using this.symm
    have ho' : ∀ j, os[j]? = ops[k + 1 + j]? := fun j => by
      have := ho (j + 1)
      rw [List.getElem?_cons_succ] at this
      rw [this]; congr 1; omega
    simp only [List.length_cons] at hn
    simp only [runSet] at h
    cases hT : T k with
    | true =>
      simp only [hT] at h
      split at h
      · rename_i s1 h1
        have hroom : n0 + r * k + r ≤ s.mem.length := by
          have := Nat.mul_le_mul_left (r) (show k + 1 ≤ n by omega)
          rw [Nat.mul_succ] at this
          omega
        have sh : Shape (n0 + r * k) (r) (c0 + k) s s1 := stepG_shape hg h1 hroom (hs k (Nat.le_refl _) (by omega) hT)
        obtain ⟨e1, e2, e3, e4, e5, e6⟩ := runSet_open hg (n := n) os (k + 1) s1 u h (by omega) ho' (by rw [sh.mlen, hl]) (fun i hi hin hTi q h2 h3 => by
          refine sh.none q ?_ (hs i (by omega) hin hTi q h2 h3)
          exact range_apart (by omega) h2 h3)
        refine ⟨fun q hq hc => e1 q ?_ (fun j o' hj => hc j o' (by omega)), e2.trans sh.clen, e3.trans sh.mlen, e4.trans sh.tlen, fun q bl hq => ?_, fun j hj => (e6 j (by omega)).trans (sh.cond j (by omega))⟩
        · by_cases hp : kind P S.how (S.fz cur rid) o.op = .pure
          · rw [stepD_pure h1 hp]; exact hq
          · exact sh.none q (hc k o (Nat.le_refl _) hok hT hp) hq
        · obtain ⟨b1, hb1⟩ := sh.live q bl hq
          exact e5 q b1 hb1
      · cases h
    | false =>
      simp only [hT] at h
      obtain ⟨e1, e2, e3, e4, e5, e6⟩ := runSet_open hg (n := n) os (k + 1) s u h (by omega) ho' hl (fun i hi => hs i (by omega))
      exact ⟨fun q hq hc => e1 q hq (fun j o' hj => hc j o' (by omega)), e2, e3, e4, e5, fun j hj => e6 j (by omega)⟩
end
end
end Go.Proofs.YtonmjdnkcngfjaaGreat.En

/- DERIVED. A region whose order Go leaves open, in a walk. -/
set_option linter.all false
namespace Go.Proofs.YtonmjdnkcngfjaaGreat.En
open Go Go.RowKit

section
variable {A : Type} [Ab A] {P : Program} {S : Sig A} {cr : CallR A} {cur rid r : Nat} {ops : Array Oper} {n0 c0 : Nat} {sn : List Nat}
variable {I : Nat → Nat → List (LV A)} {Own : Dom} {w0 : World}

def unl : List Bool → Nat
  | [] => 0
  | b :: l => (if b then 0 else 1) + unl l
theorem unl_zero : ∀ {l : List Bool}, unl l = 0 → ∀ i, i < l.length → l[i]? = some true
  | [], _, i, h => by simp at h
  | b :: l, h, i, hi => by
    simp only [unl] at h
    cases b
    · simp at h
    · cases i with
      | zero => rfl
      | succ i => simp at h hi ⊢; exact unl_zero h i hi
theorem unl_set : ∀ {l : List Bool} {i : Nat}, l[i]? = some false → unl (l.set i true) + 1 = unl l
  | [], i, h => by simp at h
  | b :: l, 0, h => by simp at h; subst h; simp [unl]; omega
  | b :: l, i + 1, h => by simp at h; have := unl_set h; simp only [List.set_cons_succ, unl]; omega

def lis (l : Array Bool) (i : Nat) : Bool := l.getD i false

theorem mem_ready {l : Array Bool} {i : Nat} : i ∈ Region.ready .any ops l ↔ i < ops.size ∧ l.getD i true = false ∧ ∃ o, ops[i]? = some o ∧ ∀ e ∈ o.after.toList, Region.binds .any e = true → lis l e.on = true := by
  unfold Region.ready
  simp only [List.mem_filter, List.mem_range, Bool.and_eq_true, Bool.not_eq_true']
  refine and_congr_right fun hi => and_congr_right fun _ => ?_
  have ho : ops[i]? = some ops[i] := Array.getElem?_eq_getElem hi
  rw [ho]
  simp only [Option.map_some, Option.getD_some]
  constructor
  · intro h
    refine ⟨_, rfl, fun e he hb => ?_⟩
    have := Array.all_eq_true'.1 h e (by simpa using he)
    rw [hb] at this
    simpa [lis] using this
  · rintro ⟨o, ho', h⟩
    cases ho'
    refine Array.all_eq_true'.2 fun e he => ?_
    cases hb : Region.binds .any e with
    | false => rfl
    | true => simpa [lis] using h e (by simpa using he) hb

/-- Keys that are good stay good. -/
theorem okKey_to {mem mem' : Mem A} {ρ ρ' : Key → Loc} (hl : ∀ (k : Nat) bl, mem[k]? = some (some bl) → ∃ bl', mem'[k]? = some (some bl')) {k : Key} {m : Nat} (h : okKey mem ρ k m) (e : ρ k = ρ' k) : okKey mem' ρ' k m := by
  cases k with
  | own k => obtain ⟨⟨bl, hb⟩, hm⟩ := h; exact ⟨hl k bl hb, by rw [← e]; exact hm⟩
  | inp t i => show m ≤ (ρ' (.inp t i)).cap; rw [← e]; exact h

theorem draw_any [LawAb A] [LawEq A] (hI : S.inp = I) (hS : SigOk P S) (hcr : CallOk P I cr) (htc : TcOk S cr) (hd : drawOk P S.how (S.fz cur rid) ops = true) {Q : Exit → Act → World → Prop} {s tf : LS A} (hf : runOpsD P S cr cur rid r ops.toList n0 c0 sn 0 ops.toList s = some tf)
    (hrd : Ready n0 (r) c0 ops.size 0 s) (hc : AllOk tf.conds) {ρ0 : Key → Loc} (hQ : ∀ ρ' a' w', (∀ k m, okKey s.mem ρ0 k m → ρ0 k = ρ' k) → Rl I Own w0 ρ' tf a' w' → Q .normal a' w') :
    ∀ (fuel : Nat) (l : Array Bool) (ρ : Key → Loc) (a : Act) (w : World) (u : LS A), l.size = ops.size → unl l.toList ≤ fuel → Dc ops (lis l) → runSet P S cr cur rid r ops n0 c0 sn (lis l) 0 ops.toList s = some u → Rl I Own w0 ρ u a w → (∀ k m, okKey s.mem ρ0 k m → ρ0 k = ρ k) →
      wpAnyR P ops Q fuel l a w := by
  have he : edgesOk 0 ops.toList = true := by
    simp only [drawOk, Bool.and_eq_true] at hd; exact hd.1.1
  -- where nothing is ready, all is done
  have done : ∀ (l : Array Bool) (ρ : Key → Loc) (a : Act) (w : World) (u : LS A), l.size = ops.size → Region.ready .any ops l = [] → runSet P S cr cur rid r ops n0 c0 sn (lis l) 0 ops.toList s = some u → Rl I Own w0 ρ u a w → (∀ k m, okKey s.mem ρ0 k m → ρ0 k = ρ k) → Q .normal a w := by
    intro l ρ a w u hsz hre hu hr hρ
    have hall : ∀ n i, i < n → i < ops.size → lis l i = true := by
      intro n
      induction n with
      | zero => intro i h; omega
      | succ n ih =>
        intro i h1 h2
        cases hl : lis l i with
        | true => rfl
        | false =>
          exfalso
          have ho : ops[i]? = some ops[i] := Array.getElem?_eq_getElem h2
          have : i ∈ Region.ready .any ops l := mem_ready.2 ⟨h2, by
            have : i < l.size := by omega
            simp only [lis, Array.getD, this, dite_true] at hl ⊢
            exact hl, _, ho, fun e hem hb => ih _ (by have := edgesOk_get ops.toList 0 he i ops[i] (by simp [ho]) e hem hb; omega) (by have := edgesOk_get ops.toList 0 he i ops[i] (by simp [ho]) e hem hb; omega)⟩
          rw [hre] at this
          cases this
    rw [runSet_all ops.toList 0 s (fun j _ h2 => hall (j + 1) j (by omega) (by simpa using h2))] at hu
    rw [hf] at hu
    cases hu
    exact hQ ρ a w hρ hr
  intro fuel
  induction fuel with
  | zero =>
    intro l ρ a w u hsz hun hdc hu hr hρ
    have hre : Region.ready .any ops l = [] := by
      rw [List.eq_nil_iff_forall_not_mem]
      intro i hi
      obtain ⟨h1, h2, _⟩ := mem_ready.1 hi
      have := unl_zero (l := l.toList) (by omega) i (by simp; omega)
      have h3 : l[i]? = some true := by simpa using this
      simp [h3] at h2
    exact wpAnyR_zero hre (done l ρ a w u hsz hre hu hr hρ)
  | succ fuel ih =>
    intro l ρ a w u hsz hun hdc hu hr hρ
    refine wpAnyR_succ (fun hre => done l ρ a w u hsz hre hu hr hρ) fun i hi => ?_
    obtain ⟨h1, h2, o, ho, hpre⟩ := mem_ready.1 hi
    have hli : i < l.size := by omega
    have hlf : l[i]? = some false := by
      rw [Array.getD_eq_getD_getElem?, Array.getElem?_eq_getElem hli, Option.getD_some] at h2
      rw [Array.getElem?_eq_getElem hli, h2]
    have hTi : lis l i = false := by simp [lis, hlf]
    have hT' : ∀ k, lis (l.setIfInBounds i true) k = (lis l k || decide (k = i)) := by
      intro k
      by_cases e : k = i
      · subst e; simp [lis, hli]
      · simp [lis, Array.getElem?_setIfInBounds_ne (Ne.symm e), e]
    have hdc' : Dc ops (lis (l.setIfInBounds i true)) := by
      intro j o hoj hj e hem hb
      rw [hT'] at hj ⊢
      by_cases e1 : j = i
      · subst e1
        rw [ho] at hoj; cases hoj
        simp [hpre e hem hb]
      · have hj' : lis l j = true := by simpa [e1] using hj
        simp [hdc j o hoj hj' e hem hb]
    obtain ⟨t', ht', hct'⟩ := runSet_some hcr.grow htc hd hdc' hf
    obtain ⟨u', hu', hstep⟩ := runSet_last hcr.grow htc ho hTi hT' (fun j oj hj hTj hoj => pair_indep hd hdc hj hTi hTj ho hoj) ops.toList 0 s t' (fun j => by simp) (by omega) (by simpa using h1) ht'
    rw [hu] at hu'
    cases hu'
    have hlow : ∀ q, n0 ≤ q → q < n0 + r * ops.size → s.mem[q]? = some none := fun q h3 h4 => hrd.mem q (by simpa using h3) h4
    have hrange : ∀ j, j < ops.size → n0 + r * j + r ≤ n0 + r * ops.size := by
      intro j hj
      have := Nat.mul_le_mul_left (r) (show j + 1 ≤ ops.size from hj)
      rw [Nat.mul_succ] at this
      omega
    obtain ⟨op1, op2, op3, op4, op5, op6⟩ := runSet_open hcr.grow (n := ops.size) ops.toList 0 s u hu (by simp) (fun j => by simp) hrd.mlen (fun j _ hj _ q h3 h4 => hlow q (by omega) (by have := hrange j hj; omega))
    have hmine : ∀ q, n0 + r * i ≤ q → q < n0 + r * i + r → u.mem[q]? = some none := by
      intro q h3 h4
      refine op1 q (hlow q (by omega) (by have := hrange i h1; omega)) ?_
      intro j oj _ _ hTj _
      exact range_apart (by rintro rfl; rw [hTi] at hTj; cases hTj) h3 h4
    refine stepG_sound hI hS hcr ho hstep ?_ ?_ (fun hp => hmine _ (Nat.le_refl _) (by have : 0 < r := hp; show n0 + r * i < _; omega)) ?_ ?_ hr ?_
    · intro c hcc
      have hcc : t'.conds[c0 + i]? = some c := hcc
      rw [hct' i (by rw [hT']; simp)] at hcc
      exact hc c (List.mem_of_getElem? hcc)
    · show c0 + i < _
      rw [op2, hrd.clen]; omega
    · show n0 + r * i ≤ _
      rw [op3, hrd.mlen]
      have := hrange i h1
      omega
    · intro hkw k hk bl hb
      have hk : n0 + r * i ≤ k := hk
      have hlt := lt_of_get hb
      rw [op3, hrd.mlen] at hlt
      have : u.mem[k]? = some none := by
        refine op1 k (hlow k (by omega) hlt) ?_
        intro j oj _ hoj hTj hnp
        have hji : j ≠ i := by rintro rfl; rw [hTi] at hTj; cases hTj
        rcases Nat.lt_or_gt_of_ne hji with h' | h'
        · right
          have := Nat.mul_le_mul_left (r) (show j + 1 ≤ i from h')
          rw [Nat.mul_succ] at this
          omega
        · exfalso
          have hind := pair_indep hd hdc h' hTi hTj ho hoj
          simp only [indep, Bool.and_eq_true] at hind
          have h2 := hind.2
          have hkw : kind P S.how (S.fz cur rid) o.op = .wr := hkw
          rw [hkw] at h2
          cases hkj : kind P S.how (S.fz cur rid) oj.op <;> rw [hkj] at h2 hnp <;> simp at h2 hnp
      rw [this] at hb
      cases hb
    · intro ρ' a' w' hρ' hr'
      refine ih _ ρ' a' w' t' (by simpa using hsz) ?_ hdc' ht' hr' (fun k m hk => (hρ k m hk).trans (hρ' k m (okKey_to op5 hk (hρ k m hk))))
      have := unl_set (l := l.toList) (i := i) (by simpa using hlf)
      rw [Array.toList_setIfInBounds]
      omega

theorem Rl.drew {ρ : Key → Loc} {s : LS A} {a : Act} {w : World} (h : Rl I Own w0 ρ s a w) : Rl I Own w0 ρ s a { w with drawn := w.drawn + 1 } :=
  { h with
    mem := { h.mem with
      cell := fun k bl hk i v hv => h.mem.cell k bl hk i v hv
      free := fun k bl hk hw i hi => h.mem.free k bl hk hw i hi
      inb := fun k bl hk hd hn => h.mem.inb k bl hk hd hn
      row := fun k bl e hk he => h.mem.row k bl e hk he }
    keeps := ⟨h.keeps.os, h.keeps.tape, h.keeps.output, h.keeps.size, h.keeps.block⟩ }

/-- What conditions and blocks a region leaves. -/
structure Grew (s t : LS A) : Prop where
  conds : ∀ j : Nat, j < s.conds.length → t.conds[j]? = s.conds[j]?
  clen : s.conds.length ≤ t.conds.length
  mlen : s.mem.length ≤ t.mem.length
  tlen : t.tmps.length = s.tmps.length
  live : ∀ (k : Nat) (bl : Blk A), s.mem[k]? = some (some bl) → ∃ bl' : Blk A, t.mem[k]? = some (some bl')
  none : ∀ k : Nat, k < s.mem.length → s.mem[k]? = some none → t.mem[k]? = some none

theorem execR_grew (hg : GrowOk cr) {draw : Bool} {s t : LS A} (h : execR P S cr cur rid ops draw s = some t) : Grew s t := by
  have main : ∀ {t : LS A} {r : Nat}, ((pad ops.toList.length (r * ops.toList.length) s).mem.length ≤ t.mem.length) → t.tmps.length = (pad ops.toList.length (r * ops.toList.length) s).tmps.length →
      (∀ (k : Nat) (bl : Blk A), (pad ops.toList.length (r * ops.toList.length) s).mem[k]? = some (some bl) → ∃ bl' : Blk A, t.mem[k]? = some (some bl')) → (∀ k, k < s.mem.length → (pad ops.toList.length (r * ops.toList.length) s).mem[k]? = some none → t.mem[k]? = some none) →
      ∀ {u : LS A}, shutR s (some t) = some u → Grew s u := by
    intro t r h2 h4 h5 h6 u hu
    have fin : u.mem = t.mem ∧ u.tmps = t.tmps ∧ (∃ x, u.conds = s.conds ++ x) := by
      simp only [shutR] at hu
      split at hu <;> cases hu
      · exact ⟨rfl, rfl, [], by simp⟩
      · exact ⟨rfl, rfl, _, rfl⟩
    obtain ⟨e1, e2, x, e3⟩ := fin
    refine ⟨fun j hj => by rw [e3, List.getElem?_append_left hj], by rw [e3]; simp, by rw [e1]; refine Nat.le_trans ?_ h2; simp [pad], by rw [e2]; exact h4, fun k bl hk => by rw [e1]; exact h5 k bl (get_pad hk), fun k hk hn => by
      rw [e1]
      refine h6 k hk ?_
      simp only [pad]
      rw [List.getElem?_append_left hk]; exact hn⟩
  have sh : ∀ {q : Option (LS A)} {u : LS A}, shutR s q = some u → ∃ t, q = some t := by
    intro q u hq
    cases q with
    | none => cases hq
    | some t => exact ⟨t, rfl⟩
  have hrd := fun r => pad_ready s ops.toList.length r
  unfold execR at h
  split at h
  · obtain ⟨t', ht⟩ := sh h
    rw [ht] at h
    have h1 := runOps_keeps hg ops.toList 0 _ t' ht
    have e0 : (0 : Nat) = 0 * ops.toList.length := (Nat.zero_mul _).symm
    rw [e0] at h1
    exact main h1.mlen h1.tlen h1.live (fun k hk hn => h1.none k (by simp [pad]; omega) hn) h
  · split at h
    · obtain ⟨t', ht⟩ := sh h
      rw [ht] at h
      generalize resO P S cur rid ops.toList = r at ht
      rw [← runSet_all (T := fun _ => true) ops.toList 0 _ (fun _ _ _ => rfl)] at ht
      have hrange : ∀ j, j < ops.size → s.mem.length + r * j + r ≤ s.mem.length + r * ops.size := by
        intro j hj
        have := Nat.mul_le_mul_left r (show j + 1 ≤ ops.size from hj)
        rw [Nat.mul_succ] at this
        omega
      obtain ⟨op1, op2, op3, op4, op5, op6⟩ := runSet_open hg (n := ops.size) ops.toList 0 _ t' ht (by simp) (fun j => by simp) (by rw [(hrd r).mlen]; simp) (fun j _ hj _ q h3 h4 => (hrd r).mem q (by omega) (by have := hrange j hj; simp at this ⊢; omega))
      exact main (Nat.le_of_eq op3.symm) op4 op5 (fun k hk hn => op1 k hn (fun j o _ _ _ _ => .inl (by omega))) h
    · cases h

/-- The conditions of a region, out of those behind it. -/
theorem shutR_ok {s t u : LS A} (h : shutR s (some t) = some u) (hc : AllOk u.conds) : (∀ c ∈ t.conds, condOk c) ∧ u.mem = t.mem ∧ u.tmps = t.tmps := by
  have all : ∀ {cs : List Cnd}, condOk (allC cs) → ∀ c ∈ cs, condOk c := by
    intro cs
    induction cs with
    | nil => intro _ c hc; cases hc
    | cons d cs ih =>
      intro h c hc
      obtain ⟨h1, h2⟩ := andC_ok h
      rcases List.mem_cons.1 hc with rfl | hc
      · exact h1
      · exact ih h2 c hc
  simp only [shutR] at h
  split at h
  · rename_i e
    cases h
    exact ⟨all (by rw [e]; trivial), rfl, rfl⟩
  · rename_i c e
    cases h
    exact ⟨all (by rw [e]; exact hc (some c) (by simp)), rfl, rfl⟩

/-- A region whose order is open. -/
theorem regionD_sound [LawAb A] [LawEq A] (hI : S.inp = I) (hS : SigOk P S) (hcr : CallOk P I cr) (htc : TcOk S cr) (hm : P.follows .mixedOrders = true) (hd : drawOk P S.how (S.fz cur rid) ops = true) {Q : Exit → Act → World → Prop} {s t : LS A} {ρ : Key → Loc} {a : Act} {w : World}
    (h : runOpsD P S cr cur rid r ops.toList s.mem.length 0 sn 0 ops.toList (pad ops.toList.length (r * ops.toList.length) s) = some t) (hc : AllOk t.conds) (hr : Rl I Own w0 ρ s a w)
    (hQ : ∀ ρ' a' w', (∀ k m, okKey s.mem ρ k m → ρ k = ρ' k) → Rl I Own w0 ρ' t a' w' → Q .normal a' w') : wpR P (Code.region rid ops true) Q a w := by
  refine wpR_region_any hm ?_
  have hrd : Ready s.mem.length r 0 ops.size 0 (pad ops.toList.length (r * ops.toList.length) s) := by simpa using pad_ready s ops.toList.length (r)
  have hnone : ∀ i, lis (Array.replicate ops.size false) i = false := by
    intro i
    simp only [lis, Array.getD_eq_getD_getElem?, Array.getElem?_replicate]
    split <;> rfl
  refine draw_any hI hS hcr htc hd h hrd hc (ρ0 := ρ) ?_ ops.size _ ρ a _ (pad ops.toList.length (r * ops.toList.length) s) (by simp) ?_ ?_ ?_ (hr.padded _ _).drew (fun _ _ _ => rfl)
  · intro ρ' a' w' he hr'
    exact hQ ρ' a' w' (fun k m hk => he k m (okKey_to (fun k bl hb => ⟨bl, get_pad hb⟩) hk rfl)) hr'
  · have : ∀ n, unl (List.replicate n false) = n := by
      intro n
      induction n with
      | zero => rfl
      | succ n ih => simp [List.replicate_succ, unl, ih]; omega
    simp [this]
  · intro j o _ hj
    rw [hnone] at hj; cases hj
  · have gen : ∀ (n0 c0 : Nat) (sn : List Nat) (os : List Oper) (i : Nat) (s : LS A), runSet P S cr cur rid r ops n0 c0 sn (lis (Array.replicate ops.size false)) i os s = some s := by
      intro n0 c0 sn os
      induction os with
      | nil => intro i s; rfl
      | cons o os ih => intro i s; simp only [runSet, hnone, ih]
    exact gen _ _ _ _ _ _
end
end Go.Proofs.YtonmjdnkcngfjaaGreat.En

/- DERIVED. The executor is sound: results, code. -/
set_option linter.all false
namespace Go.Proofs.YtonmjdnkcngfjaaGreat.En
open Go Go.RowKit

section
variable {A : Type} [Ab A] {P : Program} {S : Sig A} {I : Nat → Nat → List (LV A)}

/-! ## results -/
def resOne (tmps : Array Value) : ResultVar → Sem Value
  | .tmp t => pure (tmps.getD t Go.undef)
  | .cell x t => do loadVar t (← asAddr (tmps.getD x Go.undef))
theorem results_eq (fn : Func) (tmps : Array Value) : results fn tmps = (do
    let vs ← fn.results.mapM (resOne tmps)
    pure (if h : vs.size = 1 then vs[0] else .tuple vs)) := by
  unfold results
  congr 1

section
variable {Own : Dom} {w0 : World} {ρ : Key → Loc} {s : LS A} {a : Act} {w : World}

theorem resV_sound [LawAb A] (hr : Rl I Own w0 ρ s a w) {rc : Bool} {r : ResultVar} {v : LV A} {c : Cnd} (h : resV P rc s r = some (v, c)) (hc : condOk c) :
    (resOne a.tmps r).run P w = .ok (LV.tr ρ v) w ∧ v.kin (okKey s.mem ρ) := by
  cases r with
  | tmp t =>
    simp only [resV] at h
    split at h
    · rename_i u hu
      simp only [Option.some.injEq, Prod.mk.injEq] at h; obtain ⟨rfl, rfl⟩ := h
      have he : ev s.tmps (.tmp t) = some u := hu
      have := ev_sound hr he
      refine ⟨?_, this.2⟩
      have e : a.tmps.getD t Go.undef = LV.tr ρ u := this.1
      simp only [resOne, e, Sem.run_pure]
    · cases h
  | cell x t =>
    simp only [resV] at h
    split at h
    · rename_i b o p hx
      have he : ev s.tmps (.tmp x) = some (.ptr (.own b) o p) := hx
      have he := (ev_sound hr he).1
      have e : a.tmps.getD x Go.undef = LV.tr ρ (.ptr (.own b) o p : LV A) := he
      split at h
      · rename_i bl hb
        have hl := run_load_sound (P := P) hr.mem (at_own hb) h hc
        refine ⟨?_, hl.2 _ (hr.occM _ bl (at_own hb))⟩
        have h1 := hl.1
        simp only [Instr.loadAt, Instr.sureAddr, LV.tr, Sem.run_bind, Sem.run_pure, Result.andThen_ok] at h1
        simp only [resOne, e, LV.tr, asAddr, Sem.run_bind, Sem.run_pure, Result.andThen_ok]
        exact h1
      · cases h
    · cases h

theorem resVs_sound [LawAb A] (hr : Rl I Own w0 ρ s a w) {rc : Bool} : ∀ {rs : List ResultVar} {vs : List (LV A)} {c : Cnd}, resVs P rc s rs = some (vs, c) → condOk c →
    (rs.mapM (resOne a.tmps)).run P w = .ok (trs ρ vs) w ∧ kinL (okKey s.mem ρ) vs
  | [], vs, c, h, _ => by simp only [resVs, Option.some.injEq, Prod.mk.injEq] at h; obtain ⟨rfl, _⟩ := h; exact ⟨rfl, trivial⟩
  | r :: rs, vs, c, h, hc => by
    simp only [resVs] at h
    split at h
    · rename_i v c1 hv
      split at h
      · rename_i vs' c2 hvs
        simp only [Option.some.injEq, Prod.mk.injEq] at h; obtain ⟨rfl, rfl⟩ := h
        obtain ⟨k1, k2⟩ := andC_ok hc
        obtain ⟨h1, h2⟩ := resV_sound hr hv k1
        obtain ⟨h3, h4⟩ := resVs_sound hr hvs k2
        refine ⟨?_, h2, h4⟩
        simp only [List.mapM_cons, Sem.run_bind, h1, h3, Result.andThen_ok, Sem.run_pure, trs]
      · cases h
    · cases h

theorem resF_sound [LawAb A] (hr : Rl I Own w0 ρ s a w) {rc : Bool} {fn : Func} {v : LV A} {c : Cnd} (h : resF P rc fn s = some (v, c)) (hc : condOk c) :
    (results fn a.tmps).run P w = .ok (LV.tr ρ v) w ∧ v.kin (okKey s.mem ρ) := by
  unfold resF at h
  have key : ∀ vs, resVs P rc s fn.results.toList = some (vs, c) → (results fn a.tmps).run P w = .ok (if h : (trs ρ vs).toArray.size = 1 then (trs ρ vs).toArray[0] else .tuple (trs ρ vs).toArray) w ∧ kinL (okKey s.mem ρ) vs := by
    intro vs hvs
    obtain ⟨h1, h2⟩ := resVs_sound hr hvs hc
    refine ⟨?_, h2⟩
    rw [results_eq, Array.mapM_eq_mapM_toList]
    simp only [Sem.run_bind, Sem.run_map, Sem.run_pure]
    rw [h1]
    rfl
  split at h
  · rename_i u c' hvs
    simp only [Option.some.injEq, Prod.mk.injEq] at h; obtain ⟨rfl, rfl⟩ := h
    obtain ⟨h1, h2⟩ := key _ hvs
    exact ⟨by rw [h1]; simp [trs], h2.1⟩
  · rename_i vs c' hne hvs
    simp only [Option.some.injEq, Prod.mk.injEq] at h; obtain ⟨rfl, rfl⟩ := h
    obtain ⟨h1, h2⟩ := key _ hvs
    refine ⟨?_, h2⟩
    rw [h1]
    have : ¬ (trs ρ vs).toArray.size = 1 := by
      intro e
      match vs, hne with
      | [], _ => simp [trs] at e
      | [u], hne => exact hne u rfl
      | u1 :: u2 :: l, _ => simp [trs] at e
    rw [dif_neg this]
    rfl
  · cases h

theorem trs_length : ∀ l : List (LV A), (trs ρ l).length = l.length
  | [] => rfl
  | _ :: l => by simp [trs, trs_length l]

/-- The state at a call's beginning. -/
theorem Ahead.bare {args : List (LV A)} {mem : Mem A} (h : Ahead I Own ρ mem args w) : Ahead I { Own with ds := [] } ρ mem args w := ⟨h.mem, ⟨h.mine.own, h.mine.src⟩, h.new, h.kinV, h.kinM⟩
theorem start_rl {fn : Func} {args : List (LV A)} {mem : Mem A} (h : Ahead I Own ρ mem args w) (hd : Own.ds = []) :
    Rl I Own w ρ (startS fn args mem) { tmps := (trs ρ args).toArray ++ Array.replicate (fn.ntmps - (trs ρ args).toArray.size) Go.undef, defers := [] } w where
  size := by simp [startS, trs_length]
  val i v hv := by
    right
    simp only [startS] at hv
    by_cases hi : i < args.length
    · rw [List.getElem?_append_left hi] at hv
      have := trs_get (ρ := ρ) hv
      rw [Array.getElem?_append_left (by simp [trs_length]; exact hi)]
      simpa using this
    · rw [List.getElem?_append_right (by omega), List.getElem?_replicate] at hv
      split at hv
      · rename_i hlt
        cases hv
        rw [Array.getElem?_append_right (by simp [trs_length]; omega)]
        simp only [List.size_toArray, trs_length, Array.getElem?_replicate, LV.tr]
        rw [if_pos hlt]
      · cases hv
  defers := hd.symm
  mem := h.mem
  mine := h.mine
  new := h.new
  keeps := Keeps.refl _ _
  occT i v hv := by
    simp only [startS] at hv
    by_cases hi : i < args.length
    · rw [List.getElem?_append_left hi] at hv
      exact kinL_get h.kinV hv
    · rw [List.getElem?_append_right (by omega), List.getElem?_replicate] at hv
      split at hv
      · cases hv; trivial
      · cases hv
  occM := h.kinM
end

/-- A call, out of what its body comes to. -/
theorem calls_of_ex [LawAb A] {f : FuncId} {fn : Func} {c : Code} {args : List (LV A)} {mem : Mem A} {o : Out} {t : LS A} {rc : Bool} {v : LV A} {cv : Cnd} (hf : P.funcs[f]? = some fn) (hb : fn.body = some c) (hex : Ex P I c (startS fn args mem) o t) (ho : o = .normal ∨ o = .ret) (hv : resF P rc fn t = some (v, cv)) (hc : condOk cv)
    {Own : Dom} {ρ : Key → Loc} {w : World} (h : Ahead I Own ρ mem args w) :
    Calls P f (trs ρ args).toArray w fun e w' => ∃ ρ', e = .returned (LV.tr ρ' v) ∧ Left' I Own w mem ρ ρ' t.mem v w' := by
  refine calls_of_wp hf hb (wpR.wp ?_)
  refine hex.run { Own with ds := [] } w ρ _ w _ (start_rl h.bare rfl) fun ρ' a' w' he hr' => ?_
  have hr := resF_sound hr' hv hc
  have hl : Left' I Own w mem ρ ρ' t.mem v w' := ⟨he, hr'.mem, ⟨hr'.mine.own, hr'.mine.src⟩, ⟨hr'.keeps.os, hr'.keeps.tape, hr'.keeps.output, hr'.keeps.size, hr'.keeps.block⟩, hr.2, hr'.occM⟩
  rcases ho with rfl | rfl
  · exact ⟨hr'.defers, _, hr.1, ρ', rfl, hl⟩
  · exact ⟨hr'.defers, _, hr.1, ρ', rfl, hl⟩

/-! ## the rules -/
theorem Ex.seq {x y : Code} {s s' t : LS A} {o : Out} (h1 : Ex P I x s .normal s') (h2 : Ex P I y s' o t) : Ex P I (.seq x y) s o t := by
  refine ⟨fun k bl hb => ?_, fun Own w0 ρ a w Q hr hQ => wpR_seq ?_⟩
  · obtain ⟨b1, hb1⟩ := h1.live k bl hb
    exact h2.live k b1 hb1
  refine h1.run Own w0 ρ a w _ hr fun ρ' a' w' he hr' => ?_
  show wpR P y Q a' w'
  exact h2.run Own w0 ρ' a' w' Q hr' fun ρ2 a2 w2 he2 hr2 => hQ ρ2 a2 w2 (fun k m hk => (he k m hk).trans (he2 k m (okKey_to h1.live hk (he k m hk)))) hr2
theorem Ex.seq_out {x y : Code} {s t : LS A} {o : Out} (h1 : Ex P I x s o t) (ho : o ≠ .normal) : Ex P I (.seq x y) s o t := by
  refine ⟨h1.live, fun Own w0 ρ a w Q hr hQ => wpR_seq ?_⟩
  refine h1.run Own w0 ρ a w _ hr fun ρ' a' w' he hr' => ?_
  have := hQ ρ' a' w' he hr'
  cases o <;> first | exact absurd rfl ho | exact this
theorem Ex.block {b : Code} {id : Nat} {s t : LS A} (h : Ex P I b s (.exit id) t) : Ex P I (.block id b) s .normal t := by
  refine ⟨h.live, fun Own w0 ρ a w Q hr hQ => wpR_block ?_⟩
  refine h.run Own w0 ρ a w _ hr fun ρ' a' w' he hr' => ?_
  show (if id = id then Q .normal a' w' else _)
  rw [if_pos rfl]
  exact hQ ρ' a' w' he hr'
theorem Ex.block_out {b : Code} {id : Nat} {s t : LS A} {o : Out} (h : Ex P I b s o t) (ho : o ≠ .exit id) : Ex P I (.block id b) s o t := by
  refine ⟨h.live, fun Own w0 ρ a w Q hr hQ => wpR_block ?_⟩
  refine h.run Own w0 ρ a w _ hr fun ρ' a' w' he hr' => ?_
  have := hQ ρ' a' w' he hr'
  cases o with
  | normal => exact this
  | ret => exact this
  | exit id' =>
    show (if id' = id then _ else _)
    rw [if_neg (fun e => ho (by rw [e]))]
    exact this
theorem Ex.scope {b : Code} {s t : LS A} {o : Out} (h : Ex P I b s o t) : Ex P I (.scope b) s o t := by
  refine ⟨h.live, fun Own w0 ρ a w Q hr hQ => wpR_scope_straight ?_⟩
  refine h.run Own w0 ρ a w _ hr fun ρ' a' w' he hr' => ?_
  have := hQ ρ' a' w' he hr'
  cases o <;> exact this
theorem Ex.refl {c : Code} {o : Out} (h : ∀ (Own : Dom) (w0 : World) (ρ : Key → Loc) (a : Act) (w : World) (Q : Exit → Act → World → Prop), Q o.toExit a w → wpR P c Q a w) (s : LS A) : Ex P I c s o s :=
  ⟨fun k bl hb => ⟨bl, hb⟩, fun Own w0 ρ a w Q hr hQ => h Own w0 ρ a w Q (hQ ρ a w (fun _ _ _ => rfl) hr)⟩

/-- A loop: so many rounds that come to their end, and one that leaves. -/
theorem Ex.loop {b : Code} {t : LS A} {o : Out} (ho : o ≠ .normal) (J : Nat → LS A) : ∀ (n : Nat), (∀ k, k < n → Ex P I b (J k) .normal (J (k + 1))) → Ex P I b (J n) o t → Ex P I (.loop b) (J 0) o t := by
  intro n h hl
  have live : ∀ m, m ≤ n → ∀ (k : Nat) (bl : Blk A), (J (n - m)).mem[k]? = some (some bl) → ∃ bl' : Blk A, t.mem[k]? = some (some bl') := by
    intro m
    induction m with
    | zero => intro _; exact hl.live
    | succ m ih =>
      intro hm k bl hb
      have h1 := (h (n - (m + 1)) (by omega)).live k bl hb
      rw [show n - (m + 1) + 1 = n - m by omega] at h1
      obtain ⟨b1, hb1⟩ := h1
      exact ih (by omega) k b1 hb1
  refine ⟨by simpa using live n (Nat.le_refl _), fun Own w0 ρ a w Q hr hQ => ?_⟩
  refine wpR_loop_rounds (n + 1) ?_
  have key : ∀ m, m ≤ n → ∀ ρ a w, Rl I Own w0 ρ (J (n - m)) a w → (∀ ρ' a' w', (∀ k q, okKey (J (n - m)).mem ρ k q → ρ k = ρ' k) → Rl I Own w0 ρ' t a' w' → Q o.toExit a' w') → roundsR P b Q (m + 1) a w := by
    intro m
    induction m with
    | zero =>
      intro _ ρ a w hr hQ
      rw [roundsR_succ]
      refine hl.run Own w0 ρ a w _ hr fun ρ' a' w' he hr' => ?_
      have := hQ ρ' a' w' he hr'
      cases o <;> first | exact absurd rfl ho | exact this
    | succ m ih =>
      intro hm ρ a w hr hQ
      rw [roundsR_succ]
      have h1 := h (n - (m + 1)) (by omega)
      rw [show n - (m + 1) + 1 = n - m by omega] at h1
      refine h1.run Own w0 ρ a w _ hr fun ρ' a' w' he hr' => ?_
      show roundsR P b Q (m + 1) a' w'
      exact ih (by omega) ρ' a' w' hr' fun ρ2 a2 w2 he2 hr2 => hQ ρ2 a2 w2 (fun k q hk => (he k q hk).trans (he2 k q (okKey_to h1.live hk (he k q hk)))) hr2
  exact key n (Nat.le_refl _) ρ a w (by simpa using hr) (by simpa using hQ)

/-! ## the shape that an execution leaves -/
theorem Grew.refl (s : LS A) : Grew s s := ⟨fun _ _ => rfl, Nat.le_refl _, Nat.le_refl _, rfl, fun _ bl h => ⟨bl, h⟩, fun _ _ h => h⟩
theorem Grew.trans {a b c : LS A} (h : Grew a b) (k : Grew b c) : Grew a c :=
  ⟨fun j hj => (k.conds j (Nat.lt_of_lt_of_le hj h.clen)).trans (h.conds j hj), Nat.le_trans h.clen k.clen, Nat.le_trans h.mlen k.mlen, k.tlen.trans h.tlen,
   fun i bl hb => by
    obtain ⟨b1, h1⟩ := h.live i bl hb
    exact k.live i b1 h1,
   fun i hi hn => k.none i (Nat.lt_of_lt_of_le hi h.mlen) (h.none i hi hn)⟩
theorem Grew.allOk {s t : LS A} (h : Grew s t) (hc : AllOk t.conds) : AllOk s.conds := by
  intro c hm
  obtain ⟨j, hj, rfl⟩ := List.mem_iff_getElem.1 hm
  have := h.conds j hj
  rw [List.getElem?_eq_getElem hj] at this
  exact hc _ (List.mem_of_getElem? this)

theorem known_grew (hS : SigOk P S) {f : FuncId} {p : List Nat} {h : LS A → Option (Out × List (LV A) × Mem A × Cnd)} (hl : S.lp f p = some h) {s t : LS A} {o : Out} (hk : known h s = some (o, t)) : Grew s t := by
  unfold known at hk
  split at hk
  · rename_i o' tm m c hh
    cases hk
    obtain ⟨h1, h2, h3⟩ := hS.lpG f p h s _ _ _ _ hl hh
    refine ⟨fun j hj => by simp only; rw [List.getElem?_append_left hj], by simp, h2, h1, fun k bl hb => (h3 k (lt_of_get hb)).1 ⟨bl, hb⟩, fun k hk hn => ?_⟩
    show m[k]? = some none
    have e : m[k]? = some m[k] := List.getElem?_eq_getElem (by omega)
    rw [e]
    cases hq : m[k] with
    | none => rfl
    | some bl =>
      obtain ⟨b1, hb1⟩ := (h3 k hk).2 ⟨bl, by rw [e, hq]⟩
      rw [hn] at hb1; cases hb1
  · cases hk

theorem callN_grow {ex : Code → LS A → Option (Out × LS A)} (hex : ∀ c s o t, ex c s = some (o, t) → Grew s t) {f : FuncId} {args : List (LV A)} {mem mem' : Mem A} {v : LV A} {c : Cnd} (h : callN P S ex f args mem = some (v, mem', c)) :
    mem.length ≤ mem'.length ∧ ∀ (k : Nat), k < mem.length → ((∃ bl, mem[k]? = some (some bl)) ↔ ∃ bl, mem'[k]? = some (some bl)) := by
  unfold callN at h
  split at h
  rotate_left
  · cases h
  rename_i fn hf
  split at h
  rotate_left
  · cases h
  rename_i cd hb hnm
  split at h
  · cases h
  · rename_i o t _ he
    split at h
    · cases h
      have g := hex _ _ _ _ he
      refine ⟨trimM_len _ _ g.mlen, fun k hk => ⟨fun ⟨bl, hb⟩ => ?_, fun ⟨bl, hb⟩ => ?_⟩⟩
      · obtain ⟨b1, hb1⟩ := g.live k bl hb
        exact ⟨b1, (trimM_get _ _ _ _).2 hb1⟩
      rw [trimM_get] at hb
      have e : mem[k]? = some mem[k] := List.getElem?_eq_getElem hk
      cases hq : mem[k] with
      | none =>
        have := g.none k hk (by show mem[k]? = some none; rw [e, hq])
        rw [this] at hb; cases hb
      | some b1 => exact ⟨b1, by rw [e, hq]⟩
    · cases h
  · cases h

def inner (P : Program) (S : Sig A) (n : Nat) : CallR A := fun f args mem => match S.il f with
  | true => callN P S (exec P S n f []) f args mem
  | false => S.cs f args mem

theorem exec_grew (hS : SigOk P S) : ∀ (n : Nat) (cur : FuncId) (p : List Nat) (c : Code) (s t : LS A) (o : Out), exec P S n cur p c s = some (o, t) → Grew s t
  | 0, cur, p, c, s, t, o, h => by simp [exec] at h
  | n + 1, cur, p, c, s, t, o, h => by
    have ih := exec_grew hS n
    have hg : GrowOk (inner P S n) := by
      intro f vs mem v mem' c h
      unfold inner at h
      split at h
      · exact callN_grow (fun c s o t h => ih _ _ _ _ _ _ h) h
      · exact hS.cs.grow f vs mem v mem' c h
    cases c <;> simp only [exec] at h
    case skip => cases h; exact Grew.refl _
    case label => cases h; exact Grew.refl _
    case region id ops draw =>
      split at h
      · rename_i hh hl; exact known_grew hS hl h
      · split at h
        · rename_i s' hs; cases h; exact execR_grew hg hs
        · cases h
    case seq x y =>
      split at h
      · rename_i s' hs; exact (ih _ _ _ _ _ _ hs).trans (ih _ _ _ _ _ _ h)
      · exact ih _ _ _ _ _ _ h
    case cond c x y =>
      split at h
      · exact ih _ _ _ _ _ _ h
      · exact ih _ _ _ _ _ _ h
      · cases h
    case block id b =>
      split at h
      · rename_i id' s' hs
        split at h <;> cases h <;> exact ih _ _ _ _ _ _ hs
      · exact ih _ _ _ _ _ _ h
    case scope b => exact ih _ _ _ _ _ _ h
    case loop b =>
      split at h
      · rename_i hh hl; exact known_grew hS hl h
      · split at h
        · rename_i s' hs; exact (ih _ _ _ _ _ _ hs).trans (ih _ _ _ _ _ _ h)
        · exact ih _ _ _ _ _ _ h
    case rangeFunc =>
      split at h
      · rename_i hh hl; exact known_grew hS hl h
      · cases h
    case exit id => cases h; exact Grew.refl _
    case ret => cases h; exact Grew.refl _
    all_goals (cases h; done)

/-! ## what is told of a call in place -/
theorem allC_ok : ∀ {cs : List Cnd}, condOk (allC cs) → AllOk cs
  | [], _ => by intro c hc; cases hc
  | c :: cs, h => by
    obtain ⟨h1, h2⟩ := andC_ok h
    intro d hd
    rcases List.mem_cons.1 hd with rfl | hd
    · exact h1
    · exact allC_ok h2 d hd

theorem callN_ent {ex : Code → LS A → Option (Out × LS A)} {f : FuncId} {args : List (LV A)} {mem : Mem A} {r : LV A × Mem A × Cnd} (h : callN P S ex f args mem = some r) : ∀ args w, (callFunc f args).run P w = .ok (.enter f args) w := by
  unfold callN at h
  split at h
  rotate_left
  · cases h
  rename_i fn hf
  split at h
  rotate_left
  · cases h
  rename_i cd hb hnm
  intro args w
  have hn : ¬ (fn.name = "runtime.NumGoroutine") := by
    intro e
    rw [e] at hnm
    simp at hnm
  simp [callFunc, hf, hb, hn]

theorem callN_call [LawAb A] {ex : Code → LS A → Option (Out × LS A)} {f : FuncId} (hex : ∀ s o t, ex (bodyOf P f) s = some (o, t) → AllOk t.conds → Ex P I (bodyOf P f) s o t) {args : List (LV A)} {mem mem' : Mem A} {v : LV A} {c : Cnd} (h : callN P S ex f args mem = some (v, mem', c)) (hc : condOk c)
    {Own : Dom} {ρ : Key → Loc} {w : World} (ha : Ahead I Own ρ mem args w) :
    Calls P f (trs ρ args).toArray w fun e w' => ∃ ρ', e = .returned (LV.tr ρ' v) ∧ Left' I Own w mem ρ ρ' mem' v w' := by
  unfold callN at h
  split at h
  rotate_left
  · cases h
  rename_i fn hf
  split at h
  rotate_left
  · cases h
  rename_i cd hb hnm
  have hbo : bodyOf P f = cd := by simp [bodyOf, hf, hb]
  rw [hbo] at hex
  split at h
  · cases h
  · rename_i o t hno he
    split at h
    · rename_i v' c' hv
      simp only [Option.some.injEq, Prod.mk.injEq] at h; obtain ⟨rfl, rfl, rfl⟩ := h
      obtain ⟨k1, k2⟩ := andC_ok hc
      have ho : o = .normal ∨ o = .ret := by
        cases o with
        | normal => exact .inl rfl
        | ret => exact .inr rfl
        | exit id => exact absurd rfl (hno id)
      refine (calls_of_ex hf hb (hex _ _ _ he (allC_ok k2)) ho hv k1 ha).mono ?_
      rintro e w' ⟨ρ', he', hl⟩
      have tok : ∀ k m, okKey t.mem ρ' k m → okKey (trimM mem.length t.mem) ρ' k m := by
        intro k m hk
        cases k with
        | own k => obtain ⟨⟨bl, hb⟩, hm⟩ := hk; exact ⟨⟨bl, (trimM_get _ _ _ _).2 hb⟩, hm⟩
        | inp t i => exact hk
      refine ⟨ρ', he', hl.agree, hl.mem.sub fun k bl hk => (trimM_get _ _ _ _).1 hk, hl.mine.sub (fun k bl hk => (trimM_get _ _ _ _).1 hk), hl.keeps, kin_mono tok _ hl.kinV, fun k bl hk => kinL_mono tok _ (hl.kinM k bl ?_)⟩
      cases k with
      | own k => exact at_own ((trimM_get _ _ _ _).1 (at_own' hk))
      | inp t i => exact hk
    · cases h
  · cases h

/-! ## the executor is sound -/
theorem exec_sound [LawAb A] [LawEq A] (hS : SigOk P S) (hm : P.follows .mixedOrders = true) : ∀ (n : Nat),
    (∀ (cur : FuncId) (p : List Nat) (c : Code) (s t : LS A) (o : Out), exec P S n cur p c s = some (o, t) → codeAt P cur p = c → AllOk t.conds → Ex P S.inp c s o t) ∧
    (∀ (cur : FuncId) (p : List Nat) (b : Code) (s t : LS A) (o : Out), S.lp cur p = none → exec P S n cur p (.loop b) s = some (o, t) → codeAt P cur p = .loop b → AllOk t.conds → ∀ (Own : Dom) (w0 : World) (ρ : Key → Loc) (a : Act) (w : World) (Q : Exit → Act → World → Prop), Rl S.inp Own w0 ρ s a w →
      (∀ ρ' a' w', (∀ k m, okKey s.mem ρ k m → ρ k = ρ' k) → Rl S.inp Own w0 ρ' t a' w' → Q o.toExit a' w') → roundsR P b Q n a w)
  | 0 => ⟨fun cur p c s t o h => by simp [exec] at h, fun cur p b s t o _ h => by simp [exec] at h⟩
  | n + 1 => by
    obtain ⟨ih, ihl⟩ := exec_sound hS hm n
    have htc : TcOk S (inner P S n) := fun f vs mem v mem' c l hil h hl => by
      unfold inner at h
      rw [hil] at h
      exact hS.tc f vs mem v mem' c l h hl
    have hcr : CallOk P S.inp (inner P S n) := {
      ent := fun f vs mem r h => by
        unfold inner at h
        split at h
        · exact callN_ent h
        · exact hS.cs.ent f vs mem r h
      grow := fun f vs mem v mem' c h => by
        unfold inner at h
        split at h
        · exact callN_grow (fun c s o t h => exec_grew hS n _ _ _ _ _ _ h) h
        · exact hS.cs.grow f vs mem v mem' c h
      call := fun f vs mem v mem' c h hc Own ρ w ha => by
        unfold inner at h
        split at h
        · exact callN_call (fun s o t h hc => ih f [] _ s t o h rfl hc) h hc ha
        · exact hS.cs.call f vs mem v mem' c h hc Own ρ w ha }
    have loop : ∀ (cur : FuncId) (p : List Nat) (b : Code) (s t : LS A) (o : Out), S.lp cur p = none → exec P S (n + 1) cur p (.loop b) s = some (o, t) → codeAt P cur p = .loop b → AllOk t.conds → ∀ (Own : Dom) (w0 : World) (ρ : Key → Loc) (a : Act) (w : World) (Q : Exit → Act → World → Prop), Rl S.inp Own w0 ρ s a w →
      (∀ ρ' a' w', (∀ k m, okKey s.mem ρ k m → ρ k = ρ' k) → Rl S.inp Own w0 ρ' t a' w' → Q o.toExit a' w') → roundsR P b Q (n + 1) a w := by
      intro cur p b s t o hl h hp hc Own w0 ρ a w Q hr hQ
      simp only [exec, hl] at h
      rw [roundsR_succ]
      have hp0 : codeAt P cur (0 :: p) = b := by show child 0 (codeAt P cur p) = b; rw [hp]; rfl
      split at h
      · rename_i s' hs
        have h1 := ih _ _ _ _ _ _ hs hp0 ((exec_grew hS n _ _ _ _ _ _ h).allOk hc)
        refine h1.run Own w0 ρ a w _ hr fun ρ' a' w' he hr' => ?_
        show roundsR P b Q n a' w'
        exact ihl _ _ _ _ _ _ hl h hp hc Own w0 ρ' a' w' Q hr' fun ρ2 a2 w2 he2 hr2 => hQ ρ2 a2 w2 (fun k m hk => (he k m hk).trans (he2 k m (okKey_to h1.live hk (he k m hk)))) hr2
      · rename_i r hne
        have h1 := ih _ _ _ _ _ _ h hp0 hc
        refine h1.run Own w0 ρ a w _ hr fun ρ' a' w' he hr' => ?_
        have := hQ ρ' a' w' he hr'
        cases o with
        | normal => exact absurd h (hne _)
        | exit id => exact this
        | ret => exact this
    refine ⟨fun cur p c s t o h hp hc => ?_, loop⟩
    have hg := exec_grew hS _ _ _ _ _ _ _ h
    have knw : ∀ {hh : LS A → Option (Out × List (LV A) × Mem A × Cnd)}, S.lp cur p = some hh → known hh s = some (o, t) → Ex P S.inp c s o t := by
      intro hh hl hk
      unfold known at hk
      split at hk
      · rename_i o' tm m cc e
        cases hk
        have hck : condOk cc := hc cc (by simp)
        have := hS.lpC cur p hh s _ _ _ _ hl e hck
        rw [hp] at this
        refine ⟨this.live, fun Own w0 ρ a w Q hr hQ => this.run Own w0 ρ a w Q hr fun ρ' a' w' he hr' => hQ ρ' a' w' he { hr' with }⟩
      · cases hk
    cases c
    case loop b =>
      cases hl : S.lp cur p with
      | some hh =>
        simp only [exec, hl] at h
        exact knw hl h
      | none => exact ⟨hg.live, fun Own w0 ρ a w Q hr hQ => wpR_loop_rounds (n + 1) (loop cur p b s t o hl h hp hc Own w0 ρ a w Q hr hQ)⟩
    all_goals simp only [exec] at h
    case skip => cases h; exact Ex.refl (o := .normal) (fun Own w0 ρ a w Q hq => wpR_skip hq) s
    case label => cases h; exact Ex.refl (o := .normal) (fun Own w0 ρ a w Q hq => wpR_label hq) s
    case region id ops draw =>
      split at h
      · rename_i hh hl; exact knw hl h
      · split at h
        · rename_i s' hs
          cases h
          refine ⟨hg.live, fun Own w0 ρ a w Q hr hQ => ?_⟩
          have sh : ∀ {q : Option (LS A)} {u : LS A}, shutR s q = some u → ∃ t, q = some t := by
            intro q u hq
            cases q with
            | none => cases hq
            | some t => exact ⟨t, rfl⟩
          unfold execR at hs
          split at hs
          · obtain ⟨t', ht⟩ := sh hs
            rw [ht] at hs
            obtain ⟨k1, k2, k3⟩ := shutR_ok hs hc
            exact region_sound rfl hS hcr ht k1 hr fun ρ' a' w' he hr' => hQ ρ' a' w' he { hr' with size := by rw [k3]; exact hr'.size, val := by rw [k3]; exact hr'.val, mem := by rw [k2]; exact hr'.mem, mine := by rw [k2]; exact hr'.mine, occT := by rw [k2, k3]; exact hr'.occT, occM := by rw [k2]; exact hr'.occM }
          · split at hs
            · rename_i hd
              obtain ⟨t', ht⟩ := sh hs
              rw [ht] at hs
              obtain ⟨k1, k2, k3⟩ := shutR_ok hs hc
              exact regionD_sound rfl hS hcr htc hm hd ht k1 hr fun ρ' a' w' he hr' => hQ ρ' a' w' he { hr' with size := by rw [k3]; exact hr'.size, val := by rw [k3]; exact hr'.val, mem := by rw [k2]; exact hr'.mem, mine := by rw [k2]; exact hr'.mine, occT := by rw [k2, k3]; exact hr'.occT, occM := by rw [k2]; exact hr'.occM }
            · cases hs
        · cases h
    case seq x y =>
      have h0 : codeAt P cur (0 :: p) = x := by show child 0 (codeAt P cur p) = x; rw [hp]; rfl
      have h1 : codeAt P cur (1 :: p) = y := by show child 1 (codeAt P cur p) = y; rw [hp]; rfl
      split at h
      · rename_i s' hs; exact (ih _ _ _ _ _ _ hs h0 ((exec_grew hS n _ _ _ _ _ _ h).allOk hc)).seq (ih _ _ _ _ _ _ h h1 hc)
      · rename_i r hne
        refine (ih _ _ _ _ _ _ h h0 hc).seq_out ?_
        rintro rfl
        exact hne _ h
    case cond c x y =>
      have h0 : codeAt P cur (0 :: p) = x := by show child 0 (codeAt P cur p) = x; rw [hp]; rfl
      have h1 : codeAt P cur (1 :: p) = y := by show child 1 (codeAt P cur p) = y; rw [hp]; rfl
      have two : ∀ (b : Bool), ev s.tmps c = some (.bool b) → Ex P S.inp (if b then x else y) s o t → Ex P S.inp (.cond c x y) s o t := by
        intro b he hx
        refine ⟨hg.live, fun Own w0 ρ a w Q hr hQ => ?_⟩
        exact wpR_cond (ev_sound hr he).1 (hx.run Own w0 ρ a w Q hr hQ)
      split at h
      · rename_i he; exact two true he (ih _ _ _ _ _ _ h h0 hc)
      · rename_i he; exact two false he (ih _ _ _ _ _ _ h h1 hc)
      · cases h
    case block id b =>
      have h0 : codeAt P cur (0 :: p) = b := by show child 0 (codeAt P cur p) = b; rw [hp]; rfl
      split at h
      · rename_i id' s' hs
        split at h
        · rename_i hb
          cases h
          have := beqN hb
          subst this
          exact (ih _ _ _ _ _ _ hs h0 hc).block
        · rename_i hb
          cases h
          refine (ih _ _ _ _ _ _ hs h0 hc).block_out ?_
          intro e
          cases e
          simp at hb
      · rename_i r hne
        refine (ih _ _ _ _ _ _ h h0 hc).block_out ?_
        rintro rfl
        exact hne _ _ h
    case scope b =>
      have h0 : codeAt P cur (0 :: p) = b := by show child 0 (codeAt P cur p) = b; rw [hp]; rfl
      exact (ih _ _ _ _ _ _ h h0 hc).scope
    case rangeFunc =>
      split at h
      · rename_i hh hl; exact knw hl h
      · cases h
    case exit id => cases h; exact Ex.refl (o := .exit id) (fun Own w0 ρ a w Q hq => wpR_exit hq) s
    case ret => cases h; exact Ex.refl (o := .ret) (fun Own w0 ρ a w Q hq => wpR_ret hq) s
    all_goals (cases h; done)
end
end Go.Proofs.YtonmjdnkcngfjaaGreat.En

/- DERIVED. Calls of the program's functions; states that say the same. -/
set_option linter.all false
namespace Go.Proofs.YtonmjdnkcngfjaaGreat.En
open Go Go.RowKit

section
variable {A : Type} [Ab A] {P : Program} {S : Sig A} {I : Nat → Nat → List (LV A)}

/-- A call, as the executor tells it. -/
theorem callF_sound [LawAb A] [LawEq A] (hS : SigOk P S) (hm : P.follows .mixedOrders = true) {n : Nat} {f : FuncId} {args : List (LV A)} {mem mem' : Mem A} {v : LV A} {c : Cnd} (h : callF P S n f args mem = some (v, mem', c)) (hc : condOk c)
    {Own : Dom} {ρ : Key → Loc} {w : World} (ha : Ahead S.inp Own ρ mem args w) :
    Calls P f (trs ρ args).toArray w fun e w' => ∃ ρ', e = .returned (LV.tr ρ' v) ∧ Left' S.inp Own w mem ρ ρ' mem' v w' :=
  callN_call (fun s t o h hc => (exec_sound hS hm n).1 f [] _ s o t h rfl hc) h hc ha

theorem memRel_nil [LawAb A] (I : Nat → Nat → List (LV A)) (ρ : Key → Loc) (w : World) (hc : ∀ t i j v, (cellsL ρ (I t i))[j]? = some v → w.cell? ((ρ (.inp t i)).at j) = some v) (hb : ∀ t i, (ρ (.inp t i)).none = false → (ρ (.inp t i)).blk < w.heap.size) (hn : ∀ k, (ρ k).none = true → (ρ k).cap = 0) (he : ∀ t i, (ρ (.inp t i)).none = true → cszL (I t i) = 0) :
    MemRel I ρ ([] : Mem A) w where
  cell k bl h i v hv := by
    cases k with
    | own k => simp [at?] at h
    | inp t i => simp only [at?, Option.some.injEq] at h; subst h; exact hc _ _ _ _ hv
  free k bl h := by simp at h
  apart k k' bl bl' _ h := by simp at h
  inb k bl h _ hn := by
    cases k with
    | own k => simp [at?] at h
    | inp t i => exact hb _ _ hn
  row k bl e h := by simp at h
  nilc := hn
  empt k bl h hn := by
    cases k with
    | own k => simp [at?] at h
    | inp t i => simp only [at?, Option.some.injEq] at h; subst h; exact he _ _ hn
  dead k bl h := by simp at h

/-- A call that takes what came in, and answers a plain value. -/
theorem calls_top [LawAb A] [LawEq A] (hS : SigOk P S) (hm : P.follows .mixedOrders = true) {n : Nat} {f : FuncId} {args : List (LV A)} {v : LV A} {c : Cnd} (h : (callF P S n f args []).map (fun r => (r.1, r.2.2)) = some (v, c)) (hc : condOk c)
    {ρ : Key → Loc} {w : World} (hmem : MemRel S.inp ρ [] w) (ha : kinL (okKey ([] : Mem A) ρ) args) (hk : ∀ t i, kinL (okKey ([] : Mem A) ρ) (S.inp t i)) (hv : ∀ ρ ρ' : Key → Loc, LV.tr ρ' v = LV.tr ρ v) :
    Calls P f (trs ρ args).toArray w fun e w' => e = .returned (LV.tr ρ v) ∧ Below w.heap.size w w' := by
  cases hr : callF P S n f args [] with
  | none => rw [hr] at h; cases h
  | some r =>
    obtain ⟨v', m', c'⟩ := r
    rw [hr] at h
    simp only [Option.map_some, Option.some.injEq, Prod.mk.injEq] at h
    obtain ⟨rfl, rfl⟩ := h
    refine (callF_sound hS hm hr hc (Own := ⟨fun k => w.heap.size ≤ k, fun _ => True, []⟩) ⟨hmem, ⟨fun k bl h => by simp at h, fun _ _ _ _ _ => trivial⟩, fun b h => ⟨h, trivial⟩, ha, fun k bl h => ?_⟩).mono ?_
    · cases k with
      | own k => simp [at?] at h
      | inp t i => simp only [at?, Option.some.injEq] at h; subst h; exact hk t i
    · rintro e w' ⟨ρ', rfl, hl⟩
      exact ⟨by rw [hv ρ ρ'], hl.keeps.below⟩

/-! ## the state that an execution comes to -/
def outS : Option (Out × LS A) → LS A
  | some (_, t) => t
  | none => ⟨[], [], []⟩
def outO : Option (Out × LS A) → Option Out
  | some (o, _) => some o
  | none => none
theorem out_eq {r : Option (Out × LS A)} {o : Out} (h : outO r = some o) : r = some (o, outS r) := by
  cases r with
  | none => cases h
  | some r => obtain ⟨o', t⟩ := r; simp only [outO, Option.some.injEq] at h; subst h; rfl

theorem Ex.of_exec [LawAb A] [LawEq A] (hS : SigOk P S) (hm : P.follows .mixedOrders = true) {n : Nat} {cur : FuncId} {p : List Nat} {s : LS A} {o : Out} (h : outO (exec P S n cur p (codeAt P cur p) s) = some o) (hc : condOk (allC (outS (exec P S n cur p (codeAt P cur p) s)).conds)) :
    Ex P S.inp (codeAt P cur p) s o (outS (exec P S n cur p (codeAt P cur p) s)) :=
  (exec_sound hS hm n).1 cur p _ s _ o (out_eq h) rfl (allC_ok hc)

theorem Ex.of_run [LawAb A] [LawEq A] (hS : SigOk P S) (hI : S.inp = I) (hm : P.follows .mixedOrders = true) {n : Nat} {cur : FuncId} {p : List Nat} {s : LS A} {o : Out} {r : Option (Out × LS A)} (hr : r = exec P S n cur p (codeAt P cur p) s) (h : outO r = some o) (hc : condOk (allC (outS r).conds)) :
    Ex P I (codeAt P cur p) s o (outS r) := by
  subst hI
  subst hr
  exact Ex.of_exec hS hm h hc

/-! ## names of blocks changed -/
mutual
def LV.ren (τ : Key → Option Key) : LV A → LV A
  | .ptr b o p => match τ b with
    | some b' => .ptr b' o p
    | none => .any
  | .slice b o p len cap => match τ b with
    | some b' => .slice b' o p len cap
    | none => .any
  | .vec b len => match τ b with
    | some b' => .vec b' len
    | none => .nils
  | .rows n z f => .rows n z fun i => renL τ (f i)
  | .agg us => .agg (renL τ us)
  | .tup vs => .tup (renL τ vs)
  | .iface t v => .iface t (LV.ren τ v)
  | .func f caps => .func f (renL τ caps)
  | v => v
def renL (τ : Key → Option Key) : List (LV A) → List (LV A)
  | [] => []
  | v :: l => LV.ren τ v :: renL τ l
end
mutual
/-- The keys of a value fit: those that are nothing stand for nil alone. -/
def LV.fit (τ : Key → Option Key) (q : Key → Prop) : LV A → Prop
  | .ptr b _ _ => τ b ≠ none ∧ q b
  | .slice b _ _ _ _ => τ b ≠ none ∧ q b
  | .vec b len => (τ b = none → len = 0) ∧ q b
  | .rows _ _ f => ∀ i, fitL τ q (f i)
  | .agg us => fitL τ q us
  | .tup vs => fitL τ q vs
  | .iface _ v => LV.fit τ q v
  | .func _ caps => fitL τ q caps
  | _ => True
def fitL (τ : Key → Option Key) (q : Key → Prop) : List (LV A) → Prop
  | [] => True
  | v :: l => LV.fit τ q v ∧ fitL τ q l
end

def renρ (τ : Key → Option Key) (ρ : Key → Loc) (k : Key) : Loc := match τ k with
  | some k' => ρ k'
  | none => ⟨0, 0, 0, true, none⟩
theorem renρ_some {τ : Key → Option Key} {ρ : Key → Loc} {b b' : Key} (h : τ b = some b') : renρ τ ρ b = ρ b' := by simp [renρ, h]
theorem renρ_none {τ : Key → Option Key} {ρ : Key → Loc} {b : Key} (h : τ b = none) : renρ τ ρ b = ⟨0, 0, 0, true, none⟩ := by simp [renρ, h]
theorem ne_ex {α : Type} {x : Option α} (h : x ≠ none) : ∃ y, x = some y := by
  cases x with
  | none => exact absurd rfl h
  | some y => exact ⟨y, rfl⟩

mutual
theorem tr_ren (τ : Key → Option Key) (q : Key → Prop) (ρ : Key → Loc) : ∀ v : LV A, v.fit τ q → LV.tr (renρ τ ρ) v = LV.tr ρ (v.ren τ)
  | .ptr b o p, h => by obtain ⟨b', h1⟩ := ne_ex h.1; simp only [LV.ren, h1, LV.tr, renρ_some h1]
  | .slice b o p len cap, h => by obtain ⟨b', h1⟩ := ne_ex h.1; simp only [LV.ren, h1, LV.tr, renρ_some h1]
  | .vec b len, h => by
    cases hk : τ b with
    | none =>
      have := h.1 hk
      subst this
      simp [LV.ren, hk, LV.tr, renρ, vecV, Nat.beq_refl]
    | some k' => simp [LV.ren, hk, LV.tr, renρ]
  | .rows n z f, h => by
    simp only [LV.ren, LV.tr]
    have : ∀ i, cellsL (renρ τ ρ) (f i) = cellsL ρ (renL τ (f i)) := fun i => cellsL_ren τ q ρ (f i) (h i)
    simp only [this]
  | .agg us, h => by simp only [LV.ren, LV.tr, cellsL_ren τ q ρ us h]
  | .tup vs, h => by simp only [LV.ren, LV.tr, trs_ren τ q ρ vs h]
  | .iface t v, h => by simp only [LV.ren, LV.tr, tr_ren τ q ρ v h]
  | .func f caps, h => by simp only [LV.ren, LV.tr, trs_ren τ q ρ caps h]
  | .any, _ => rfl
  | .undef, _ => rfl
  | .int _ _, _ => rfl
  | .bool _, _ => rfl
  | .str _, _ => rfl
  | .nilp, _ => rfl
  | .nils, _ => rfl
  | .nilfn, _ => rfl
  | .niliface, _ => rfl
  | .abs _, _ => rfl
theorem cells_ren (τ : Key → Option Key) (q : Key → Prop) (ρ : Key → Loc) : ∀ v : LV A, v.fit τ q → LV.cells (renρ τ ρ) v = LV.cells ρ (v.ren τ)
  | .ptr b o p, h => by obtain ⟨b', h1⟩ := ne_ex h.1; simp only [LV.ren, h1, LV.cells, renρ_some h1]
  | .slice b o p len cap, h => by obtain ⟨b', h1⟩ := ne_ex h.1; simp only [LV.ren, h1, LV.cells, renρ_some h1]
  | .vec b len, h => by
    cases hk : τ b with
    | none =>
      have := h.1 hk
      subst this
      simp [LV.ren, hk, LV.cells, renρ, vecV, Nat.beq_refl]
    | some k' => simp [LV.ren, hk, LV.cells, renρ]
  | .rows n z f, h => by
    simp only [LV.ren, LV.cells]
    have : ∀ i, cellsL (renρ τ ρ) (f i) = cellsL ρ (renL τ (f i)) := fun i => cellsL_ren τ q ρ (f i) (h i)
    simp only [this]
  | .agg us, h => by simp only [LV.ren, LV.cells, cellsL_ren τ q ρ us h]
  | .tup vs, h => rfl
  | .iface t v, h => by simp only [LV.ren, LV.cells, tr_ren τ q ρ v h]
  | .func f caps, h => by simp only [LV.ren, LV.cells, trs_ren τ q ρ caps h]
  | .any, _ => rfl
  | .undef, _ => rfl
  | .int _ _, _ => rfl
  | .bool _, _ => rfl
  | .str _, _ => rfl
  | .nilp, _ => rfl
  | .nils, _ => rfl
  | .nilfn, _ => rfl
  | .niliface, _ => rfl
  | .abs _, _ => rfl
theorem trs_ren (τ : Key → Option Key) (q : Key → Prop) (ρ : Key → Loc) : ∀ l : List (LV A), fitL τ q l → trs (renρ τ ρ) l = trs ρ (renL τ l)
  | [], _ => rfl
  | v :: l, h => by simp only [trs, renL, tr_ren τ q ρ v h.1, trs_ren τ q ρ l h.2]
theorem cellsL_ren (τ : Key → Option Key) (q : Key → Prop) (ρ : Key → Loc) : ∀ l : List (LV A), fitL τ q l → cellsL (renρ τ ρ) l = cellsL ρ (renL τ l)
  | [], _ => rfl
  | v :: l, h => by simp only [cellsL, renL, cells_ren τ q ρ v h.1, cellsL_ren τ q ρ l h.2]
end

/-- Is it there? -/
def there (m : Mem A) : Key → Prop
  | .own k => match m[k]? with
    | some (some _) => True
    | _ => False
  | .inp _ _ => True
theorem there_ex {m : Mem A} {k : Nat} (h : there m (.own k)) : ∃ bl, m[k]? = some (some bl) := by
  simp only [there] at h
  split at h
  · rename_i bl hb; exact ⟨bl, hb⟩
  · exact h.elim
theorem ex_there {m : Mem A} {k : Nat} {bl : Blk A} (h : m[k]? = some (some bl)) : there m (.own k) := by simp [there, h]

theorem okKey_ren {τ : Key → Option Key} {ρ : Key → Loc} {m m' : Mem A} {k k' : Key} {n : Nat} (h : τ k = some k') (hk : there m' k) (ho : okKey m ρ k' n) : okKey m' (renρ τ ρ) k n := by
  have hcap : n ≤ (ρ k').cap := by
    cases k' with
    | own _ => exact ho.2
    | inp _ _ => exact ho
  cases k with
  | own k => exact ⟨there_ex hk, by rw [renρ_some h]; exact hcap⟩
  | inp x y => show n ≤ (renρ τ ρ (.inp x y)).cap; rw [renρ_some h]; exact hcap
theorem okKey_nil {τ : Key → Option Key} {ρ : Key → Loc} {m' : Mem A} {k : Key} (hk : there m' k) : okKey m' (renρ τ ρ) k 0 := by
  cases k with
  | own k => exact ⟨there_ex hk, Nat.zero_le _⟩
  | inp x y => exact Nat.zero_le _

mutual
theorem kin_ren {τ : Key → Option Key} {ρ : Key → Loc} {m m' : Mem A} : ∀ v : LV A, v.fit τ (there m') → (v.ren τ).kin (okKey m ρ) → v.kin (okKey m' (renρ τ ρ))
  | .ptr b o p, h, hk => by obtain ⟨b', h1⟩ := ne_ex h.1; simp only [LV.ren, h1] at hk; exact okKey_ren h1 h.2 hk
  | .slice b o p len cap, h, hk => by obtain ⟨b', h1⟩ := ne_ex h.1; simp only [LV.ren, h1] at hk; exact okKey_ren h1 h.2 hk
  | .vec b len, h, hk => by
    cases hs : τ b with
    | none =>
      have := h.1 hs
      subst this
      exact okKey_nil h.2
    | some k' => simp only [LV.ren, hs] at hk; exact okKey_ren hs h.2 hk
  | .rows n z f, h, hk => fun i => kinL_ren (f i) (h i) (hk i)
  | .agg us, h, hk => kinL_ren us h hk
  | .tup vs, h, hk => kinL_ren vs h hk
  | .iface t v, h, hk => kin_ren v h hk
  | .func f caps, h, hk => kinL_ren caps h hk
  | .any, _, _ => trivial
  | .undef, _, _ => trivial
  | .int _ _, _, _ => trivial
  | .bool _, _, _ => trivial
  | .str _, _, _ => trivial
  | .nilp, _, _ => trivial
  | .nils, _, _ => trivial
  | .nilfn, _, _ => trivial
  | .niliface, _, _ => trivial
  | .abs _, _, _ => trivial
theorem kinL_ren {τ : Key → Option Key} {ρ : Key → Loc} {m m' : Mem A} : ∀ l : List (LV A), fitL τ (there m') l → kinL (okKey m ρ) (renL τ l) → kinL (okKey m' (renρ τ ρ)) l
  | [], _, _ => trivial
  | v :: l, h, hk => ⟨kin_ren v h.1 hk.1, kinL_ren l h.2 hk.2⟩
end
mutual
theorem csz_ren (τ : Key → Option Key) : ∀ v : LV A, csz (v.ren τ) = csz v
  | .ptr b o p => by cases hk : τ b <;> simp [LV.ren, hk, csz]
  | .slice b o p len cap => by cases hk : τ b <;> simp [LV.ren, hk, csz]
  | .vec b len => by cases hk : τ b <;> simp [LV.ren, hk, csz]
  | .rows n z f => rfl
  | .agg us => by simp only [LV.ren, csz, cszL_ren τ us]
  | .tup vs => rfl
  | .iface t v => rfl
  | .func f caps => rfl
  | .any => rfl
  | .undef => rfl
  | .int _ _ => rfl
  | .bool _ => rfl
  | .str _ => rfl
  | .nilp => rfl
  | .nils => rfl
  | .nilfn => rfl
  | .niliface => rfl
  | .abs _ => rfl
theorem cszL_ren (τ : Key → Option Key) : ∀ l : List (LV A), cszL (renL τ l) = cszL l
  | [] => rfl
  | v :: l => by simp only [renL, cszL, csz_ren τ v, cszL_ren τ l]
end

theorem ren_any {τ : Key → Option Key} {q : Key → Prop} {v : LV A} (h : v.fit τ q) (e : v.ren τ = .any) : v = .any := by
  cases v
  case ptr b o p => obtain ⟨b', h1⟩ := ne_ex h.1; simp [LV.ren, h1] at e
  case slice b o p len cap => obtain ⟨b', h1⟩ := ne_ex h.1; simp [LV.ren, h1] at e
  case vec b len => cases hb : τ b <;> simp [LV.ren, hb] at e
  case any => rfl
  all_goals simp [LV.ren] at e

mutual
/-- No block of the state's own is named. -/
def LV.alien : LV A → Prop
  | .ptr b _ _ => match b with
    | .own _ => False
    | .inp _ _ => True
  | .slice b _ _ _ _ => match b with
    | .own _ => False
    | .inp _ _ => True
  | .vec b _ => match b with
    | .own _ => False
    | .inp _ _ => True
  | .rows _ _ f => ∀ i, alienL (f i)
  | .agg us => alienL us
  | .tup vs => alienL vs
  | .iface _ v => LV.alien v
  | .func _ caps => alienL caps
  | _ => True
def alienL : List (LV A) → Prop
  | [] => True
  | v :: l => LV.alien v ∧ alienL l
end

/-- Own names changed alone. -/
def ownK (σ : Nat → Option Key) : Key → Option Key
  | .own k => σ k
  | .inp t i => some (.inp t i)

mutual
theorem alien_ren (σ : Nat → Option Key) (m : Mem A) : ∀ v : LV A, v.alien → v.ren (ownK σ) = v ∧ v.fit (ownK σ) (there m)
  | .ptr b o p, h => by
    cases b with
    | own k => exact h.elim
    | inp t i => exact ⟨rfl, by simp [ownK], trivial⟩
  | .slice b o p len cap, h => by
    cases b with
    | own k => exact h.elim
    | inp t i => exact ⟨rfl, by simp [ownK], trivial⟩
  | .vec b len, h => by
    cases b with
    | own k => exact h.elim
    | inp t i => exact ⟨rfl, by simp [ownK], trivial⟩
  | .rows n z f, h => by
    refine ⟨?_, fun i => (alienL_ren σ m (f i) (h i)).2⟩
    have : (fun i => renL (ownK σ) (f i)) = f := funext fun i => (alienL_ren σ m (f i) (h i)).1
    simp only [LV.ren, this]
  | .agg us, h => ⟨by simp only [LV.ren, (alienL_ren σ m us h).1], (alienL_ren σ m us h).2⟩
  | .tup vs, h => ⟨by simp only [LV.ren, (alienL_ren σ m vs h).1], (alienL_ren σ m vs h).2⟩
  | .iface t v, h => ⟨by simp only [LV.ren, (alien_ren σ m v h).1], (alien_ren σ m v h).2⟩
  | .func f caps, h => ⟨by simp only [LV.ren, (alienL_ren σ m caps h).1], (alienL_ren σ m caps h).2⟩
  | .any, _ => ⟨rfl, trivial⟩
  | .undef, _ => ⟨rfl, trivial⟩
  | .int _ _, _ => ⟨rfl, trivial⟩
  | .bool _, _ => ⟨rfl, trivial⟩
  | .str _, _ => ⟨rfl, trivial⟩
  | .nilp, _ => ⟨rfl, trivial⟩
  | .nils, _ => ⟨rfl, trivial⟩
  | .nilfn, _ => ⟨rfl, trivial⟩
  | .niliface, _ => ⟨rfl, trivial⟩
  | .abs _, _ => ⟨rfl, trivial⟩
theorem alienL_ren (σ : Nat → Option Key) (m : Mem A) : ∀ l : List (LV A), alienL l → renL (ownK σ) l = l ∧ fitL (ownK σ) (there m) l
  | [], _ => ⟨rfl, trivial⟩
  | v :: l, h => ⟨by simp only [renL, (alien_ren σ m v h.1).1, (alienL_ren σ m l h.2).1], (alien_ren σ m v h.1).2, (alienL_ren σ m l h.2).2⟩
end

/-! ## the same cells -/
structure Like (us us' : List (LV A)) : Prop where
  cells : ∀ ρ, cellsL ρ us = cellsL ρ us'
  kin : ∀ p, kinL p us → kinL p us'
theorem Like.refl (us : List (LV A)) : Like us us := ⟨fun _ => rfl, fun _ h => h⟩
theorem Like.of_eq {us us' : List (LV A)} (h : us = us') : Like us us' := h ▸ Like.refl us
theorem Like.cons {u u' : LV A} {us us' : List (LV A)} (h : Like [u] [u']) (k : Like us us') : Like (u :: us) (u' :: us') where
  cells ρ := by
    have h1 := h.cells ρ
    simp only [cellsL, List.append_nil] at h1
    simp only [cellsL, h1, k.cells ρ]
  kin p hk := ⟨(h.kin p ⟨hk.1, trivial⟩).1, k.kin p hk.2⟩
/-- Rows that are alike where there are any. -/
theorem Like.rows {n z : Nat} {f g : Nat → List (LV A)} (h : ∀ i, i < n → Like (f i) (g i)) (hk : ∀ i, n ≤ i → ∀ p, (∀ j, kinL p (f j)) → kinL p (g i)) : Like [LV.rows n z f] [LV.rows n z g] where
  cells ρ := by
    simp only [cellsL, LV.cells, List.append_nil]
    have key : ∀ m, m ≤ n → (List.range m).flatMap (fun i => fitTo z (cellsL ρ (f i))) = (List.range m).flatMap (fun i => fitTo z (cellsL ρ (g i))) := by
      intro m
      induction m with
      | zero => intro _; rfl
      | succ m ih =>
        intro hm
        rw [List.range_succ, List.flatMap_append, List.flatMap_append, ih (by omega)]
        simp [(h m (by omega)).cells ρ]
    exact key n (Nat.le_refl n)
  kin p hf := ⟨fun i => by
    rcases Nat.lt_or_ge i n with hi | hi
    · exact (h i hi).kin p (hf.1 i)
    · exact hk i hi p hf.1, trivial⟩
theorem Like.of_cells {us us' : List (LV A)} (h : ∀ ρ, cellsL ρ us = cellsL ρ us') (hk : ∀ p, kinL p us') : Like us us' := ⟨h, fun p _ => hk p⟩
theorem rowOk_rows (k : Kd) (n z : Nat) (f g : Nat → List (LV A)) : rowOk k [.rows n z f] [.rows n z g] = true := by
  cases k <;> simp [rowOk, Nat.beq_refl]
theorem blt_false {a b : Nat} (h : ¬ a < b) : Nat.blt a b = false := by
  cases hb : Nat.blt a b with
  | true => exact absurd (bltN hb) h
  | false => rfl
theorem rep_getD {α : Type} {n j : Nat} (x d : α) (h : j < n) : (List.replicate n x).getD j d = x := by
  rw [List.getD_eq_getElem?_getD, List.getElem?_replicate, if_pos h]; rfl
theorem cells_rows_congr (ρ : Key → Loc) {n z : Nat} {f g : Nat → List (LV A)} (h : ∀ i, i < n → cellsL ρ (f i) = cellsL ρ (g i)) : cellsL ρ [LV.rows n z f] = cellsL ρ [LV.rows n z g] := by
  simp only [cellsL, LV.cells, List.append_nil]
  have key : ∀ m, m ≤ n → (List.range m).flatMap (fun i => fitTo z (cellsL ρ (f i))) = (List.range m).flatMap (fun i => fitTo z (cellsL ρ (g i))) := by
    intro m
    induction m with
    | zero => intro _; rfl
    | succ m ih =>
      intro hm
      rw [List.range_succ, List.flatMap_append, List.flatMap_append, ih (by omega)]
      simp [h m (by omega)]
  exact key n (Nat.le_refl n)
/-- What may be written may be told as only read. -/
def KdFit (k k0 : Kd) : Prop := k = k0 ∨ (k0 = .ro ∧ isDead k = false)
theorem KdFit.refl (k : Kd) : KdFit k k := .inl rfl
theorem KdFit.wr {k k0 : Kd} (h : KdFit k k0) (hw : isWr k0 = true) : k = k0 := by
  rcases h with h | ⟨rfl, _⟩
  · exact h
  · cases hw
theorem KdFit.live {k k0 : Kd} (h : KdFit k k0) (hd : isDead k0 = false) : isDead k = false := by
  rcases h with rfl | ⟨_, h⟩
  · exact hd
  · exact h
theorem KdFit.row {k k0 : Kd} {e : TypeId} (h : KdFit k k0) (he : k0 = .row e) : k = .row e := by
  rcases h with rfl | ⟨rfl, _⟩
  · exact he
  · cases he
structure LikeB (τ : Key → Option Key) (b b0 : Blk A) : Prop where
  kd : KdFit b.kd b0.kd
  like : Like b.us (renL τ b0.us)
  row : rowOk b0.kd b.us (renL τ b0.us) = true
  dead : isDead b0.kd = true → b0.us = []

/-- The kind of a block that is none. -/
def nilK : Option TypeId → Kd
  | some e => .row e
  | none => .ro
theorem nilK_dead (e : Option TypeId) : isDead (nilK e) = false := by cases e <;> rfl
/-! ## a part of memory, told under other names -/
/-- The blocks of one memory among those of another. -/
structure Part (I0 I : Nat → Nat → List (LV A)) (τ : Key → Option Key) (mem0 mem : Mem A) : Prop where
  own : ∀ (j : Nat) (b0 : Blk A), mem0[j]? = some (some b0) → fitL τ (there mem0) b0.us ∧
    ((∃ k b, τ (.own j) = some k ∧ at? I mem k = some b ∧ LikeB τ b b0) ∨ (τ (.own j) = none ∧ ∃ e z f, b0 = ⟨nilK e, [.rows 0 z f]⟩ ∧ ∀ i p, kinL p (f i)))
  inp : ∀ x y, (τ (.inp x y) = none ∧ I0 x y = []) ∨ ∃ k bl, τ (.inp x y) = some k ∧ at? I mem k = some bl ∧ isDead bl.kd = false ∧ fitL τ (there mem0) (I0 x y) ∧ Like bl.us (renL τ (I0 x y))
  inj : ∀ (j : Nat) k' (b0 : Blk A), mem0[j]? = some (some b0) → isWr b0.kd = true → τ (.own j) ≠ none → τ k' = τ (.own j) → (∀ i, k' = .own i → i < mem0.length) → k' = .own j

theorem rowOk_form {k : Kd} {us us' : List (LV A)} (h : rowOk k us us' = true) {e : TypeId} (hk : k = .row e) {n z : Nat} {f : Nat → List (LV A)} (hu : us = [.rows n z f]) : ∃ g, us' = [.rows n z g] := by
  subst hk; subst hu
  simp only [rowOk] at h
  split at h
  · rename_i n1 z1 f1 n' z' g' heq
    simp only [List.cons.injEq, LV.rows.injEq, and_true] at heq
    obtain ⟨rfl, rfl, _⟩ := heq
    have h1 := beqN (both h).1
    have h2 := beqN (both h).2
    subst h1; subst h2
    exact ⟨g', rfl⟩
  · cases h

theorem ren_form {τ : Key → Option Key} {us : List (LV A)} {n z : Nat} {g : Nat → List (LV A)} (e1 : renL τ us = [.rows n z g]) : ∃ f', us = [.rows n z f'] := by
  match hu : us, e1 with
  | [u], e1 =>
    simp only [renL, List.cons.injEq, and_true] at e1
    cases u <;> simp only [LV.ren, reduceCtorEq] at e1 <;> try (split at e1 <;> cases e1)
    simp only [LV.rows.injEq] at e1
    obtain ⟨rfl, rfl, _⟩ := e1
    exact ⟨_, rfl⟩
  | [], e1 => simp [renL] at e1
  | _ :: _ :: _, e1 => simp [renL] at e1

theorem Part.mem [LawAb A] {I0 I : Nat → Nat → List (LV A)} {τ : Key → Option Key} {mem0 mem : Mem A} (h : Part I0 I τ mem0 mem) {ρ : Key → Loc} {w : World} (hm : MemRel I ρ mem w) : MemRel I0 (renρ τ ρ) mem0 w := by
  have lnk : ∀ (k0 : Key) (b0 : Blk A), at? I0 mem0 k0 = some b0 → (renρ τ ρ k0).none = false → ∃ k bl, τ k0 = some k ∧ at? I mem k = some bl ∧ (isDead b0.kd = false → isDead bl.kd = false) ∧ (isWr b0.kd = true → ∃ j k', k0 = .own j ∧ k = .own k' ∧ isWr bl.kd = true) := by
    intro k0 b0 hb hn
    cases k0 with
    | own j =>
      rcases (h.own j b0 (at_own' hb)).2 with ⟨k, bl, h1, h2, h3⟩ | ⟨h1, _⟩
      · refine ⟨k, bl, h1, h2, fun e => h3.kd.live e, fun e => ?_⟩
        cases k with
        | own k => exact ⟨j, k, rfl, rfl, by rw [h3.kd.wr e]; exact e⟩
        | inp x y =>
          simp only [at?, Option.some.injEq] at h2
          rw [← h3.kd.wr e, ← h2] at e; cases e
      · rw [renρ_none h1] at hn; cases hn
    | inp x y =>
      simp only [at?, Option.some.injEq] at hb
      subst hb
      rcases h.inp x y with ⟨h1, _⟩ | ⟨k, bl, h1, h2, h3, _⟩
      · rw [renρ_none h1] at hn; cases hn
      · exact ⟨k, bl, h1, h2, fun _ => h3, fun e => by cases e⟩
  constructor
  · intro k0 b0 hb i v hv
    cases k0 with
    | own j =>
      obtain ⟨h0, h1⟩ := h.own j b0 (at_own' hb)
      rw [cellsL_ren τ _ ρ b0.us h0] at hv
      rcases h1 with ⟨k, bl, h1, h2, h3⟩ | ⟨h1, e, z, f, rfl, _⟩
      · rw [← h3.like.cells ρ] at hv
        rw [renρ_some h1]; exact hm.cell _ _ h2 i v hv
      · simp [renL, LV.ren, cellsL, LV.cells] at hv
    | inp x y =>
      simp only [at?, Option.some.injEq] at hb
      subst hb
      rcases h.inp x y with ⟨_, h2⟩ | ⟨k, bl, h1, h2, h3, h4, h5⟩
      · simp only at hv; rw [h2] at hv; simp [cellsL] at hv
      · simp only at hv
        rw [cellsL_ren τ _ ρ _ h4, ← h5.cells ρ] at hv
        rw [renρ_some h1]; exact hm.cell k bl h2 i v hv
  · intro j b0 hb hw i hi
    obtain ⟨h0, h1⟩ := h.own j b0 hb
    rcases h1 with ⟨k, bl, h1, h2, h3⟩ | ⟨h1, e, z, f, rfl, _⟩
    · cases k with
      | own k =>
        rw [renρ_some h1]
        refine hm.free k _ (at_own' h2) (by rw [h3.kd.wr hw]; exact hw) i ?_
        rw [← len_cellsL ρ, h3.like.cells ρ, len_cellsL, cszL_ren]
        exact hi
      | inp x y =>
        simp only [at?, Option.some.injEq] at h2
        rw [← h3.kd.wr hw, ← h2] at hw; cases hw
    · simp [cszL, csz] at hi
  · intro j k0' b0 b0' hne hb hb' hw hd n1 n2
    obtain ⟨k, bl, e1, e2, e3, e4⟩ := lnk (.own j) b0 (at_own hb) n1
    obtain ⟨k', bl', e1', e2', e3', e4'⟩ := lnk k0' b0' hb' n2
    obtain ⟨j', kk, hj, rfl, hwb⟩ := e4 hw
    cases hj
    rw [renρ_some e1] at n1 ⊢
    rw [renρ_some e1'] at n2 ⊢
    refine hm.apart kk k' bl bl' ?_ (at_own' e2) e2' hwb (e3' hd) n1 n2
    rintro rfl
    refine hne (h.inj j k0' b0 hb hw (by rw [e1]; simp) (by rw [e1, e1']) ?_).symm
    rintro i rfl
    exact lt_of_get (at_own' hb')
  · intro k0 b0 hb hd hn
    obtain ⟨k, bl, e1, e2, e3, _⟩ := lnk k0 b0 hb hn
    rw [renρ_some e1] at hn ⊢
    exact hm.inb k bl e2 (e3 hd) hn
  · intro j b0 e hb he
    obtain ⟨h0, h1⟩ := h.own j b0 hb
    rcases h1 with ⟨k, bl, h1, h2, h3⟩ | ⟨h1, e', z, f, rfl, _⟩
    · have hko : ∃ q, k = .own q := by
        cases k with
        | own q => exact ⟨q, rfl⟩
        | inp x y =>
          simp only [at?, Option.some.injEq] at h2
          have := h3.kd.row he; rw [← h2] at this; cases this
      obtain ⟨k, rfl⟩ := hko
      have hke : bl.kd = .row e := h3.kd.row he
      obtain ⟨n, z, f, e1, e0, e2⟩ := hm.row k _ e (at_own' h2) hke
      obtain ⟨g, e4⟩ := rowOk_form h3.row he e1
      obtain ⟨f', e5⟩ := ren_form e4
      refine ⟨n, z, f', e5, by rw [renρ_some h1]; exact e0, ?_⟩
      rw [renρ_some h1, cellsL_ren τ _ ρ b0.us h0, ← h3.like.cells ρ]
      exact e2
    · cases e' with
      | none => cases he
      | some e' =>
      cases he
      refine ⟨0, z, f, rfl, by rw [renρ_none h1], ?_⟩
      rw [renρ_none h1]
      have : vecV ⟨0, 0, 0, true, none⟩ 0 = .slice none 0 0 := rfl
      rw [this]
      exact World.ownsRow_nil w 0 e z
  · intro k hn
    cases hs : τ k with
    | some k' => rw [renρ_some hs] at hn ⊢; exact hm.nilc _ hn
    | none => rw [renρ_none hs]
  · intro k0 b0 hb hn
    cases k0 with
    | own j =>
      obtain ⟨h0, h1⟩ := h.own j b0 (at_own' hb)
      rcases h1 with ⟨k, bl, h1, h2, h3⟩ | ⟨h1, e', z, f, rfl, _⟩
      · rw [renρ_some h1] at hn
        have := hm.empt _ _ h2 hn
        rw [← len_cellsL ρ, h3.like.cells ρ, len_cellsL, cszL_ren] at this
        exact this
      · simp [cszL, csz]
    | inp x y =>
      simp only [at?, Option.some.injEq] at hb
      subst hb
      rcases h.inp x y with ⟨_, h2⟩ | ⟨k, bl, h1, h2, h3, h4, h5⟩
      · simp only [h2]; rfl
      · rw [renρ_some h1] at hn
        have := hm.empt k bl h2 hn
        rw [← len_cellsL ρ, h5.cells ρ, len_cellsL, cszL_ren] at this
        exact this
  · intro j b0 hb hd
    obtain ⟨h0, h1⟩ := h.own j b0 hb
    rcases h1 with ⟨k, bl, h1, h2, h3⟩ | ⟨h1, e', z, f, rfl, _⟩
    · exact h3.dead hd
    · rw [show isDead (⟨nilK e', [.rows 0 z f]⟩ : Blk A).kd = isDead (nilK e') from rfl, nilK_dead] at hd; cases hd

theorem Part.kin [LawAb A] {I0 I : Nat → Nat → List (LV A)} {τ : Key → Option Key} {mem0 mem : Mem A} (h : Part I0 I τ mem0 mem) {ρ : Key → Loc} (hk : ∀ (k : Key) (bl : Blk A), at? I mem k = some bl → kinL (okKey mem ρ) bl.us) : ∀ (k : Key) (bl : Blk A), at? I0 mem0 k = some bl → kinL (okKey mem0 (renρ τ ρ)) bl.us := by
  intro k0 b0 hb
  cases k0 with
  | own j =>
    obtain ⟨h0, h1⟩ := h.own j b0 (at_own' hb)
    rcases h1 with ⟨k, bl, h1, h2, h3⟩ | ⟨h1, e', z, f, rfl, hff⟩
    · exact kinL_ren b0.us h0 (h3.like.kin _ (hk _ _ h2))
    · exact ⟨fun i => hff i _, trivial⟩
  | inp x y =>
    simp only [at?, Option.some.injEq] at hb
    subst hb
    rcases h.inp x y with ⟨_, h2⟩ | ⟨k, bl, h1, h2, h3, h4, h5⟩
    · simp only [h2]; trivial
    · exact kinL_ren _ h4 (h5.kin _ (hk k bl h2))

theorem Part.src {I0 I : Nat → Nat → List (LV A)} {τ : Key → Option Key} {mem0 mem : Mem A} (h : Part I0 I τ mem0 mem) {ρ : Key → Loc} {k0 : Key} {b0 : Blk A} (hb : at? I0 mem0 k0 = some b0) (hd : isDead b0.kd = false) (hn : (renρ τ ρ k0).none = false) : ∃ k bl, τ k0 = some k ∧ at? I mem k = some bl ∧ isDead bl.kd = false := by
  cases k0 with
  | own j =>
    rcases (h.own j b0 (at_own' hb)).2 with ⟨k, bl, h1, h2, h3⟩ | ⟨h1, _⟩
    · exact ⟨k, bl, h1, h2, h3.kd.live hd⟩
    · rw [renρ_none h1] at hn; cases hn
  | inp x y =>
    rcases h.inp x y with ⟨h1, _⟩ | ⟨k, bl, h1, h2, h3, _⟩
    · rw [renρ_none h1] at hn; cases hn
    · exact ⟨k, bl, h1, h2, h3⟩

theorem Part.mine {I0 I : Nat → Nat → List (LV A)} {τ : Key → Option Key} {mem0 mem : Mem A} (h : Part I0 I τ mem0 mem) {Own : Dom} {ρ : Key → Loc} (hm : Mine I Own ρ mem) : Mine I0 Own (renρ τ ρ) mem0 where
  own j b0 hb hw hn := by
    rcases (h.own j b0 hb).2 with ⟨k, bl, h1, h2, h3⟩ | ⟨h1, _⟩
    · cases k with
      | own k => rw [renρ_some h1] at hn ⊢; exact hm.own k _ (at_own' h2) (by rw [h3.kd.wr hw]; exact hw) hn
      | inp x y =>
        simp only [at?, Option.some.injEq] at h2
        rw [← h3.kd.wr hw, ← h2] at hw; cases hw
    · rw [renρ_none h1] at hn; cases hn
  src k0 b0 hb hd hn := by
    obtain ⟨k, bl, h1, h2, h3⟩ := h.src hb hd hn
    rw [renρ_some h1] at hn ⊢
    exact hm.src k bl h2 h3 hn

/-! ## a state that says the same -/
/-- A state that says the same under other names (and perhaps less). -/
structure Fits (I : Nat → Nat → List (LV A)) (t t' : LS A) (σ : Nat → Option Key) : Prop where
  len : t'.tmps.length = t.tmps.length
  tmps : ∀ (i : Nat) (v' : LV A), t'.tmps[i]? = some v' → v' = .any ∨ (t.tmps[i]? = some (v'.ren (ownK σ)) ∧ v'.fit (ownK σ) (there t'.mem))
  mem : ∀ (j : Nat) (b0 : Blk A), t'.mem[j]? = some (some b0) → fitL (ownK σ) (there t'.mem) b0.us ∧
    ((∃ k b, σ j = some k ∧ at? I t.mem k = some b ∧ LikeB (ownK σ) b b0) ∨ (σ j = none ∧ ∃ e z f, b0 = ⟨nilK e, [.rows 0 z f]⟩ ∧ ∀ i p, kinL p (f i)))
  inj : ∀ (k k' : Nat) j bl, t'.mem[k]? = some (some bl) → isWr bl.kd = true → k' < t'.mem.length → σ k = some j → σ k' = some j → k' = k
  inpo : ∀ k bl, t'.mem[k]? = some (some bl) → isWr bl.kd = true → ∀ x y, σ k ≠ some (.inp x y)

theorem Fits.part [LawAb A] (hI : ∀ x y, alienL (I x y)) {t t' : LS A} {σ : Nat → Option Key} (h : Fits I t t' σ) : Part I I (ownK σ) t'.mem t.mem where
  own := h.mem
  inp x y := by
    obtain ⟨e1, e2⟩ := alienL_ren σ t'.mem (I x y) (hI x y)
    exact .inr ⟨.inp x y, ⟨.ro, I x y⟩, rfl, rfl, rfl, e2, .of_eq e1.symm⟩
  inj j k' b0 hb hw hn e hk := by
    obtain ⟨y, hy⟩ := ne_ex hn
    have hy : σ j = some y := hy
    cases k' with
    | own i =>
      have e : σ i = σ j := e
      rw [h.inj j i y b0 hb hw (hk i rfl) hy (by rw [e, hy])]
    | inp x z =>
      have e : some (Key.inp x z) = σ j := e
      exact absurd e.symm (h.inpo j b0 hb hw x z)

theorem Fits.rl [LawAb A] (hI : ∀ x y, alienL (I x y)) {t t' : LS A} {σ : Nat → Option Key} (h : Fits I t t' σ) {Own : Dom} {w0 : World} {ρ : Key → Loc} {a : Act} {w : World} (hr : Rl I Own w0 ρ t a w) : Rl I Own w0 (renρ (ownK σ) ρ) t' a w where
  size := by rw [hr.size, h.len]
  val i v' hv := by
    rcases h.tmps i v' hv with e | ⟨h1, h2⟩
    · exact .inl e
    · rcases hr.val i _ h1 with e | e
      · exact .inl (ren_any h2 e)
      · right; rw [e, tr_ren _ _ ρ v' h2]
  defers := hr.defers
  mem := (h.part hI).mem hr.mem
  mine := (h.part hI).mine hr.mine
  new := hr.new
  keeps := hr.keeps
  occT i v' hv := by
    rcases h.tmps i v' hv with rfl | ⟨h1, h2⟩
    · trivial
    · exact kin_ren v' h2 (hr.occT i _ h1)
  occM := (h.part hI).kin hr.occM

/-! ## states written down -/
def lookT : List (Nat × LV A) → Nat → LV A
  | [], _ => .any
  | (j, v) :: l, i => match Nat.beq j i with
    | true => v
    | false => lookT l i
/-- So many temporaries, of which a few are told. -/
def tmL (l : List (Nat × LV A)) : Nat → Nat → List (LV A)
  | 0, _ => []
  | n + 1, i => lookT l i :: tmL l n (i + 1)
def tm (n : Nat) (l : List (Nat × LV A)) : List (LV A) := tmL l n 0
theorem tmL_get (l : List (Nat × LV A)) : ∀ (n i j : Nat) (v : LV A), (tmL l n i)[j]? = some v → v = lookT l (i + j)
  | 0, i, j, v, h => by simp [tmL] at h
  | n + 1, i, j, v, h => by
    cases j with
    | zero => simp only [tmL, List.getElem?_cons_zero, Option.some.injEq] at h; rw [← h, Nat.add_zero]
    | succ j =>
      simp only [tmL, List.getElem?_cons_succ] at h
      rw [tmL_get l n (i + 1) j v h]
      congr 1
      omega
theorem lookT_mem : ∀ (l : List (Nat × LV A)) (i : Nat), lookT l i = .any ∨ ∃ v, (i, v) ∈ l ∧ lookT l i = v
  | [], _ => .inl rfl
  | (j, v) :: l, i => by
    simp only [lookT]
    cases hb : Nat.beq j i with
    | true => exact .inr ⟨v, by rw [beqN hb]; simp, rfl⟩
    | false =>
      rcases lookT_mem l i with h | ⟨u, h1, h2⟩
      · exact .inl h
      · exact .inr ⟨u, List.mem_cons_of_mem _ h1, h2⟩
theorem tm_get {n : Nat} {l : List (Nat × LV A)} {i : Nat} {v : LV A} (h : (tm n l)[i]? = some v) : v = .any ∨ (i, v) ∈ l := by
  have := tmL_get l n 0 i v h
  rw [Nat.zero_add] at this
  rcases lookT_mem l i with e | ⟨u, h1, h2⟩
  · exact .inl (this.trans e)
  · right; rw [this, h2]; exact h1
theorem tm_len (n : Nat) (l : List (Nat × LV A)) : (tm n l).length = n := by
  have : ∀ n i, (tmL l n i).length = n := by
    intro n
    induction n with
    | zero => intro i; rfl
    | succ n ih => intro i; simp [tmL, ih]
  exact this n 0

/-- .. as what a run comes to. -/
theorem Fits.of {t : LS A} {n : Nat} {l : List (Nat × LV A)} {m' : Mem A} {cs : List Cnd} {σ : Nat → Option Key} (hn : t.tmps.length = n) (ht : ∀ p ∈ l, t.tmps[p.1]? = some (p.2.ren (ownK σ)) ∧ p.2.fit (ownK σ) (there m'))
    (hm : ∀ (j : Nat) (b0 : Blk A), m'[j]? = some (some b0) → fitL (ownK σ) (there m') b0.us ∧
      ((∃ k b, σ j = some k ∧ at? I t.mem k = some b ∧ LikeB (ownK σ) b b0) ∨ (σ j = none ∧ ∃ e z f, b0 = ⟨nilK e, [.rows 0 z f]⟩ ∧ ∀ i p, kinL p (f i))))
    (hi : ∀ (k k' : Nat) j bl, m'[k]? = some (some bl) → isWr bl.kd = true → k' < m'.length → σ k = some j → σ k' = some j → k' = k) (ho : ∀ k bl, m'[k]? = some (some bl) → isWr bl.kd = true → ∀ x y, σ k ≠ some (.inp x y)) : Fits I t ⟨tm n l, m', cs⟩ σ where
  len := by simp only [tm_len, hn]
  tmps i v' hv := by
    rcases tm_get hv with e | h
    · exact .inl e
    · exact .inr (ht _ h)
  mem := hm
  inj := hi
  inpo := ho

theorem Fits.ofI {t : LS A} {n : Nat} {l : List (Nat × LV A)} {m' : Mem A} {cs : List Cnd} {σ : Nat → Option Key} (hn : t.tmps.length = n) (ht : ∀ p ∈ l, t.tmps[p.1]? = some (p.2.ren (ownK σ)) ∧ p.2.fit (ownK σ) (there m'))
    (hm : ∀ (j : Nat) (b0 : Blk A), m'[j]? = some (some b0) → fitL (ownK σ) (there m') b0.us ∧
      ((∃ k b, σ j = some k ∧ at? I t.mem k = some b ∧ LikeB (ownK σ) b b0) ∨ (σ j = none ∧ ∃ e z f, b0 = ⟨nilK e, [.rows 0 z f]⟩ ∧ ∀ i p, kinL p (f i))))
    (hi : ∀ k k' j, k < m'.length → k' < m'.length → σ k = some j → σ k' = some j → k = k') (ho : ∀ k bl, m'[k]? = some (some bl) → isWr bl.kd = true → ∀ x y, σ k ≠ some (.inp x y)) : Fits I t ⟨tm n l, m', cs⟩ σ :=
  Fits.of hn ht hm (fun k k' j bl hb _ hk' e e' => (hi k k' j (lt_of_get hb) hk' e e').symm) ho

/-! ## executions of which a part of the names stays -/
def okB (B : Nat) : Key → Prop
  | .own k => k < B
  | .inp _ _ => True
structure ExB (B : Nat) (P : Program) (I : Nat → Nat → List (LV A)) (c : Code) (s : LS A) (o : Out) (t : LS A) : Prop where
  live : ∀ (k : Nat) (bl : Blk A), k < B → s.mem[k]? = some (some bl) → ∃ bl' : Blk A, t.mem[k]? = some (some bl')
  run : ∀ (Own : Dom) (w0 : World) (ρ : Key → Loc) (a : Act) (w : World) (Q : Exit → Act → World → Prop), Rl I Own w0 ρ s a w →
    (∀ ρ' a' w', (∀ k m, okB B k → okKey s.mem ρ k m → ρ k = ρ' k) → Rl I Own w0 ρ' t a' w' → Q o.toExit a' w') → wpR P c Q a w

theorem Ex.toB {c : Code} {s t : LS A} {o : Out} (h : Ex P I c s o t) (B : Nat) : ExB B P I c s o t :=
  ⟨fun k bl _ hb => h.live k bl hb, fun Own w0 ρ a w Q hr hQ => h.run Own w0 ρ a w Q hr fun ρ' a' w' he hr' => hQ ρ' a' w' (fun k m _ hk => he k m hk) hr'⟩
theorem ExB.toEx {B : Nat} {c : Code} {s t : LS A} {o : Out} (h : ExB B P I c s o t) (hB : ∀ (k : Nat) (bl : Blk A), s.mem[k]? = some (some bl) → k < B) : Ex P I c s o t := by
  refine ⟨fun k bl hb => h.live k bl (hB k bl hb) hb, fun Own w0 ρ a w Q hr hQ => h.run Own w0 ρ a w Q hr fun ρ' a' w' he hr' => hQ ρ' a' w' (fun k m hk => he k m ?_ hk) hr'⟩
  cases k with
  | own k => obtain ⟨⟨bl, hb⟩, _⟩ := hk; exact hB k bl hb
  | inp x y => trivial

theorem okKey_toB {B : Nat} {mem mem' : Mem A} {ρ ρ' : Key → Loc} (hl : ∀ (k : Nat) (bl : Blk A), k < B → mem[k]? = some (some bl) → ∃ bl' : Blk A, mem'[k]? = some (some bl')) {k : Key} {m : Nat} (hB : okB B k) (h : okKey mem ρ k m) (e : ρ k = ρ' k) : okKey mem' ρ' k m := by
  cases k with
  | own k => obtain ⟨⟨bl, hb⟩, hm⟩ := h; exact ⟨hl k bl hB hb, by rw [← e]; exact hm⟩
  | inp t i => show m ≤ (ρ' (.inp t i)).cap; rw [← e]; exact h

theorem ExB.seq {B : Nat} {x y : Code} {s s' t : LS A} {o : Out} (h1 : ExB B P I x s .normal s') (h2 : ExB B P I y s' o t) : ExB B P I (.seq x y) s o t := by
  refine ⟨fun k bl hk hb => ?_, fun Own w0 ρ a w Q hr hQ => wpR_seq ?_⟩
  · obtain ⟨b1, hb1⟩ := h1.live k bl hk hb
    exact h2.live k b1 hk hb1
  refine h1.run Own w0 ρ a w _ hr fun ρ' a' w' he hr' => ?_
  show wpR P y Q a' w'
  exact h2.run Own w0 ρ' a' w' Q hr' fun ρ2 a2 w2 he2 hr2 => hQ ρ2 a2 w2 (fun k m hB hk => (he k m hB hk).trans (he2 k m hB (okKey_toB h1.live hB hk (he k m hB hk)))) hr2

/-- A loop: so many rounds that come to their end, and one that leaves. -/
theorem ExB.loop {B : Nat} {b : Code} {t : LS A} {o : Out} (ho : o ≠ .normal) (J : Nat → LS A) : ∀ (n : Nat), (∀ k, k < n → ExB B P I b (J k) .normal (J (k + 1))) → ExB B P I b (J n) o t → ExB B P I (.loop b) (J 0) o t := by
  intro n h hl
  have live : ∀ m, m ≤ n → ∀ (k : Nat) (bl : Blk A), k < B → (J (n - m)).mem[k]? = some (some bl) → ∃ bl' : Blk A, t.mem[k]? = some (some bl') := by
    intro m
    induction m with
    | zero => intro _; exact hl.live
    | succ m ih =>
      intro hm k bl hk hb
      have h1 := (h (n - (m + 1)) (by omega)).live k bl hk hb
      rw [show n - (m + 1) + 1 = n - m by omega] at h1
      obtain ⟨b1, hb1⟩ := h1
      exact ih (by omega) k b1 hk hb1
  refine ⟨by simpa using live n (Nat.le_refl _), fun Own w0 ρ a w Q hr hQ => ?_⟩
  refine wpR_loop_rounds (n + 1) ?_
  have key : ∀ m, m ≤ n → ∀ ρ a w, Rl I Own w0 ρ (J (n - m)) a w → (∀ ρ' a' w', (∀ k q, okB B k → okKey (J (n - m)).mem ρ k q → ρ k = ρ' k) → Rl I Own w0 ρ' t a' w' → Q o.toExit a' w') → roundsR P b Q (m + 1) a w := by
    intro m
    induction m with
    | zero =>
      intro _ ρ a w hr hQ
      rw [roundsR_succ]
      refine hl.run Own w0 ρ a w _ hr fun ρ' a' w' he hr' => ?_
      have := hQ ρ' a' w' he hr'
      cases o <;> first | exact absurd rfl ho | exact this
    | succ m ih =>
      intro hm ρ a w hr hQ
      rw [roundsR_succ]
      have h1 := h (n - (m + 1)) (by omega)
      rw [show n - (m + 1) + 1 = n - m by omega] at h1
      refine h1.run Own w0 ρ a w _ hr fun ρ' a' w' he hr' => ?_
      show roundsR P b Q (m + 1) a' w'
      exact ih (by omega) ρ' a' w' hr' fun ρ2 a2 w2 he2 hr2 => hQ ρ2 a2 w2 (fun k q hB hk => (he k q hB hk).trans (he2 k q hB (okKey_toB h1.live hB hk (he k q hB hk)))) hr2
  exact key n (Nat.le_refl _) ρ a w (by simpa using hr) (by simpa using hQ)

/-- An execution's state, told under other names. -/
theorem ExB.fits [LawAb A] {B : Nat} (hI : ∀ x y, alienL (I x y)) {c : Code} {s t t' : LS A} {o : Out} {σ : Nat → Option Key} (h : ExB B P I c s o t) (hf : Fits I t t' σ) (hσ : ∀ (k : Nat) (bl : Blk A), k < B → s.mem[k]? = some (some bl) → σ k = some (.own k) ∧ there t'.mem (.own k)) : ExB B P I c s o t' := by
  refine ⟨fun k bl hk hb => there_ex (hσ k bl hk hb).2, fun Own w0 ρ a w Q hr hQ => h.run Own w0 ρ a w Q hr fun ρ' a' w' he hr' => hQ _ a' w' (fun k m hB hk => ?_) (hf.rl hI hr')⟩
  rw [he k m hB hk]
  cases k with
  | own k =>
    obtain ⟨⟨bl, hb⟩, _⟩ := hk
    exact (renρ_some (τ := ownK σ) (b := .own k) (hσ k bl hB hb).1).symm
  | inp x y => rfl
/-- .. and the state that it begins with. -/
theorem ExB.pre [LawAb A] {B : Nat} (hI : ∀ x y, alienL (I x y)) {c : Code} {s s' t : LS A} {o : Out} {σ : Nat → Option Key} (h : ExB B P I c s' o t) (hf : Fits I s s' σ) (hσ : ∀ (k : Nat) (bl : Blk A), k < B → s.mem[k]? = some (some bl) → σ k = some (.own k) ∧ there s'.mem (.own k)) : ExB B P I c s o t := by
  refine ⟨fun k bl hk hb => ?_, fun Own w0 ρ a w Q hr hQ => h.run Own w0 _ a w Q (hf.rl hI hr) fun ρ' a' w' he hr' => hQ ρ' a' w' (fun k m hB hk => ?_) hr'⟩
  · obtain ⟨b1, hb1⟩ := there_ex (hσ k bl hk hb).2
    exact h.live k b1 hk hb1
  · cases k with
    | own k =>
      obtain ⟨⟨bl, hb⟩, hm⟩ := hk
      have e : renρ (ownK σ) ρ (.own k) = ρ (.own k) := renρ_some (τ := ownK σ) (b := .own k) (hσ k bl hB hb).1
      rw [← e]
      exact he (.own k) m hB ⟨there_ex (hσ k bl hB hb).2, by rw [e]; exact hm⟩
    | inp x y => exact he (.inp x y) m trivial hk
end
end Go.Proofs.YtonmjdnkcngfjaaGreat.En

/- DERIVED. Contracts put together. -/
set_option linter.all false
namespace Go.Proofs.YtonmjdnkcngfjaaGreat.En
open Go Go.RowKit

section
variable {A : Type} [Ab A]

abbrev Inp (A : Type) := Nat → Nat → List (LV A)
def InpOk (I : Inp A) : Prop := ∀ x y, alienL (I x y)

/-- A function of values alone. -/
structure ConP (P : Program) (A : Type) [Ab A] where
  f : FuncId
  fn : List (LV A) → Option (LV A)
  ent : ∀ args w, (callFunc f args).run P w = .ok (.enter f args) w
  kin : ∀ vs v, fn vs = some v → ∀ p, v.kin p
  call : ∀ vs v, fn vs = some v → ∀ ρ w, Calls P f (trs ρ vs).toArray w fun e w' => e = .returned (LV.tr ρ v) ∧ Below w.heap.size w w'
/-- One that reads. -/
structure ConR (P : Program) (A : Type) [Ab A] where
  f : FuncId
  fn : Inp A → List (LV A) → Mem A → Option (LV A)
  ent : ∀ args w, (callFunc f args).run P w = .ok (.enter f args) w
  kin : ∀ I vs mem v, fn I vs mem = some v → ∀ p, v.kin p
  call : ∀ I, InpOk I → ∀ vs mem v, fn I vs mem = some v → ∀ ρ w, MemRel I ρ mem w → kinL (capOk ρ) vs → (∀ (k : Key) (bl : Blk A), at? I mem k = some bl → kinL (capOk ρ) bl.us) → Calls P f (trs ρ vs).toArray w fun e w' => e = .returned (LV.tr ρ v) ∧ Below w.heap.size w w'
/-- One that writes. -/
structure ConC (P : Program) (A : Type) [Ab A] where
  f : FuncId
  fn : Inp A → List (LV A) → Mem A → Option (LV A × Mem A × Cnd)
  ent : ∀ args w, (callFunc f args).run P w = .ok (.enter f args) w
  grow : ∀ I vs mem v mem' c, fn I vs mem = some (v, mem', c) → mem.length ≤ mem'.length ∧ ∀ (k : Nat), k < mem.length → ((∃ bl, mem[k]? = some (some bl)) ↔ ∃ bl, mem'[k]? = some (some bl))
  call : ∀ I, InpOk I → ∀ vs mem v mem' c, fn I vs mem = some (v, mem', c) → condOk c → ∀ Own ρ w, Ahead I Own ρ mem vs w →
    Calls P f (trs ρ vs).toArray w fun e w' => ∃ ρ', e = .returned (LV.tr ρ' v) ∧ Left' I Own w mem ρ ρ' mem' v w'
  tc : Inp A → List (LV A) → Mem A → Option (List Nat) := fun _ _ _ => none
  keep : ∀ I vs mem v mem' c l, fn I vs mem = some (v, mem', c) → tc I vs mem = some l → ∀ k : Nat, k < mem.length → k ∉ l → mem'[k]? = mem[k]? := by intro _ _ _ _ _ _ _ _ h; cases h
/-- A loop, at one state of its beginning. -/
structure LoopF (P : Program) {A : Type} [Ab A] (I : Inp A) where
  f : FuncId
  p : List Nat
  s : LS A
  o : Out
  t : LS A
  len : t.tmps.length = s.tmps.length
  grow : s.mem.length ≤ t.mem.length ∧ ∀ (k : Nat), k < s.mem.length → ((∃ bl, s.mem[k]? = some (some bl)) ↔ ∃ bl, t.mem[k]? = some (some bl))
  ex : Ex P I (codeAt P f p) s o t

variable {P : Program}
def psOf : List (ConP P A) → FuncId → List (LV A) → Option (LV A)
  | [], _, _ => none
  | c :: cs, f, vs => match Nat.beq c.f f with
    | true => c.fn vs
    | false => psOf cs f vs
/-- .. with no condition. -/
def psQ (ps : List (ConP P A)) (f : FuncId) (vs : List (LV A)) : Option (LV A × Cnd) := match psOf ps f vs with
  | some v => some (v, none)
  | none => none
def rsOf (I : Inp A) : List (ConR P A) → FuncId → List (LV A) → Mem A → Option (LV A)
  | [], _, _, _ => none
  | c :: cs, f, vs, mem => match Nat.beq c.f f with
    | true => c.fn I vs mem
    | false => rsOf I cs f vs mem
def csOf (I : Inp A) : List (ConC P A) → FuncId → List (LV A) → Mem A → Option (LV A × Mem A × Cnd)
  | [], _, _, _ => none
  | c :: cs, f, vs, mem => match Nat.beq c.f f with
    | true => c.fn I vs mem
    | false => csOf I cs f vs mem
def tcOf (I : Inp A) : List (ConC P A) → FuncId → List (LV A) → Mem A → Option (List Nat)
  | [], _, _, _ => none
  | c :: cs, f, vs, mem => match Nat.beq c.f f with
    | true => c.tc I vs mem
    | false => tcOf I cs f vs mem
theorem tcOf_keep {I : Inp A} {cs : List (ConC P A)} {f : FuncId} {vs : List (LV A)} {mem mem' : Mem A} {v : LV A} {c : Cnd} {l : List Nat} (h : csOf I cs f vs mem = some (v, mem', c)) (hl : tcOf I cs f vs mem = some l) : ∀ k : Nat, k < mem.length → k ∉ l → mem'[k]? = mem[k]? := by
  induction cs with
  | nil => cases h
  | cons k cs ih =>
    simp only [csOf] at h
    simp only [tcOf] at hl
    split at h
    · rename_i hb
      rw [hb] at hl
      exact k.keep I vs mem v mem' c l h hl
    · rename_i hb
      rw [hb] at hl
      exact ih h hl
def eqP : List Nat → List Nat → Bool
  | [], [] => true
  | a :: l, b :: m => match Nat.beq a b with
    | true => eqP l m
    | false => false
  | _, _ => false
theorem eqP_spec : ∀ {l m : List Nat}, eqP l m = true → l = m
  | [], [], _ => rfl
  | [], _ :: _, h => by cases h
  | _ :: _, [], h => by cases h
  | a :: l, b :: m, h => by
    simp only [eqP] at h
    split at h
    · rename_i hb; rw [beqN hb, eqP_spec h]
    · cases h
def shapeM : Mem A → Mem A → Bool
  | [], [] => true
  | some _ :: l, some _ :: m => shapeM l m
  | none :: l, none :: m => shapeM l m
  | _, _ => false
theorem shapeM_spec : ∀ {l m : Mem A}, shapeM l m = true → l.length = m.length ∧ ∀ (k : Nat), (∃ bl, l[k]? = some (some bl)) ↔ ∃ bl, m[k]? = some (some bl)
  | [], [], _ => ⟨rfl, fun _ => Iff.rfl⟩
  | [], _ :: _, h => by simp [shapeM] at h
  | some _ :: _, [], h => by simp [shapeM] at h
  | none :: _, [], h => by simp [shapeM] at h
  | some a :: l, some b :: m, h => by
    obtain ⟨h1, h2⟩ := shapeM_spec (l := l) (m := m) h
    refine ⟨by simp [h1], fun k => ?_⟩
    cases k with
    | zero => simp
    | succ k => simpa using h2 k
  | none :: l, none :: m, h => by
    obtain ⟨h1, h2⟩ := shapeM_spec (l := l) (m := m) h
    refine ⟨by simp [h1], fun k => ?_⟩
    cases k with
    | zero => simp
    | succ k => simpa using h2 k
  | some _ :: _, none :: _, h => by simp [shapeM] at h
  | none :: _, some _ :: _, h => by simp [shapeM] at h
def LoopF.fn {I : Inp A} (c : LoopF P I) (s : LS A) : Option (Out × List (LV A) × Mem A × Cnd) := match Nat.beq s.tmps.length c.s.tmps.length && shapeM s.mem c.s.mem with
  | true => some (c.o, c.t.tmps, c.t.mem, some (s.tmps = c.s.tmps ∧ s.mem = c.s.mem))
  | false => none
def lpOf {I : Inp A} : List (LoopF P I) → FuncId → List Nat → Option (LS A → Option (Out × List (LV A) × Mem A × Cnd))
  | [], _, _ => none
  | c :: cs, f, p => match Nat.beq c.f f && eqP c.p p with
    | true => some c.fn
    | false => lpOf cs f p
def howOf (ps : List (ConP P A)) (rs : List (ConR P A)) (f : FuncId) : Kn := match ps.any (fun c => Nat.beq c.f f) with
  | true => .pure
  | false => match rs.any (fun c => Nat.beq c.f f) with
    | true => .look
    | false => .wr

/-- What is told beside the contracts. -/
structure Adv where
  il : FuncId → Bool
  dec : FuncId → Nat → Nat → Option Bool
  rc : FuncId → Nat → Nat → Bool
  fz : FuncId → Nat → Bool
  pl : FuncId → Nat → Bool := fun _ _ => false
  res : FuncId → Nat → Nat

def sigOf (ps : List (ConP P A)) (rs : List (ConR P A)) (cs : List (ConC P A)) {I : Inp A} (ls : List (LoopF P I)) (ms : TypeId → String → Option FuncId) (a : Adv) : Sig A where
  ps := psQ ps
  rs := rsOf I rs
  cs := csOf I cs
  tc := tcOf I cs
  il := a.il
  how := howOf ps rs
  ms := ms
  dec := a.dec
  rc := a.rc
  fz := fun f r => ⟨a.fz f r, a.pl f r⟩
  res := a.res
  inp := I
  lp := lpOf ls

theorem psOf_mem {ps : List (ConP P A)} {f : FuncId} {vs : List (LV A)} {v : LV A} (h : psOf ps f vs = some v) : ∃ c : ConP P A, c.f = f ∧ c.fn vs = some v := by
  induction ps with
  | nil => cases h
  | cons c cs ih =>
    simp only [psOf] at h
    split at h
    · rename_i hb; exact ⟨c, beqN hb, h⟩
    · exact ih h
theorem psQ_some {ps : List (ConP P A)} {f : FuncId} {vs : List (LV A)} {v : LV A} {c : Cnd} (h : psQ ps f vs = some (v, c)) : psOf ps f vs = some v ∧ c = none := by
  unfold psQ at h
  split at h
  · rename_i v' h'
    cases h
    exact ⟨h', rfl⟩
  · cases h
theorem rsOf_mem {I : Inp A} {rs : List (ConR P A)} {f : FuncId} {vs : List (LV A)} {mem : Mem A} {v : LV A} (h : rsOf I rs f vs mem = some v) : ∃ c : ConR P A, c.f = f ∧ c.fn I vs mem = some v := by
  induction rs with
  | nil => cases h
  | cons c cs ih =>
    simp only [rsOf] at h
    split at h
    · rename_i hb; exact ⟨c, beqN hb, h⟩
    · exact ih h
theorem csOf_mem {I : Inp A} {rs : List (ConC P A)} {f : FuncId} {vs : List (LV A)} {mem : Mem A} {v : LV A × Mem A × Cnd} (h : csOf I rs f vs mem = some v) : ∃ c : ConC P A, c.f = f ∧ c.fn I vs mem = some v := by
  induction rs with
  | nil => cases h
  | cons c cs ih =>
    simp only [csOf] at h
    split at h
    · rename_i hb; exact ⟨c, beqN hb, h⟩
    · exact ih h
theorem lpOf_mem {I : Inp A} {ls : List (LoopF P I)} {f : FuncId} {p : List Nat} {h : LS A → Option (Out × List (LV A) × Mem A × Cnd)} (hl : lpOf ls f p = some h) : ∃ c : LoopF P I, c.f = f ∧ c.p = p ∧ c.fn = h := by
  induction ls with
  | nil => cases hl
  | cons c cs ih =>
    simp only [lpOf] at hl
    split at hl
    · rename_i hb; cases hl; exact ⟨c, beqN (both hb).1, eqP_spec (both hb).2, rfl⟩
    · exact ih hl
theorem LoopF.fn_grow {I : Inp A} (k : LoopF P I) {s : LS A} {o : Out} {tm : List (LV A)} {m : Mem A} {c : Cnd} (h : k.fn s = some (o, tm, m, c)) : tm.length = s.tmps.length ∧ s.mem.length ≤ m.length ∧ ∀ (k : Nat), k < s.mem.length → ((∃ bl, s.mem[k]? = some (some bl)) ↔ ∃ bl, m[k]? = some (some bl)) := by
  unfold LoopF.fn at h
  split at h
  · rename_i hb
    cases h
    obtain ⟨h1, h2⟩ := both hb
    have h1 := beqN h1
    obtain ⟨h3, h4⟩ := shapeM_spec h2
    refine ⟨k.len.trans h1.symm, by rw [h3]; exact k.grow.1, fun q hq => (h4 q).trans (k.grow.2 q (by rw [← h3]; exact hq))⟩
  · cases h
theorem LoopF.fn_run {I : Inp A} (k : LoopF P I) {s : LS A} {o : Out} {tm : List (LV A)} {m : Mem A} {c : Cnd} (h : k.fn s = some (o, tm, m, c)) (hc : condOk c) : Ex P I (codeAt P k.f k.p) s o ⟨tm, m, s.conds⟩ := by
  unfold LoopF.fn at h
  split at h
  · cases h
    obtain ⟨e1, e2⟩ := (hc : s.tmps = k.s.tmps ∧ s.mem = k.s.mem)
    refine ⟨fun q bl hb => ?_, fun Own w0 ρ a w Q hr hQ => k.ex.run Own w0 ρ a w Q { hr with size := by rw [← e1]; exact hr.size, val := by rw [← e1]; exact hr.val, mem := by rw [← e2]; exact hr.mem, mine := by rw [← e2]; exact hr.mine, occT := by rw [← e1, ← e2]; exact hr.occT, occM := by rw [← e2]; exact hr.occM } fun ρ' a' w' he hr' => hQ ρ' a' w' (fun q m hq => he q m (by rw [← e2]; exact hq)) { hr' with }⟩
    rw [e2] at hb
    exact k.ex.live q bl hb
  · cases h

theorem sigOf_ok (ps : List (ConP P A)) (rs : List (ConR P A)) (cs : List (ConC P A)) {I : Inp A} (ls : List (LoopF P I)) {ms : TypeId → String → Option FuncId} (hms : ∀ t m f, ms t m = some f → ∀ v w, (method (P.types.size + Made.depth) t v m).run P w = .ok (f, v) w) (a : Adv) (hI : InpOk I) : SigOk P (sigOf ps rs cs ls ms a) where
  psK f vs v c h := by obtain ⟨c, rfl, h2⟩ := psOf_mem (psQ_some h).1; exact c.kin vs v h2
  psC f vs v c h _ ρ w := by obtain ⟨c, rfl, h2⟩ := psOf_mem (psQ_some h).1; exact .inl ⟨c.ent _ w, c.call vs v h2 ρ w⟩
  rsE f vs mem v h := by obtain ⟨c, rfl, _⟩ := rsOf_mem h; exact c.ent
  rsK f vs mem v h := by obtain ⟨c, rfl, h2⟩ := rsOf_mem h; exact c.kin I vs mem v h2
  rsC f vs mem v h := by obtain ⟨c, rfl, h2⟩ := rsOf_mem h; exact c.call I hI vs mem v h2
  ms := hms
  cs := {
    ent := fun f vs mem r h => by obtain ⟨c, rfl, _⟩ := csOf_mem h; exact c.ent
    grow := fun f vs mem v mem' cd h => by obtain ⟨c, rfl, h2⟩ := csOf_mem h; exact c.grow I vs mem v mem' cd h2
    call := fun f vs mem v mem' cd h => by obtain ⟨c, rfl, h2⟩ := csOf_mem h; exact c.call I hI vs mem v mem' cd h2 }
  tc f vs mem v mem' c l h hl := tcOf_keep h hl
  lpG f p h s o tm m c hl hh := by obtain ⟨k, rfl, rfl, rfl⟩ := lpOf_mem hl; exact k.fn_grow hh
  lpC f p h s o tm m c hl hh hc := by obtain ⟨k, rfl, rfl, rfl⟩ := lpOf_mem hl; exact k.fn_run hh hc

/-- A call of plain values, under a condition; walked, or done here and now. -/
structure ConQ (P : Program) (A : Type) [Ab A] where
  f : FuncId
  fn : List (LV A) → Option (LV A × Cnd)
  kin : ∀ vs v c, fn vs = some (v, c) → ∀ p, v.kin p
  call : ∀ vs v c, fn vs = some (v, c) → condOk c → ∀ ρ w, PureCall P f (trs ρ vs).toArray (LV.tr ρ v) w
def ConP.q (c : ConP P A) : ConQ P A where
  f := c.f
  fn vs := match c.fn vs with
    | some v => some (v, none)
    | none => none
  kin vs v cd h := by
    split at h
    · rename_i v' h'; cases h; exact c.kin vs v h'
    · cases h
  call vs v cd h _ ρ w := by
    split at h
    · rename_i v' h'; cases h; exact .inl ⟨c.ent _ w, c.call vs v h' ρ w⟩
    · cases h
def qsOf : List (ConQ P A) → FuncId → List (LV A) → Option (LV A × Cnd)
  | [], _, _ => none
  | c :: cs, f, vs => match Nat.beq c.f f with
    | true => c.fn vs
    | false => qsOf cs f vs
theorem qsOf_mem {qs : List (ConQ P A)} {f : FuncId} {vs : List (LV A)} {r : LV A × Cnd} (h : qsOf qs f vs = some r) : ∃ c : ConQ P A, c.f = f ∧ c.fn vs = some r := by
  induction qs with
  | nil => cases h
  | cons c cs ih =>
    simp only [qsOf] at h
    split at h
    · rename_i hb; exact ⟨c, beqN hb, h⟩
    · exact ih h
/-- Contracts of plain values beside others. -/
def sigQ (qs : List (ConQ P A)) (S : Sig A) : Sig A := { S with
  ps := fun f vs => match qs.any (fun c => Nat.beq c.f f) with
    | true => qsOf qs f vs
    | false => S.ps f vs
  how := fun f => match qs.any (fun c => Nat.beq c.f f) with
    | true => .pure
    | false => S.how f }
theorem sigQ_ok (qs : List (ConQ P A)) {S : Sig A} (h : SigOk P S) : SigOk P (sigQ qs S) where
  psK f vs v c e := by
    simp only [sigQ] at e
    split at e
    · obtain ⟨q, rfl, h2⟩ := qsOf_mem e; exact q.kin vs v c h2
    · exact h.psK f vs v c e
  psC f vs v c e hc ρ w := by
    simp only [sigQ] at e
    split at e
    · obtain ⟨q, rfl, h2⟩ := qsOf_mem e; exact q.call vs v c h2 hc ρ w
    · exact h.psC f vs v c e hc ρ w
  rsE := h.rsE
  rsK := h.rsK
  rsC := h.rsC
  ms := h.ms
  cs := h.cs
  tc := h.tc
  lpG := h.lpG
  lpC := h.lpC

/-! ## contracts out of the executor -/
theorem ent_of {f : FuncId} {fn : Func} {c : Code} (hf : P.funcs[f]? = some fn) (hb : fn.body = some c) (hn : (fn.name == "runtime.NumGoroutine") = false) : ∀ args w, (callFunc f args).run P w = .ok (.enter f args) w := by
  intro args w
  have hn : ¬ (fn.name = "runtime.NumGoroutine") := by
    intro e
    rw [e] at hn
    simp at hn
  simp [callFunc, hf, hb, hn]
end
end Go.Proofs.YtonmjdnkcngfjaaGreat.En
