/- DERIVED. The operations that read memory, and those that lay a new block. -/
import Derived.Test.YtjhjockdkpgpeaaVSA
import Derived.Laws.BytesArg
set_option linter.all false
namespace Go.Proofs.Ytjhjockdkpgpeaa.En
open Go Go.RowKit

section
variable {A : Type} [Ab A] {P : Program}
variable {I : Nat → Nat → List (LV A)} {Own : Dom} {w0 : World} {ρ : Key → Loc} {s : LS A} {a : Act} {w : World}

/-! ## reading -/
theorem run_load_sound [LawAb A] {rc : Bool} {t : TypeId} {k : Key} {o : Nat} {p : List Stp} {mem : Mem A} {bl : Blk A} {v : LV A} {c : Cnd} (hm : MemRel I ρ mem w) (hb : at? I mem k = some bl) (hp : partV P rc t bl.us o p = some (v, c)) (hc : condOk c) :
    (Instr.loadAt t (LV.tr ρ (.ptr k o p : LV A))).run P w = .ok (LV.tr ρ v) w ∧ ∀ q, kinL q bl.us → v.kin q := by
  unfold partV at hp
  split at hp
  rotate_left
  · cases hp
  rename_i n ag hz hu
  split at hp
  rotate_left
  · cases hp
  rename_i r c' hr
  split at hp
  rotate_left
  · cases hp
  rename_i v' hv
  simp only [Option.some.injEq, Prod.mk.injEq] at hp
  obtain ⟨rfl, rfl⟩ := hp
  refine ⟨?_, fun q hk => kin_ofUnits hv (kin_rdP _ _ _ _ _ _ hr hk)⟩
  obtain ⟨h1, h2⟩ := rdP_sound ρ _ _ _ _ _ _ hr hc
  have hlen := len_cellsL ρ bl.us
  have hd : ∀ off, off = adr o p → (Instr.loadAt t (LV.tr ρ (.ptr k o p : LV A))) = Instr.loadAt t (.pointer (some ((ρ k).at off))) := by rintro off rfl; rfl
  rw [hd _ rfl]
  generalize adr o p = off at h1 h2 ⊢
  simp only [Instr.loadAt, Instr.sureAddr, loadVar, Sem.run_bind, Sem.run_pure, Result.andThen_ok, run_isAgg w hu]
  have hcells : ∀ (j : Nat) (u : Value), (cellsL ρ r)[j]? = some u → w.cell? ((ρ k).at (off + j)) = some u := by
    intro j u hj
    rw [h1] at hj
    by_cases hjn : j < n
    · rw [List.getElem?_take_of_lt hjn, List.getElem?_drop] at hj
      exact hm.cell k bl hb _ _ hj
    · rw [List.getElem?_eq_none (by simp; omega)] at hj; cases hj
  have hrl : (cellsL ρ r).length = n := by rw [h1]; simp; omega
  cases ag with
  | true =>
    simp only [ofUnits, Option.some.injEq] at hv
    subst hv
    have := run_loadCells_list (P := P) w ((ρ k).at off) (cellsL ρ r) (fun j u hj => by rw [loc_add]; exact hcells j u hj)
    rw [hrl] at this
    simp only [if_true, run_sizeOf w hz, Result.andThen_ok, Sem.run_bind, this, Sem.run_pure, LV.tr]
  | false =>
    simp only [ofUnits] at hv
    split at hv
    · rename_i u
      have key : LV.cells ρ v' = [LV.tr ρ v'] ∧ v' = u := by
        split at hv <;> first | (cases hv; done) | (cases hv; refine ⟨?_, rfl⟩; cases v' <;> first | rfl | simp_all)
      obtain ⟨key, rfl⟩ := key
      have : w.cell? ((ρ k).at off) = some (LV.tr ρ v') := by
        have := hcells 0 (LV.tr ρ v') (by simp [cellsL, key])
        simpa using this
      simp [this]
    · cases hv

theorem take_get {l : Mem A} {n b : Nat} {x : Option (Blk A)} (h : (l.take n)[b]? = some x) : l[b]? = some x := by
  by_cases hb : b < n
  · rwa [List.getElem?_take_of_lt hb] at h
  · rw [List.getElem?_eq_none (by simp; omega)] at h; cases h
theorem at_take {mem : Mem A} {n : Nat} {k : Key} {bl : Blk A} (h : at? I (mem.take n) k = some bl) : at? I mem k = some bl := by
  cases k with
  | own k => exact at_own (take_get (at_own' h))
  | inp t i => exact h

theorem MemRel.take {mem : Mem A} (h : MemRel I ρ mem w) (n : Nat) : MemRel I ρ (mem.take n) w where
  cell k bl hk := h.cell k bl (at_take hk)
  free k bl hk := h.free k bl (take_get hk)
  apart k k' bl bl' hne hk hk' := h.apart k k' bl bl' hne (take_get hk) (at_take hk')
  inb k bl hk := h.inb k bl (at_take hk)
  row k bl e hk := h.row k bl e (take_get hk)
  nilc := h.nilc
  empt k bl hk := h.empt k bl (at_take hk)
  dead k bl hk := h.dead k bl (take_get hk)

theorem row_split' {n z x : Nat} (h : x < n * z) : ∃ i j, x = i * z + j ∧ j < z ∧ i < n := by
  obtain ⟨i, j, h1, h2, h3⟩ := row_split (o := 0) (n := n) (z := z) (x := x) (by omega) (by omega)
  exact ⟨i, j, by omega, h2, h3⟩

/-- A slice's cells. -/
theorem rowsV_sound [LawAb A] {S : Sig A} (hI : S.inp = I) {rc : Bool} {mem : Mem A} {z : Nat} {x : LV A} {m : Nat} {g : Nat → List (LV A)} {c : Cnd} (hm : MemRel I ρ mem w) (h : rowsV S rc mem z x = some (m, g, c)) (hc : condOk c) :
    ∃ (src : Option Addr) (cap : Nat), LV.tr ρ x = .slice src m cap ∧ (src = none → m = 0 ∧ cap = 0) ∧ (∀ ad, src = some ad → ∀ j u, (rowCells ρ m z g)[j]? = some u → w.cell? (ad.add j) = some u) ∧
      ∀ p, (∀ (k : Key) (bl : Blk A), at? I mem k = some bl → kinL p bl.us) → ∀ i, kinL p (g i) := by
  have blk : ∀ {b : Key} {o : Nat} {q : List Stp} {len : Nat} {bl : Blk A} {g : Nat → List (LV A)} {c : Cnd}, at? I mem b = some bl → rowsP rc bl.us o q z len = some (g, c) → condOk c →
      ∀ j u, (rowCells ρ len z g)[j]? = some u → w.cell? (((ρ b).at (adr o q)).add j) = some u := by
    intro b o q len bl g c hb hr hc j u hj
    have hlt : j < len * z := by
      rcases Nat.lt_or_ge j (len * z) with h' | h'
      · exact h'
      · rw [List.getElem?_eq_none (by rw [len_rowCells]; exact h')] at hj; cases hj
    obtain ⟨i, r, rfl, hr', hi⟩ := row_split' hlt
    rw [get_rowCells ρ g hi hr', (rowsP_sound ρ q bl.us o g c hr hc i r hi hr').1] at hj
    rw [loc_add, ← Nat.add_assoc]
    exact hm.cell b bl hb _ u hj
  unfold rowsV at h
  split at h
  · simp only [Option.some.injEq, Prod.mk.injEq] at h
    obtain ⟨rfl, rfl, _⟩ := h
    exact ⟨none, 0, rfl, fun _ => ⟨rfl, rfl⟩, fun ad e => (by cases e), fun p _ i => trivial⟩
  · rename_i b o q len cap
    split at h
    · rename_i bl hb
      rw [getB_at, hI] at hb
      split at h
      · rename_i g' c' hr
        simp only [Option.some.injEq, Prod.mk.injEq] at h
        obtain ⟨rfl, rfl, rfl⟩ := h
        exact ⟨_, _, rfl, fun e => (by cases e), fun ad e => (by cases e; exact blk hb hr hc), fun p hp i => kin_rowsP _ _ _ _ _ hr (hp b bl hb) i⟩
      · cases h
    · cases h
  · rename_i b len
    split at h
    · rename_i bl hb
      rw [getB_at, hI] at hb
      split at h
      · rename_i g' c' hr
        simp only [Option.some.injEq, Prod.mk.injEq] at h
        obtain ⟨rfl, rfl, rfl⟩ := h
        have kin : ∀ p, (∀ (k : Key) (bl : Blk A), at? I mem k = some bl → kinL p bl.us) → ∀ i, kinL p (g' i) := fun p hp i => kin_rowsP _ _ _ _ _ hr (hp b bl hb) i
        show ∃ src cap, vecV (ρ b) len = _ ∧ _
        unfold vecV
        split
        · rename_i hn
          have hl := beqN (both hn).2
          exact ⟨_, 0, by rw [hl], fun _ => ⟨hl, rfl⟩, fun ad e j u hu => (by rw [hl] at hu; simp [rowCells] at hu), kin⟩
        · exact ⟨_, _, rfl, fun e => (by cases e), fun ad e => (by cases e; exact blk hb hr hc), kin⟩
      · cases h
    · cases h
  · cases h

theorem allB8_spec {g : Nat → List (LV A)} : ∀ {n : Nat}, allB8 g n = true → ∀ j, j < n → g j = [.int .u8 (byteOf (g j))]
  | 0, _, j, hj => absurd hj (Nat.not_lt_zero j)
  | n + 1, h, j, hj => by
    obtain ⟨h1, h2⟩ := both h
    rcases Nat.lt_or_ge j n with hl | hl
    · exact allB8_spec h2 j hl
    · have e : j = n := by omega
      subst e
      revert h1
      generalize g j = l
      intro h1
      unfold isB8 at h1
      split at h1
      · rfl
      · cases h1
theorem allB8_of {g : Nat → List (LV A)} {f : Nat → Int} : ∀ {n : Nat}, (∀ j, j < n → g j = [.int .u8 (f j)]) → allB8 g n = true
  | 0, _ => rfl
  | n + 1, h => by
    simp only [allB8, h n (Nat.lt_succ_self n), isB8, Bool.true_and]
    exact allB8_of fun j hj => h j (by omega)

theorem look_sound [LawAb A] {S : Sig A} (hI : S.inp = I) (hS : SigOk P S) {o : Oper} {rc : Bool} {d : Option Bool} {base : Nat} {v : LV A} {c : Cnd} (h : lookR P S rc d (ev s.tmps) (s.mem.take base) o.op = some (v, c)) (hc : condOk c)
    (hr : Rl I Own w0 ρ s a w) : Does P o a w (LV.tr ρ v) ∧ v.kin (okKey s.mem ρ) := by
  obtain ⟨dst, op, ty, pos, after, guard⟩ := o
  cases op <;> simp only [lookR] at h <;> try (cases h; done)
  case load t x =>
    split at h
    · rename_i b o p hx
      have hx := (ev_sound hr hx).1
      split at h
      · rename_i bl hb
        rw [getB_at, hI] at hb
        have hb := at_take hb
        obtain ⟨c2, h, hc⟩ := tstC_sound h hc
        have hl := run_load_sound (P := P) hr.mem hb h hc
        exact ⟨does_value (by simp only [execOp, hx]; simp [hl.1]), hl.2 _ (hr.occM b bl hb)⟩
      · cases h
    · cases h
  case convert src dst x =>
    split at h
    rotate_left
    · cases h
    rename_i v e hx hs hd
    have hx := (ev_sound hr hx).1
    split at h
    rotate_left
    · cases h
    rename_i m g c' he hg
    split at h
    rotate_left
    · cases h
    rename_i c2 hch
    simp only [Option.some.injEq, Prod.mk.injEq] at h
    obtain ⟨rfl, rfl⟩ := h
    obtain ⟨hc1, hc2⟩ := andC_ok hc
    have hc2 : ∀ j, j < m → g j = [.int .u8 (byteOf (g j))] := allB8_spec (chkC_ok hch hc2)
    obtain ⟨src', cap, h1, h2, h3, _⟩ := rowsV_sound (w := w) hI (hr.mem.take base) hg hc1
    refine ⟨does_value ?_, trivial⟩
    simp only [execOp, hx, h1]
    cases src' with
    | none =>
      obtain ⟨rfl, rfl⟩ := h2 rfl
      simp [run_convert_bytes_nil w src e hs he 0 0 dst hd, LV.tr, strOf, ByteArray.empty, ByteArray.emptyWithCapacity]
      try rfl
    | some ad =>
      obtain ⟨ab, ao, ai⟩ := ad
      have hcell : ∀ i, i < m → w.cell? ((⟨ab, ao, ai⟩ : Addr).add i) = some (.int .u8 (((List.range m).map fun j => byteOf (g j)).getD i 0)) := by
        intro i hi
        refine h3 _ rfl i _ ?_
        have := get_rowCells ρ g (z := 1) hi (show 0 < 1 by omega)
        rw [Nat.mul_one, Nat.add_zero] at this
        rw [this]
        have hgi : cellsL ρ (g i) = [.int .u8 (byteOf (g i))] := by
          have := hc2 i hi
          generalize byteOf (g i) = b at this
          rw [this]; rfl
        rw [hgi]
        simp [fitTo, List.getD_eq_getElem?_getD, hi]
      have hrun := run_loadCells_list (P := P) w ⟨ab, ao, ai⟩ (((List.range m).map fun j => byteOf (g j)).map (Value.int .u8)) (fun j v hj => by
        have hjm : j < m := by
          rcases Nat.lt_or_ge j m with hh | hh
          · exact hh
          · rw [List.getElem?_eq_none (by simpa using hh)] at hj; cases hj
        rw [hcell j hjm]
        simp [hjm] at hj
        subst hj
        simp [List.getD_eq_getElem?_getD, hjm])
      have hl : (loadCells ⟨ab, ao, ai⟩ m).run P w = .ok (((List.range m).map fun j => byteOf (g j)).map (Value.int .u8)).toArray w := by simpa using hrun
      rw [show LV.tr ρ (LV.str (strOf m g) : LV A) = .string (strOf m g) from rfl]
      simp [run_convert_bytes_string w src dst e _ m cap hs he hd, run_bytesToString w ⟨ab, ao, ai⟩ m cap _ hl, foldl_push_bytes, strOf, ByteArray.empty, ByteArray.emptyWithCapacity]
      try rfl
  case call cl =>
    obtain ⟨callee, args, ats⟩ := cl
    simp only at h
    split at h
    · rename_i vs hvs
      split at h
      · split at h
        · rename_i f
          have hv := tst_sound h hc
          have hm := mapE_arr hr hvs
          refine ⟨does_call (f := f) (args := (trs ρ vs).toArray) ?_ (hS.rsC f vs _ v hv ρ w (hI ▸ hr.mem.take base) (kinL_mono okKey_cap _ (mapE_sound hr hvs).2) fun k bl hk => kinL_mono okKey_cap _ (hr.occM k bl (hI ▸ at_take hk))), hS.rsK f vs _ v hv _⟩
          simp [execOp, resolve, Act.eval, Deferred.ofValue, invoke, hm, hS.rsE f vs _ v hv]
        · cases h
      · cases h
    · cases h

/-! ## slices -/
theorem okKey_le {mem : Mem A} {k : Key} {m n : Nat} (h : okKey mem ρ k n) (hm : m ≤ n) : okKey mem ρ k m := by
  cases k with
  | own k => exact ⟨h.1, Nat.le_trans hm h.2⟩
  | inp t i => exact Nat.le_trans hm h

/-- The bounds of a slicing of which the capacity is known in part. -/
theorem bnds_cap (hr : Rl I Own w0 ρ s a w) {len cap : Nat} (hcap : len ≤ cap) {low high max : Option Operand} {l h m : Nat} {ok : Bool} (hb : bnds (ev s.tmps) len len low high max = some (l, h, m, ok)) (hok : ok = true) :
    ∃ m', (Instr.sliceBounds true len cap (low.map a.eval) (high.map a.eval) (max.map a.eval)).run P w = .ok (l, h, m') w ∧ l ≤ h ∧ h ≤ len ∧ h ≤ m' ∧ m' ≤ cap ∧ (low = none → l = 0) := by
  obtain ⟨h1, h2, h3, h4, h5⟩ := bnds_sound (P := P) (w := w) hr true hb hok
  cases max with
  | some x =>
    refine ⟨m, ?_, h2, by omega, h3, by omega, h5⟩
    have e : ∀ n : Nat, m ≤ n → (Instr.sliceBound (a.eval x) n .slice3Acap).run P w = .ok m w := by
      intro n hn
      have hx : ∃ k i, ev s.tmps x = some (.int k i) ∧ i.toNat = m ∧ 0 ≤ i := by
        subst hok
        simp only [bnds] at hb
        split at hb
        · rename_i l' h' m' e0 e1 e2 e3
          simp only [Option.some.injEq, Prod.mk.injEq] at hb
          obtain ⟨rfl, rfl, rfl, hd⟩ := hb
          have hd := of_decide_eq_true hd
          split at e3
          · rename_i k i hx; cases e3; exact ⟨k, _, hx, rfl, by omega⟩
          · cases e3
        · cases hb
      obtain ⟨k, i, hx, e1, e2⟩ := hx
      have hx := (ev_sound hr hx).1
      simp [Instr.sliceBound, hx, LV.tr, asIntOf, e2, show i ≤ (n : Int) by omega, e1]
    simp only [Instr.sliceBounds, Option.map_some, if_true, Sem.run_bind, e len (by omega), Result.andThen_ok] at h1 ⊢
    rw [e cap (by omega)]
    simp only [Result.andThen_ok]
    exact h1
  | none =>
    have hm : m = len := by
      subst hok
      simp only [bnds] at hb
      split at hb
      · rename_i l' h' m' e0 e1 e2 e3
        simp only [Option.some.injEq, Prod.mk.injEq] at hb
        simp only [Option.some.injEq] at e3
        omega
      · cases hb
    subst hm
    refine ⟨cap, ?_, h2, h3, by omega, Nat.le_refl _, h5⟩
    cases high with
    | none =>
      simp only [Instr.sliceBounds, Option.map_none, Sem.run_bind, Sem.run_pure, Result.andThen_ok] at h1 ⊢
      cases low with
      | none => simp only [Option.map_none, Sem.run_pure, Result.andThen_ok, Sem.run_bind, Result.ok.injEq, Prod.mk.injEq, and_true] at h1 ⊢; omega
      | some y =>
        simp only [Option.map_some, Sem.run_bind] at h1 ⊢
        cases hq : (Instr.sliceBound (a.eval y) m (if (Option.map a.eval (none : Option Operand)).isSome = true then .slice3C else .sliceB)).run P w <;> simp only [Option.map_none] at hq <;> rw [hq] at h1 ⊢ <;> simp_all
    | some x =>
      have e : ∀ n : Nat, h ≤ n → (Instr.sliceBound (a.eval x) n .sliceAcap).run P w = .ok h w := by
        intro n hn
        have hx : ∃ k i, ev s.tmps x = some (.int k i) ∧ i.toNat = h ∧ 0 ≤ i := by
          subst hok
          simp only [bnds] at hb
          split at hb
          · rename_i l' h' m' e0 e1 e2 e3
            simp only [Option.some.injEq, Prod.mk.injEq] at hb
            obtain ⟨rfl, rfl, _, hd⟩ := hb
            have hd := of_decide_eq_true hd
            split at e2
            · rename_i k i hx; cases e2; exact ⟨k, _, hx, rfl, by omega⟩
            · cases e2
          · cases hb
        obtain ⟨k, i, hx, e1, e2⟩ := hx
        have hx := (ev_sound hr hx).1
        simp [Instr.sliceBound, hx, LV.tr, asIntOf, e2, show i ≤ (n : Int) by omega, e1]
      simp only [Instr.sliceBounds, Option.map_none, Option.map_some, if_true, Sem.run_bind, Sem.run_pure, Result.andThen_ok, e m (by omega)] at h1 ⊢
      rw [e cap (by omega)]
      simp only [Result.andThen_ok]
      cases low with
      | none => simp only [Option.map_none, Sem.run_pure, Result.andThen_ok, Sem.run_bind, Result.ok.injEq, Prod.mk.injEq, and_true] at h1 ⊢; omega
      | some y =>
        simp only [Option.map_some, Sem.run_bind] at h1 ⊢
        cases hq : (Instr.sliceBound (a.eval y) h (if (Option.map a.eval (none : Option Operand)).isSome = true then .slice3C else .sliceB)).run P w <;> simp only [Option.map_none] at hq <;> rw [hq] at h1 ⊢ <;> simp_all
end
end Go.Proofs.Ytjhjockdkpgpeaa.En
