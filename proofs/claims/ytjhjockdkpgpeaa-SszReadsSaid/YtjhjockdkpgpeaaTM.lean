/- DERIVED. Steps that came in, as the executor has them. -/
import Derived.Test.YtjhjockdkpgpeaaVSW
import Derived.Test.YtjhjockdkpgpeaaTL
import Derived.Test.YtjhjockdkpgpeaaTD
set_option linter.all false
namespace Go.Proofs.Ytjhjockdkpgpeaa.En
open Go Go.RowKit Go.ChangeShapes Go.WideShapes Go.ChangeAt Go.WideElems

section
variable {H : Type} {enc : TypeId × Value → H} {W : World}
/-- Whole numbers in a slice. -/
theorem open_numsT {t e : TypeId} {k : IntKind} {fuel : Nat} {cs : List Value} {x : DataW H × List MemPlace} (ht : Try.prog.underlying t = some (.slice e)) (he : Try.prog.underlying e = some (.int k)) (hc : Try.prog.cellsOf e = 1) (hb : Try.prog.bytesOf e = 1)
    (h : DataW.trod enc Try.prog W 0 (fun _ => true) true fuel t cs = some x) (hw : ∀ n ∈ x.1.weights Try.prog t, n ≤ reachBytes) : ∃ (n : Nat) (f : Nat → Int) (l : Loc), cs = [vecV l n] ∧ Came W l n ∧ n ≤ 2 ^ 47 ∧ ∀ j, j < n → W.cell? (l.at j) = some (.int k (f j)) ∧ (Lit.int k (f j)).wf = true := by
  obtain ⟨n, l, m, h1, h2, h3, h4⟩ := open_vec ht (by omega) h hw
  rw [hb, Nat.mul_one] at h3
  obtain ⟨f, hf⟩ := Deep.choose_lt (α := Int) (p := fun i v => W.cell? (l.at i) = some (.int k v) ∧ (Lit.int k v).wf = true) fun i hi => by
    obtain ⟨cs', y, h5, h6, _⟩ := h4 i hi
    obtain ⟨z, rfl, _, h7⟩ := DataW.trod_int he h6
    rw [hc, Nat.mul_one] at h5
    refine ⟨z, ?_, h7⟩
    have := cell_of_cells?_one h5
    rwa [loc_add, Nat.zero_add] at this
  exact ⟨n, f, l, h1, h2, Nat.le_trans h3 (by decide), hf⟩
theorem open_boolsT {t e : TypeId} {fuel : Nat} {cs : List Value} {x : DataW H × List MemPlace} (ht : Try.prog.underlying t = some (.slice e)) (he : Try.prog.underlying e = some .bool) (hc : Try.prog.cellsOf e = 1) (hb : Try.prog.bytesOf e = 1)
    (h : DataW.trod enc Try.prog W 0 (fun _ => true) true fuel t cs = some x) (hw : ∀ n ∈ x.1.weights Try.prog t, n ≤ reachBytes) : ∃ (n : Nat) (f : Nat → Bool) (l : Loc), cs = [vecV l n] ∧ Came W l n ∧ n ≤ 2 ^ 47 ∧ ∀ j, j < n → W.cell? (l.at j) = some (.bool (f j)) := by
  obtain ⟨n, l, m, h1, h2, h3, h4⟩ := open_vec ht (by omega) h hw
  rw [hb, Nat.mul_one] at h3
  obtain ⟨f, hf⟩ := Deep.choose_lt (α := Bool) (p := fun i v => W.cell? (l.at i) = some (.bool v)) fun i hi => by
    obtain ⟨cs', y, h5, h6, _⟩ := h4 i hi
    obtain ⟨z, rfl, _⟩ := DataW.trod_bool he h6
    rw [hc, Nat.mul_one] at h5
    refine ⟨z, ?_⟩
    have := cell_of_cells?_one h5
    rwa [loc_add, Nat.zero_add] at this
  exact ⟨n, f, l, h1, h2, Nat.le_trans h3 (by decide), hf⟩
/-- One step. -/
structure StepV where
  w : Int
  k : Int
  x : Int
  lb : Nat
  B : Nat → Int
  bl : Loc
  ll : Nat
  L : Nat → Bool
  le : Loc
instance : Inhabited StepV := ⟨⟨0, 0, 0, 0, fun _ => 0, ⟨0, 0, 0, true, none⟩, 0, fun _ => false, ⟨0, 0, 0, true, none⟩⟩⟩
/-- .. lies there. -/
structure StepAt (W : World) (l : Loc) (i : Nat) (v : StepV) : Prop where
  cw : W.cell? (l.at (i * 5)) = some (.int .i64 v.w)
  ck : W.cell? (l.at (i * 5 + 1)) = some (.int .i64 v.k)
  cx : W.cell? (l.at (i * 5 + 2)) = some (.int .u64 v.x)
  cb : W.cell? (l.at (i * 5 + 3)) = some (vecV v.bl v.lb)
  cl : W.cell? (l.at (i * 5 + 4)) = some (vecV v.le v.ll)
  kw : (Lit.int .i64 v.k).wf = true
  xw : (Lit.int .u64 v.x).wf = true
  bc : Came W v.bl v.lb
  bn : v.lb ≤ 2 ^ 47
  bw : ∀ j, j < v.lb → W.cell? (v.bl.at j) = some (.int .u8 (v.B j)) ∧ (Lit.int .u8 (v.B j)).wf = true
  lc : Came W v.le v.ll
  ln : v.ll ≤ 2 ^ 47
  lw : ∀ j, j < v.ll → W.cell? (v.le.at j) = some (.bool (v.L j))
theorem cells31 : Try.prog.cellsOf 31 = 5 := by kernel_rfl
theorem cells4 : Try.prog.cellsOf 4 = 1 := by kernel_rfl
theorem cells5' : Try.prog.cellsOf 5 = 1 := by kernel_rfl
theorem cells3 : Try.prog.cellsOf 3 = 1 := by kernel_rfl
theorem cells28 : Try.prog.cellsOf 28 = 1 := by kernel_rfl
theorem cells25 : Try.prog.cellsOf 25 = 1 := by kernel_rfl
theorem cells29 : Try.prog.cellsOf 29 = 1 := by kernel_rfl
theorem bytes4 : Try.prog.bytesOf 4 = 1 := by kernel_rfl
theorem bytes5 : Try.prog.bytesOf 5 = 1 := by kernel_rfl
theorem bytes31 : Try.prog.bytesOf 31 = 72 := by kernel_rfl
set_option maxRecDepth 100000 in
theorem open_steps {fuel : Nat} {cs : List Value} {x : DataW H × List MemPlace} (h : DataW.trod enc Try.prog W 0 (fun _ => true) true fuel 22 cs = some x) (hw : ∀ n ∈ x.1.weights Try.prog 22, n ≤ reachBytes) :
    ∃ (n : Nat) (l : Loc) (V : Nat → StepV), cs = [vecV l n] ∧ Came W l n ∧ n ≤ 2 ^ 47 ∧ ∀ i, i < n → StepAt W l i (V i) := by
  obtain ⟨n, l, m, h1, h2, h3, h4⟩ := open_vec Try.underlying22 (by rw [cells31]; omega) h hw
  rw [bytes31] at h3
  have hn : n ≤ 2 ^ 47 := Nat.le_trans (show n ≤ n * 72 by omega) (Nat.le_trans h3 (by decide))
  obtain ⟨V, hV⟩ := Deep.choose_lt (α := StepV) (p := fun i v => StepAt W l i v) fun i hi => by
    obtain ⟨cs', y, h5, h6, h7⟩ := h4 i hi
    obtain ⟨h8, q, h9⟩ := open_struct Try.underlying31 h6 h7
    rw [cells31] at h5 h8
    obtain ⟨_, _, h10⟩ := World.cells?_some h5
    match cs', h8 with
    | [c0, c1, c2, c3, c4], _ =>
      obtain ⟨y0, a0, _⟩ := h9 0 _ rfl
      obtain ⟨y1, a1, _⟩ := h9 1 _ rfl
      obtain ⟨y2, a2, _⟩ := h9 2 _ rfl
      obtain ⟨y3, a3, w3⟩ := h9 3 _ rfl
      obtain ⟨y4, a4, w4⟩ := h9 4 _ rfl
      have a0 : DataW.trod enc Try.prog W 0 (fun _ => true) true q 3 ([c0, c1, c2, c3, c4].take (Try.prog.cellsOf 3)) = some y0 := a0
      have a1 : DataW.trod enc Try.prog W 0 (fun _ => true) true q 3 ([c1, c2, c3, c4].take (Try.prog.cellsOf 3)) = some y1 := a1
      have a2 : DataW.trod enc Try.prog W 0 (fun _ => true) true q 28 ([c2, c3, c4].take (Try.prog.cellsOf 28)) = some y2 := a2
      have a3 : DataW.trod enc Try.prog W 0 (fun _ => true) true q 25 ([c3, c4].take (Try.prog.cellsOf 25)) = some y3 := a3
      have a4 : DataW.trod enc Try.prog W 0 (fun _ => true) true q 29 ([c4].take (Try.prog.cellsOf 29)) = some y4 := a4
      rw [cells3] at a0 a1
      rw [cells28] at a2
      rw [cells25] at a3
      rw [cells29] at a4
      obtain ⟨z0, e0, _, _⟩ := DataW.trod_int Try.underlying3 a0
      obtain ⟨z1, e1, _, g1⟩ := DataW.trod_int Try.underlying3 a1
      obtain ⟨z2, e2, _, g2⟩ := DataW.trod_int Try.underlying28 a2
      obtain ⟨lb, B, bl, e3, b1, b2, b3⟩ := open_numsT Try.underlying25 Try.underlying5 cells5' bytes5 a3 w3
      obtain ⟨ll, L, le, e4, l1, l2, l3⟩ := open_boolsT Try.underlying29 Try.underlying4 cells4 bytes4 a4 w4
      have e0 := (List.cons.inj (show [c0] = _ from e0)).1
      have e1 := (List.cons.inj (show [c1] = _ from e1)).1
      have e2 := (List.cons.inj (show [c2] = _ from e2)).1
      have e3 := (List.cons.inj (show [c3] = _ from e3)).1
      have e4 := (List.cons.inj (show [c4] = _ from e4)).1
      have at' : ∀ j v, j < 5 → [c0, c1, c2, c3, c4][j]? = some v → W.cell? (l.at (i * 5 + j)) = some v := by
        intro j v hj hv
        have := h10 j hj
        rw [loc_add, loc_add, Nat.zero_add, hv] at this
        exact this
      refine ⟨⟨z0, z1, z2, lb, B, bl, ll, L, le⟩, ?_, ?_, ?_, ?_, ?_, g1, g2, b1, b2, b3, l1, l2, l3⟩
      · exact at' 0 _ (by omega) (by rw [e0]; rfl)
      · exact at' 1 _ (by omega) (by rw [e1]; rfl)
      · exact at' 2 _ (by omega) (by rw [e2]; rfl)
      · exact at' 3 _ (by omega) (by rw [e3]; rfl)
      · exact at' 4 _ (by omega) (by rw [e4]; rfl)
  exact ⟨n, l, V, h1, h2, hn, hV⟩
/-- .. put together: and bytes beside them. -/
noncomputable def stpsOf (n : Nat) (V : Nat → StepV) (m : Nat) (g : Nat → Int) : Stps where
  n := n
  W i := (V i).w
  K i := (V i).k
  X i := (V i).x
  lb i := if i < n then (V i).lb else 0
  B i := (V i).B
  ll i := if i < n then (V i).ll else 0
  L i := (V i).L
  m := m
  g := g
noncomputable def locOf (n : Nat) (l : Loc) (V : Nat → StepV) (lm : Loc) : Key → Loc
  | .inp 0 0 => l
  | .inp 0 1 => lm
  | .inp 1 i => if i < n then (V i).bl else ⟨0, 0, 0, true, none⟩
  | .inp 2 i => if i < n then (V i).le else ⟨0, 0, 0, true, none⟩
  | _ => ⟨0, 0, 0, true, none⟩
theorem stps_ok {n : Nat} {l : Loc} {V : Nat → StepV} {m : Nat} {g : Nat → Int} (hn : n ≤ 2 ^ 47) (hm : m ≤ 2 ^ 47) (hV : ∀ i, i < n → StepAt W l i (V i)) : okS (stpsOf n V m g) := by
  refine ⟨by show n ≤ _; omega, by show m ≤ _; omega, fun k hk => ?_⟩
  have hk : k < n := hk
  have := hV k hk
  simp only [stpsOf, hk, if_true]
  exact ⟨by have := this.bn; omega, by have := this.ln; omega⟩
theorem cells_bools (ρ : Key → Loc) {n : Nat} {f : Nat → Bool} {j : Nat} {v : Value} (h : (cellsL ρ (boolsU n f))[j]? = some v) : j < n ∧ v = .bool (f j) := by
  have h : (rowCells ρ n 1 fun j => [(LV.bool (f j) : LV Empty)])[j]? = some v := by rw [← cellsL_rows]; exact h
  have hlt : j < n * 1 := by
    rcases Nat.lt_or_ge j (n * 1) with h' | h'
    · exact h'
    · rw [List.getElem?_eq_none (by rw [len_rowCells]; exact h')] at h; cases h
  rw [Nat.mul_one] at hlt
  have e := get_rowCells ρ (fun j => [(LV.bool (f j) : LV Empty)]) hlt (show 0 < 1 by omega)
  rw [Nat.mul_one, Nat.add_zero] at e
  rw [e] at h
  simp [cellsL, LV.cells, fitTo] at h
  exact ⟨hlt, h.symm⟩
theorem steps_mem {n : Nat} {l : Loc} {V : Nat → StepV} {m : Nat} {g : Nat → Int} {lm : Loc} (hl : Came W l n) (hV : ∀ i, i < n → StepAt W l i (V i)) (hlm : Came W lm m) (hg : ∀ j, j < m → W.cell? (lm.at j) = some (.int .u8 (g j))) :
    MemRel (inS (stpsOf n V m g)) (locOf n l V lm) [] W := by
  refine memRel_nil _ _ _ (fun t i j v hv => ?_) (fun t i hn => ?_) (fun k hk => ?_) (fun t i hn => ?_)
  · match t, i with
    | 0, 0 =>
      have hv : (rowCells (locOf n l V lm) n 5 (stepU (stpsOf n V m g)))[j]? = some v := by rw [← cellsL_rows]; exact hv
      have hlt : j < n * 5 := by
        rcases Nat.lt_or_ge j (n * 5) with h' | h'
        · exact h'
        · rw [List.getElem?_eq_none (by rw [len_rowCells]; exact h')] at hv; cases hv
      obtain ⟨q, r, rfl, hr, hq⟩ := row_split' hlt
      rw [get_rowCells _ _ hq hr] at hv
      have hs := hV q hq
      show W.cell? (l.at (q * 5 + r)) = some v
      match r, hr with
      | 0, _ => cases (show some _ = some v from hv); exact hs.cw
      | 1, _ => cases (show some _ = some v from hv); exact hs.ck
      | 2, _ => cases (show some _ = some v from hv); exact hs.cx
      | 3, _ =>
        cases (show some _ = some v from hv)
        have := hs.cb
        simp only [stpsOf, locOf, hq, if_true]
        exact this
      | 4, _ =>
        cases (show some _ = some v from hv)
        have := hs.cl
        simp only [stpsOf, locOf, hq, if_true]
        exact this
    | 0, 1 =>
      obtain ⟨h1, rfl⟩ := cells_ints _ hv
      exact hg j h1
    | 0, i + 2 => simp [inS, cellsL] at hv
    | 1, i =>
      obtain ⟨h1, rfl⟩ := cells_ints _ hv
      by_cases hi : i < n
      · simp only [stpsOf, hi, if_true] at h1
        simp only [stpsOf, locOf, hi, if_true]
        exact ((hV i hi).bw j h1).1
      · simp only [stpsOf, hi, if_false] at h1; omega
    | 2, i =>
      obtain ⟨h1, rfl⟩ := cells_bools _ hv
      by_cases hi : i < n
      · simp only [stpsOf, hi, if_true] at h1
        simp only [stpsOf, locOf, hi, if_true]
        exact (hV i hi).lw j h1
      · simp only [stpsOf, hi, if_false] at h1; omega
    | t + 3, i => simp [inS, cellsL] at hv
  · match t, i with
    | 0, 0 => exact hl.blk hn
    | 0, 1 => exact hlm.blk hn
    | 0, i + 2 => cases hn
    | 1, i =>
      by_cases hi : i < n
      · simp only [locOf, hi, if_true] at hn ⊢; exact (hV i hi).bc.blk hn
      · simp only [locOf, hi, if_false] at hn; cases hn
    | 2, i =>
      by_cases hi : i < n
      · simp only [locOf, hi, if_true] at hn ⊢; exact (hV i hi).lc.blk hn
      · simp only [locOf, hi, if_false] at hn; cases hn
    | t + 3, i => cases hn
  · match k with
    | .own k => rfl
    | .inp 0 0 => exact hl.nil hk
    | .inp 0 1 => exact hlm.nil hk
    | .inp 0 (i + 2) => rfl
    | .inp 1 i =>
      by_cases hi : i < n
      · simp only [locOf, hi, if_true] at hk ⊢; exact (hV i hi).bc.nil hk
      · simp only [locOf, hi, if_false]
    | .inp 2 i =>
      by_cases hi : i < n
      · simp only [locOf, hi, if_true] at hk ⊢; exact (hV i hi).lc.nil hk
      · simp only [locOf, hi, if_false]
    | .inp (t + 3) i => rfl
  · have hc : ∀ {l : Loc} {n : Nat}, Came W l n → l.none = true → n = 0 := fun h hn => by have := h.nil hn; have := h.cap; omega
    match t, i with
    | 0, 0 => have := hc hl hn; simp [inS, stpsOf, cszL, csz, this]
    | 0, 1 => have := hc hlm hn; simp [inS, stpsOf, cszL, csz, this]
    | 0, i + 2 => rfl
    | 1, i =>
      by_cases hi : i < n
      · simp only [locOf, hi, if_true] at hn
        have := hc (hV i hi).bc hn
        simp [inS, stpsOf, cszL, csz, this]
      · simp [inS, stpsOf, cszL, csz, hi]
    | 2, i =>
      by_cases hi : i < n
      · simp only [locOf, hi, if_true] at hn
        have := hc (hV i hi).lc hn
        simp [inS, stpsOf, cszL, csz, this]
      · simp [inS, stpsOf, cszL, csz, hi]
    | t + 3, i => rfl
theorem steps_kin {n : Nat} {l : Loc} {V : Nat → StepV} {m : Nat} {g : Nat → Int} {lm : Loc} (hV : ∀ i, i < n → StepAt W l i (V i)) : ∀ t i, kinL (okKey ([] : Mem Empty) (locOf n l V lm)) (inS (stpsOf n V m g) t i) := by
  intro t i
  match t, i with
  | 0, 0 =>
    refine ⟨fun q => ?_, trivial⟩
    by_cases hq : q < n
    · refine ⟨trivial, trivial, trivial, ?_, ?_, trivial⟩
      · show (if q < n then (V q).lb else 0) ≤ (locOf n l V lm (.inp 1 q)).cap
        simp only [locOf, hq, if_true]; exact (hV q hq).bc.cap
      · show (if q < n then (V q).ll else 0) ≤ (locOf n l V lm (.inp 2 q)).cap
        simp only [locOf, hq, if_true]; exact (hV q hq).lc.cap
    · refine ⟨trivial, trivial, trivial, ?_, ?_, trivial⟩
      · show (if q < n then (V q).lb else 0) ≤ _
        simp only [hq, if_false]; exact Nat.zero_le _
      · show (if q < n then (V q).ll else 0) ≤ _
        simp only [hq, if_false]; exact Nat.zero_le _
  | 0, 1 => exact ⟨fun _ => ⟨trivial, trivial⟩, trivial⟩
  | 0, i + 2 => trivial
  | 1, i => exact ⟨fun _ => ⟨trivial, trivial⟩, trivial⟩
  | 2, i => exact ⟨fun _ => ⟨trivial, trivial⟩, trivial⟩
  | t + 3, i => trivial
end
/-- The law's call answers true. -/
theorem szWrites_call (s : Stps) (hs : okS s) {ρ : Key → Loc} {w : World} (hm : MemRel (inS s) ρ [] w) (hk : s.n ≤ (ρ (.inp 0 0)).cap) (hkI : ∀ t i, kinL (okKey ([] : Mem Empty) ρ) (inS s t i)) :
    Calls Try.prog 3 (trs ρ [(.vec (.inp 0 0) s.n : LV Empty)]).toArray w fun e w' => e = .returned (.bool true) ∧ Below w.heap.size w w' := by
  obtain ⟨q, hq⟩ := stopL_ex s
  have hfs := few_stop hq
  by_cases hf : few s
  · obtain ⟨h1, h2⟩ := hfs.1 hf
    refine calls_top (SWrL_ok _ _ s _) mixed (call_both (lw1_v s hf q hs hq) (lw1 s hf q hs hq)) ?_ hm ⟨hk, trivial⟩ hkI fun _ _ => rfl
    simp only [condOk, lw1_G]
    (and_intros <;> first | exact True.intro | omega | exact fun _ => ⟨trivial, trivial⟩ | exact fun _ _ => Same.refl _ | exact fun _ _ => Like.refl _ | (simp (disch := omega) only [true_and, and_true, Nat.beq_refl, Bool.true_and, decide_eq_true_eq, decide_eq_false_iff_not, beq_iff_eq, bne_iff_ne, beq_eq_false_iff_ne, bne_eq_false_iff_eq, ne_eq, Nat.blt_eq, Nat.ble_eq, Nat.beq_eq, Bool.and_eq_true, Bool.or_eq_true, IntKind.wrap_i64, IntKind.wrap_u64, IntKind.wrap_u8, IntKind.wrap_u32, Int.tdiv_eq_ediv_of_nonneg, Int.tmod_eq_emod_of_nonneg] <;> omega) | rfl | trivial)
  · by_cases hn : s.n ≤ 100
    · have : 5000 < cost s q := by
        rcases Nat.lt_or_ge 5000 (cost s q) with h | h
        · exact h
        · exact absurd (hfs.2 ⟨hn, h⟩) hf
      refine calls_top (SWrL_ok _ _ s _) mixed (call_both (lw3_v s q hs hq) (lw3 s q hs hq)) ?_ hm ⟨hk, trivial⟩ hkI fun _ _ => rfl
      simp only [condOk, lw3_G]
      (and_intros <;> first | exact True.intro | omega | exact fun _ => ⟨trivial, trivial⟩ | exact fun _ _ => Same.refl _ | exact fun _ _ => Like.refl _ | (simp (disch := omega) only [true_and, and_true, Nat.beq_refl, Bool.true_and, decide_eq_true_eq, decide_eq_false_iff_not, beq_iff_eq, bne_iff_ne, beq_eq_false_iff_ne, bne_eq_false_iff_eq, ne_eq, Nat.blt_eq, Nat.ble_eq, Nat.beq_eq, Bool.and_eq_true, Bool.or_eq_true, IntKind.wrap_i64, IntKind.wrap_u64, IntKind.wrap_u8, IntKind.wrap_u32, Int.tdiv_eq_ediv_of_nonneg, Int.tmod_eq_emod_of_nonneg] <;> omega) | rfl | trivial)
    · refine calls_top (SWrL_ok _ _ s _) mixed (call_both (lw2_v s q hs hq) (lw2 s q hs hq)) ?_ hm ⟨hk, trivial⟩ hkI fun _ _ => rfl
      simp only [condOk, lw2_G]
      (and_intros <;> first | exact True.intro | omega | exact fun _ => ⟨trivial, trivial⟩ | exact fun _ _ => Same.refl _ | exact fun _ _ => Like.refl _ | (simp (disch := omega) only [true_and, and_true, Nat.beq_refl, Bool.true_and, decide_eq_true_eq, decide_eq_false_iff_not, beq_iff_eq, bne_iff_ne, beq_eq_false_iff_ne, bne_eq_false_iff_eq, ne_eq, Nat.blt_eq, Nat.ble_eq, Nat.beq_eq, Bool.and_eq_true, Bool.or_eq_true, IntKind.wrap_i64, IntKind.wrap_u64, IntKind.wrap_u8, IntKind.wrap_u32, Int.tdiv_eq_ediv_of_nonneg, Int.tmod_eq_emod_of_nonneg] <;> omega) | rfl | trivial)
end Go.Proofs.Ytjhjockdkpgpeaa.En
