/- DERIVED. Texts laid together: QNU QNV QHX MX MY QMB QHY. -/
import Derived.Test.YtonmjdnkcngfjaaGreatZaF
import Derived.IntWalk
/- DERIVED. An element of the second field, of bytes: a half each. -/
set_option linter.all false
namespace Go.Proofs.YtonmjdnkcngfjaaGreat.En
open Go Go.RowKit

abbrev rwsB (n : Nat) (f : Nat → Int) : List (LV Fe) := [.rows n 1 fun j => [.int .u8 (f j)]]
theorem rwsB_plain (n : Nat) (f : Nat → Int) : plainL (rwsB n f) := ⟨fun _ => ⟨trivial, trivial⟩, trivial⟩
noncomputable abbrev SNu (I : Inp Fe) (ls : List (LoopF Tryz.prog I)) : Sig Fe := sigOf (P := Tryz.prog) ([conFAdd, conFSub, conFMul, conFSquare, conFNeg, conFIsZero, conFEqual, conTwice] ++ psG) [] [conWide] (I := I) ls msF (advP noD [50] [])
theorem SNu_ok {I : Inp Fe} (h : InpOk I) (ls : List (LoopF Tryz.prog I)) : SigOk Tryz.prog (SNu I ls) := sigOf_ok _ [] _ ls msF_ok _ h
noncomputable def nuE (m : Nat) (g : Nat → Int) : LS Fe := entry Tryz.prog (SNu (inOf [rwsB m g]) []) 60 12 [0, 1, 1] [.vec (.inp 0 0) m] []
/-- Half of them. -/
def nuH (m : Nat) : Nat := Int.toNat (IntKind.i64.wrap (Int.tdiv (m : Int) 2))
def numF (m : Nat) (g : Nat → Int) : E2 := (wdF (nuH m) g, wdF (m - nuH m) fun j => g (nuH m + j))
def nuS1 (m : Nat) : Prop := decide ((0 : Int) ≤ ((0 : Nat) : Int) ∧ ((0 : Nat) : Int) ≤ IntKind.i64.wrap (Int.tdiv (m : Int) 2) ∧ IntKind.i64.wrap (Int.tdiv (m : Int) 2) ≤ (m : Int) ∧ (m : Int) ≤ (m : Int)) = true ∧ Nat.ble m m = true
def nuW1 (m : Nat) (g : Nat → Int) : Prop := (∀ j, j < nuH m → Like (A := Fe) [.int .u8 (g j)] [.int .u8 (g j)]) ∧ nuH m = nuH m ∧ nuH m ≤ 100
def nuS2 (m : Nat) : Prop := decide ((0 : Int) ≤ IntKind.i64.wrap (Int.tdiv (m : Int) 2) ∧ IntKind.i64.wrap (Int.tdiv (m : Int) 2) ≤ (m : Int) ∧ (m : Int) ≤ (m : Int) ∧ (m : Int) ≤ (m : Int)) = true ∧ Nat.ble m m = true
def nuW2 (m : Nat) (g : Nat → Int) : Prop := (∀ j, j < m - nuH m → Like (A := Fe) [.int .u8 (g (nuH m + j))] [.int .u8 (g (nuH m + j))]) ∧ m - nuH m = m - nuH m ∧ m - nuH m ≤ 100
def nuX (m : Nat) (g : Nat → Int) : Prop := (numF m g).1 = (numF m g).1 ∧ (numF m g).2 = (numF m g).2
def nuK0 (m : Nat) (g : Nat → Int) : Prop := (((((nuS1 m) ∧ nuS2 m) ∧ nuW1 m g) ∧ nuW2 m g) ∧ true = true) ∧ nuX m g
def nuK1 (m : Nat) (g : Nat → Int) : Prop := (((((nuS1 m) ∧ nuW1 m g) ∧ nuS2 m) ∧ nuW2 m g) ∧ true = true) ∧ nuX m g
def nuK2 (m : Nat) (g : Nat → Int) : Prop := (((((nuS2 m) ∧ nuS1 m) ∧ nuW1 m g) ∧ nuW2 m g) ∧ true = true) ∧ nuX m g
def nuAll (m : Nat) (g : Nat → Int) : Prop := nuK1 m g ∧ nuK1 m g ∧ nuK1 m g ∧ nuK1 m g ∧ nuK0 m g ∧ nuK1 m g ∧ nuK1 m g ∧ nuK0 m g ∧ nuK1 m g ∧ nuK1 m g ∧ nuK0 m g ∧ nuK1 m g ∧ nuK0 m g ∧ nuK2 m g ∧ nuK1 m g ∧ nuK1 m g ∧ nuK0 m g ∧ nuK1 m g ∧ nuK0 m g ∧ nuK2 m g ∧ nuK1 m g ∧ nuK1 m g ∧ nuK0 m g ∧ nuK1 m g ∧ nuK0 m g ∧ nuK2 m g ∧ nuK1 m g ∧ nuK0 m g ∧ nuK2 m g ∧ nuK2 m g ∧ nuK1 m g ∧ nuK1 m g ∧ nuK0 m g ∧ nuK1 m g ∧ nuK0 m g ∧ nuK2 m g ∧ nuK1 m g ∧ nuK0 m g ∧ nuK2 m g ∧ nuK2 m g ∧ nuK1 m g ∧ nuK1 m g ∧ nuK1 m g ∧ nuK1 m g ∧ nuK0 m g ∧ nuK1 m g ∧ nuK1 m g ∧ nuK0 m g ∧ nuK1 m g ∧ nuK1 m g ∧ nuK0 m g ∧ nuK1 m g ∧ nuK0 m g ∧ nuK2 m g ∧ nuK1 m g ∧ nuK1 m g ∧ nuK0 m g ∧ nuK1 m g ∧ nuK0 m g ∧ nuK2 m g ∧ nuK1 m g ∧ nuK1 m g ∧ nuK0 m g ∧ nuK1 m g ∧ nuK0 m g ∧ nuK2 m g ∧ nuK1 m g ∧ nuK0 m g ∧ nuK2 m g ∧ nuK2 m g ∧ nuK1 m g ∧ nuK1 m g ∧ nuK0 m g ∧ nuK1 m g ∧ nuK0 m g ∧ nuK2 m g ∧ nuK1 m g ∧ nuK0 m g ∧ nuK2 m g ∧ nuK2 m g ∧ nuK1 m g ∧ nuK1 m g ∧ nuK0 m g ∧ nuK1 m g ∧ nuK0 m g ∧ nuK2 m g ∧ nuK1 m g ∧ nuK0 m g ∧ nuK2 m g ∧ nuK2 m g ∧ nuK1 m g ∧ nuK1 m g ∧ nuK0 m g ∧ nuK1 m g ∧ nuK0 m g ∧ nuK2 m g ∧ nuK1 m g ∧ nuK0 m g ∧ nuK2 m g ∧ nuK2 m g ∧ nuK1 m g ∧ nuK0 m g ∧ nuK2 m g ∧ nuK2 m g ∧ nuK1 m g ∧ nuK0 m g ∧ nuK2 m g ∧ nuK2 m g ∧ nuK2 m g ∧ nuK2 m g ∧ nuK1 m g ∧ nuK1 m g ∧ nuK0 m g ∧ nuK1 m g ∧ nuK0 m g ∧ nuK2 m g ∧ nuK1 m g ∧ nuK0 m g ∧ nuK2 m g ∧ nuK2 m g ∧ nuK1 m g ∧ nuK1 m g ∧ nuK0 m g ∧ nuK1 m g ∧ nuK0 m g ∧ nuK2 m g ∧ nuK1 m g ∧ nuK0 m g ∧ nuK2 m g ∧ nuK2 m g ∧ nuK1 m g ∧ nuK0 m g ∧ nuK2 m g ∧ nuK2 m g ∧ nuK1 m g ∧ nuK0 m g ∧ nuK2 m g ∧ nuK2 m g ∧ nuK2 m g ∧ nuK2 m g
set_option maxRecDepth 100000 in
theorem nuO (m : Nat) (g : Nat → Int) : runO Tryz.prog (SNu (inOf [rwsB m g]) []) 12 [0, 1, 1] (nuE m g) 1 [[some (.own 0)]] 16 [(2, .ptr (.own 0) 0 [])] [some ⟨.rw, [.abs (numF m g).1, .abs (numF m g).2]⟩] = some (some (nuAll m g)) := by kernel_rfl
theorem nuH_eq {m : Nat} (hm : m ≤ 100) : IntKind.i64.wrap (Int.tdiv (m : Int) 2) = ((m / 2 : Nat) : Int) := by
  rw [show Int.tdiv (m : Int) 2 = ((m / 2 : Nat) : Int) by rw [Int.tdiv_eq_ediv_of_nonneg (by omega)]; omega]
  exact IntWalk.i64_in _ (by omega)
theorem nuH_le {m : Nat} (hm : m ≤ 100) : nuH m = m / 2 := by unfold nuH; rw [nuH_eq hm, Int.toNat_natCast]
theorem nuS1_ok {m : Nat} (hm : m ≤ 100) : nuS1 m := ⟨decide_eq_true (by rw [nuH_eq hm]; omega), leB (Nat.le_refl _)⟩
theorem nuS2_ok {m : Nat} (hm : m ≤ 100) : nuS2 m := ⟨decide_eq_true (by rw [nuH_eq hm]; omega), leB (Nat.le_refl _)⟩
theorem nuW1_ok {m : Nat} (hm : m ≤ 100) (g : Nat → Int) : nuW1 m g := ⟨fun _ _ => Like.refl _, rfl, by rw [nuH_le hm]; omega⟩
theorem nuW2_ok {m : Nat} (hm : m ≤ 100) (g : Nat → Int) : nuW2 m g := ⟨fun _ _ => Like.refl _, rfl, by omega⟩
theorem nuK0_ok {m : Nat} (hm : m ≤ 100) (g : Nat → Int) : nuK0 m g := ⟨⟨⟨⟨⟨nuS1_ok hm, nuS2_ok hm⟩, nuW1_ok hm g⟩, nuW2_ok hm g⟩, rfl⟩, rfl, rfl⟩
theorem nuK1_ok {m : Nat} (hm : m ≤ 100) (g : Nat → Int) : nuK1 m g := ⟨⟨⟨⟨⟨nuS1_ok hm, nuW1_ok hm g⟩, nuS2_ok hm⟩, nuW2_ok hm g⟩, rfl⟩, rfl, rfl⟩
theorem nuK2_ok {m : Nat} (hm : m ≤ 100) (g : Nat → Int) : nuK2 m g := ⟨⟨⟨⟨⟨nuS2_ok hm, nuS1_ok hm⟩, nuW1_ok hm g⟩, nuW2_ok hm g⟩, rfl⟩, rfl, rfl⟩
theorem nuAll_ok {m : Nat} (hm : m ≤ 100) (g : Nat → Int) : nuAll m g := ⟨nuK1_ok hm g, nuK1_ok hm g, nuK1_ok hm g, nuK1_ok hm g, nuK0_ok hm g, nuK1_ok hm g, nuK1_ok hm g, nuK0_ok hm g, nuK1_ok hm g, nuK1_ok hm g, nuK0_ok hm g, nuK1_ok hm g, nuK0_ok hm g, nuK2_ok hm g, nuK1_ok hm g, nuK1_ok hm g, nuK0_ok hm g, nuK1_ok hm g, nuK0_ok hm g, nuK2_ok hm g, nuK1_ok hm g, nuK1_ok hm g, nuK0_ok hm g, nuK1_ok hm g, nuK0_ok hm g, nuK2_ok hm g, nuK1_ok hm g, nuK0_ok hm g, nuK2_ok hm g, nuK2_ok hm g, nuK1_ok hm g, nuK1_ok hm g, nuK0_ok hm g, nuK1_ok hm g, nuK0_ok hm g, nuK2_ok hm g, nuK1_ok hm g, nuK0_ok hm g, nuK2_ok hm g, nuK2_ok hm g, nuK1_ok hm g, nuK1_ok hm g, nuK1_ok hm g, nuK1_ok hm g, nuK0_ok hm g, nuK1_ok hm g, nuK1_ok hm g, nuK0_ok hm g, nuK1_ok hm g, nuK1_ok hm g, nuK0_ok hm g, nuK1_ok hm g, nuK0_ok hm g, nuK2_ok hm g, nuK1_ok hm g, nuK1_ok hm g, nuK0_ok hm g, nuK1_ok hm g, nuK0_ok hm g, nuK2_ok hm g, nuK1_ok hm g, nuK1_ok hm g, nuK0_ok hm g, nuK1_ok hm g, nuK0_ok hm g, nuK2_ok hm g, nuK1_ok hm g, nuK0_ok hm g, nuK2_ok hm g, nuK2_ok hm g, nuK1_ok hm g, nuK1_ok hm g, nuK0_ok hm g, nuK1_ok hm g, nuK0_ok hm g, nuK2_ok hm g, nuK1_ok hm g, nuK0_ok hm g, nuK2_ok hm g, nuK2_ok hm g, nuK1_ok hm g, nuK1_ok hm g, nuK0_ok hm g, nuK1_ok hm g, nuK0_ok hm g, nuK2_ok hm g, nuK1_ok hm g, nuK0_ok hm g, nuK2_ok hm g, nuK2_ok hm g, nuK1_ok hm g, nuK1_ok hm g, nuK0_ok hm g, nuK1_ok hm g, nuK0_ok hm g, nuK2_ok hm g, nuK1_ok hm g, nuK0_ok hm g, nuK2_ok hm g, nuK2_ok hm g, nuK1_ok hm g, nuK0_ok hm g, nuK2_ok hm g, nuK2_ok hm g, nuK1_ok hm g, nuK0_ok hm g, nuK2_ok hm g, nuK2_ok hm g, nuK2_ok hm g, nuK2_ok hm g, nuK1_ok hm g, nuK1_ok hm g, nuK0_ok hm g, nuK1_ok hm g, nuK0_ok hm g, nuK2_ok hm g, nuK1_ok hm g, nuK0_ok hm g, nuK2_ok hm g, nuK2_ok hm g, nuK1_ok hm g, nuK1_ok hm g, nuK0_ok hm g, nuK1_ok hm g, nuK0_ok hm g, nuK2_ok hm g, nuK1_ok hm g, nuK0_ok hm g, nuK2_ok hm g, nuK2_ok hm g, nuK1_ok hm g, nuK0_ok hm g, nuK2_ok hm g, nuK2_ok hm g, nuK1_ok hm g, nuK0_ok hm g, nuK2_ok hm g, nuK2_ok hm g, nuK2_ok hm g, nuK2_ok hm g⟩
abbrev nuT : List (Nat × LV Fe) := [(2, .ptr (.own 0) 0 [])]
abbrev nuM (x : E2) : Mem Fe := [some ⟨.rw, [.abs x.1, .abs x.2]⟩]
theorem nu_ex {m : Nat} (hm : m ≤ 100) (g : Nat → Int) : ExB 1 Tryz.prog (inOf [rwsB m g]) (codeAt Tryz.prog 12 [0, 1, 1]) (nuE m g) .normal ⟨tm 16 nuT, nuM (numF m g), []⟩ :=
  ExB.orders (SNu_ok (inOf1_ok (rwsB_plain m g)) _) (inOf1_ok (rwsB_plain m g)) rfl mixed _ (nuO m g) (nuAll_ok hm g)
set_option maxRecDepth 100000 in
theorem nu_grow (m : Nat) (g : Nat → Int) (x : E2) : growB (nuE m g) ⟨tm 16 nuT, nuM x, []⟩ = true := by kernel_rfl
set_option maxRecDepth 100000 in
theorem nu_one (m : Nat) (g : Nat → Int) : Nat.ble (nuE m g).mem.length 1 = true := by kernel_rfl
noncomputable def nuLp (m : Nat) (g : Nat → Int) (x : E2) (hm : m ≤ 100) (h : x = numF m g) : LoopF Tryz.prog (inOf [rwsB m g]) := LoopF.of (B := 1) (t := ⟨tm 16 nuT, nuM x, []⟩) (by subst h; exact nu_ex hm g) (nu_grow m g x) (nu_one m g)
set_option maxRecDepth 100000 in
def nuV_G (m : Nat) (g : Nat → Int) (x : E2) (hm : m ≤ 100) (h : x = numF m g) : Prop := true = true ∧ LS.tmps (LoopF.s (nuLp m g x hm h)) = LS.tmps (LoopF.s (nuLp m g x hm h)) ∧ LS.mem (LoopF.s (nuLp m g x hm h)) = LS.mem (LoopF.s (nuLp m g x hm h))
set_option maxRecDepth 100000 in
theorem nuV (m : Nat) (g : Nat → Int) (x : E2) (hm : m ≤ 100) (h : x = numF m g) : (callF Tryz.prog (SNu (inOf [rwsB m g]) [nuLp m g x hm h]) 60 12 [.vec (.inp 0 0) m] []).map (fun r => (r.1, r.2.2)) = some (eV x, some (nuV_G m g x hm h)) := by kernel_rfl
theorem nu_told {m : Nat} (hm : m ≤ 100) (g : Nat → Int) : Told Tryz.prog 12 [rwsB m g] [.vec (.inp 0 0) m] (eV (numF m g)) [] :=
  told_walk (SNu_ok (inOf1_ok (rwsB_plain m g)) _) rfl (rwsB_plain m g) (nuV m g (numF m g) hm rfl) (by unfold condOk nuV_G; and_intros <;> rfl) rfl
end Go.Proofs.YtonmjdnkcngfjaaGreat.En

/- DERIVED. An element of the second field, of bytes: the contract on chunks. -/
set_option linter.all false
namespace Go.Proofs.YtonmjdnkcngfjaaGreat.En2
open Go Go.RowKit Go.Proofs.YtonmjdnkcngfjaaGreat.En

abbrev rwsB (n : Nat) (f : Nat → Int) : List (LV Fe) := [.rows n 1 fun j => [.int .u8 (f j)]]
theorem rwsB_plain (n : Nat) (f : Nat → Int) : plainL (rwsB n f) := ⟨fun _ => ⟨trivial, trivial⟩, trivial⟩
/-- What is told of whole bytes, on chunks. -/
theorem told_up {f : FuncId} {m : Nat} {g : Nat → Int} {v1 : LV En.Fe} {v : LV Fe} (h : En.Told Tryz.prog f [En.rwsB m g] [(.vec (.inp 0 0) m : LV En.Fe)] v1 []) (hv1 : En.plainB v1 = true) (hv : plainB v = true) (e : ∀ ρ : Key → En.Loc, LV.tr ρ v1 = LV.tr ρ v) : En.Told Tryz.prog f [rwsB m g] [(.vec (.inp 0 0) m : LV Fe)] v [] := by
  refine told_below hv fun ρ w ha => ?_
  have hm := ha.mem
  have hmr : MemRel (inOf [En.rwsB m g]) ρ [] w := {
    cell := fun k bl hk i v hv => by
      cases k with
      | own k => simp [at?] at hk
      | inp t i' =>
        simp only [at?, Option.some.injEq] at hk
        subst hk
        match t, i', hv with
        | 0, 0, hv =>
          obtain ⟨hi, rfl⟩ := cells_ints _ (n := m) (f := g) hv
          exact hm.cell (.inp 0 0) ⟨.ro, rwsB m g⟩ rfl i _ (rows_cell ρ hi)
        | 0, i + 1, hv => simp [inOf, cellsL] at hv
        | t + 1, _, hv => simp [inOf, cellsL] at hv
    free := fun k bl hk => by simp at hk
    apart := fun k k' bl bl' _ hk => by simp at hk
    inb := fun k bl hk hd hn => by
      cases k with
      | own k => simp [at?] at hk
      | inp t i => exact hm.inb (.inp t i) _ rfl rfl hn
    row := fun k bl e hk => by simp at hk
    nilc := hm.nilc
    empt := fun k bl hk hn => by
      cases k with
      | own k => simp [at?] at hk
      | inp t i =>
        simp only [at?, Option.some.injEq] at hk
        subst hk
        match t, i with
        | 0, 0 =>
          have := hm.empt (.inp 0 0) ⟨.ro, rwsB m g⟩ rfl hn
          rw [csz_rows] at this
          show cszL (En.rwsB m g) = 0
          rw [csz_rows]; exact this
        | 0, i + 1 => simp [inOf, cszL]
        | t + 1, _ => simp [inOf, cszL]
    dead := fun k bl hk => by simp at hk }
  have hah : Ahead (inOf [En.rwsB m g]) (d0 w.heap.size) ρ [] [(.vec (.inp 0 0) m : LV En.Fe)] w := {
    mem := hmr
    mine := ⟨fun k bl hb => by simp at hb, fun _ _ _ _ _ => trivial⟩
    new := fun b hb => ⟨hb, trivial⟩
    kinV := ⟨ha.kinV.1, trivial⟩
    kinM := fun k bl hk => by
      cases k with
      | own k => simp [at?] at hk
      | inp t i =>
        simp only [at?, Option.some.injEq] at hk
        subst hk
        match t, i with
        | 0, 0 => exact plainL_kin _ _ (En.rwsB_plain m g)
        | 0, i + 1 => exact trivial
        | t + 1, _ => exact trivial }
  have hcall := h (d0 w.heap.size) ρ w hah
  have e2 : trs ρ [(.vec (.inp 0 0) m : LV En.Fe)] = trs ρ [(.vec (.inp 0 0) m : LV Fe)] := rfl
  rw [e2] at hcall
  refine hcall.mono ?_
  rintro e' w' ⟨ρ1, rfl, hl⟩
  exact ⟨by rw [En.pv_tr v1 hv1 ρ1 ρ, e ρ], hl.keeps.below⟩
def rowsB (us : List (LV Fe)) : Option (Nat × (Nat → Int) × Prop) := match us with
  | [.rows n z f] => match Nat.beq z 1 with
    | true => some (n, fun j => En.byteOf (f j), ∀ j, j < n → Like (f j) [.int .u8 (En.byteOf (f j))])
    | false => none
  | _ => none
theorem rowsB_some {us : List (LV Fe)} {n : Nat} {g : Nat → Int} {c : Prop} (h : rowsB us = some (n, g, c)) (hc : c) : Like us [.rows n 1 fun j => [.int .u8 (g j)]] := by
  unfold rowsB at h
  split at h
  · split at h
    · rename_i hz
      cases h
      have := beqN hz
      subst this
      exact Like.rows hc fun i _ p _ => ⟨trivial, trivial⟩
    · cases h
  · cases h
def numF (m : Nat) (g : Nat → Int) : Fe := En.numF m g
def wdFn (I : Inp Fe) (vs : List (LV Fe)) (mem : Mem Fe) : Option (RdC Fe) := match vs with
  | [.vec k m] => match at? I mem k with
    | some bl => match isDead bl.kd, rowsB bl.us with
      | false, some (n, g, c) => some ⟨[[.rows m 1 fun j => [.int .u8 (g j)]]], [k], [.vec (.inp 0 0) m], .agg [.abs (numF m g)], [], c ∧ n = m ∧ m ≤ 100⟩
      | _, _ => none
    | none => none
  | _ => none
theorem wdFn_ok : ∀ I vs mem r, wdFn I vs mem = some r → r.c → RdOk Tryz.prog 12 I vs mem r := by
  intro I vs mem r h hc
  unfold wdFn at h
  split at h
  · rename_i k m
    split at h
    · rename_i bl hb
      split at h
      · rename_i n g c hd hr
        cases h
        obtain ⟨h1, h2, h3⟩ := hc
        subst h2
        exact {
          args := rfl
          fit := ⟨⟨fun e => by simp [keyMap, ιOf] at e, trivial⟩, trivial⟩
          len := rfl
          blk := fun j k' us hk hus => by
            match j with
            | 0 =>
              cases hk; cases hus
              exact ⟨bl, hb, hd, ⟨fun _ => ⟨trivial, trivial⟩, trivial⟩, rowsB_some hr h1⟩
            | j + 1 => simp at hk
          told := told_up (nu_told h3 g) rfl rfl fun ρ => cells2 _ _ ρ
          fitv := (plain_ren _ _ _ (show LV.plain (.agg [.abs (numF n g)] : LV Fe) from ⟨trivial, trivial⟩)).2
          fitb := fun b hb => absurd hb List.not_mem_nil }
      · cases h
    · cases h
  · cases h
set_option maxRecDepth 100000 in
theorem entNum : ∀ args w, (callFunc 12 args).run Tryz.prog w = .ok (.enter 12 args) w := ent_of (f := 12) (P := Tryz.prog) rfl rfl rfl
noncomputable def conNum : ConC Tryz.prog Fe := conRdT 12 entNum wdFn wdFn_ok
end Go.Proofs.YtonmjdnkcngfjaaGreat.En2

/- DERIVED. Points of numbers: the law's own run. -/
set_option linter.all false
namespace Go.Proofs.YtonmjdnkcngfjaaGreat.En2
open Go Go.RowKit Go.Proofs.YtonmjdnkcngfjaaGreat.En

abbrev in2 (n : Nat) (f : Nat → Int) (m : Nat) (g : Nat → Int) : Inp Fe := inOf [[.rows n 1 fun j => [.int .u8 (f j)]], [.rows m 1 fun j => [.int .u8 (g j)]]]
theorem in2_ok (n : Nat) (f : Nat → Int) (m : Nat) (g : Nat → Int) : InpOk (in2 n f m g) := inOf_ok fun l hl => by
  rcases List.mem_cons.1 hl with rfl | hl
  · exact ⟨fun _ => ⟨trivial, trivial⟩, trivial⟩
  · rw [List.mem_singleton] at hl
    subst hl
    exact ⟨fun _ => ⟨trivial, trivial⟩, trivial⟩
noncomputable abbrev psX : List (ConP Tryz.prog Fe) := [conKnown, conAff, conROn, conRef, conGInf, conGXY, conFEqual, conOn]
noncomputable abbrev SGl (A : Adv) (I : Inp Fe) (ls : List (LoopF Tryz.prog I)) : Sig Fe := sigOf (P := Tryz.prog) ([conFAdd, conFSub, conFMul, conFSquare, conFNeg, conFIsZero, conFEqual, conTwice] ++ (psG ++ (psH ++ psX))) [] [conNum] (I := I) ls msF A
theorem SGl_ok (A : Adv) {I : Inp Fe} (h : InpOk I) (ls : List (LoopF Tryz.prog I)) : SigOk Tryz.prog (SGl A I ls) := sigOf_ok _ [] [conNum] ls msF_ok _ h
/-- Decisions of several functions. -/
def dcf (l : List (FuncId × Nat × Nat × Bool)) : FuncId → Nat → Nat → Option Bool := fun f r i => look l f r i
where look : List (FuncId × Nat × Nat × Bool) → FuncId → Nat → Nat → Option Bool
  | [], _, _, _ => none
  | (g, k, j, b) :: l, f, r, i => match Nat.beq g f, Nat.beq k r, Nat.beq j i with
    | true, true, true => some b
    | _, _, _ => look l f r i
noncomputable abbrev advL (l : List (FuncId × Nat × Nat × Bool)) : Adv := advP (dcf l) [12] []
set_option maxRecDepth 100000 in
def laB_G (n : Nat) (f : Nat → Int) (m : Nat) (g : Nat → Int) : Prop := true = true ∧ true = true ∧ decide ((100 : Int) < (↑n : Int)) = true
set_option maxRecDepth 100000 in
theorem laB (n : Nat) (f : Nat → Int) (m : Nat) (g : Nat → Int) : (callF Tryz.prog (SGl (advL [(11, 4, 5, true)]) (in2 n f m g) []) 60 3 [.vec (.inp 0 0) n, .vec (.inp 0 1) m] []).map (fun r => (r.1, r.2.2)) = some (.bool true, some (laB_G n f m g)) := by kernel_rfl
set_option maxRecDepth 100000 in
def laF_G (n : Nat) (f : Nat → Int) (m : Nat) (g : Nat → Int) : Prop := ((true = true ∧ true = true ∧ decide ((100 : Int) < (↑n : Int)) = false) ∧ true = true ∧ true = true ∧ decide ((100 : Int) < (↑m : Int)) = false) ∧ (((∀ (j : Nat), j < n → Like (A := Fe) [LV.int IntKind.u8 (f j)] [LV.int IntKind.u8 (f j)]) ∧ n = n ∧ n ≤ 100) ∧ ((∀ (j : Nat), j < m → Like (A := Fe) [LV.int IntKind.u8 (g j)] [LV.int IntKind.u8 (g j)]) ∧ m = m ∧ m ≤ 100) ∧ true = true ∧ true = true) ∧ (affT (numF n f) (numF m g) = false ∧ true = true) ∧ ronF (numF n f) (numF m g) true = false ∧ isz (Prod.snd (Prod.snd (affF (numF n f) (numF m g)))) = true
set_option maxRecDepth 100000 in
theorem laF (n : Nat) (f : Nat → Int) (m : Nat) (g : Nat → Int) : (callF Tryz.prog (SGl (advL [(11, 4, 5, false), (3, 6, 5, false), (3, 7, 5, false), (3, 10, 1, true)]) (in2 n f m g) []) 60 3 [.vec (.inp 0 0) n, .vec (.inp 0 1) m] []).map (fun r => (r.1, r.2.2)) = some (.bool true, some (laF_G n f m g)) := by kernel_rfl
set_option maxRecDepth 100000 in
def laT_G (n : Nat) (f : Nat → Int) (m : Nat) (g : Nat → Int) : Prop := ((true = true ∧ true = true ∧ decide ((100 : Int) < (↑n : Int)) = false) ∧ true = true ∧ true = true ∧ decide ((100 : Int) < (↑m : Int)) = false) ∧ (((∀ (j : Nat), j < n → Like (A := Fe) [LV.int IntKind.u8 (f j)] [LV.int IntKind.u8 (f j)]) ∧ n = n ∧ n ≤ 100) ∧ ((∀ (j : Nat), j < m → Like (A := Fe) [LV.int IntKind.u8 (g j)] [LV.int IntKind.u8 (g j)]) ∧ m = m ∧ m ≤ 100) ∧ true = true ∧ true = true) ∧ (affT (numF n f) (numF m g) = true ∧ true = true) ∧ ronF (numF n f) (numF m g) true = true ∧ ((!isz (Prod.snd (Prod.snd (affF (numF n f) (numF m g))))) = true ∧ true = true ∧ true = true) ∧ feq (gxyX (Prod.fst (affF (numF n f) (numF m g)), Prod.fst (Prod.snd (affF (numF n f) (numF m g))), Prod.snd (Prod.snd (affF (numF n f) (numF m g))))) (numF n f) = true ∧ feq (gxyY (Prod.fst (affF (numF n f) (numF m g)), Prod.fst (Prod.snd (affF (numF n f) (numF m g))), Prod.snd (Prod.snd (affF (numF n f) (numF m g))))) (numF m g) = true ∧ onF (Prod.fst (affF (numF n f) (numF m g)), Prod.fst (Prod.snd (affF (numF n f) (numF m g))), Prod.snd (Prod.snd (affF (numF n f) (numF m g)))) = true
set_option maxRecDepth 100000 in
theorem laT (n : Nat) (f : Nat → Int) (m : Nat) (g : Nat → Int) : (callF Tryz.prog (SGl (advL [(11, 4, 5, false), (3, 6, 5, true), (3, 7, 5, true), (3, 11, 5, true), (3, 12, 4, true), (3, 12, 9, true), (3, 12, 13, true)]) (in2 n f m g) []) 60 3 [.vec (.inp 0 0) n, .vec (.inp 0 1) m] []).map (fun r => (r.1, r.2.2)) = some (.bool true, some (laT_G n f m g)) := by kernel_rfl
/-! ## the second is too long -/
noncomputable abbrev blkL (n m : Nat) : Blk Fe := ⟨.row 22, [.rows 2 1 fun j => List.getD (List.set (List.set (List.replicate 2 (units .nils)) 0 (units (.vec (.inp 0 0) n))) 1 (units (.vec (.inp 0 1) m))) j []]⟩
noncomputable def ltS (n : Nat) (f : Nat → Int) (m : Nat) (g : Nat → Int) : LS Fe := entry Tryz.prog (SGl (advL []) (in2 n f m g) []) 60 11 [0, 1, 0, 1] [.vec (.own 0) 2] [some (blkL n m)]
noncomputable abbrev SLt (b : Bool) (n : Nat) (f : Nat → Int) (m : Nat) (g : Nat → Int) : Sig Fe := SGl (advL [(11, 4, 5, b)]) (in2 n f m g) []
noncomputable def ltR1 (n : Nat) (f : Nat → Int) (m : Nat) (g : Nat → Int) : Option (Out × LS Fe) := exec Tryz.prog (SLt false n f m g) 60 11 [0, 0, 1, 0, 1] (codeAt Tryz.prog 11 [0, 0, 1, 0, 1]) (ltS n f m g)
noncomputable def ltR2 (n : Nat) (f : Nat → Int) (m : Nat) (g : Nat → Int) : Option (Out × LS Fe) := exec Tryz.prog (SLt true n f m g) 60 11 [0, 0, 1, 0, 1] (codeAt Tryz.prog 11 [0, 0, 1, 0, 1]) (outS (ltR1 n f m g))
set_option maxRecDepth 100000 in
theorem lt_o1 (n : Nat) (f : Nat → Int) (m : Nat) (g : Nat → Int) : outO (ltR1 n f m g) = some .normal := by kernel_rfl
set_option maxRecDepth 100000 in
theorem lt_o2 (n : Nat) (f : Nat → Int) (m : Nat) (g : Nat → Int) : outO (ltR2 n f m g) = some .ret := by kernel_rfl
set_option maxRecDepth 100000 in
theorem lt_c1 (n : Nat) (f : Nat → Int) (m : Nat) (g : Nat → Int) : allC (outS (ltR1 n f m g)).conds = some (true = true ∧ true = true ∧ decide ((100 : Int) < (n : Int)) = false) := by kernel_rfl
set_option maxRecDepth 100000 in
theorem lt_c2 (n : Nat) (f : Nat → Int) (m : Nat) (g : Nat → Int) : allC (outS (ltR2 n f m g)).conds = some ((true = true ∧ true = true ∧ decide ((100 : Int) < (n : Int)) = false) ∧ true = true ∧ true = true ∧ decide ((100 : Int) < (m : Int)) = true) := by kernel_rfl
set_option maxRecDepth 100000 in
theorem lt_code : codeAt Tryz.prog 11 [0, 1, 0, 1] = .loop (codeAt Tryz.prog 11 [0, 0, 1, 0, 1]) := by kernel_rfl
theorem lt_ex {n : Nat} (f : Nat → Int) {m : Nat} (g : Nat → Int) (hn : n ≤ 100) (hm : 100 < m) : Ex Tryz.prog (in2 n f m g) (codeAt Tryz.prog 11 [0, 1, 0, 1]) (ltS n f m g) .ret (outS (ltR2 n f m g)) := by
  have h1 : decide ((100 : Int) < (n : Int)) = false := decide_eq_false (by omega)
  have h2 : decide ((100 : Int) < (m : Int)) = true := decide_eq_true (by omega)
  have e1 := Ex.of_run (SGl_ok _ (in2_ok n f m g) []) rfl mixed (show ltR1 n f m g = _ from rfl) (lt_o1 n f m g) (by rw [lt_c1]; exact ⟨rfl, rfl, h1⟩)
  have e2 := Ex.of_run (SGl_ok _ (in2_ok n f m g) []) rfl mixed (show ltR2 n f m g = _ from rfl) (lt_o2 n f m g) (by rw [lt_c2]; exact ⟨⟨rfl, rfl, h1⟩, rfl, rfl, h2⟩)
  rw [lt_code]
  refine Ex.loop (by simp) (fun k => match k with | 0 => ltS n f m g | _ + 1 => outS (ltR1 n f m g)) 1 (fun k hk => ?_) e2
  have : k = 0 := by omega
  subst this
  exact e1
set_option maxRecDepth 100000 in
theorem lt_grow (n : Nat) (f : Nat → Int) (m : Nat) (g : Nat → Int) : growB (ltS n f m g) (outS (ltR2 n f m g)) = true := by kernel_rfl
set_option maxRecDepth 100000 in
theorem lt_one (n : Nat) (f : Nat → Int) (m : Nat) (g : Nat → Int) : Nat.ble (ltS n f m g).mem.length 1 = true := by kernel_rfl
noncomputable def ltL {n : Nat} (f : Nat → Int) {m : Nat} (g : Nat → Int) (hn : n ≤ 100) (hm : 100 < m) : LoopF Tryz.prog (in2 n f m g) := LoopF.of ((lt_ex f g hn hm).toB 1) (lt_grow ..) (lt_one ..)
set_option maxRecDepth 100000 in
def laM_G (n : Nat) (f : Nat → Int) (m : Nat) (g : Nat → Int) (hn : n ≤ 100) (hm : 100 < m) : Prop := LS.tmps (LoopF.s (ltL f g hn hm)) = LS.tmps (LoopF.s (ltL f g hn hm)) ∧ LS.mem (LoopF.s (ltL f g hn hm)) = LS.mem (LoopF.s (ltL f g hn hm))
set_option maxRecDepth 100000 in
theorem laM (n : Nat) (f : Nat → Int) (m : Nat) (g : Nat → Int) (hn : n ≤ 100) (hm : 100 < m) : (callF Tryz.prog (SGl (advL []) (in2 n f m g) [ltL f g hn hm]) 60 3 [.vec (.inp 0 0) n, .vec (.inp 0 1) m] []).map (fun r => (r.1, r.2.2)) = some (.bool true, some (laM_G n f m g hn hm)) := by kernel_rfl
end Go.Proofs.YtonmjdnkcngfjaaGreat.En2

/- DERIVED. The second field, and its curve. -/
set_option linter.all false
namespace Go.Proofs.YtonmjdnkcngfjaaGreat.Alg
open CR Go.Proofs.YtonmjdnkcngfjaaGreat.En

/-- re + im i. -/
structure Ki where
  re : KF
  im : KF
theorem Ki.ext : ∀ {a b : Ki}, a.re = b.re → a.im = b.im → a = b
  | ⟨_, _⟩, ⟨_, _⟩, rfl, rfl => rfl
instance : Add Ki := ⟨fun a b => ⟨a.re + b.re, a.im + b.im⟩⟩
instance : Mul Ki := ⟨fun a b => ⟨a.re * b.re - a.im * b.im, a.re * b.im + a.im * b.re⟩⟩
instance : Neg Ki := ⟨fun a => ⟨-a.re, -a.im⟩⟩
instance : Sub Ki := ⟨fun a b => ⟨a.re - b.re, a.im - b.im⟩⟩
instance : Zero Ki := ⟨⟨0, 0⟩⟩
instance : One Ki := ⟨⟨1, 0⟩⟩
theorem ki_mul (a b : Ki) : a * b = ⟨a.re * b.re - a.im * b.im, a.re * b.im + a.im * b.re⟩ := rfl
theorem ki_a1 {K : Type} [CR K] (a b c d e f : K)  : (a * c - b * d) * e - (a * d + b * c) * f = a * (c * e - d * f) - b * (c * f + d * e) := eq_of (fun zz => [a, b, c, d, e, f].getD zz 0) 6 (((((Alg.E.v 0 * Alg.E.v 2) - (Alg.E.v 1 * Alg.E.v 3)) * Alg.E.v 4) - (((Alg.E.v 0 * Alg.E.v 3) + (Alg.E.v 1 * Alg.E.v 2)) * Alg.E.v 5))) (((Alg.E.v 0 * ((Alg.E.v 2 * Alg.E.v 4) - (Alg.E.v 3 * Alg.E.v 5))) - (Alg.E.v 1 * ((Alg.E.v 2 * Alg.E.v 5) + (Alg.E.v 3 * Alg.E.v 4))))) (by decide +kernel)
theorem ki_a2 {K : Type} [CR K] (a b c d e f : K)  : (a * c - b * d) * f + (a * d + b * c) * e = a * (c * f + d * e) + b * (c * e - d * f) := eq_of (fun zz => [a, b, c, d, e, f].getD zz 0) 6 (((((Alg.E.v 0 * Alg.E.v 2) - (Alg.E.v 1 * Alg.E.v 3)) * Alg.E.v 5) + (((Alg.E.v 0 * Alg.E.v 3) + (Alg.E.v 1 * Alg.E.v 2)) * Alg.E.v 4))) (((Alg.E.v 0 * ((Alg.E.v 2 * Alg.E.v 5) + (Alg.E.v 3 * Alg.E.v 4))) + (Alg.E.v 1 * ((Alg.E.v 2 * Alg.E.v 4) - (Alg.E.v 3 * Alg.E.v 5))))) (by decide +kernel)
theorem ki_d1 {K : Type} [CR K] (a b c d e f : K)  : a * (c + e) - b * (d + f) = (a * c - b * d) + (a * e - b * f) := eq_of (fun zz => [a, b, c, d, e, f].getD zz 0) 6 (((Alg.E.v 0 * (Alg.E.v 2 + Alg.E.v 4)) - (Alg.E.v 1 * (Alg.E.v 3 + Alg.E.v 5)))) ((((Alg.E.v 0 * Alg.E.v 2) - (Alg.E.v 1 * Alg.E.v 3)) + ((Alg.E.v 0 * Alg.E.v 4) - (Alg.E.v 1 * Alg.E.v 5)))) (by decide +kernel)
theorem ki_d2 {K : Type} [CR K] (a b c d e f : K)  : a * (d + f) + b * (c + e) = (a * d + b * c) + (a * f + b * e) := eq_of (fun zz => [a, b, c, d, e, f].getD zz 0) 6 (((Alg.E.v 0 * (Alg.E.v 3 + Alg.E.v 5)) + (Alg.E.v 1 * (Alg.E.v 2 + Alg.E.v 4)))) ((((Alg.E.v 0 * Alg.E.v 3) + (Alg.E.v 1 * Alg.E.v 2)) + ((Alg.E.v 0 * Alg.E.v 5) + (Alg.E.v 1 * Alg.E.v 4)))) (by decide +kernel)
instance : CR Ki where
  sub_def a b := Ki.ext (CR.sub_def _ _) (CR.sub_def _ _)
  add_assoc a b c := Ki.ext (CR.add_assoc _ _ _) (CR.add_assoc _ _ _)
  add_comm a b := Ki.ext (CR.add_comm _ _) (CR.add_comm _ _)
  add_zero a := Ki.ext (CR.add_zero _) (CR.add_zero _)
  add_neg a := Ki.ext (CR.add_neg _) (CR.add_neg _)
  mul_assoc a b c := Ki.ext (ki_a1 _ _ _ _ _ _) (ki_a2 _ _ _ _ _ _)
  mul_comm a b := Ki.ext (by show a.re * b.re - a.im * b.im = b.re * a.re - b.im * a.im; rw [mul_comm, mul_comm a.im]) (by show a.re * b.im + a.im * b.re = b.re * a.im + b.im * a.re; rw [CR.add_comm, mul_comm a.im, mul_comm a.re])
  mul_one a := Ki.ext (by show a.re * 1 - a.im * 0 = a.re; rw [CR.mul_one, mul_zero, sub_zero]) (by show a.re * 0 + a.im * 1 = a.im; rw [CR.mul_one, mul_zero, zero_add])
  mul_add a b c := Ki.ext (ki_d1 _ _ _ _ _ _) (ki_d2 _ _ _ _ _ _)
/-- Minus 1 is no square. -/
theorem no_i (a : KF) : a * a + 1 ≠ 0 := by
  revert a
  refine zr_ind fun a h => ?_
  rw [zr_mul, ← zr_one, zr_add, ← zr_zero, zr_eq, Nat.zero_mod] at h
  have hd : ¬pN ∣ a := fun hd => by
    have h1 : (a * a + 1) % pN = 1 % pN := by
      obtain ⟨c, rfl⟩ := hd
      rw [Nat.mul_assoc, Nat.mul_add_mod]
    rw [h1] at h
    revert h
    decide +kernel
  have h2 := pN_pr.unit hd
  have h3 : (a * a) % pN = (pN - 1) % pN := by
    have h4 := Nat.div_add_mod (a * a + 1) pN
    rw [h] at h4
    have h5 : a * a = pN * ((a * a + 1) / pN - 1) + (pN - 1) := by
      have h6 : 1 ≤ (a * a + 1) / pN := Nat.one_le_iff_ne_zero.2 fun e => by rw [e] at h4; omega
      have h7 : 1 ≤ pN := by decide +kernel
      rw [Nat.mul_sub, Nat.mul_one]
      have h8 : pN ≤ pN * ((a * a + 1) / pN) := Nat.le_mul_of_pos_right _ h6
      omega
    rw [h5, Nat.mul_add_mod]
  have h4 : a ^ (pN - 1) % pN = (pN - 1) ^ ((pN - 1) / 2) % pN := by
    have e : a ^ (pN - 1) = (a * a) ^ ((pN - 1) / 2) := by
      rw [show a * a = a ^ 2 by rw [Nat.pow_succ, Nat.pow_succ, Nat.pow_zero, Nat.one_mul], ← Nat.pow_mul]
      congr 1
    rw [e, Nat.pow_mod, h3, ← Nat.pow_mod]
  have hlt : (pN - 1) / 2 < 2 ^ 381 := by decide +kernel
  rw [h4, ← pm_eq hlt] at h2
  revert h2
  decide +kernel
theorem ni_1 {K : Type} [CR K] (a b j : K) (h : b * j = 1) (k : a * a + b * b = 0) : a * j * (a * j) + 1 = 0 := eq_of_sub (zero_of_rel (fun zz => [a, b, j].getD zz 0) 3 ((((Alg.E.v 0 * Alg.E.v 2) * (Alg.E.v 0 * Alg.E.v 2)) + Alg.E.c 1) - Alg.E.c 0) [(((Alg.E.c 0 - (Alg.E.v 1 * Alg.E.v 2)) - Alg.E.c 1), (Alg.E.v 1 * Alg.E.v 2) - Alg.E.c 1), ((Alg.E.v 2 * Alg.E.v 2), ((Alg.E.v 0 * Alg.E.v 0) + (Alg.E.v 1 * Alg.E.v 1)) - Alg.E.c 0)] (all_cons (sub_of_eq h) (all_cons (sub_of_eq k) all_nil)) (by decide +kernel))
theorem norm_ne {a : Ki} (h : a ≠ 0) : a.re * a.re + a.im * a.im ≠ 0 := fun e => by
  by_cases hb : a.im = 0
  · rw [hb, mul_zero, CR.add_zero] at e
    have : a.re = 0 := by rcases mul_eq_zero e with e | e <;> exact e
    exact h (Ki.ext this hb)
  · obtain ⟨j, hj⟩ := Fld.inv _ hb
    exact no_i _ (ni_1 _ _ _ hj e)
theorem nv_1 {K : Type} [CR K] (a b j : K) (h : (a * a + b * b) * j = 1) : a * (a * j) - b * (-b * j) = 1 := eq_of_sub (zero_of_rel (fun zz => [a, b, j].getD zz 0) 3 (((Alg.E.v 0 * (Alg.E.v 0 * Alg.E.v 2)) - (Alg.E.v 1 * ((-Alg.E.v 1) * Alg.E.v 2))) - Alg.E.c 1) [(Alg.E.c 1, (((Alg.E.v 0 * Alg.E.v 0) + (Alg.E.v 1 * Alg.E.v 1)) * Alg.E.v 2) - Alg.E.c 1)] (all_cons (sub_of_eq h) all_nil) (by decide +kernel))
theorem nv_2 {K : Type} [CR K] (a b j : K)  : a * (-b * j) + b * (a * j) = 0 := eq_of (fun zz => [a, b, j].getD zz 0) 3 (((Alg.E.v 0 * ((-Alg.E.v 1) * Alg.E.v 2)) + (Alg.E.v 1 * (Alg.E.v 0 * Alg.E.v 2)))) (Alg.E.c 0) (by decide +kernel)
instance : Fld Ki where
  one_ne h := Fld.one_ne (K := KF) (congrArg Ki.re h)
  inv a ha := by
    obtain ⟨j, hj⟩ := Fld.inv _ (norm_ne ha)
    exact ⟨⟨a.re * j, -a.im * j⟩, Ki.ext (nv_1 _ _ _ hj) (nv_2 _ _ _)⟩
end Go.Proofs.YtonmjdnkcngfjaaGreat.Alg

/- DERIVED. The second curve; the second field's elements and points. -/
set_option linter.all false
namespace Go.Proofs.YtonmjdnkcngfjaaGreat.Alg
open CR Go.Proofs.YtonmjdnkcngfjaaGreat.En

theorem no_cube32 (a : Nat) : (a * a * a) % pN ≠ 32 := fun h3 => by
  have hd : ¬pN ∣ a := fun hd => by
    obtain ⟨c, rfl⟩ := hd
    rw [Nat.mul_assoc, Nat.mul_assoc, Nat.mul_mod_right] at h3
    cases h3
  have h2 := pN_pr.unit hd
  have h3 : (a * a * a) % pN = 32 % pN := h3.trans (by decide +kernel)
  have h4 : a ^ (pN - 1) % pN = 32 ^ ((pN - 1) / 3) % pN := by
    have e : a ^ (pN - 1) = (a * a * a) ^ ((pN - 1) / 3) := by
      rw [show a * a * a = a ^ 3 by rw [Nat.pow_succ, Nat.pow_succ, Nat.pow_succ, Nat.pow_zero, Nat.one_mul], ← Nat.pow_mul]
      congr 1
    rw [e, Nat.pow_mod, h3, ← Nat.pow_mod]
  have hlt : (pN - 1) / 3 < 2 ^ 381 := by decide +kernel
  rw [h4, ← pm_eq hlt] at h2
  revert h2
  decide +kernel
def nK (x : Ki) : KF := x.re * x.re + x.im * x.im
theorem nk_m {K : Type} [CR K] (a b c d : K)  : (a * c - b * d) * (a * c - b * d) + (a * d + b * c) * (a * d + b * c) = (a * a + b * b) * (c * c + d * d) := eq_of (fun zz => [a, b, c, d].getD zz 0) 4 (((((Alg.E.v 0 * Alg.E.v 2) - (Alg.E.v 1 * Alg.E.v 3)) * ((Alg.E.v 0 * Alg.E.v 2) - (Alg.E.v 1 * Alg.E.v 3))) + (((Alg.E.v 0 * Alg.E.v 3) + (Alg.E.v 1 * Alg.E.v 2)) * ((Alg.E.v 0 * Alg.E.v 3) + (Alg.E.v 1 * Alg.E.v 2))))) ((((Alg.E.v 0 * Alg.E.v 0) + (Alg.E.v 1 * Alg.E.v 1)) * ((Alg.E.v 2 * Alg.E.v 2) + (Alg.E.v 3 * Alg.E.v 3)))) (by decide +kernel)
theorem nK_mul (x y : Ki) : nK (x * y) = nK x * nK y := nk_m _ _ _ _
theorem nK_neg (x : Ki) : nK (-x) = nK x := by show -x.re * -x.re + -x.im * -x.im = _; rw [neg_mul, mul_neg, neg_neg, neg_mul, mul_neg, neg_neg]; rfl
noncomputable def bKi : Ki := ⟨zr 4, zr 4⟩
theorem nK_b : nK bKi = zr 32 := by
  show zr 4 * zr 4 + zr 4 * zr 4 = (zr 32 : KF)
  rw [zr_mul, zr_add]
theorem ki_two : (1 : Ki) + 1 ≠ 0 := fun h => absurd (zr_eq.1 ((zr_add 1 1).symm.trans (congrArg Ki.re h)) : (1 + 1) % pN = 0 % pN) (by decide +kernel)
theorem ki_no2 (x : Ki) : x * x * x + bKi ≠ 0 := fun h => by
  have e : x * x * x = -bKi := eq_neg_of h
  have h1 : nK x * nK x * nK x = zr 32 := by rw [← nK_mul, ← nK_mul, e, nK_neg, nK_b]
  revert h1
  generalize nK x = n
  revert n
  refine zr_ind fun a h1 => ?_
  rw [zr_mul, zr_mul, zr_eq] at h1
  exact no_cube32 a (h1.trans (by decide +kernel))
noncomputable instance : Crv Ki where
  b := bKi
  two := ki_two
  no2 := ki_no2
/-! ## elements -/
def zk (x : E2) : Ki := ⟨za x.1, za x.2⟩
theorem zk_i {K : Type} [CR K] (a b c d : K)  : (a + b) * (c + d) - a * c - b * d = a * d + b * c := eq_of (fun zz => [a, b, c, d].getD zz 0) 4 (((((Alg.E.v 0 + Alg.E.v 1) * (Alg.E.v 2 + Alg.E.v 3)) - (Alg.E.v 0 * Alg.E.v 2)) - (Alg.E.v 1 * Alg.E.v 3))) (((Alg.E.v 0 * Alg.E.v 3) + (Alg.E.v 1 * Alg.E.v 2))) (by decide +kernel)
theorem zk_mul (x y : E2) : zk (emulN x y) = zk x * zk y := Ki.ext
  (by show za (fsub (fmul x.1 y.1) (fmul x.2 y.2)) = za x.1 * za y.1 - za x.2 * za y.2; rw [za_sub, za_mul, za_mul])
  (by show za (fsub (fsub (fmul (fadd x.1 x.2) (fadd y.1 y.2)) (fmul x.1 y.1)) (fmul x.2 y.2)) = za x.1 * za y.2 + za x.2 * za y.1; rw [za_sub, za_sub, za_mul, za_mul, za_mul, za_add, za_add]; exact zk_i _ _ _ _)
theorem zk_add (x y : E2) : zk (eadd x y) = zk x + zk y := Ki.ext (za_add _ _) (za_add _ _)
theorem zk_sub (x y : E2) : zk (esub x y) = zk x - zk y := Ki.ext (za_sub _ _) (za_sub _ _)
theorem zk_neg (x : E2) : zk (eneg x) = -zk x := Ki.ext (za_neg _) (za_neg _)
theorem zk_zero : zk (zE, zE) = 0 := Ki.ext za_zE za_zE
theorem zk_z {x : E2} : eisz x = true ↔ zk x = 0 := by
  unfold eisz
  rw [Bool.and_eq_true, isz_iff, isz_iff]
  exact ⟨fun ⟨h1, h2⟩ => Ki.ext h1 h2, fun h => ⟨congrArg Ki.re h, congrArg Ki.im h⟩⟩
theorem zk_f {x : E2} : eisz x = false ↔ zk x ≠ 0 := by rw [← Bool.not_eq_true, zk_z]
theorem zk_emul (x y : E2) : zk (emul x y) = zk x * zk y := by
  unfold emul
  cases h : isz x.2 && isz y.2 with
  | false => rw [cond_false]; exact zk_mul x y
  | true =>
    rw [cond_true]
    rw [Bool.and_eq_true, isz_iff, isz_iff] at h
    refine Ki.ext ?_ ?_
    · show za (fmul x.1 y.1) = za x.1 * za y.1 - za x.2 * za y.2
      rw [za_mul, h.1, zero_mul, sub_zero]
    · show za zE = za x.1 * za y.2 + za x.2 * za y.1
      rw [za_zE, h.1, h.2, zero_mul, mul_zero, CR.add_zero]
end Go.Proofs.YtonmjdnkcngfjaaGreat.Alg

/- DERIVED. The second group's elements as the second field's. -/
set_option linter.all false
namespace Go.Proofs.YtonmjdnkcngfjaaGreat.Alg2
open Go.Proofs.YtonmjdnkcngfjaaGreat.Alg Go.Proofs.YtonmjdnkcngfjaaGreat.En2
open Go.Proofs.YtonmjdnkcngfjaaGreat.Alg.CR

abbrev KF := Ki
def za (x : Fe) : KF := zk x
theorem za_mul (a b : Fe) : za (fmul a b) = za a * za b := zk_mul a b
theorem za_add (a b : Fe) : za (fadd a b) = za a + za b := zk_add a b
theorem za_sub (a b : Fe) : za (fsub a b) = za a - za b := zk_sub a b
theorem za_neg (a : Fe) : za (fneg a) = -za a := zk_neg a
theorem za_zE : za zE = 0 := zk_zero
theorem isz_iff {a : Fe} : isz a = true ↔ za a = 0 := zk_z
theorem isz_f {a : Fe} : isz a = false ↔ za a ≠ 0 := zk_f
theorem feq_za {a b : Fe} : feq a b = true ↔ za a = za b := by
  show (En.feq a.1 b.1 && En.feq a.2 b.2) = true ↔ _
  rw [Bool.and_eq_true, Alg.feq_za, Alg.feq_za]
  exact ⟨fun ⟨h1, h2⟩ => Ki.ext h1 h2, fun h => ⟨congrArg Ki.re h, congrArg Ki.im h⟩⟩
theorem za_one : za fOne = 1 := Ki.ext Alg.za_one Alg.za_zE
theorem za_four : za four = Crv.b := Ki.ext (Alg.za_four) (Alg.za_four)
theorem qi_1 {K : Type} [CR K] (a b j : K) (h : (a * a + b * b) * j = 1) : a * (a * j) - b * (-b * j) = 1 := eq_of_sub (zero_of_rel (fun zz => [a, b, j].getD zz 0) 3 (((Alg.E.v 0 * (Alg.E.v 0 * Alg.E.v 2)) - (Alg.E.v 1 * ((-Alg.E.v 1) * Alg.E.v 2))) - Alg.E.c 1) [(Alg.E.c 1, (((Alg.E.v 0 * Alg.E.v 0) + (Alg.E.v 1 * Alg.E.v 1)) * Alg.E.v 2) - Alg.E.c 1)] (all_cons (sub_of_eq h) all_nil) (by decide +kernel))
theorem qi_2 {K : Type} [CR K] (a b j : K)  : a * (-b * j) + b * (a * j) = 0 := eq_of (fun zz => [a, b, j].getD zz 0) 3 (((Alg.E.v 0 * ((-Alg.E.v 1) * Alg.E.v 2)) + (Alg.E.v 1 * (Alg.E.v 0 * Alg.E.v 2)))) (Alg.E.c 0) (by decide +kernel)
theorem za_inv {a : Fe} (h : za a ≠ 0) : za a * za (invF a) = 1 := by
  have hn : Alg.za (En.qnm a) ≠ 0 := by
    show Alg.za (En.fadd (En.fmul a.1 a.1) (En.fmul a.2 a.2)) ≠ 0
    rw [Alg.za_add, Alg.za_mul, Alg.za_mul]
    exact norm_ne h
  have hj := Alg.za_inv hn
  have e : Alg.za (En.qnm a) = Alg.za a.1 * Alg.za a.1 + Alg.za a.2 * Alg.za a.2 := by
    show Alg.za (En.fadd (En.fmul a.1 a.1) (En.fmul a.2 a.2)) = _
    rw [Alg.za_add, Alg.za_mul, Alg.za_mul]
  rw [e] at hj
  have i1 : Alg.za (invF a).1 = Alg.za a.1 * Alg.za (En.invF (En.qnm a)) := Alg.za_mul _ _
  have i2 : Alg.za (invF a).2 = -Alg.za a.2 * Alg.za (En.invF (En.qnm a)) := by
    show Alg.za (En.fmul (En.fneg a.2) (En.invF (En.qnm a))) = _
    rw [Alg.za_mul, Alg.za_neg]
  refine Ki.ext ?_ ?_
  · show Alg.za a.1 * Alg.za (invF a).1 - Alg.za a.2 * Alg.za (invF a).2 = 1
    rw [i1, i2]; exact qi_1 _ _ _ hj
  · show Alg.za a.1 * Alg.za (invF a).2 + Alg.za a.2 * Alg.za (invF a).1 = 0
    rw [i1, i2]; exact qi_2 _ _ _
end Go.Proofs.YtonmjdnkcngfjaaGreat.Alg2

/- DERIVED. Points of numbers: the law's call. -/
set_option linter.all false
namespace Go.Proofs.YtonmjdnkcngfjaaGreat.En2
open Go Go.RowKit Go.Proofs.YtonmjdnkcngfjaaGreat.En Go.Proofs.YtonmjdnkcngfjaaGreat.Alg2

theorem bool_eq2 {a b : Bool} {p : Prop} (h : a = true ↔ p) (k : b = true ↔ p) : a = b := by
  cases a <;> cases b <;> simp_all
theorem one_nz : isz fOne = false := isz_f.2 (by rw [za_one]; exact Alg.Fld.one_ne)
theorem zE_z : isz zE = true := isz_iff.2 za_zE
theorem eeq_zk {x y : Fe} : eeq x y = true ↔ za x = za y := by
  unfold eeq
  rw [Bool.and_eq_true, Bool.and_true]
  have h : ∀ a b : En.Fe, Nat.beq (fv a % pN) (fv b % pN) = true ↔ Alg.za a = Alg.za b := fun a b => by
    rw [← Alg.feq_za]; unfold En.feq; rw [Bool.and_true]
  rw [h, h]
  exact ⟨fun ⟨h1, h2⟩ => Alg.Ki.ext h1 h2, fun h => ⟨congrArg Alg.Ki.re h, congrArg Alg.Ki.im h⟩⟩
theorem za_emul (x y : Fe) : za (emul x y) = za x * za y := Alg.zk_emul x y
theorem za_eadd (x y : Fe) : za (eadd x y) = za x + za y := Alg.zk_add x y
theorem ron_iff {x y : Fe} : ronF x y true = true ↔ za y * za y = za x * za x * za x + Alg.Crv.b := by
  unfold ronF
  rw [eeq_zk, za_emul, za_eadd, za_emul, za_emul]
  have e : eB true = four := rfl
  rw [e, za_four]
theorem affT_iff {x y : Fe} : affT x y = true ↔ za y * za y = za x * za x * za x + Alg.Crv.b := by
  unfold affT sideF
  rw [feq_za, za_mul, za_add, za_mul, za_mul, za_four]
theorem ron_aff (x y : Fe) : ronF x y true = affT x y := bool_eq2 ron_iff affT_iff
theorem inv_one {o : Fe} (ho : za o = 1) : za (invF o) = 1 := by
  have h := za_inv (a := o) (by rw [ho]; exact Alg.Fld.one_ne)
  rw [ho, Alg.one_mul] at h
  exact h
theorem xy_one {x y o : Fe} (ho : za o = 1) : za (xyX (x, y, o)) = za x ∧ za (xyY (x, y, o)) = za y := by
  have hi := inv_one ho
  constructor
  · show za (fmul x (fmul (invF o) (invF o))) = za x
    rw [za_mul, za_mul, hi, Alg.CR.mul_one, Alg.CR.mul_one]
  · show za (fmul (fmul y (fmul (invF o) (invF o))) (invF o)) = za y
    rw [za_mul, za_mul, za_mul, hi, Alg.CR.mul_one, Alg.CR.mul_one, Alg.CR.mul_one]
theorem gxy_f {p : Pt} (h : isz p.2.2 = false) : gxyX p = xyX p ∧ gxyY p = xyY p := by
  unfold gxyX gxyY
  rw [h, cond_false, cond_false]
  exact ⟨rfl, rfl⟩
theorem aff_x (x y : Fe) : za (gxyX (x, y, fOne)) = za x := by rw [(gxy_f (p := (x, y, fOne)) one_nz).1]; exact (xy_one za_one).1
theorem aff_y (x y : Fe) : za (gxyY (x, y, fOne)) = za y := by rw [(gxy_f (p := (x, y, fOne)) one_nz).2]; exact (xy_one za_one).2
theorem aff_on (x y : Fe) : onF (x, y, fOne) = affT x y := by
  rw [on_f (p := (x, y, fOne)) one_nz]
  exact bool_eq2 ron_iff (affT_iff.trans (by rw [aff_x, aff_y]))
/-- The law's call answers true. -/
theorem affine_call (n : Nat) (f : Nat → Int) (m : Nat) (g : Nat → Int) {ρ : Key → En.Loc} {w : World} (hm : MemRel (in2 n f m g) ρ [] w) (hk : n ≤ (ρ (.inp 0 0)).cap) (hk' : m ≤ (ρ (.inp 0 1)).cap) :
    Calls Tryz.prog 3 (trs ρ [(.vec (.inp 0 0) n : LV Fe), .vec (.inp 0 1) m]).toArray w fun e w' => e = .returned (.bool true) ∧ Below w.heap.size w w' := by
  have hI := in2_ok n f m g
  have hkI : ∀ t i, kinL (okKey ([] : Mem Fe) ρ) (in2 n f m g t i) := by
    intro t i
    cases t with
    | succ t => trivial
    | zero =>
      match i with
      | 0 => exact ⟨fun _ => ⟨trivial, trivial⟩, trivial⟩
      | 1 => exact ⟨fun _ => ⟨trivial, trivial⟩, trivial⟩
      | i + 2 => trivial
  have ha : kinL (okKey ([] : Mem Fe) ρ) [(.vec (.inp 0 0) n : LV Fe), .vec (.inp 0 1) m] := ⟨hk, hk', trivial⟩
  by_cases hn : n ≤ 100
  · by_cases hm1 : m ≤ 100
    · have h1 : decide ((100 : Int) < (n : Int)) = false := decide_eq_false (by omega)
      have h2 : decide ((100 : Int) < (m : Int)) = false := decide_eq_false (by omega)
      cases ht : affT (numF n f) (numF m g) with
      | false =>
        have e : affF (numF n f) (numF m g) = zPt := by unfold affF; rw [ht]; rfl
        refine calls_top (SGl_ok _ hI []) mixed (laF n f m g) ?_ hm ha hkI fun _ _ => rfl
        unfold condOk laF_G
        generalize numF n f = x at *
        generalize numF m g = y at *
        refine ⟨⟨⟨rfl, rfl, h1⟩, rfl, rfl, h2⟩, ⟨⟨fun _ _ => Like.refl _, rfl, hn⟩, ⟨fun _ _ => Like.refl _, rfl, hm1⟩, rfl, rfl⟩, ⟨ht, rfl⟩, ?_, ?_⟩
        · rw [ron_aff, ht]
        · rw [e]; exact zE_z
      | true =>
        have e : affF (numF n f) (numF m g) = (numF n f, numF m g, fOne) := by unfold affF; rw [ht]; rfl
        refine calls_top (SGl_ok _ hI []) mixed (laT n f m g) ?_ hm ha hkI fun _ _ => rfl
        unfold condOk laT_G
        generalize numF n f = x at *
        generalize numF m g = y at *
        refine ⟨⟨⟨rfl, rfl, h1⟩, rfl, rfl, h2⟩, ⟨⟨fun _ _ => Like.refl _, rfl, hn⟩, ⟨fun _ _ => Like.refl _, rfl, hm1⟩, rfl, rfl⟩, ⟨ht, rfl⟩, ?_, ⟨?_, rfl, rfl⟩, ?_, ?_, ?_⟩
        · rw [ron_aff, ht]
        · rw [e]; show (!isz fOne) = true; rw [one_nz]; rfl
        · rw [e]; exact feq_za.2 (aff_x _ _)
        · rw [e]; exact feq_za.2 (aff_y _ _)
        · rw [e]; show onF (x, y, fOne) = true; rw [aff_on, ht]
    · exact calls_top (SGl_ok _ hI _) mixed (laM n f m g hn (by omega)) ⟨rfl, rfl⟩ hm ha hkI fun _ _ => rfl
  · exact calls_top (SGl_ok _ hI []) mixed (laB n f m g) ⟨rfl, rfl, decide_eq_true (by omega)⟩ hm ha hkI fun _ _ => rfl
end Go.Proofs.YtonmjdnkcngfjaaGreat.En2
