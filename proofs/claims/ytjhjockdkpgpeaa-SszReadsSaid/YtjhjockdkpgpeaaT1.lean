/- DERIVED. Bytes in chunks: the program's way. -/
import Derived.Test.YtjhjockdkpgpeaaVSO
import Derived.Test.YtjhjockdkpgpeaaRows
set_option linter.all false
namespace Go.Proofs.Ytjhjockdkpgpeaa.En
open Go Go.RowKit

noncomputable instance abE : Ab Empty where
  cells x := x.elim
  size x := x.elim
  beq x := x.elim
instance lawE : LawAb Empty := ⟨fun x => x.elim, fun x => x.elim⟩
instance eqE : LawEq Empty := ⟨fun x => x.elim⟩

abbrev noMs : TypeId → String → Option FuncId := fun _ _ => none
theorem noMs_ok (P : Program) : ∀ t m f, noMs t m = some f → ∀ v w, (method (P.types.size + Made.depth) t v m).run P w = .ok (f, v) w := by
  intro t m f h; cases h
theorem mixed : Try.prog.follows .mixedOrders = true := by kernel_rfl

/-- Bytes, as a block. -/
abbrev bytesU (n : Nat) (f : Nat → Int) : List (LV Empty) := [.rows n 1 fun j => [.int .u8 (f j)]]

def advP (b : Bool) : Adv where
  il _ := true
  dec f r i := match f, r, i with
    | 29, 2, 2 => some b
    | _, _, _ => none
  rc f r i := match f, r, i with
    | 29, 5, 2 => true
    | 29, 6, 3 => true
    | 29, 3, 4 => true
    | _, _, _ => false
  fz _ _ := false
  res _ _ := 1
noncomputable abbrev SP (b : Bool) (I : Inp Empty) : Sig Empty := sigOf (P := Try.prog) [] [] [] (I := I) [] noMs (advP b)
theorem SP_ok (b : Bool) {I : Inp Empty} (hI : InpOk I) : SigOk Try.prog (SP b I) := sigOf_ok [] [] [] [] (noMs_ok _) _ hI

/-- The loop's state: m bytes are left; k chunks are made. -/
def jP (m k : Nat) (g : Nat → Int) (h : Nat → Nat → Int) : LS Empty :=
  ⟨tm 21 [(0, .vec (.own 0) m), (2, .nils), (3, .vec (.own 1) k)], [some ⟨.ro, bytesU m g⟩, some ⟨.row 50, [.rows k 32 fun i => bytesU 32 (h i)]⟩], []⟩
def nextG (m : Nat) (g : Nat → Int) : Nat → Int := fun j => g (min m 32 + j)
def nextH (m k : Nat) (g : Nat → Int) (h : Nat → Nat → Int) : Nat → Nat → Int := fun i j => if i < k then h i j else if j < m then g j else 0

/-- The low bound of the next part. -/
abbrev lowP (m : Nat) : Nat := (if (32 : Int) < (m : Int) then (32 : Int) else (m : Int)).toNat
def pC (m k : Nat) : Prop :=
  decide (0 < (m : Int)) = true ∧ ((Nat.ble m m = true ∧ Nat.ble (Nat.min m 32) 32 = true) ∧ true = true) ∧ (Nat.ble 1 1 = true ∧ (Nat.beq k k && Nat.ble ((k + 1) * 32) (2 ^ 47)) = true) ∧
    decide ((0 : Int) ≤ (if (32 : Int) < (m : Int) then (32 : Int) else (m : Int)) ∧ (if (32 : Int) < (m : Int) then (32 : Int) else (m : Int)) ≤ (m : Int) ∧ (m : Int) ≤ (m : Int) ∧ (m : Int) ≤ (m : Int)) = true ∧ Nat.ble m m = true

/-- What one round comes to. -/
structure PRun (I : Inp Empty) (m k : Nat) (g : Nat → Int) (h : Nat → Nat → Int) (r : Option (Out × LS Empty)) : Prop where
  eq : r = exec Try.prog (SP true I) 40 29 [0, 0, 0, 1, 1] (codeAt Try.prog 29 [0, 0, 0, 1, 1]) (jP m k g h)
  out : outO r = some .normal
  len : (outS r).tmps.length = 21
  t0 : (outS r).tmps[0]? = some (.vec (.own 5) ((m : Int).toNat - lowP m))
  t2 : (outS r).tmps[2]? = some .nils
  t3 : (outS r).tmps[3]? = some (.vec (.own 4) (k + 1))
  b12 : at? I (outS r).mem (.own 5) = some ⟨.ro, bytesU ((m : Int).toNat - lowP m) fun j => g (lowP m + j)⟩
  b6 : at? I (outS r).mem (.own 4) = some ⟨.row 50, [.rows (k + 1) 32 fun i => mrgR (Nat.blt i k) (bytesU 32 (h i)) ([[LV.rows 32 1 fun j => mrgR (Nat.blt j (Nat.min m 32)) [.int .u8 (g j)] ((List.replicate 32 [LV.int .u8 0]).getD j [])]].getD (i - k) [])]⟩
  cs : allC (outS r).conds = some (pC m k)
set_option maxRecDepth 100000 in
theorem pRun (I : Inp Empty) (m k : Nat) (g : Nat → Int) (h : Nat → Nat → Int) : ∃ r, PRun I m k g h r :=
  ⟨_, { eq := rfl, out := by kernel_rfl, len := by kernel_rfl, t0 := by kernel_rfl, t2 := by kernel_rfl, t3 := by kernel_rfl, b12 := by kernel_rfl, b6 := by kernel_rfl, cs := by kernel_rfl }⟩

theorem there0 {b : Blk Empty} {l : Mem Empty} : there (some b :: l) (.own 0) := trivial
theorem lowP_le (m : Nat) : lowP m = min m 32 := by unfold lowP; split <;> omega

/-- Which names the state's blocks have. -/
def σ2 (a b : Key) : Nat → Option Key
  | 0 => some a
  | 1 => some b
  | _ => none
set_option maxRecDepth 100000 in
theorem pack_step {I : Inp Empty} (hI : InpOk I) (m k : Nat) (g : Nat → Int) (h : Nat → Nat → Int) (hm : 0 < m) (hk : (k + 1) * 32 ≤ 2 ^ 47) :
    ExB 0 Try.prog I (codeAt Try.prog 29 [0, 0, 0, 1, 1]) (jP m k g h) .normal (jP (m - 32) (k + 1) (nextG m g) (nextH m k g h)) := by
  obtain ⟨r, hr⟩ := pRun I m k g h
  have e0 : (m : Int).toNat - lowP m = m - 32 := by rw [lowP_le]; omega
  have hc : condOk (allC (outS r).conds) := by
    rw [hr.cs]
    refine ⟨by simpa using hm, ⟨⟨leB (Nat.le_refl _), leB (Nat.min_le_right _ _)⟩, rfl⟩, ⟨rfl, ?_⟩, ?_, leB (Nat.le_refl _)⟩
    · rw [Nat.beq_refl, leB hk]; rfl
    · refine decide_eq_true ?_
      split <;> omega
  refine ((Ex.of_run (SP_ok true hI) rfl mixed hr.eq hr.out hc).toB 0).fits hI (σ := σ2 (.own 5) (.own 4)) (Fits.ofI hr.len ?_ ?_ ?_ ?_) (fun k bl hk => absurd hk (Nat.not_lt_zero k))
  · simp only [List.forall_mem_cons, hr.t0, hr.t2, hr.t3, e0]
    refine ⟨⟨rfl, ?_, trivial⟩, ⟨rfl, trivial⟩, ⟨rfl, ?_, trivial⟩, fun _ h => absurd h List.not_mem_nil⟩ <;> (intro h; cases h)
  · intro j b0 hb
    match j, hb with
    | 0, hb =>
      cases hb
      refine ⟨⟨fun i => ⟨trivial, trivial⟩, trivial⟩, .inl ⟨_, _, rfl, hr.b12, .inl rfl, ?_, rfl, fun e => by cases e⟩⟩
      rw [e0]
      refine Like.of_eq ?_
      simp only [lowP_le, renL, LV.ren, nextG]
    | 1, hb =>
      cases hb
      refine ⟨⟨fun i => ⟨fun i => ⟨trivial, trivial⟩, trivial⟩, trivial⟩, .inl ⟨_, _, rfl, hr.b6, .inl rfl, ?_, rowOk_rows _ _ _ _ _, fun e => by cases e⟩⟩
      refine Like.rows (fun i hi => Like.of_cells (fun ρ => ?_) fun p => ⟨fun j => ⟨trivial, trivial⟩, trivial⟩) (fun i _ p _ => ⟨fun j => ⟨trivial, trivial⟩, trivial⟩)
      rw [mrgR_sound]
      by_cases hik : i < k
      · rw [ltB hik]
        exact cells_rows_congr ρ fun j _ => by simp only [nextH, if_pos hik]; rfl
      · have e1 : i - k = 0 := by omega
        rw [blt_false hik, e1]
        refine cells_rows_congr ρ fun j hj => ?_
        rw [mrgR_sound]
        have e2 : (List.replicate 32 [(LV.int .u8 0 : LV Empty)]).getD j [] = [LV.int .u8 0] := rep_getD _ _ hj
        rw [e2]
        simp only [nextH, if_neg hik]
        by_cases hjm : j < m
        · rw [ltB (show j < Nat.min m 32 from Nat.lt_min.2 ⟨hjm, hj⟩), if_pos hjm]; rfl
        · rw [blt_false (fun h => hjm (Nat.lt_of_lt_of_le h (Nat.min_le_left _ _))), if_neg hjm]; rfl
    | n + 2, hb => simp at hb
  · intro a b j ha hb h1 h2
    match a, b with
    | 0, 0 => rfl
    | 1, 1 => rfl
    | 0, 1 => cases h1; cases h2
    | 1, 0 => cases h1; cases h2
    | a + 2, _ => cases h1
    | _, b + 2 => cases h2
  · intro j bl hb hw x y
    match j with
    | 0 => simp [σ2]
    | 1 => simp [σ2]
    | j + 2 => simp [σ2]

/-! ## the loop -/
structure PEnd (I : Inp Empty) (k : Nat) (g : Nat → Int) (h : Nat → Nat → Int) (r : Option (Out × LS Empty)) : Prop where
  eq : r = exec Try.prog (SP false I) 40 29 [0, 0, 0, 1, 1] (codeAt Try.prog 29 [0, 0, 0, 1, 1]) (jP 0 k g h)
  out : outO r = some (.exit 0)
  len : (outS r).tmps.length = 21
  t3 : (outS r).tmps[3]? = some (.vec (.own 1) k)
  b1 : at? I (outS r).mem (.own 1) = some ⟨.row 50, [.rows k 32 fun i => bytesU 32 (h i)]⟩
  cs : allC (outS r).conds = some (decide (0 < ((0 : Nat) : Int)) = false)
set_option maxRecDepth 100000 in
theorem pEnd (I : Inp Empty) (k : Nat) (g : Nat → Int) (h : Nat → Nat → Int) : ∃ r, PEnd I k g h r :=
  ⟨_, { eq := rfl, out := by kernel_rfl, len := by kernel_rfl, t3 := by kernel_rfl, b1 := by kernel_rfl, cs := by kernel_rfl }⟩

/-- The chunks of so many bytes. -/
def chunksN (n : Nat) : Nat := (n + 31) / 32
def chunkB (n : Nat) (f : Nat → Int) (i j : Nat) : Int := if 32 * i + j < n then f (32 * i + j) else 0
abbrev chunksU (n : Nat) (f : Nat → Int) : List (LV Empty) := [.rows (chunksN n) 32 fun i => bytesU 32 (chunkB n f i)]

def σ1 (a : Key) : Nat → Option Key
  | 0 => some a
  | _ => none

set_option maxRecDepth 100000 in
theorem pack_end {I : Inp Empty} (hI : InpOk I) (k : Nat) (g : Nat → Int) (h h' : Nat → Nat → Int) (hh : ∀ i j, i < k → j < 32 → h i j = h' i j) :
    ExB 0 Try.prog I (codeAt Try.prog 29 [0, 0, 0, 1, 1]) (jP 0 k g h) (.exit 0) ⟨tm 21 [(3, .vec (.own 0) k)], [some ⟨.row 50, [.rows k 32 fun i => bytesU 32 (h' i)]⟩], []⟩ := by
  obtain ⟨r, hr⟩ := pEnd I k g h
  have hc : condOk (allC (outS r).conds) := by rw [hr.cs]; rfl
  refine ((Ex.of_run (SP_ok false hI) rfl mixed hr.eq hr.out hc).toB 0).fits hI (σ := σ1 (.own 1)) (Fits.ofI hr.len ?_ ?_ ?_ ?_) (fun k bl hk => absurd hk (Nat.not_lt_zero k))
  · simp only [List.forall_mem_cons, hr.t3]
    refine ⟨⟨rfl, ?_, trivial⟩, fun _ h => absurd h List.not_mem_nil⟩
    intro h; cases h
  · intro j b0 hb
    match j, hb with
    | 0, hb =>
      cases hb
      refine ⟨⟨fun i => ⟨fun i => ⟨trivial, trivial⟩, trivial⟩, trivial⟩, .inl ⟨_, _, rfl, hr.b1, .inl rfl, ?_, rowOk_rows _ _ _ _ _, fun e => by cases e⟩⟩
      refine Like.rows (fun i hi => Like.of_cells (fun ρ => ?_) fun p => ⟨fun j => ⟨trivial, trivial⟩, trivial⟩) (fun i _ p _ => ⟨fun j => ⟨trivial, trivial⟩, trivial⟩)
      exact cells_rows_congr ρ fun j hj => by rw [hh i j hi hj]; rfl
    | n + 1, hb => simp at hb
  · intro a b j ha hb _ _
    simp at ha hb
    omega
  · intro j bl hb hw x y
    match j with
    | 0 => simp [σ1]
    | j + 1 => simp [σ1]

def packD (n : Nat) (f : Nat → Int) : Nat → Nat × (Nat → Int) × (Nat → Nat → Int)
  | 0 => (n, f, fun _ _ => 0)
  | k + 1 => ((packD n f k).1 - 32, nextG (packD n f k).1 (packD n f k).2.1, nextH (packD n f k).1 k (packD n f k).2.1 (packD n f k).2.2)
theorem packD_m (n : Nat) (f : Nat → Int) : ∀ k, (packD n f k).1 = n - 32 * k
  | 0 => rfl
  | k + 1 => by
    show (packD n f k).1 - 32 = _
    rw [packD_m n f k]; omega
theorem packD_g (n : Nat) (f : Nat → Int) : ∀ k j, 32 * k + j < n → (packD n f k).2.1 j = f (32 * k + j)
  | 0, j, _ => by simp [packD]
  | k + 1, j, h => by
    show (packD n f k).2.1 (min (packD n f k).1 32 + j) = _
    rw [packD_m n f k, show min (n - 32 * k) 32 + j = 32 + j by omega, packD_g n f k (32 + j) (by omega)]
    congr 1
    omega
theorem packD_h (n : Nat) (f : Nat → Int) : ∀ k i j, i < k → (packD n f k).2.2 i j = chunkB n f i j
  | 0, i, j, h => by omega
  | k + 1, i, j, h => by
    show (if i < k then (packD n f k).2.2 i j else if j < (packD n f k).1 then (packD n f k).2.1 j else 0) = _
    by_cases hik : i < k
    · rw [if_pos hik]; exact packD_h n f k i j hik
    · have e : i = k := by omega
      subst e
      rw [if_neg hik, packD_m n f i]
      unfold chunkB
      by_cases hj : j < n - 32 * i
      · rw [if_pos hj, if_pos (by omega), packD_g n f i j (by omega)]
      · rw [if_neg hj, if_neg (by omega)]

/-- Bytes that came in. -/
abbrev inB (n : Nat) (f : Nat → Int) : Inp Empty := inOf [bytesU n f]
theorem bytes_plain (n : Nat) (f : Nat → Int) : plainL (bytesU n f) := ⟨fun _ => ⟨trivial, trivial⟩, trivial⟩
theorem inB_ok (n : Nat) (f : Nat → Int) : InpOk (inB n f) := inOf_ok fun l hl => by
  rw [List.mem_singleton] at hl
  subst hl
  exact bytes_plain n f

def packS (n : Nat) : LS Empty := ⟨.vec (.inp 0 0) n :: .undef :: .nils :: .nils :: List.replicate 17 .undef, [], []⟩
def packT (n : Nat) (f : Nat → Int) : LS Empty := ⟨tm 21 [(3, .vec (.own 0) (chunksN n))], [some ⟨.row 50, chunksU n f⟩], []⟩

set_option maxRecDepth 100000 in
theorem pack_code : codeAt Try.prog 29 [0, 0, 1, 1] = .loop (codeAt Try.prog 29 [0, 0, 0, 1, 1]) := by kernel_rfl

theorem pack_loop (n : Nat) (f : Nat → Int) (hn : n ≤ 2 ^ 46) : Ex Try.prog (inB n f) (codeAt Try.prog 29 [0, 0, 1, 1]) (packS n) (.exit 0) (packT n f) := by
  have hI := inB_ok n f
  rw [pack_code]
  refine ExB.toEx (B := 0) ?_ (fun k bl h => by simp [packS] at h)
  refine ExB.pre hI (σ := σ1 (.inp 0 0)) (ExB.loop (by simp) (fun k => jP (packD n f k).1 k (packD n f k).2.1 (packD n f k).2.2) (chunksN n) ?_ ?_) ?_ (fun k bl hk => absurd hk (Nat.not_lt_zero k))
  · intro k hk
    have h1 := packD_m n f k
    unfold chunksN at hk
    exact pack_step hI _ k _ _ (by rw [h1]; omega) (by omega)
  · have h1 := packD_m n f (chunksN n)
    have h2 : n - 32 * chunksN n = 0 := by unfold chunksN; omega
    rw [h2] at h1
    rw [h1]
    exact pack_end hI _ _ _ _ fun i j hi _ => packD_h n f _ i j hi
  · refine Fits.ofI rfl ?_ ?_ ?_ ?_
    · simp only [List.forall_mem_cons]
      refine ⟨⟨rfl, ?_, trivial⟩, ⟨rfl, trivial⟩, ⟨rfl, fun _ => rfl, trivial⟩, fun _ h => absurd h List.not_mem_nil⟩
      intro h; cases h
    · intro j b0 hb
      match j, hb with
      | 0, hb =>
        cases hb
        exact ⟨⟨fun i => ⟨trivial, trivial⟩, trivial⟩, .inl ⟨_, _, rfl, rfl, .inl rfl, Like.refl _, rfl, fun e => by cases e⟩⟩
      | 1, hb =>
        cases hb
        exact ⟨⟨fun i => ⟨fun i => ⟨trivial, trivial⟩, trivial⟩, trivial⟩, .inr ⟨rfl, some 50, _, _, rfl, fun i p => ⟨fun j => ⟨trivial, trivial⟩, trivial⟩⟩⟩
      | n + 2, hb => simp [jP] at hb
    · intro a b j ha hb h1 h2
      match a, b with
      | 0, 0 => rfl
      | 1, _ => cases h1
      | _, 1 => cases h2
      | a + 2, _ => cases h1
      | _, b + 2 => cases h2
    · intro j bl hb hw x y
      match j, hb with
      | 0, hb => cases hb; cases hw
      | 1, hb => simp [σ1]
      | j + 2, hb => simp [jP] at hb

def packL (n : Nat) (f : Nat → Int) (hn : n ≤ 2 ^ 46) : LoopF Try.prog (inB n f) where
  f := 29
  p := [0, 0, 1, 1]
  s := packS n
  o := .exit 0
  t := packT n f
  len := rfl
  grow := ⟨Nat.zero_le _, fun k h => absurd h (Nat.not_lt_zero k)⟩
  ex := pack_loop n f hn
noncomputable abbrev SPL (n : Nat) (f : Nat → Int) (hn : n ≤ 2 ^ 46) : Sig Empty := sigOf (P := Try.prog) [] [] [] (I := inB n f) [packL n f hn] noMs (advP true)
set_option maxRecDepth 100000 in
theorem pack_run (n : Nat) (f : Nat → Int) (hn : n ≤ 2 ^ 46) : callF Try.prog (SPL n f hn) 40 29 [.vec (.inp 0 0) n] [] = some (.vec (.own 0) (chunksN n), [⟨.row 50, chunksU n f⟩].map some, some ((packS n).tmps = (packS n).tmps ∧ (packS n).mem = (packS n).mem)) := by kernel_rfl
theorem pack_told (n : Nat) (f : Nat → Int) (hn : n ≤ 2 ^ 46) : Told Try.prog 29 [bytesU n f] [.vec (.inp 0 0) n] (.vec (.own 0) (chunksN n)) [⟨.row 50, chunksU n f⟩] :=
  told_of (sigOf_ok [] [] [] _ (noMs_ok _) _ (inB_ok n f)) mixed rfl (pack_run n f hn) ⟨rfl, rfl⟩
theorem chunks_plain (n : Nat) (f : Nat → Int) : plainL (chunksU n f) := ⟨fun _ => ⟨fun _ => ⟨trivial, trivial⟩, trivial⟩, trivial⟩
set_option maxRecDepth 100000 in
theorem ent29 : ∀ args w, (callFunc 29 args).run Try.prog w = .ok (.enter 29 args) w := ent_of (f := 29) (P := Try.prog) rfl rfl rfl
/-- Bytes in chunks. -/
noncomputable def conPack : ConC Try.prog Empty := conRd 29 ent29 (rd1 (intS .u8) (fun n _ => .vec (.own 0) (chunksN n)) (fun n f => [⟨.row 50, chunksU n f⟩]) fun n _ => n ≤ 2 ^ 46)
  (rd1_ok (fun n f h => pack_told n f h) fun n f => Fresh'.vec (chunks_plain n f) rfl)
end Go.Proofs.Ytjhjockdkpgpeaa.En
