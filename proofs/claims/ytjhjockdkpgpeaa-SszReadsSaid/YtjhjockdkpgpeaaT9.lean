/- DERIVED. Bits as bytes, the document's way. -/
import Derived.Test.YtjhjockdkpgpeaaT3
namespace Go.Proofs.Ytjhjockdkpgpeaa.En
open Go Go.RowKit

noncomputable abbrev boolsU (n : Nat) (l : Nat → Bool) : List (LV Empty) := (boolS : Elt Empty).us n l
noncomputable abbrev inL (n : Nat) (l : Nat → Bool) : Inp Empty := inOf [boolsU n l]
theorem inL_ok (n : Nat) (l : Nat → Bool) : InpOk (inL n l) := inOf_ok fun u hu => by
  rw [List.mem_singleton] at hu
  subst hu
  exact Elt.plain_us _ _ _
def advL (c b : Bool) : Adv where
  il _ := true
  dec f r i := match f, r, i with
    | 21, 3, 3 => some c
    | 21, 5, 3 => some b
    | _, _, _ => none
  rc f r i := match f, r, i with
    | 21, 5, 2 => true
    | 21, 5, 3 => true
    | 21, 6, 3 => true
    | 21, 6, 4 => true
    | 21, 6, 7 => true
    | 21, 6, 9 => true
    | 21, 6, 10 => true
    | 21, 1, 4 => true
    | _, _, _ => false
  fz _ _ := false
  res _ _ := 1
noncomputable abbrev SB (c b : Bool) (I : Inp Empty) : Sig Empty := sigOf (P := Try.prog) [] [] [] (I := I) [] noMs (advL c b)
theorem SB_ok (c b : Bool) {I : Inp Empty} (hI : InpOk I) : SigOk Try.prog (SB c b I) := sigOf_ok [] [] [] [] (noMs_ok _) _ hI
/-- So many bits, as bytes. -/
def bitW (i : Nat) : Int := IntKind.u8.wrap (1 * 2 ^ min (i % 8) 8)
def packB (l : Nat → Bool) : Nat → Nat → Int
  | 0, _ => 0
  | i + 1, q => if l i = true ∧ q = i / 8 then bits .or .u8 (packB l i q) (bitW i) else packB l i q
noncomputable def jB (n m k : Nat) (g : Nat → Int) : LS Empty :=
  ⟨tm 31 [(0, .vec (.inp 0 0) n), (3, .vec (.own 0) m), (4, .int .i64 k)], [some ⟨.row 5, bytesU m g⟩], []⟩
/-- The place of bit k. -/
abbrev byteI (k : Nat) : Nat := (IntKind.i64.wrap (Int.tdiv (k : Int) 8)).toNat
theorem byteI_eq {k : Nat} (h : k ≤ 2 ^ 50) : IntKind.i64.wrap (Int.tdiv (k : Int) 8) = ((k / 8 : Nat) : Int) := by
  have e : Int.tdiv (k : Int) 8 = ((k / 8 : Nat) : Int) := by
    rw [Int.tdiv_eq_ediv_of_nonneg (by omega)]; omega
  rw [e, IntWalk.i64_in _ (by omega)]
theorem tmod8 (k : Nat) : Int.tmod (k : Int) 8 = ((k % 8 : Nat) : Int) := by
  rw [Int.tmod_eq_emod_of_nonneg (by omega)]; omega
def cB1 (n m k : Nat) (l : Nat → Bool) : Prop :=
  decide ((k : Int) < (n : Int)) = true ∧ (decide ((0 : Int) ≤ (k : Int) ∧ (k : Int) < (n : Int)) = true ∧ Nat.blt k n = true ∧ l k = true) ∧
    decide ((0 : Int) ≤ IntKind.i64.wrap (Int.tdiv (k : Int) 8) ∧ IntKind.i64.wrap (Int.tdiv (k : Int) 8) < (m : Int)) = true ∧ Nat.blt (byteI k) m = true ∧ decide ((0 : Int) ≤ Int.tmod (k : Int) 8) = true ∧
      decide ((0 : Int) ≤ IntKind.i64.wrap (Int.tdiv (k : Int) 8) ∧ IntKind.i64.wrap (Int.tdiv (k : Int) 8) < (m : Int)) = true ∧ Nat.blt (byteI k) m = true ∧ (Nat.beq m m && Nat.beq 1 1) = true
def cB0 (n k : Nat) (l : Nat → Bool) : Prop :=
  decide ((k : Int) < (n : Int)) = true ∧ decide ((0 : Int) ≤ (k : Int) ∧ (k : Int) < (n : Int)) = true ∧ Nat.blt k n = true ∧ l k = false
structure B1Run (n m k : Nat) (l : Nat → Bool) (g : Nat → Int) (r : Option (Out × LS Empty)) : Prop where
  eq : r = exec Try.prog (SB true true (inL n l)) 40 21 [0, 0, 1, 0, 1, 1] (codeAt Try.prog 21 [0, 0, 1, 0, 1, 1]) (jB n m k g)
  out : outO r = some .normal
  len : (outS r).tmps.length = 31
  t0 : (outS r).tmps[0]? = some (.vec (.inp 0 0) n)
  t3 : (outS r).tmps[3]? = some (.vec (.own 0) m)
  t4 : (outS r).tmps[4]? = some (.int .i64 (IntKind.i64.wrap ((k : Int) + 1)))
  b0 : at? (inL n l) (outS r).mem (.own 0) = some ⟨.row 5, [.rows m 1 fun j => [.int .u8 (bif Nat.beq j (byteI k) then bits .or .u8 (g (byteI k)) (IntKind.u8.wrap (1 * 2 ^ min (Int.tmod (k : Int) 8).toNat 8)) else g j)]]⟩
  cs : allC (outS r).conds = some (cB1 n m k l)
set_option maxRecDepth 100000 in
theorem b1Run (n m k : Nat) (l : Nat → Bool) (g : Nat → Int) : ∃ r, B1Run n m k l g r :=
  ⟨_, { eq := rfl, out := by kernel_rfl, len := by kernel_rfl, t0 := by kernel_rfl, t3 := by kernel_rfl, t4 := by kernel_rfl, b0 := by kernel_rfl, cs := by kernel_rfl }⟩
structure B0Run (n m k : Nat) (l : Nat → Bool) (g : Nat → Int) (r : Option (Out × LS Empty)) : Prop where
  eq : r = exec Try.prog (SB true false (inL n l)) 40 21 [0, 0, 1, 0, 1, 1] (codeAt Try.prog 21 [0, 0, 1, 0, 1, 1]) (jB n m k g)
  out : outO r = some .normal
  len : (outS r).tmps.length = 31
  t0 : (outS r).tmps[0]? = some (.vec (.inp 0 0) n)
  t3 : (outS r).tmps[3]? = some (.vec (.own 0) m)
  t4 : (outS r).tmps[4]? = some (.int .i64 (IntKind.i64.wrap ((k : Int) + 1)))
  b0 : at? (inL n l) (outS r).mem (.own 0) = some ⟨.row 5, bytesU m g⟩
  cs : allC (outS r).conds = some (cB0 n k l)
set_option maxRecDepth 100000 in
theorem b0Run (n m k : Nat) (l : Nat → Bool) (g : Nat → Int) : ∃ r, B0Run n m k l g r :=
  ⟨_, { eq := rfl, out := by kernel_rfl, len := by kernel_rfl, t0 := by kernel_rfl, t3 := by kernel_rfl, t4 := by kernel_rfl, b0 := by kernel_rfl, cs := by kernel_rfl }⟩
set_option maxRecDepth 100000 in
theorem b_step (n m k : Nat) (l : Nat → Bool) (hk : k < n) (hn : n ≤ 2 ^ 50) (hm : n ≤ 8 * m) :
    ExB 1 Try.prog (inL n l) (codeAt Try.prog 21 [0, 0, 1, 0, 1, 1]) (jB n m k (packB l k)) .normal (jB n m (k + 1) (packB l (k + 1))) := by
  have e1 := byteI_eq (k := k) (by omega)
  have e2 : byteI k = k / 8 := by unfold byteI; rw [e1]; omega
  have e3 := tmod8 k
  cases hl : l k with
  | true =>
    obtain ⟨r, hr⟩ := b1Run n m k l (packB l k)
    have hc : condOk (allC (outS r).conds) := by
      rw [hr.cs]
      refine ⟨decide_eq_true (by omega), ⟨decide_eq_true (by omega), ltB hk, hl⟩, decide_eq_true (by rw [e1]; omega), ltB (by rw [e2]; omega), decide_eq_true (by rw [e3]; omega), decide_eq_true (by rw [e1]; omega), ltB (by rw [e2]; omega), ?_⟩
      rw [Nat.beq_refl]; rfl
    refine ExB.toldB (inL_ok n l) 1 (Ex.of_run (SB_ok true true (inL_ok n l)) rfl mixed hr.eq hr.out hc) [some (.own 0)] hr.len ?_ ?_ rfl rfl rfl
    · refine ⟨⟨hr.t0, by simp [LV.fit, ownK, there]⟩, ⟨hr.t3, by simp [LV.fit, ownK, σL, there]⟩, ⟨hr.t4.trans ?_, trivial⟩, trivial⟩
      rw [IntWalk.i64_in _ (by omega)]
      rfl
    · refine ⟨BlkFit.rows rfl hr.b0 rfl rfl (fun i => ⟨trivial, trivial⟩) fun i hi => Same.int ?_, trivial⟩
      rw [e2, e3]
      simp only [packB, hl, true_and]
      by_cases hik : i = k / 8
      · subst hik
        rw [Nat.beq_refl, if_pos rfl]
        simp only [cond_true, bitW]
        congr 4
      · rw [if_neg hik]
        cases hb : Nat.beq i (k / 8) with
        | true => exact absurd (beqN hb) hik
        | false => rfl
  | false =>
    obtain ⟨r, hr⟩ := b0Run n m k l (packB l k)
    have hc : condOk (allC (outS r).conds) := by
      rw [hr.cs]
      exact ⟨decide_eq_true (by omega), decide_eq_true (by omega), ltB hk, hl⟩
    refine ExB.toldB (inL_ok n l) 1 (Ex.of_run (SB_ok true false (inL_ok n l)) rfl mixed hr.eq hr.out hc) [some (.own 0)] hr.len ?_ ?_ rfl rfl rfl
    · refine ⟨⟨hr.t0, by simp [LV.fit, ownK, there]⟩, ⟨hr.t3, by simp [LV.fit, ownK, σL, there]⟩, ⟨hr.t4.trans ?_, trivial⟩, trivial⟩
      rw [IntWalk.i64_in _ (by omega)]
      rfl
    · refine ⟨BlkFit.rows rfl hr.b0 rfl rfl (fun i => ⟨trivial, trivial⟩) fun i hi => Same.int ?_, trivial⟩
      simp [packB, hl]
structure BEnd (n m k : Nat) (l : Nat → Bool) (g : Nat → Int) (r : Option (Out × LS Empty)) : Prop where
  eq : r = exec Try.prog (SB false false (inL n l)) 40 21 [0, 0, 1, 0, 1, 1] (codeAt Try.prog 21 [0, 0, 1, 0, 1, 1]) (jB n m k g)
  out : outO r = some (.exit 0)
  len : (outS r).tmps.length = 31
  t3 : (outS r).tmps[3]? = some (.vec (.own 0) m)
  b0 : at? (inL n l) (outS r).mem (.own 0) = some ⟨.row 5, bytesU m g⟩
  cs : allC (outS r).conds = some (decide ((k : Int) < (n : Int)) = false)
set_option maxRecDepth 100000 in
theorem bEnd (n m k : Nat) (l : Nat → Bool) (g : Nat → Int) : ∃ r, BEnd n m k l g r :=
  ⟨_, { eq := rfl, out := by kernel_rfl, len := by kernel_rfl, t3 := by kernel_rfl, b0 := by kernel_rfl, cs := by kernel_rfl }⟩
noncomputable def bT (n m : Nat) (l : Nat → Bool) : LS Empty := ⟨tm 31 [(3, .vec (.own 0) m)], [some ⟨.row 5, bytesU m (packB l n)⟩], []⟩
set_option maxRecDepth 100000 in
theorem b_end (n m : Nat) (l : Nat → Bool) : ExB 1 Try.prog (inL n l) (codeAt Try.prog 21 [0, 0, 1, 0, 1, 1]) (jB n m n (packB l n)) (.exit 0) (bT n m l) := by
  obtain ⟨r, hr⟩ := bEnd n m n l (packB l n)
  have hc : condOk (allC (outS r).conds) := by
    rw [hr.cs]
    exact decide_eq_false (by omega)
  refine ExB.toldB (inL_ok n l) 1 (Ex.of_run (SB_ok false false (inL_ok n l)) rfl mixed hr.eq hr.out hc) [some (.own 0)] hr.len ?_ ?_ rfl rfl rfl
  · exact ⟨⟨hr.t3, by simp [LV.fit, ownK, σL, there]⟩, trivial⟩
  · exact ⟨BlkFit.rows rfl hr.b0 rfl rfl (fun i => ⟨trivial, trivial⟩) fun i hi => Same.refl _, trivial⟩
/-- How many bytes. -/
abbrev lenB (n : Nat) : Int := IntKind.i64.wrap (Int.tdiv (IntKind.i64.wrap ((n : Int) + 7)) 8)
def bytesN (n : Nat) : Nat := (n + 7) / 8
theorem lenB_eq {n : Nat} (h : n ≤ 2 ^ 50) : lenB n = (bytesN n : Int) := by
  unfold lenB bytesN
  rw [IntWalk.i64_in ((n : Int) + 7) (by omega)]
  have e : Int.tdiv ((n : Int) + 7) 8 = (((n + 7) / 8 : Nat) : Int) := by
    rw [Int.tdiv_eq_ediv_of_nonneg (by omega)]; omega
  rw [e, IntWalk.i64_in _ (by omega)]
noncomputable def bS (n : Nat) : LS Empty := ⟨.vec (.inp 0 0) n :: .undef :: .nils :: .vec (.own 0) (lenB n).toNat :: .int .i64 0 :: .vec (.inp 0 0) n :: .int .i64 n :: .int .i64 (IntKind.i64.wrap ((n : Int) + 7)) :: .int .i64 (lenB n) :: .vec (.own 0) (lenB n).toNat :: List.replicate 21 .undef, [some ⟨.row 5, [.rows (lenB n).toNat 1 fun _ => [.int .u8 0]]⟩], []⟩
set_option maxRecDepth 100000 in
theorem b_code : codeAt Try.prog 21 [0, 1, 0, 1, 1] = .loop (codeAt Try.prog 21 [0, 0, 1, 0, 1, 1]) := by kernel_rfl
theorem b_loop (n : Nat) (l : Nat → Bool) (hn : n ≤ 2 ^ 50) : Ex Try.prog (inL n l) (codeAt Try.prog 21 [0, 1, 0, 1, 1]) (bS n) (.exit 0) (bT n (lenB n).toNat l) := by
  have e : (lenB n).toNat = bytesN n := by rw [lenB_eq hn]; omega
  rw [b_code]
  refine ExB.toExB (ExB.fromB (inL_ok n l) (ExB.loop (by simp) (fun k => jB n (lenB n).toNat k (packB l k)) n (fun k hk => b_step n _ k l hk hn (by rw [e]; unfold bytesN; omega)) (b_end n _ l)) [some (.own 0)] rfl ?_ ?_ rfl rfl rfl) (Nat.le_refl 1)
  · exact ⟨⟨rfl, by simp [LV.fit, ownK, there]⟩, ⟨rfl, by simp [LV.fit, ownK, σL, there]⟩, ⟨rfl, trivial⟩, trivial⟩
  · exact ⟨BlkFit.rows (k := .own 0) rfl rfl rfl rfl (fun i => ⟨trivial, trivial⟩) fun i hi => Same.refl _, trivial⟩
noncomputable def bL (n : Nat) (l : Nat → Bool) (hn : n ≤ 2 ^ 50) : LoopF Try.prog (inL n l) where
  f := 21
  p := [0, 1, 0, 1, 1]
  s := bS n
  o := .exit 0
  t := bT n (lenB n).toNat l
  len := rfl
  grow := ⟨Nat.le_refl 1, fun k h => by
    have : k = 0 := by have : k < 1 := h; omega
    subst this
    exact ⟨fun _ => ⟨_, rfl⟩, fun _ => ⟨_, rfl⟩⟩⟩
  ex := b_loop n l hn
noncomputable abbrev SBL (n : Nat) (l : Nat → Bool) (hn : n ≤ 2 ^ 50) : Sig Empty := sigOf (P := Try.prog) [] [] [] (I := inL n l) [bL n l hn] noMs (advL true true)
def cBS (n : Nat) : Prop := decide (lenB n = lenB n ∧ (0 : Int) ≤ lenB n ∧ ((1 : Nat) : Int) * lenB n ≤ 2 ^ 48) = true ∧ (bS n).tmps = (bS n).tmps ∧ (bS n).mem = (bS n).mem
set_option maxRecDepth 100000 in
theorem b_run (n : Nat) (l : Nat → Bool) (hn : n ≤ 2 ^ 50) : callF Try.prog (SBL n l hn) 40 21 [.vec (.inp 0 0) n] [] = some (.vec (.own 0) (lenB n).toNat, [⟨.row 5, bytesU (lenB n).toNat (packB l n)⟩].map some, some (cBS n)) := by kernel_rfl
theorem bits_told (n : Nat) (l : Nat → Bool) (hn : n ≤ 2 ^ 50) : Told Try.prog 21 [boolsU n l] [.vec (.inp 0 0) n] (.vec (.own 0) (bytesN n)) [⟨.row 5, bytesU (bytesN n) (packB l n)⟩] := by
  have h1 := lenB_eq hn
  have e : (lenB n).toNat = bytesN n := by rw [h1]; omega
  have := told_of (sigOf_ok [] [] [] _ (noMs_ok _) _ (inL_ok n l)) mixed rfl (b_run n l hn) ⟨decide_eq_true (by rw [h1]; unfold bytesN; omega), rfl, rfl⟩
  rw [e] at this
  exact this
set_option maxRecDepth 100000 in
theorem ent21 : ∀ args w, (callFunc 21 args).run Try.prog w = .ok (.enter 21 args) w := ent_of (f := 21) (P := Try.prog) rfl rfl rfl
/-- Bits as bytes, the document's. -/
noncomputable def conBitsR : ConC Try.prog Empty := conRd 21 ent21 (rd1 boolS (fun n _ => .vec (.own 0) (bytesN n)) (fun n l => [⟨.row 5, bytesU (bytesN n) (packB l n)⟩]) fun n _ => n ≤ 2 ^ 50)
  (rd1_ok (fun n l h => bits_told n l h) fun n l => Fresh'.vec (bytes_plain _ _) rfl)
end Go.Proofs.Ytjhjockdkpgpeaa.En
