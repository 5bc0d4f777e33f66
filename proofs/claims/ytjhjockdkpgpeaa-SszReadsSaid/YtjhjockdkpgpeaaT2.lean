/- DERIVED. Bytes in chunks: the document's way. -/
import Derived.Test.YtjhjockdkpgpeaaVSP
import Derived.Test.YtjhjockdkpgpeaaT1
import Derived.IntWalk
set_option linter.all false
namespace Go.Proofs.Ytjhjockdkpgpeaa.En
open Go Go.RowKit

def advR (b : Bool) : Adv where
  il _ := true
  dec f r i := match f, r, i with
    | 30, 3, 3 => some b
    | 28, 4, 3 => some b
    | _, _, _ => none
  rc f r i := match f, r, i with
    | 30, 6, 8 => true
    | 30, 6, 9 => true
    | 30, 7, 3 => true
    | _, _, _ => false
  fz _ _ := false
  res _ _ := 1
noncomputable abbrev SR (b : Bool) (I : Inp Empty) : Sig Empty := sigOf (P := Try.prog) [] [] [] (I := I) [] noMs (advR b)
theorem SR_ok (b : Bool) {I : Inp Empty} (hI : InpOk I) : SigOk Try.prog (SR b I) := sigOf_ok [] [] [] [] (noMs_ok _) _ hI

abbrev zeros32 : List (List (LV Empty)) := List.replicate 32 [LV.int .u8 0]
def jR (n k : Nat) (h : Nat → Nat → Int) : LS Empty :=
  ⟨tm 27 [(0, .vec (.inp 0 0) n), (3, .vec (.own 0) k), (4, .int .i64 (32 * (k : Int)))], [some ⟨.row 50, [.rows k 32 fun i => bytesU 32 (h i)]⟩], []⟩
abbrev topR (n k : Nat) : Int := if (n : Int) < IntKind.i64.wrap (32 * (k : Int) + 32) then (n : Int) else IntKind.i64.wrap (32 * (k : Int) + 32)
abbrev lenR (n k : Nat) : Nat := (topR n k).toNat - (32 * (k : Int)).toNat
def cR (n k : Nat) : Prop :=
  decide (32 * (k : Int) < (n : Int)) = true ∧ ((decide ((0 : Int) ≤ 32 * (k : Int) ∧ 32 * (k : Int) ≤ topR n k ∧ topR n k ≤ (n : Int) ∧ (n : Int) ≤ (n : Int)) = true ∧ Nat.ble n n = true) ∧
    ((Nat.ble (lenR n k) (lenR n k) = true ∧ Nat.ble (Nat.min (lenR n k) 32) 32 = true) ∧ true = true)) ∧ Nat.ble 1 1 = true ∧ (Nat.beq k k && Nat.ble ((k + 1) * 32) (2 ^ 47)) = true
structure RRun (n k : Nat) (g : Nat → Int) (h : Nat → Nat → Int) (r : Option (Out × LS Empty)) : Prop where
  eq : r = exec Try.prog (SR true (inB n g)) 40 30 [0, 0, 1, 0, 1, 1] (codeAt Try.prog 30 [0, 0, 1, 0, 1, 1]) (jR n k h)
  out : outO r = some .normal
  len : (outS r).tmps.length = 27
  t0 : (outS r).tmps[0]? = some (.vec (.inp 0 0) n)
  t3 : (outS r).tmps[3]? = some (.vec (.own 13) (k + 1))
  t4 : (outS r).tmps[4]? = some (.int .i64 (IntKind.i64.wrap (32 * (k : Int) + 32)))
  b15 : at? (inB n g) (outS r).mem (.own 13) = some ⟨.row 50, [.rows (k + 1) 32 fun j => mrgR (Nat.blt j k) (bytesU 32 (h j)) ([[LV.rows 32 1 fun i => mrgR (Nat.blt i (Nat.min (lenR n k) 32)) [.int .u8 (g ((32 * (k : Int)).toNat + i))] (zeros32.getD i [])]].getD (j - k) [])]⟩
  cs : allC (outS r).conds = some (cR n k)
set_option maxRecDepth 100000 in
theorem rRun (n k : Nat) (g : Nat → Int) (h : Nat → Nat → Int) : ∃ r, RRun n k g h r :=
  ⟨_, { eq := rfl, out := by kernel_rfl, len := by kernel_rfl, t0 := by kernel_rfl, t3 := by kernel_rfl, t4 := by kernel_rfl, b15 := by kernel_rfl, cs := by kernel_rfl }⟩

theorem topR_eq (n k : Nat) (hk : k ≤ 2 ^ 46) : topR n k = min (n : Int) (32 * (k : Int) + 32) := by
  have e : IntKind.i64.wrap (32 * (k : Int) + 32) = 32 * (k : Int) + 32 := IntWalk.i64_in _ (by omega)
  unfold topR
  rw [e]
  split <;> omega
theorem lenR_eq (n k : Nat) (hk : k ≤ 2 ^ 46) : lenR n k = min n (32 * k + 32) - 32 * k := by
  unfold lenR
  rw [topR_eq n k hk]
  omega

set_option maxRecDepth 100000 in
theorem ref_step (n k : Nat) (g : Nat → Int) (hk : k < chunksN n) (hn : n ≤ 2 ^ 46) :
    ExB 0 Try.prog (inB n g) (codeAt Try.prog 30 [0, 0, 1, 0, 1, 1]) (jR n k (chunkB n g)) .normal (jR n (k + 1) (chunkB n g)) := by
  obtain ⟨r, hr⟩ := rRun n k g (chunkB n g)
  have hk' : k ≤ 2 ^ 46 := by unfold chunksN at hk; omega
  have hkn : 32 * k < n := by unfold chunksN at hk; omega
  have hl := lenR_eq n k hk'
  have hc : condOk (allC (outS r).conds) := by
    rw [hr.cs]
    refine ⟨decide_eq_true (by omega), ⟨⟨decide_eq_true ?_, leB (Nat.le_refl _)⟩, ⟨leB (Nat.le_refl _), leB (Nat.min_le_right _ _)⟩, rfl⟩, rfl, ?_⟩
    · rw [topR_eq n k hk']; omega
    · rw [Nat.beq_refl, leB (by unfold chunksN at hk; omega)]; rfl
  refine ExB.told (inB_ok n g) (Ex.of_run (SR_ok true (inB_ok n g)) rfl mixed hr.eq hr.out hc) [some (.own 13)] hr.len ?_ ?_ rfl rfl
  · refine ⟨⟨hr.t0, by simp [LV.fit, ownK, there]⟩, ⟨hr.t3, by simp [LV.fit, ownK, σL, there]⟩, ⟨hr.t4.trans ?_, trivial⟩, trivial⟩
    rw [IntWalk.i64_in _ (by omega)]
    simp only [LV.ren]
    congr 2
  · refine ⟨BlkFit.rows rfl hr.b15 rfl rfl (fun i => ⟨fun j => ⟨trivial, trivial⟩, trivial⟩) fun i hi => ?_, trivial⟩
    refine Same.lt (fun _ => Same.refl _) fun hik => ?_
    have e : i - k = 0 := by omega
    have e' : i = k := by omega
    subst e'
    rw [e]
    refine Same.rows rfl fun j hj => ?_
    refine Same.lt (fun hjm => Same.int ?_) fun hjm => Same.getD hj (Same.int ?_)
    · have := Nat.lt_min.1 hjm
      unfold chunkB
      rw [if_pos (by omega)]
      congr 1
    · unfold chunkB
      rw [if_neg (fun hh => hjm (Nat.lt_min.2 ⟨by omega, hj⟩))]

structure REnd (n k : Nat) (g : Nat → Int) (h : Nat → Nat → Int) (r : Option (Out × LS Empty)) : Prop where
  eq : r = exec Try.prog (SR false (inB n g)) 40 30 [0, 0, 1, 0, 1, 1] (codeAt Try.prog 30 [0, 0, 1, 0, 1, 1]) (jR n k h)
  out : outO r = some (.exit 0)
  len : (outS r).tmps.length = 27
  t3 : (outS r).tmps[3]? = some (.vec (.own 0) k)
  b0 : at? (inB n g) (outS r).mem (.own 0) = some ⟨.row 50, [.rows k 32 fun i => bytesU 32 (h i)]⟩
  cs : allC (outS r).conds = some (decide (32 * (k : Int) < (n : Int)) = false)
set_option maxRecDepth 100000 in
theorem rEnd (n k : Nat) (g : Nat → Int) (h : Nat → Nat → Int) : ∃ r, REnd n k g h r :=
  ⟨_, { eq := rfl, out := by kernel_rfl, len := by kernel_rfl, t3 := by kernel_rfl, b0 := by kernel_rfl, cs := by kernel_rfl }⟩
def refT (n : Nat) (f : Nat → Int) : LS Empty := ⟨tm 27 [(3, .vec (.own 0) (chunksN n))], [some ⟨.row 50, chunksU n f⟩], []⟩
set_option maxRecDepth 100000 in
theorem ref_end (n : Nat) (g : Nat → Int) :
    ExB 0 Try.prog (inB n g) (codeAt Try.prog 30 [0, 0, 1, 0, 1, 1]) (jR n (chunksN n) (chunkB n g)) (.exit 0) (refT n g) := by
  obtain ⟨r, hr⟩ := rEnd n (chunksN n) g (chunkB n g)
  have hc : condOk (allC (outS r).conds) := by
    rw [hr.cs]
    exact decide_eq_false (by unfold chunksN; omega)
  refine ExB.told (inB_ok n g) (Ex.of_run (SR_ok false (inB_ok n g)) rfl mixed hr.eq hr.out hc) [some (.own 0)] hr.len ?_ ?_ rfl rfl
  · exact ⟨⟨hr.t3, by simp [LV.fit, ownK, σL, there]⟩, trivial⟩
  · exact ⟨BlkFit.rows rfl hr.b0 rfl rfl (fun i => ⟨fun j => ⟨trivial, trivial⟩, trivial⟩) fun i hi => Same.refl _, trivial⟩

def refS (n : Nat) : LS Empty := ⟨.vec (.inp 0 0) n :: .undef :: .nils :: .nils :: .int .i64 0 :: List.replicate 22 .undef, [], []⟩
set_option maxRecDepth 100000 in
theorem ref_code : codeAt Try.prog 30 [0, 1, 0, 1, 1] = .loop (codeAt Try.prog 30 [0, 0, 1, 0, 1, 1]) := by kernel_rfl
theorem ref_loop (n : Nat) (f : Nat → Int) (hn : n ≤ 2 ^ 46) : Ex Try.prog (inB n f) (codeAt Try.prog 30 [0, 1, 0, 1, 1]) (refS n) (.exit 0) (refT n f) := by
  rw [ref_code]
  refine ExB.toEx0 (ExB.from (inB_ok n f) (ExB.loop (by simp) (fun k => jR n k (chunkB n f)) (chunksN n) (fun k hk => ref_step n k f hk hn) (ref_end n f)) [none] rfl ?_ ?_ rfl rfl) rfl
  · exact ⟨⟨rfl, by simp [LV.fit, ownK, there]⟩, ⟨rfl, by simp [LV.fit, ownK, σL, there]⟩, ⟨rfl, trivial⟩, trivial⟩
  · exact ⟨BlkFit.nil rfl (fun i => ⟨fun j => ⟨trivial, trivial⟩, trivial⟩), trivial⟩
def refL (n : Nat) (f : Nat → Int) (hn : n ≤ 2 ^ 46) : LoopF Try.prog (inB n f) where
  f := 30
  p := [0, 1, 0, 1, 1]
  s := refS n
  o := .exit 0
  t := refT n f
  len := rfl
  grow := ⟨Nat.zero_le _, fun k h => absurd h (Nat.not_lt_zero k)⟩
  ex := ref_loop n f hn
noncomputable abbrev SRL (n : Nat) (f : Nat → Int) (hn : n ≤ 2 ^ 46) : Sig Empty := sigOf (P := Try.prog) [] [] [] (I := inB n f) [refL n f hn] noMs (advR true)
set_option maxRecDepth 100000 in
theorem ref_run (n : Nat) (f : Nat → Int) (hn : n ≤ 2 ^ 46) : callF Try.prog (SRL n f hn) 40 30 [.vec (.inp 0 0) n] [] = some (.vec (.own 0) (chunksN n), [⟨.row 50, chunksU n f⟩].map some, some ((refS n).tmps = (refS n).tmps ∧ (refS n).mem = (refS n).mem)) := by kernel_rfl
theorem ref_told (n : Nat) (f : Nat → Int) (hn : n ≤ 2 ^ 46) : Told Try.prog 30 [bytesU n f] [.vec (.inp 0 0) n] (.vec (.own 0) (chunksN n)) [⟨.row 50, chunksU n f⟩] :=
  told_of (sigOf_ok [] [] [] _ (noMs_ok _) _ (inB_ok n f)) mixed rfl (ref_run n f hn) ⟨rfl, rfl⟩
set_option maxRecDepth 100000 in
theorem ent30 : ∀ args w, (callFunc 30 args).run Try.prog w = .ok (.enter 30 args) w := ent_of (f := 30) (P := Try.prog) rfl rfl rfl
/-- Bytes in chunks, the document's. -/
noncomputable def conPackR : ConC Try.prog Empty := conRd 30 ent30 (rd1 (intS .u8) (fun n _ => .vec (.own 0) (chunksN n)) (fun n f => [⟨.row 50, chunksU n f⟩]) fun n _ => n ≤ 2 ^ 46)
  (rd1_ok (fun n f h => ref_told n f h) fun n f => Fresh'.vec (chunks_plain n f) rfl)
end Go.Proofs.Ytjhjockdkpgpeaa.En
