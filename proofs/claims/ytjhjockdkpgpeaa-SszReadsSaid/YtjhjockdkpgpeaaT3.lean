/- DERIVED. Chunks held against each other; bytes held against each other; a number's chunk. -/
import Derived.Test.YtjhjockdkpgpeaaT2
set_option linter.all false
namespace Go.Proofs.Ytjhjockdkpgpeaa.En
open Go Go.RowKit

def advQ (b : Bool) : Adv where
  il _ := true
  dec f r i := match f, r, i with
    | 28, 1, 4 => some false
    | 28, 4, 3 => some b
    | 28, 6, 8 => some false
    | 23, 1, 4 => some true
    | _, _, _ => none
  rc f r i := match f, r, i with
    | 28, 6, 2 => true
    | 28, 6, 3 => true
    | 28, 6, 6 => true
    | 28, 6, 7 => true
    | 23, 1, 1 => true
    | 23, 1, 3 => true
    | _, _, _ => false
  fz _ _ := false
  res _ _ := 1
noncomputable abbrev SQ (b : Bool) (I : Inp Empty) : Sig Empty := sigOf (P := Try.prog) [] [] [] (I := I) [] noMs (advQ b)
theorem SQ_ok (b : Bool) {I : Inp Empty} (hI : InpOk I) : SigOk Try.prog (SQ b I) := sigOf_ok [] [] [] [] (noMs_ok _) _ hI
noncomputable abbrev rootsU (n : Nat) (g : Nat → Nat → Int) : List (LV Empty) := (arrS .u8 32).us n g
noncomputable abbrev inQ (n : Nat) (g : Nat → Nat → Int) (m : Nat) (h : Nat → Nat → Int) : Inp Empty := inOf [rootsU n g, rootsU m h]
theorem inQ_ok (n : Nat) (g : Nat → Nat → Int) (m : Nat) (h : Nat → Nat → Int) : InpOk (inQ n g m h) := inOf_ok fun l hl => by
  rcases List.mem_cons.1 hl with rfl | hl
  · exact Elt.plain_us _ _ _
  · rw [List.mem_singleton] at hl
    subst hl
    exact Elt.plain_us _ _ _
noncomputable def jQ (n m k : Nat) : LS Empty :=
  ⟨tm 26 [(0, .vec (.inp 0 0) n), (1, .vec (.inp 0 1) m), (5, .int .i64 k)], [], []⟩
def eqRow (f g : Nat → Int) : Nat → Nat → Bool
  | 0, _ => true
  | n + 1, i => f i == g i && eqRow f g n (i + 1)
theorem eqRow_ok {f g : Nat → Int} : ∀ (n i : Nat), (∀ j, i ≤ j → j < i + n → f j = g j) → eqRow f g n i = true
  | 0, _, _ => rfl
  | n + 1, i, h => by
    simp only [eqRow, h i (Nat.le_refl _) (by omega), beq_self_eq_true, Bool.true_and]
    exact eqRow_ok n (i + 1) fun j h1 h2 => h j (by omega) (by omega)
def cQ (n m k : Nat) (g h : Nat → Nat → Int) : Prop :=
  decide ((k : Int) < (n : Int)) = true ∧ decide ((0 : Int) ≤ (k : Int) ∧ (k : Int) < (n : Int)) = true ∧ Nat.blt k n = true ∧ decide ((0 : Int) ≤ (k : Int) ∧ (k : Int) < (m : Int)) = true ∧ Nat.blt k m = true ∧ (!(eqRow (g k) (h k) 32 0)) = false
structure QRun (n m k : Nat) (g h : Nat → Nat → Int) (r : Option (Out × LS Empty)) : Prop where
  eq : r = exec Try.prog (SQ true (inQ n g m h)) 40 28 [0, 0, 1, 0, 1, 1] (codeAt Try.prog 28 [0, 0, 1, 0, 1, 1]) (jQ n m k)
  out : outO r = some .normal
  len : (outS r).tmps.length = 26
  t0 : (outS r).tmps[0]? = some (.vec (.inp 0 0) n)
  t1 : (outS r).tmps[1]? = some (.vec (.inp 0 1) m)
  t5 : (outS r).tmps[5]? = some (.int .i64 (IntKind.i64.wrap ((k : Int) + 1)))
  cs : allC (outS r).conds = some (cQ n m k g h)
set_option maxRecDepth 100000 in
theorem qRun (n m k : Nat) (g h : Nat → Nat → Int) : ∃ r, QRun n m k g h r :=
  ⟨_, { eq := rfl, out := by kernel_rfl, len := by kernel_rfl, t0 := by kernel_rfl, t1 := by kernel_rfl, t5 := by kernel_rfl, cs := by kernel_rfl }⟩
/-- Where they are the same. -/
def sameQ (n : Nat) (g : Nat → Nat → Int) (m : Nat) (h : Nat → Nat → Int) : Prop := n = m ∧ n ≤ 2 ^ 46 ∧ ∀ i, i < n → ∀ j, j < 32 → g i j = h i j
set_option maxRecDepth 100000 in
theorem q_step {n m : Nat} {g h : Nat → Nat → Int} (hs : sameQ n g m h) (k : Nat) (hk : k < n) :
    ExB 0 Try.prog (inQ n g m h) (codeAt Try.prog 28 [0, 0, 1, 0, 1, 1]) (jQ n m k) .normal (jQ n m (k + 1)) := by
  obtain ⟨r, hr⟩ := qRun n m k g h
  obtain ⟨h1, h2, h3⟩ := hs
  have hc : condOk (allC (outS r).conds) := by
    rw [hr.cs]
    refine ⟨decide_eq_true (by omega), decide_eq_true (by omega), ltB hk, decide_eq_true (by omega), ltB (by omega), ?_⟩
    rw [eqRow_ok 32 0 fun j _ hj => h3 k hk j (by omega)]
    rfl
  refine ExB.told (inQ_ok n g m h) (Ex.of_run (SQ_ok true (inQ_ok n g m h)) rfl mixed hr.eq hr.out hc) [] hr.len ?_ ?_ rfl rfl
  · refine ⟨⟨hr.t0, by simp [LV.fit, ownK, there]⟩, ⟨hr.t1, by simp [LV.fit, ownK, there]⟩, ⟨hr.t5.trans ?_, trivial⟩, trivial⟩
    rw [IntWalk.i64_in _ (by omega)]
    rfl
  · trivial
structure QEnd (n m k : Nat) (g h : Nat → Nat → Int) (r : Option (Out × LS Empty)) : Prop where
  eq : r = exec Try.prog (SQ false (inQ n g m h)) 40 28 [0, 0, 1, 0, 1, 1] (codeAt Try.prog 28 [0, 0, 1, 0, 1, 1]) (jQ n m k)
  out : outO r = some (.exit 0)
  len : (outS r).tmps.length = 26
  cs : allC (outS r).conds = some (decide ((k : Int) < (n : Int)) = false)
set_option maxRecDepth 100000 in
theorem qEnd (n m k : Nat) (g h : Nat → Nat → Int) : ∃ r, QEnd n m k g h r :=
  ⟨_, { eq := rfl, out := by kernel_rfl, len := by kernel_rfl, cs := by kernel_rfl }⟩
noncomputable def qT : LS Empty := ⟨tm 26 [], [], []⟩
set_option maxRecDepth 100000 in
theorem q_end (n m : Nat) (g h : Nat → Nat → Int) : ExB 0 Try.prog (inQ n g m h) (codeAt Try.prog 28 [0, 0, 1, 0, 1, 1]) (jQ n m n) (.exit 0) qT := by
  obtain ⟨r, hr⟩ := qEnd n m n g h
  have hc : condOk (allC (outS r).conds) := by
    rw [hr.cs]
    exact decide_eq_false (by omega)
  exact ExB.told (inQ_ok n g m h) (Ex.of_run (SQ_ok false (inQ_ok n g m h)) rfl mixed hr.eq hr.out hc) [] hr.len trivial trivial rfl rfl
noncomputable def qS (n m : Nat) : LS Empty := ⟨.vec (.inp 0 0) n :: .vec (.inp 0 1) m :: .undef :: .undef :: .bool false :: .int .i64 0 :: .vec (.inp 0 0) n :: .int .i64 n :: .vec (.inp 0 1) m :: .int .i64 m :: .bool false :: List.replicate 15 .undef, [], []⟩
set_option maxRecDepth 100000 in
theorem q_code : codeAt Try.prog 28 [0, 1, 0, 1, 1] = .loop (codeAt Try.prog 28 [0, 0, 1, 0, 1, 1]) := by kernel_rfl
theorem q_loop {n m : Nat} {g h : Nat → Nat → Int} (hs : sameQ n g m h) : Ex Try.prog (inQ n g m h) (codeAt Try.prog 28 [0, 1, 0, 1, 1]) (qS n m) (.exit 0) qT := by
  rw [q_code]
  refine ExB.toEx0 (ExB.from (inQ_ok n g m h) (ExB.loop (by simp) (fun k => jQ n m k) n (fun k hk => q_step hs k hk) (q_end n m g h)) [] rfl ?_ ?_ rfl rfl) rfl
  · exact ⟨⟨rfl, by simp [LV.fit, ownK, there]⟩, ⟨rfl, by simp [LV.fit, ownK, there]⟩, ⟨rfl, trivial⟩, trivial⟩
  · trivial
noncomputable def qL {n m : Nat} {g h : Nat → Nat → Int} (hs : sameQ n g m h) : LoopF Try.prog (inQ n g m h) where
  f := 28
  p := [0, 1, 0, 1, 1]
  s := qS n m
  o := .exit 0
  t := qT
  len := rfl
  grow := ⟨Nat.zero_le _, fun k h => absurd h (Nat.not_lt_zero k)⟩
  ex := q_loop hs
noncomputable abbrev SQL {n m : Nat} {g h : Nat → Nat → Int} (hs : sameQ n g m h) : Sig Empty := sigOf (P := Try.prog) [] [] [] (I := inQ n g m h) [qL hs] noMs (advQ true)
set_option maxRecDepth 100000 in
theorem q_run {n m : Nat} {g h : Nat → Nat → Int} (hs : sameQ n g m h) : callF Try.prog (SQL hs) 40 28 [.vec (.inp 0 0) n, .vec (.inp 0 1) m] [] = some (.bool true, [].map some, some ((!((n : Int) == (m : Int))) = false ∧ (qS n m).tmps = (qS n m).tmps ∧ (qS n m).mem = (qS n m).mem)) := by kernel_rfl
theorem q_told {n m : Nat} {g h : Nat → Nat → Int} (hs : sameQ n g m h) : Told Try.prog 28 [rootsU n g, rootsU m h] [.vec (.inp 0 0) n, .vec (.inp 0 1) m] (.bool true) [] :=
  told_of (sigOf_ok [] [] [] _ (noMs_ok _) _ (inQ_ok n g m h)) mixed rfl (q_run hs) ⟨by rw [hs.1]; simp, rfl, rfl⟩
set_option maxRecDepth 100000 in
theorem ent28 : ∀ args w, (callFunc 28 args).run Try.prog w = .ok (.enter 28 args) w := ent_of (f := 28) (P := Try.prog) rfl rfl rfl
/-- Chunks that are the same. -/
noncomputable def conRoots : ConC Try.prog Empty := conRd 28 ent28 (rd2 (arrS .u8 32) (arrS .u8 32) (fun _ _ _ _ => .bool true) (fun _ _ _ _ => []) sameQ)
  (rd2_ok (fun n g m h hs => q_told hs) fun _ _ _ _ => Fresh'.plain trivial)

end Go.Proofs.Ytjhjockdkpgpeaa.En
