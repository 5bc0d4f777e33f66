/- DERIVED. Bits that are read. -/
import Derived.Test.YtjhjockdkpgpeaaT9
import Derived.Test.YtjhjockdkpgpeaaT5
import Derived.Test.YtjhjockdkpgpeaaVSU
set_option linter.all false
namespace Go.Proofs.Ytjhjockdkpgpeaa.En
open Go Go.RowKit

/-- The round's advice: is the end reached, is the bit wanted, is it set. -/
def advA (c d e : Bool) : Adv where
  il _ := true
  dec f r i := match f, r, i with
    | 26, 2, 7 => some false
    | 26, 11, 4 => some c
    | 26, 12, 2 => some d
    | 26, 14, 10 => some e
    | 55, 3, 6 => some false
    | _, _, _ => none
  rc f r i := match f, r, i with
    | 26, 13, 4 => true
    | 26, 13, 5 => true
    | 26, 13, 9 => true
    | 26, 13, 13 => true
    | 26, 14, 3 => true
    | 26, 14, 4 => true
    | 26, 14, 8 => true
    | 55, 6, 6 => true
    | 55, 7, 6 => true
    | _, _, _ => false
  fz f _ := match f with
    | 55 => true
    | _ => false
  res _ _ := 20
noncomputable abbrev SA (c d e : Bool) : Sig Empty := sigOf (P := Try.prog) [] [] [] (I := noI) [] noMs (advA c d e)
theorem SA_ok (c d e : Bool) : SigOk Try.prog (SA c d e) := sigOf_ok [] [] [] [] (noMs_ok _) _ noI_ok
abbrev pathA : List Nat := [0, 0, 1, 0, 1, 1, 1, 1, 1, 1, 1, 0, 1]
noncomputable def memJ (N K R : Nat) (f g h : Nat → Int) : Mem Empty := [some ⟨.rw, [.vec (.own 3) R, .int .i64 0]⟩, some ⟨.ro, bytesU N f⟩, some ⟨.ro, bytesU K g⟩, some ⟨.ro, bytesU R h⟩]
noncomputable def jA (N m K R : Nat) (i : Nat) (f g h : Nat → Int) (j : Nat) (l : Nat → Bool) : LS Empty :=
  ⟨tm 89 [(0, .ptr (.own 0) 0 []), (1, .int .i64 (m : Int)), (4, .nils), (5, .vec (.own 1) N), (6, .vec (.own 2) K), (7, .vec (.own 4) j), (8, .int .i64 (i : Int))],
    [some ⟨.rw, [.vec (.own 3) R, .int .i64 0]⟩, some ⟨.ro, bytesU N f⟩, some ⟨.ro, bytesU K g⟩, some ⟨.ro, bytesU R h⟩, some ⟨.row 4, boolsU j l⟩], []⟩
/-- Bit i. -/
def bitB (g : Nat → Int) (i : Nat) : Bool := bits .and .u8 ((g (i / 8)).fdiv (2 ^ (i % 8))) 1 == 1
abbrev bitV (g : Nat → Int) (i : Nat) : Bool := bits .and .u8 ((g (byteI i)).fdiv (2 ^ min (IntKind.u64.wrap (Int.tmod (i : Int) 8)).toNat 8)) 1 == 1
theorem bitV_eq (g : Nat → Int) {i : Nat} (h : i ≤ 2 ^ 50) : bitV g i = bitB g i := by
  have e1 := byteI_eq h
  have e2 : byteI i = i / 8 := by unfold byteI; rw [e1]; omega
  have e3 := tmod8 i
  unfold bitV bitB
  rw [e2, e3, IntWalk.u64_in _ (by omega), show min (((i % 8 : Nat) : Int)).toNat 8 = i % 8 by omega]

structure A1 (N m K R : Nat) (i : Nat) (f g h : Nat → Int) (j : Nat) (l : Nat → Bool) (r : Option (Out × LS Empty)) : Prop where
  eq : r = exec Try.prog (SA false true false) 40 26 pathA (codeAt Try.prog 26 pathA) (jA N m K R i f g h j l)
  out : outO r = some .normal
  len : (outS r).tmps.length = 89
  t0 : (outS r).tmps[0]? = some (.ptr (.own 0) 0 [])
  t1 : (outS r).tmps[1]? = some (.int .i64 (m : Int))
  t4 : (outS r).tmps[4]? = some .nils
  t5 : (outS r).tmps[5]? = some (.vec (.own 1) N)
  t6 : (outS r).tmps[6]? = some (.vec (.own 2) K)
  t7 : (outS r).tmps[7]? = some (.vec (.own 6) (j + 1))
  t8 : (outS r).tmps[8]? = some (.int .i64 (IntKind.i64.wrap ((i : Int) + 1)))
  m0 : at? noI (outS r).mem (.own 0) = some ⟨.rw, [.vec (.own 3) R, .int .i64 0]⟩
  m1 : at? noI (outS r).mem (.own 1) = some ⟨.ro, bytesU N f⟩
  m2 : at? noI (outS r).mem (.own 2) = some ⟨.ro, bytesU K g⟩
  m3 : at? noI (outS r).mem (.own 3) = some ⟨.ro, bytesU R h⟩
  m6 : at? noI (outS r).mem (.own 6) = some ⟨.row 4, [.rows (j + 1) 1 fun q => mrgR (Nat.blt q j) [.bool (l q)] ([[LV.bool (bitV g i)]].getD (q - j) [])]⟩
  cs : allC (outS r).conds = some (decide (IntKind.i64.wrap (8 * (K : Int)) ≤ (i : Int)) = false ∧ decide ((i : Int) < (m : Int)) = true ∧ decide ((0 : Int) ≤ IntKind.i64.wrap (Int.tdiv (i : Int) 8) ∧ IntKind.i64.wrap (Int.tdiv (i : Int) 8) < (K : Int)) = true ∧ Nat.blt (byteI i) K = true ∧ decide ((0 : Int) ≤ IntKind.u64.wrap (Int.tmod (i : Int) 8)) = true ∧ Nat.ble 1 1 = true ∧ (Nat.beq j j && Nat.ble ((j + 1) * 1) (2 ^ 47)) = true)
set_option maxRecDepth 100000 in
theorem a1 (N m K R : Nat) (i : Nat) (f g h : Nat → Int) (j : Nat) (l : Nat → Bool) : ∃ r, A1 N m K R i f g h j l r :=
  ⟨_, { eq := rfl, out := by kernel_rfl, len := by kernel_rfl, t0 := by kernel_rfl, t1 := by kernel_rfl, t4 := by kernel_rfl, t5 := by kernel_rfl, t6 := by kernel_rfl, t7 := by kernel_rfl, t8 := by kernel_rfl, m0 := by kernel_rfl, m1 := by kernel_rfl, m2 := by kernel_rfl, m3 := by kernel_rfl, m6 := by kernel_rfl, cs := by kernel_rfl }⟩
structure A0 (N m K R : Nat) (i : Nat) (f g h : Nat → Int) (j : Nat) (l : Nat → Bool) (r : Option (Out × LS Empty)) : Prop where
  eq : r = exec Try.prog (SA false false false) 40 26 pathA (codeAt Try.prog 26 pathA) (jA N m K R i f g h j l)
  out : outO r = some .normal
  len : (outS r).tmps.length = 89
  t0 : (outS r).tmps[0]? = some (.ptr (.own 0) 0 [])
  t1 : (outS r).tmps[1]? = some (.int .i64 (m : Int))
  t4 : (outS r).tmps[4]? = some .nils
  t5 : (outS r).tmps[5]? = some (.vec (.own 1) N)
  t6 : (outS r).tmps[6]? = some (.vec (.own 2) K)
  t7 : (outS r).tmps[7]? = some (.vec (.own 4) j)
  t8 : (outS r).tmps[8]? = some (.int .i64 (IntKind.i64.wrap ((i : Int) + 1)))
  m0 : at? noI (outS r).mem (.own 0) = some ⟨.rw, [.vec (.own 3) R, .int .i64 0]⟩
  m1 : at? noI (outS r).mem (.own 1) = some ⟨.ro, bytesU N f⟩
  m2 : at? noI (outS r).mem (.own 2) = some ⟨.ro, bytesU K g⟩
  m3 : at? noI (outS r).mem (.own 3) = some ⟨.ro, bytesU R h⟩
  m4 : at? noI (outS r).mem (.own 4) = some ⟨.row 4, boolsU j l⟩
  cs : allC (outS r).conds = some (decide (IntKind.i64.wrap (8 * (K : Int)) ≤ (i : Int)) = false ∧ decide ((i : Int) < (m : Int)) = false ∧ decide ((0 : Int) ≤ IntKind.i64.wrap (Int.tdiv (i : Int) 8) ∧ IntKind.i64.wrap (Int.tdiv (i : Int) 8) < (K : Int)) = true ∧ Nat.blt (byteI i) K = true ∧ decide ((0 : Int) ≤ IntKind.u64.wrap (Int.tmod (i : Int) 8)) = true ∧ bitV g i = false)
set_option maxRecDepth 100000 in
theorem a0 (N m K R : Nat) (i : Nat) (f g h : Nat → Int) (j : Nat) (l : Nat → Bool) : ∃ r, A0 N m K R i f g h j l r :=
  ⟨_, { eq := rfl, out := by kernel_rfl, len := by kernel_rfl, t0 := by kernel_rfl, t1 := by kernel_rfl, t4 := by kernel_rfl, t5 := by kernel_rfl, t6 := by kernel_rfl, t7 := by kernel_rfl, t8 := by kernel_rfl, m0 := by kernel_rfl, m1 := by kernel_rfl, m2 := by kernel_rfl, m3 := by kernel_rfl, m4 := by kernel_rfl, cs := by kernel_rfl }⟩
structure AB (N m K R : Nat) (i : Nat) (f g h : Nat → Int) (j : Nat) (l : Nat → Bool) (r : Option (Out × LS Empty)) : Prop where
  eq : r = exec Try.prog (SA false false true) 40 26 pathA (codeAt Try.prog 26 pathA) (jA N m K R i f g h j l)
  out : outO r = some .ret
  len : (outS r).tmps.length = 89
  t4 : (outS r).tmps[4]? = some .nils
  m0 : at? noI (outS r).mem (.own 0) = some ⟨.rw, [.vec (.own 1) N, .int .i64 171]⟩
  m1 : at? noI (outS r).mem (.own 1) = some ⟨.ro, bytesU N f⟩
  m2 : at? noI (outS r).mem (.own 2) = some ⟨.ro, bytesU K g⟩
  m3 : at? noI (outS r).mem (.own 3) = some ⟨.ro, bytesU R h⟩
  m4 : at? noI (outS r).mem (.own 4) = some ⟨.row 4, boolsU j l⟩
  cs : allC (outS r).conds = some (decide (IntKind.i64.wrap (8 * (K : Int)) ≤ (i : Int)) = false ∧ decide ((i : Int) < (m : Int)) = false ∧ decide ((0 : Int) ≤ IntKind.i64.wrap (Int.tdiv (i : Int) 8) ∧ IntKind.i64.wrap (Int.tdiv (i : Int) 8) < (K : Int)) = true ∧ Nat.blt (byteI i) K = true ∧ decide ((0 : Int) ≤ IntKind.u64.wrap (Int.tmod (i : Int) 8)) = true ∧ bitV g i = true)
set_option maxRecDepth 100000 in
theorem aB (N m K R : Nat) (i : Nat) (f g h : Nat → Int) (j : Nat) (l : Nat → Bool) : ∃ r, AB N m K R i f g h j l r :=
  ⟨_, { eq := rfl, out := by kernel_rfl, len := by kernel_rfl, t4 := by kernel_rfl, m0 := by kernel_rfl, m1 := by kernel_rfl, m2 := by kernel_rfl, m3 := by kernel_rfl, m4 := by kernel_rfl, cs := by kernel_rfl }⟩
structure AE (N m K R : Nat) (i : Nat) (f g h : Nat → Int) (j : Nat) (l : Nat → Bool) (r : Option (Out × LS Empty)) : Prop where
  eq : r = exec Try.prog (SA true false false) 40 26 pathA (codeAt Try.prog 26 pathA) (jA N m K R i f g h j l)
  out : outO r = some (.exit 0)
  len : (outS r).tmps.length = 89
  t0 : (outS r).tmps[0]? = some (.ptr (.own 0) 0 [])
  t1 : (outS r).tmps[1]? = some (.int .i64 (m : Int))
  t4 : (outS r).tmps[4]? = some .nils
  t5 : (outS r).tmps[5]? = some (.vec (.own 1) N)
  t6 : (outS r).tmps[6]? = some (.vec (.own 2) K)
  t7 : (outS r).tmps[7]? = some (.vec (.own 4) j)
  m0 : at? noI (outS r).mem (.own 0) = some ⟨.rw, [.vec (.own 3) R, .int .i64 0]⟩
  m1 : at? noI (outS r).mem (.own 1) = some ⟨.ro, bytesU N f⟩
  m2 : at? noI (outS r).mem (.own 2) = some ⟨.ro, bytesU K g⟩
  m3 : at? noI (outS r).mem (.own 3) = some ⟨.ro, bytesU R h⟩
  m4 : at? noI (outS r).mem (.own 4) = some ⟨.row 4, boolsU j l⟩
  cs : allC (outS r).conds = some (decide (IntKind.i64.wrap (8 * (K : Int)) ≤ (i : Int)) = true)
set_option maxRecDepth 100000 in
theorem aE (N m K R : Nat) (i : Nat) (f g h : Nat → Int) (j : Nat) (l : Nat → Bool) : ∃ r, AE N m K R i f g h j l r :=
  ⟨_, { eq := rfl, out := by kernel_rfl, len := by kernel_rfl, t0 := by kernel_rfl, t1 := by kernel_rfl, t4 := by kernel_rfl, t5 := by kernel_rfl, t6 := by kernel_rfl, t7 := by kernel_rfl, m0 := by kernel_rfl, m1 := by kernel_rfl, m2 := by kernel_rfl, m3 := by kernel_rfl, m4 := by kernel_rfl, cs := by kernel_rfl }⟩
noncomputable def jC (N m K R : Nat) (f g h : Nat → Int) (i : Nat) : LS Empty := jA N m K R i f g h (min i m) (bitB g)
theorem rFit {σ : Nat → Option Key} {q : Key → Prop} {M : Mem Empty} {R : Nat} {e : Int} (b k : Nat) (h0 : σ b = some (.own b)) (h1 : σ k = some (.own k)) (hq : q (.own k)) (ha : at? noI M (.own b) = some ⟨.rw, [.vec (.own k) R, .int .i64 e]⟩) : BlkFit noI M σ q b ⟨.rw, [.vec (.own k) R, .int .i64 e]⟩ := by
  have e1 : renL (ownK σ) [(.vec (.own k) R : LV Empty), .int .i64 e] = [.vec (.own k) R, .int .i64 e] := by simp [renL, LV.ren, ownK, h1]
  refine BlkFit.eq h0 (by simp only [e1]; exact ha) ⟨⟨fun hn => ?_, hq⟩, trivial, trivial⟩ rfl rfl
  simp [ownK, h1] at hn
set_option maxRecDepth 100000 in
theorem c_step {N m K R : Nat} {f g h : Nat → Int} (hK : K ≤ 2 ^ 43) (hm : m ≤ 8 * K) (i : Nat) (hi : i < 8 * K) (hb : i < m ∨ bitB g i = false) :
    ExB 4 Try.prog noI (codeAt Try.prog 26 pathA) (jC N m K R f g h i) .normal (jC N m K R f g h (i + 1)) := by
  have e1 := byteI_eq (k := i) (by omega)
  have e2 : byteI i = i / 8 := by unfold byteI; rw [e1]; omega
  have e3 := tmod8 i
  have e4 : IntKind.i64.wrap (8 * (K : Int)) = 8 * (K : Int) := IntWalk.i64_in _ (by omega)
  have e5 := bitV_eq g (i := i) (by omega)
  have e6 : IntKind.i64.wrap ((i : Int) + 1) = ((i + 1 : Nat) : Int) := by rw [IntWalk.i64_in _ (by omega)]; rfl
  have e7 : IntKind.u64.wrap (Int.tmod (i : Int) 8) = ((i % 8 : Nat) : Int) := by rw [e3, IntWalk.u64_in _ (by omega)]
  by_cases him : i < m
  · obtain ⟨r, hr⟩ := a1 N m K R i f g h (min i m) (bitB g)
    have hc : condOk (allC (outS r).conds) := by
      rw [hr.cs]
      refine ⟨decide_eq_false (by rw [e4]; omega), decide_eq_true (by omega), decide_eq_true (by rw [e1]; omega), ltB (by rw [e2]; omega), decide_eq_true (by rw [e7]; omega), rfl, ?_⟩
      rw [Nat.beq_refl, leB (by omega)]; rfl
    refine ExB.toldB noI_ok 4 (Ex.of_run (SA_ok false true false) rfl mixed hr.eq hr.out hc) [some (.own 0), some (.own 1), some (.own 2), some (.own 3), some (.own 6)] hr.len ?_ ?_ rfl rfl rfl
    · have em : min i m + 1 = min (i + 1) m := by omega
      have h7 := hr.t7
      rw [em] at h7
      have h8 := hr.t8
      rw [e6] at h8
      exact ⟨⟨hr.t0, by simp [LV.fit, ownK, σL, there]⟩, ⟨hr.t1, trivial⟩, ⟨hr.t4, trivial⟩, ⟨hr.t5, by simp [LV.fit, ownK, σL, there]⟩, ⟨hr.t6, by simp [LV.fit, ownK, σL, there]⟩, ⟨h7, by simp [LV.fit, ownK, σL, there]⟩, ⟨h8, trivial⟩, trivial⟩
    · refine ⟨rFit 0 3 rfl rfl trivial hr.m0, BlkFit.rows rfl hr.m1 rfl rfl (fun i => ⟨trivial, trivial⟩) fun _ _ => Same.refl _, BlkFit.rows rfl hr.m2 rfl rfl (fun i => ⟨trivial, trivial⟩) fun _ _ => Same.refl _, BlkFit.rows rfl hr.m3 rfl rfl (fun i => ⟨trivial, trivial⟩) fun _ _ => Same.refl _, BlkFit.rows rfl hr.m6 rfl (by omega) (fun i => ⟨trivial, trivial⟩) fun q hq => ?_, trivial⟩
      refine Same.lt (fun _ => Same.refl _) fun hqj => ?_
      have e8 : q = i := by omega
      subst e8
      rw [show q - min q m = 0 by omega]
      exact Same.bool e5
  · have hbit : bitB g i = false := by
      rcases hb with h | h
      · exact absurd h him
      · exact h
    obtain ⟨r, hr⟩ := a0 N m K R i f g h (min i m) (bitB g)
    have hc : condOk (allC (outS r).conds) := by
      rw [hr.cs]
      exact ⟨decide_eq_false (by rw [e4]; omega), decide_eq_false (by omega), decide_eq_true (by rw [e1]; omega), ltB (by rw [e2]; omega), decide_eq_true (by rw [e7]; omega), by rw [e5]; exact hbit⟩
    refine ExB.toldB noI_ok 4 (Ex.of_run (SA_ok false false false) rfl mixed hr.eq hr.out hc) [some (.own 0), some (.own 1), some (.own 2), some (.own 3), some (.own 4)] hr.len ?_ ?_ rfl rfl rfl
    · have em : min i m = min (i + 1) m := by omega
      have h7 := hr.t7
      rw [em] at h7
      have h8 := hr.t8
      rw [e6] at h8
      exact ⟨⟨hr.t0, by simp [LV.fit, ownK, σL, there]⟩, ⟨hr.t1, trivial⟩, ⟨hr.t4, trivial⟩, ⟨hr.t5, by simp [LV.fit, ownK, σL, there]⟩, ⟨hr.t6, by simp [LV.fit, ownK, σL, there]⟩, ⟨h7, by simp [LV.fit, ownK, σL, there]⟩, ⟨h8, trivial⟩, trivial⟩
    · exact ⟨rFit 0 3 rfl rfl trivial hr.m0, BlkFit.rows rfl hr.m1 rfl rfl (fun i => ⟨trivial, trivial⟩) fun _ _ => Same.refl _, BlkFit.rows rfl hr.m2 rfl rfl (fun i => ⟨trivial, trivial⟩) fun _ _ => Same.refl _, BlkFit.rows rfl hr.m3 rfl rfl (fun i => ⟨trivial, trivial⟩) fun _ _ => Same.refl _, BlkFit.rows rfl hr.m4 rfl (by omega) (fun i => ⟨trivial, trivial⟩) fun _ _ => Same.refl _, trivial⟩
noncomputable def tC (N m K R : Nat) (f g h : Nat → Int) : LS Empty :=
  ⟨tm 89 [(7, .vec (.own 4) m)], [some ⟨.rw, [.vec (.own 3) R, .int .i64 0]⟩, some ⟨.ro, bytesU N f⟩, some ⟨.ro, bytesU K g⟩, some ⟨.ro, bytesU R h⟩, some ⟨.row 4, boolsU m (bitB g)⟩], []⟩
noncomputable def tB (N K R : Nat) (f g h : Nat → Int) : LS Empty :=
  ⟨tm 89 [(4, .nils)], [some ⟨.rw, [.vec (.own 1) N, .int .i64 171]⟩, some ⟨.ro, bytesU N f⟩, some ⟨.ro, bytesU K g⟩, some ⟨.ro, bytesU R h⟩], []⟩
set_option maxRecDepth 100000 in
theorem c_end {N m K R : Nat} {f g h : Nat → Int} (hK : K ≤ 2 ^ 43) (hm : m ≤ 8 * K) : ExB 4 Try.prog noI (codeAt Try.prog 26 pathA) (jC N m K R f g h (8 * K)) (.exit 0) (tC N m K R f g h) := by
  have e4 : IntKind.i64.wrap (8 * (K : Int)) = 8 * (K : Int) := IntWalk.i64_in _ (by omega)
  obtain ⟨r, hr⟩ := aE N m K R (8 * K) f g h (min (8 * K) m) (bitB g)
  have hc : condOk (allC (outS r).conds) := by
    rw [hr.cs]
    exact decide_eq_true (by rw [e4]; omega)
  refine ExB.toldB noI_ok 4 (Ex.of_run (SA_ok true false false) rfl mixed hr.eq hr.out hc) [some (.own 0), some (.own 1), some (.own 2), some (.own 3), some (.own 4)] hr.len ?_ ?_ rfl rfl rfl
  · have h7 := hr.t7
    rw [show min (8 * K) m = m by omega] at h7
    exact ⟨⟨h7, by simp [LV.fit, ownK, σL, there]⟩, trivial⟩
  · exact ⟨rFit 0 3 rfl rfl trivial hr.m0, BlkFit.rows rfl hr.m1 rfl rfl (fun i => ⟨trivial, trivial⟩) fun _ _ => Same.refl _, BlkFit.rows rfl hr.m2 rfl rfl (fun i => ⟨trivial, trivial⟩) fun _ _ => Same.refl _, BlkFit.rows rfl hr.m3 rfl rfl (fun i => ⟨trivial, trivial⟩) fun _ _ => Same.refl _, BlkFit.rows rfl hr.m4 rfl (by omega) (fun i => ⟨trivial, trivial⟩) fun _ _ => Same.refl _, trivial⟩
set_option maxRecDepth 100000 in
theorem c_bad {N m K R : Nat} {f g h : Nat → Int} (hK : K ≤ 2 ^ 43) (hm : m ≤ 8 * K) (i : Nat) (hi : i < 8 * K) (him : m ≤ i) (hb : bitB g i = true) : ExB 4 Try.prog noI (codeAt Try.prog 26 pathA) (jC N m K R f g h i) .ret (tB N K R f g h) := by
  have e1 := byteI_eq (k := i) (by omega)
  have e2 : byteI i = i / 8 := by unfold byteI; rw [e1]; omega
  have e3 := tmod8 i
  have e4 : IntKind.i64.wrap (8 * (K : Int)) = 8 * (K : Int) := IntWalk.i64_in _ (by omega)
  have e5 := bitV_eq g (i := i) (by omega)
  have e7 : IntKind.u64.wrap (Int.tmod (i : Int) 8) = ((i % 8 : Nat) : Int) := by rw [e3, IntWalk.u64_in _ (by omega)]
  obtain ⟨r, hr⟩ := aB N m K R i f g h (min i m) (bitB g)
  have hc : condOk (allC (outS r).conds) := by
    rw [hr.cs]
    exact ⟨decide_eq_false (by rw [e4]; omega), decide_eq_false (by omega), decide_eq_true (by rw [e1]; omega), ltB (by rw [e2]; omega), decide_eq_true (by rw [e7]; omega), by rw [e5]; exact hb⟩
  refine ExB.toldB noI_ok 4 (Ex.of_run (SA_ok false false true) rfl mixed hr.eq hr.out hc) [some (.own 0), some (.own 1), some (.own 2), some (.own 3)] hr.len ?_ ?_ rfl rfl rfl
  · exact ⟨⟨hr.t4, trivial⟩, trivial⟩
  · exact ⟨rFit 0 1 rfl rfl trivial hr.m0, BlkFit.rows rfl hr.m1 rfl rfl (fun i => ⟨trivial, trivial⟩) fun _ _ => Same.refl _, BlkFit.rows rfl hr.m2 rfl rfl (fun i => ⟨trivial, trivial⟩) fun _ _ => Same.refl _, BlkFit.rows rfl hr.m3 rfl rfl (fun i => ⟨trivial, trivial⟩) fun _ _ => Same.refl _, trivial⟩

end Go.Proofs.Ytjhjockdkpgpeaa.En
