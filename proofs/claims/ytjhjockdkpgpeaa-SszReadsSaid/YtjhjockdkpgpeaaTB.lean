/- DERIVED. Bits that are read: the whole call. -/
import Derived.Test.YtjhjockdkpgpeaaTA
set_option linter.all false
namespace Go.Proofs.Ytjhjockdkpgpeaa.En
open Go Go.RowKit

/-- What a reader's block and its data say. -/
noncomputable abbrev rdB (k N : Nat) (e : Int) : Blk Empty := ⟨.rw, [.vec (.own k) N, .int .i64 e]⟩
noncomputable abbrev roB (N : Nat) (f : Nat → Int) : Blk Empty := ⟨.ro, bytesU N f⟩
noncomputable abbrev rd0 (N : Nat) (f : Nat → Int) (e : Int) : List (Blk Empty) := [rdB 1 N e, roB N f]
abbrev argA (n : Int) : List (LV Empty) := [.ptr (.own 0) 0 [], .int .i64 n]
/-- How the tests at its beginning turn out. -/
def advO (a b c : Option Bool) : Adv where
  il _ := true
  dec f r i := match f, r, i with
    | 26, 2, 7 => a
    | 26, 2, 13 => b
    | 26, 4, 4 => c
    | 55, 3, 6 => some false
    | _, _, _ => none
  rc f r i := match f, r, i with
    | 55, 6, 6 => true
    | 55, 7, 6 => true
    | _, _, _ => false
  fz f _ := match f with
    | 55 => true
    | _ => false
  res _ _ := 20
noncomputable abbrev SO (a b c : Option Bool) (ls : List (LoopF Try.prog noI)) : Sig Empty := sigOf (P := Try.prog) [] [] [] (I := noI) ls noMs (advO a b c)
theorem SO_ok (a b c : Option Bool) (ls : List (LoopF Try.prog noI)) : SigOk Try.prog (SO a b c ls) := sigOf_ok [] [] [] ls (noMs_ok _) _ noI_ok
def dirty (f : Nat → Int) (m : Nat) : Bool := (List.range (8 * bytesN m)).any fun i => decide (m ≤ i) && bitB f i
def rdOk (N : Nat) (f : Nat → Int) (e n : Int) : Bool := decide (e = 0) && decide (n.toNat ≤ 8 * N) && !dirty f n.toNat
def rdL (N : Nat) (f : Nat → Int) (e n : Int) : Nat := if rdOk N f e n = true then n.toNat else 0
def rdN (N : Nat) (f : Nat → Int) (e n : Int) : Nat := if rdOk N f e n = true then N - bytesN n.toNat else N
def rdF (N : Nat) (f : Nat → Int) (e n : Int) (j : Nat) : Int := if rdOk N f e n = true then f (bytesN n.toNat + j) else f j
def rdE (N : Nat) (f : Nat → Int) (e n : Int) : Int := if e = 0 then (if n.toNat ≤ 8 * N then (if dirty f n.toNat = true then 171 else 0) else 170) else e
noncomputable abbrev rd1b (N : Nat) (f : Nat → Int) (e n : Int) : List (Blk Empty) := [rdB 2 (rdN N f e n) (rdE N f e n), roB N f, roB (rdN N f e n) (rdF N f e n), ⟨.row 4, boolsU (rdL N f e n) (bitB f)⟩]
noncomputable abbrev endA (N : Nat) (f : Nat → Int) (e n : Int) : List (Nat × LV Empty) := [(4, .vec (.own 3) (rdL N f e n))]

/-! ## an error ahead -/
--@gen e1 (N : Nat) (f : Nat → Int) (e n : Int) := runG Try.prog (SO (some true) (some false) (some true) []) 200 26 [] (startS Try.f26 (argA n) ((rd0 N f e).map some)) .ret 2 [some (.own 0), some (.own 1), some (.own 1), none] 89 (endA N f e n) ((rd1b N f e n).map some)
--@[
def e1_G (N : Nat) (f : Nat → Int) (e n : Int) : Prop := ((decide (IntKind.wrap IntKind.i64 ((8 : Int) * (↑N : Int)) < if n < (0 : Int) then (0 : Int) else n) = true ∧       (e == (0 : Int)) = false) ∧     (e != (0 : Int)) = true) ∧   rdL N f e n = 0 ∧     (N = rdN N f e n ∧ e = rdE N f e n) ∧       ((N = N ∧ ∀ (i : Nat), i < N → Same (A := Empty) [LV.int IntKind.u8 (f i)] [LV.int IntKind.u8 (f i)]) ∧           ∀ (i : Nat), plainL (A := Empty) [LV.int IntKind.u8 (f i)]) ∧         ((N = rdN N f e n ∧               ∀ (i : Nat), i < rdN N f e n → Same (A := Empty) [LV.int IntKind.u8 (f i)] [LV.int IntKind.u8 (rdF N f e n i)]) ∧             ∀ (i : Nat), plainL (A := Empty) [LV.int IntKind.u8 (rdF N f e n i)]) ∧           rdL N f e n = 0 ∧ ∀ (i : Nat), plainL (A := Empty) [LV.bool (bitB f i)]
set_option maxRecDepth 100000 in
theorem e1 (N : Nat) (f : Nat → Int) (e n : Int) : runG Try.prog (SO (some true) (some false) (some true) []) 200 26 [] (startS Try.f26 (argA n) ((rd0 N f e).map some)) .ret 2 [some (.own 0), some (.own 1), some (.own 1), none] 89 (endA N f e n) ((rd1b N f e n).map some) = some (some ((e1_G N f e n))) := by kernel_rfl
--@]
--@gen e2 (N : Nat) (f : Nat → Int) (e n : Int) := runG Try.prog (SO (some false) none (some true) []) 200 26 [] (startS Try.f26 (argA n) ((rd0 N f e).map some)) .ret 2 [some (.own 0), some (.own 1), some (.own 1), none] 89 (endA N f e n) ((rd1b N f e n).map some)
--@[
def e2_G (N : Nat) (f : Nat → Int) (e n : Int) : Prop := (decide (IntKind.wrap IntKind.i64 ((8 : Int) * (↑N : Int)) < if n < (0 : Int) then (0 : Int) else n) = false ∧     (e != (0 : Int)) = true) ∧   rdL N f e n = 0 ∧     (N = rdN N f e n ∧ e = rdE N f e n) ∧       ((N = N ∧ ∀ (i : Nat), i < N → Same (A := Empty) [LV.int IntKind.u8 (f i)] [LV.int IntKind.u8 (f i)]) ∧           ∀ (i : Nat), plainL (A := Empty) [LV.int IntKind.u8 (f i)]) ∧         ((N = rdN N f e n ∧               ∀ (i : Nat), i < rdN N f e n → Same (A := Empty) [LV.int IntKind.u8 (f i)] [LV.int IntKind.u8 (rdF N f e n i)]) ∧             ∀ (i : Nat), plainL (A := Empty) [LV.int IntKind.u8 (rdF N f e n i)]) ∧           rdL N f e n = 0 ∧ ∀ (i : Nat), plainL (A := Empty) [LV.bool (bitB f i)]
set_option maxRecDepth 100000 in
theorem e2 (N : Nat) (f : Nat → Int) (e n : Int) : runG Try.prog (SO (some false) none (some true) []) 200 26 [] (startS Try.f26 (argA n) ((rd0 N f e).map some)) .ret 2 [some (.own 0), some (.own 1), some (.own 1), none] 89 (endA N f e n) ((rd1b N f e n).map some) = some (some ((e2_G N f e n))) := by kernel_rfl
--@]
--@gen e3 (N : Nat) (f : Nat → Int) (n : Int) := runG Try.prog (SO (some true) none none []) 200 26 [] (startS Try.f26 (argA n) ((rd0 N f 0).map some)) .ret 2 [some (.own 0), some (.own 1), some (.own 1), none] 89 (endA N f 0 n) ((rd1b N f 0 n).map some)
--@[
def e3_G (N : Nat) (f : Nat → Int) (n : Int) : Prop := decide (IntKind.wrap IntKind.i64 ((8 : Int) * (↑N : Int)) < if n < (0 : Int) then (0 : Int) else n) = true ∧   rdL N f ((0 : Int)) n = 0 ∧     (N = rdN N f ((0 : Int)) n ∧ (170 : Int) = rdE N f ((0 : Int)) n) ∧       ((N = N ∧ ∀ (i : Nat), i < N → Same (A := Empty) [LV.int IntKind.u8 (f i)] [LV.int IntKind.u8 (f i)]) ∧           ∀ (i : Nat), plainL (A := Empty) [LV.int IntKind.u8 (f i)]) ∧         ((N = rdN N f ((0 : Int)) n ∧               ∀ (i : Nat),                 i < rdN N f ((0 : Int)) n →                   Same (A := Empty) [LV.int IntKind.u8 (f i)] [LV.int IntKind.u8 (rdF N f (0 : Int) n i)]) ∧             ∀ (i : Nat), plainL (A := Empty) [LV.int IntKind.u8 (rdF N f (0 : Int) n i)]) ∧           rdL N f ((0 : Int)) n = 0 ∧ ∀ (i : Nat), plainL (A := Empty) [LV.bool (bitB f i)]
set_option maxRecDepth 100000 in
theorem e3 (N : Nat) (f : Nat → Int) (n : Int) : runG Try.prog (SO (some true) none none []) 200 26 [] (startS Try.f26 (argA n) ((rd0 N f 0).map some)) .ret 2 [some (.own 0), some (.own 1), some (.own 1), none] 89 (endA N f 0 n) ((rd1b N f 0 n).map some) = some (some ((e3_G N f n))) := by kernel_rfl
--@]
noncomputable def sA (N : Nat) (f : Nat → Int) (n : Int) : LS Empty := entry Try.prog (SO (some false) none none []) 200 26 [0, 1, 0, 1, 1, 1, 1, 1, 1, 1, 0, 1] (argA n) ((rd0 N f 0).map some)
--@gen eJ (N m : Nat) (f : Nat → Int) (n : Int) := mS noI [some (.own 0), some (.own 1), some (.own 2), some (.own 3), none] (sA N f n) 89 [(0, .ptr (.own 0) 0 []), (1, .int .i64 (m : Int)), (4, .nils), (5, .vec (.own 1) N), (6, .vec (.own 2) (bytesN m)), (7, .vec (.own 4) (min 0 m)), (8, .int .i64 ((0 : Nat) : Int))] (jC N m (bytesN m) (N - bytesN m) f f (fun j => f (bytesN m + j)) 0).mem
--@[
def eJ_G (N m : Nat) (f : Nat → Int) (n : Int) : Prop := ((if n < (0 : Int) then (0 : Int) else n) = (↑m : Int) ∧     N = N ∧       Int.toNat             (IntKind.wrap IntKind.i64               (Int.tdiv                 (IntKind.wrap IntKind.i64                   ((if n < (0 : Int) then (0 : Int) else n) + (7 : Int)))                 ((8 : Int)))) =           bytesN m ∧         0 = 0 ∧ (0 : Int) = (↑0 : Int)) ∧   (Int.toNat (↑N : Int) -           Int.toNat             (IntKind.wrap IntKind.i64               (Int.tdiv                 (IntKind.wrap IntKind.i64                   ((if n < (0 : Int) then (0 : Int) else n) + (7 : Int)))                 ((8 : Int)))) =         N - bytesN m ∧       (0 : Int) = (0 : Int)) ∧     ((N = N ∧ ∀ (i : Nat), i < N → Same (A := Empty) [LV.int IntKind.u8 (f i)] [LV.int IntKind.u8 (f i)]) ∧         ∀ (i : Nat), plainL (A := Empty) [LV.int IntKind.u8 (f i)]) ∧       ((Int.toNat                 (IntKind.wrap IntKind.i64                   (Int.tdiv                     (IntKind.wrap IntKind.i64                       ((if n < (0 : Int) then (0 : Int) else n) + (7 : Int)))                     ((8 : Int)))) =               bytesN m ∧             ∀ (i : Nat), i < bytesN m → Same (A := Empty) [LV.int IntKind.u8 (f i)] [LV.int IntKind.u8 (f i)]) ∧           ∀ (i : Nat), plainL (A := Empty) [LV.int IntKind.u8 (f i)]) ∧         ((Int.toNat (↑N : Int) -                   Int.toNat                     (IntKind.wrap IntKind.i64                       (Int.tdiv                         (IntKind.wrap IntKind.i64                           ((if n < (0 : Int) then (0 : Int) else n) + (7 : Int)))                         ((8 : Int)))) =                 N - bytesN m ∧               ∀ (i : Nat),                 i < N - bytesN m →                   Same (A := Empty) [LV.int IntKind.u8                         (f                           (Int.toNat                               (IntKind.wrap IntKind.i64                                 (Int.tdiv                                   (IntKind.wrap IntKind.i64 ((if n < (0 : Int) then (0 : Int) else n) + (7 : Int)))                                   (8 : Int))) +                             i))]                     [LV.int IntKind.u8 (f (bytesN m + i))]) ∧             ∀ (i : Nat), plainL (A := Empty) [LV.int IntKind.u8 (f (bytesN m + i))]) ∧           0 = 0 ∧ ∀ (i : Nat), plainL (A := Empty) [LV.bool (bitB f i)]
set_option maxRecDepth 100000 in
theorem eJ (N m : Nat) (f : Nat → Int) (n : Int) : mS noI [some (.own 0), some (.own 1), some (.own 2), some (.own 3), none] (sA N f n) 89 [(0, .ptr (.own 0) 0 []), (1, .int .i64 (m : Int)), (4, .nils), (5, .vec (.own 1) N), (6, .vec (.own 2) (bytesN m)), (7, .vec (.own 4) (min 0 m)), (8, .int .i64 ((0 : Nat) : Int))] (jC N m (bytesN m) (N - bytesN m) f f (fun j => f (bytesN m + j)) 0).mem = some (some ((eJ_G N m f n))) := by kernel_rfl
--@]

/-! ## the loop -/
set_option maxRecDepth 100000 in
theorem a_code : codeAt Try.prog 26 [0, 1, 0, 1, 1, 1, 1, 1, 1, 1, 0, 1] = .loop (codeAt Try.prog 26 pathA) := by kernel_rfl
theorem first_dirty {f : Nat → Int} {m : Nat} : ∀ (q : Nat), ((List.range q).any fun i => decide (m ≤ i) && bitB f i) = true → ∃ i, i < q ∧ m ≤ i ∧ bitB f i = true ∧ ∀ j, j < i → j < m ∨ bitB f j = false
  | 0, h => by simp at h
  | q + 1, h => by
    by_cases hq : ((List.range q).any fun i => decide (m ≤ i) && bitB f i) = true
    · obtain ⟨i, h1, h2⟩ := first_dirty q hq
      exact ⟨i, by omega, h2⟩
    · have hq' : ∀ j, j < q → j < m ∨ bitB f j = false := by
        intro j hj
        rw [List.any_eq_true] at hq
        by_cases hm : j < m
        · exact .inl hm
        · refine .inr ?_
          cases hb : bitB f j with
          | false => rfl
          | true => exact (hq ⟨j, List.mem_range.2 hj, by simp [hb]; omega⟩).elim
      rw [List.range_succ, List.any_append, Bool.or_eq_true] at h
      rcases h with h | h
      · exact absurd h hq
      · simp only [List.any_cons, List.any_nil, Bool.or_false, Bool.and_eq_true, decide_eq_true_eq] at h
        exact ⟨q, by omega, h.1, h.2, hq'⟩
theorem eJ_ok {N : Nat} {f : Nat → Int} {n : Int} (hN : N ≤ 2 ^ 43) (hn : n.toNat ≤ 8 * N) : eJ_G N n.toNat f n := by
  have h7 : ((if n < 0 then 0 else n) : Int) = (n.toNat : Int) := by split <;> omega
  have h8 : (IntKind.wrap IntKind.i64 (Int.tdiv (IntKind.wrap IntKind.i64 ((n.toNat : Int) + 7)) 8)).toNat = bytesN n.toNat := by
    have := lenB_eq (n := n.toNat) (by omega)
    unfold lenB at this
    rw [this]; omega
  unfold eJ_G
  rw [h7, h8]
  (and_intros <;> first | exact True.intro | omega | exact fun _ => ⟨trivial, trivial⟩ | exact fun _ _ => Same.refl _ | exact fun _ _ => Like.refl _ | (simp (disch := omega) only [true_and, and_true, Nat.beq_refl, Bool.true_and, decide_eq_true_eq, decide_eq_false_iff_not, beq_iff_eq, bne_iff_ne, beq_eq_false_iff_ne, bne_eq_false_iff_eq, ne_eq, Nat.blt_eq, Nat.ble_eq, Nat.beq_eq, Bool.and_eq_true, Bool.or_eq_true, IntKind.wrap_i64, IntKind.wrap_u64, IntKind.wrap_u8, IntKind.wrap_u32, Int.tdiv_eq_ediv_of_nonneg, Int.tmod_eq_emod_of_nonneg] <;> omega) | rfl | trivial)
theorem a_clean {N : Nat} {f : Nat → Int} {n : Int} (hN : N ≤ 2 ^ 43) (hn : n.toNat ≤ 8 * N) (hd : dirty f n.toNat = false) :
    ExB 4 Try.prog noI (codeAt Try.prog 26 [0, 1, 0, 1, 1, 1, 1, 1, 1, 1, 0, 1]) (sA N f n) (.exit 0) (tC N n.toNat (bytesN n.toNat) (N - bytesN n.toNat) f f fun j => f (bytesN n.toNat + j)) := by
  have hK : bytesN n.toNat ≤ N := by unfold bytesN; omega
  have hm : n.toNat ≤ 8 * bytesN n.toNat := by unfold bytesN; omega
  refine ExB.enter (cs := []) noI_ok _ ?_ (eJ N n.toNat f n) (eJ_ok hN hn) rfl
  rw [a_code]
  refine ExB.loop (by simp) (jC N n.toNat (bytesN n.toNat) (N - bytesN n.toNat) f f fun j => f (bytesN n.toNat + j)) (8 * bytesN n.toNat) (fun i hi => c_step (by omega) hm i hi ?_) (c_end (by omega) hm)
  by_cases him : i < n.toNat
  · exact .inl him
  · refine .inr ?_
    unfold dirty at hd
    rw [List.any_eq_false] at hd
    have := hd i (List.mem_range.2 hi)
    cases hb : bitB f i with
    | false => rfl
    | true => rw [hb] at this; simp at this; omega
theorem a_dirty {N : Nat} {f : Nat → Int} {n : Int} (hN : N ≤ 2 ^ 43) (hn : n.toNat ≤ 8 * N) (hd : dirty f n.toNat = true) :
    ExB 4 Try.prog noI (codeAt Try.prog 26 [0, 1, 0, 1, 1, 1, 1, 1, 1, 1, 0, 1]) (sA N f n) .ret (tB N (bytesN n.toNat) (N - bytesN n.toNat) f f fun j => f (bytesN n.toNat + j)) := by
  have hK : bytesN n.toNat ≤ N := by unfold bytesN; omega
  have hm : n.toNat ≤ 8 * bytesN n.toNat := by unfold bytesN; omega
  obtain ⟨i, h1, h2, h3, h4⟩ := first_dirty _ hd
  refine ExB.enter (cs := []) noI_ok _ ?_ (eJ N n.toNat f n) (eJ_ok hN hn) rfl
  rw [a_code]
  exact ExB.loop (by simp) (jC N n.toNat (bytesN n.toNat) (N - bytesN n.toNat) f f fun j => f (bytesN n.toNat + j)) i (fun j hj => c_step (by omega) hm j (by omega) (h4 j hj)) (c_bad (by omega) hm i h1 h2 h3)
set_option maxRecDepth 100000 in
theorem a_grow (N : Nat) (f : Nat → Int) (n : Int) (m K R : Nat) (g h : Nat → Int) : growB (sA N f n) (tC N m K R f g h) = true := by kernel_rfl
set_option maxRecDepth 100000 in
theorem b_grow (N : Nat) (f : Nat → Int) (n : Int) (K R : Nat) (g h : Nat → Int) : growB (sA N f n) (tB N K R f g h) = true := by kernel_rfl
set_option maxRecDepth 100000 in
theorem a_four (N : Nat) (f : Nat → Int) (n : Int) : Nat.ble (sA N f n).mem.length 4 = true := by kernel_rfl
noncomputable def aL (N : Nat) (f : Nat → Int) (n : Int) (hN : N ≤ 2 ^ 43) (hn : n.toNat ≤ 8 * N) (hd : dirty f n.toNat = false) : LoopF Try.prog noI := LoopF.of (a_clean hN hn hd) (a_grow ..) (a_four ..)
noncomputable def dL (N : Nat) (f : Nat → Int) (n : Int) (hN : N ≤ 2 ^ 43) (hn : n.toNat ≤ 8 * N) (hd : dirty f n.toNat = true) : LoopF Try.prog noI := LoopF.of (a_dirty hN hn hd) (b_grow ..) (a_four ..)
--@gen e4 (N : Nat) (f : Nat → Int) (n : Int) (hN : N ≤ 2 ^ 43) (hn : n.toNat ≤ 8 * N) (hd : dirty f n.toNat = false) := runG Try.prog (SO (some false) none none [aL N f n hN hn hd]) 200 26 [] (startS Try.f26 (argA n) ((rd0 N f 0).map some)) .ret 2 [some (.own 0), some (.own 1), some (.own 3), some (.own 4)] 89 (endA N f 0 n) ((rd1b N f 0 n).map some)
--@[
def e4_G (N : Nat) (f : Nat → Int) (n : Int) (hN : N ≤ 2 ^ 43) (hn : n.toNat ≤ 8 * N) (hd : dirty f n.toNat = false) : Prop := (decide (IntKind.wrap IntKind.i64 ((8 : Int) * (↑N : Int)) < if n < (0 : Int) then (0 : Int) else n) = false ∧     (decide             ((↑N : Int) <               IntKind.wrap IntKind.i64                 (Int.tdiv (IntKind.wrap IntKind.i64 ((if n < (0 : Int) then (0 : Int) else n) + (7 : Int)))                   (8 : Int))) =           false ∧         (decide                 ((0 : Int) ≤ (↑(0 : Nat) : Int) ∧                   (↑(0 : Nat) : Int) ≤                       IntKind.wrap IntKind.i64                         (Int.tdiv (IntKind.wrap IntKind.i64 ((if n < (0 : Int) then (0 : Int) else n) + (7 : Int)))                           (8 : Int)) ∧                     IntKind.wrap IntKind.i64                           (Int.tdiv (IntKind.wrap IntKind.i64 ((if n < (0 : Int) then (0 : Int) else n) + (7 : Int)))                             (8 : Int)) ≤                         IntKind.wrap IntKind.i64                           (Int.tdiv (IntKind.wrap IntKind.i64 ((if n < (0 : Int) then (0 : Int) else n) + (7 : Int)))                             (8 : Int)) ∧                       IntKind.wrap IntKind.i64                           (Int.tdiv (IntKind.wrap IntKind.i64 ((if n < (0 : Int) then (0 : Int) else n) + (7 : Int)))                             (8 : Int)) ≤                         (↑N : Int)) =               true ∧             Nat.ble N N = true) ∧           decide                 ((0 : Int) ≤                     IntKind.wrap IntKind.i64                       (Int.tdiv (IntKind.wrap IntKind.i64 ((if n < (0 : Int) then (0 : Int) else n) + (7 : Int)))                         (8 : Int)) ∧                   IntKind.wrap IntKind.i64                         (Int.tdiv (IntKind.wrap IntKind.i64 ((if n < (0 : Int) then (0 : Int) else n) + (7 : Int)))                           (8 : Int)) ≤                       (↑N : Int) ∧                     (↑N : Int) ≤ (↑N : Int) ∧ (↑N : Int) ≤ (↑N : Int)) =               true ∧             Nat.ble N N = true) ∧       LS.tmps (LoopF.s (aL N f n hN hn hd)) = LS.tmps (LoopF.s (aL N f n hN hn hd)) ∧         LS.mem (LoopF.s (aL N f n hN hn hd)) = LS.mem (LoopF.s (aL N f n hN hn hd))) ∧   Int.toNat n = rdL N f ((0 : Int)) n ∧     (N - bytesN (Int.toNat n) = rdN N f ((0 : Int)) n ∧         (0 : Int) = rdE N f ((0 : Int)) n) ∧       ((N = N ∧ ∀ (i : Nat), i < N → Same (A := Empty) [LV.int IntKind.u8 (f i)] [LV.int IntKind.u8 (f i)]) ∧           ∀ (i : Nat), plainL (A := Empty) [LV.int IntKind.u8 (f i)]) ∧         ((N - bytesN (Int.toNat n) = rdN N f ((0 : Int)) n ∧               ∀ (i : Nat),                 i < rdN N f ((0 : Int)) n →                   Same (A := Empty) [LV.int IntKind.u8 (f (bytesN (Int.toNat n) + i))] [LV.int IntKind.u8 (rdF N f (0 : Int) n i)]) ∧             ∀ (i : Nat), plainL (A := Empty) [LV.int IntKind.u8 (rdF N f (0 : Int) n i)]) ∧           (Int.toNat n = rdL N f ((0 : Int)) n ∧               ∀ (i : Nat), i < rdL N f ((0 : Int)) n → Same (A := Empty) [LV.bool (bitB f i)] [LV.bool (bitB f i)]) ∧             ∀ (i : Nat), plainL (A := Empty) [LV.bool (bitB f i)]
set_option maxRecDepth 100000 in
theorem e4 (N : Nat) (f : Nat → Int) (n : Int) (hN : N ≤ 2 ^ 43) (hn : n.toNat ≤ 8 * N) (hd : dirty f n.toNat = false) : runG Try.prog (SO (some false) none none [aL N f n hN hn hd]) 200 26 [] (startS Try.f26 (argA n) ((rd0 N f 0).map some)) .ret 2 [some (.own 0), some (.own 1), some (.own 3), some (.own 4)] 89 (endA N f 0 n) ((rd1b N f 0 n).map some) = some (some ((e4_G N f n hN hn hd))) := by kernel_rfl
--@]
--@gen e5 (N : Nat) (f : Nat → Int) (n : Int) (hN : N ≤ 2 ^ 43) (hn : n.toNat ≤ 8 * N) (hd : dirty f n.toNat = true) := runG Try.prog (SO (some false) none none [dL N f n hN hn hd]) 200 26 [] (startS Try.f26 (argA n) ((rd0 N f 0).map some)) .ret 2 [some (.own 0), some (.own 1), some (.own 1), none] 89 (endA N f 0 n) ((rd1b N f 0 n).map some)
--@[
def e5_G (N : Nat) (f : Nat → Int) (n : Int) (hN : N ≤ 2 ^ 43) (hn : n.toNat ≤ 8 * N) (hd : dirty f n.toNat = true) : Prop := (decide (IntKind.wrap IntKind.i64 ((8 : Int) * (↑N : Int)) < if n < (0 : Int) then (0 : Int) else n) = false ∧     (decide             ((↑N : Int) <               IntKind.wrap IntKind.i64                 (Int.tdiv (IntKind.wrap IntKind.i64 ((if n < (0 : Int) then (0 : Int) else n) + (7 : Int)))                   (8 : Int))) =           false ∧         (decide                 ((0 : Int) ≤ (↑(0 : Nat) : Int) ∧                   (↑(0 : Nat) : Int) ≤                       IntKind.wrap IntKind.i64                         (Int.tdiv (IntKind.wrap IntKind.i64 ((if n < (0 : Int) then (0 : Int) else n) + (7 : Int)))                           (8 : Int)) ∧                     IntKind.wrap IntKind.i64                           (Int.tdiv (IntKind.wrap IntKind.i64 ((if n < (0 : Int) then (0 : Int) else n) + (7 : Int)))                             (8 : Int)) ≤                         IntKind.wrap IntKind.i64                           (Int.tdiv (IntKind.wrap IntKind.i64 ((if n < (0 : Int) then (0 : Int) else n) + (7 : Int)))                             (8 : Int)) ∧                       IntKind.wrap IntKind.i64                           (Int.tdiv (IntKind.wrap IntKind.i64 ((if n < (0 : Int) then (0 : Int) else n) + (7 : Int)))                             (8 : Int)) ≤                         (↑N : Int)) =               true ∧             Nat.ble N N = true) ∧           decide                 ((0 : Int) ≤                     IntKind.wrap IntKind.i64                       (Int.tdiv (IntKind.wrap IntKind.i64 ((if n < (0 : Int) then (0 : Int) else n) + (7 : Int)))                         (8 : Int)) ∧                   IntKind.wrap IntKind.i64                         (Int.tdiv (IntKind.wrap IntKind.i64 ((if n < (0 : Int) then (0 : Int) else n) + (7 : Int)))                           (8 : Int)) ≤                       (↑N : Int) ∧                     (↑N : Int) ≤ (↑N : Int) ∧ (↑N : Int) ≤ (↑N : Int)) =               true ∧             Nat.ble N N = true) ∧       LS.tmps (LoopF.s (dL N f n hN hn hd)) = LS.tmps (LoopF.s (dL N f n hN hn hd)) ∧         LS.mem (LoopF.s (dL N f n hN hn hd)) = LS.mem (LoopF.s (dL N f n hN hn hd))) ∧   rdL N f ((0 : Int)) n = 0 ∧     (N = rdN N f ((0 : Int)) n ∧ (171 : Int) = rdE N f ((0 : Int)) n) ∧       ((N = N ∧ ∀ (i : Nat), i < N → Same (A := Empty) [LV.int IntKind.u8 (f i)] [LV.int IntKind.u8 (f i)]) ∧           ∀ (i : Nat), plainL (A := Empty) [LV.int IntKind.u8 (f i)]) ∧         ((N = rdN N f ((0 : Int)) n ∧               ∀ (i : Nat),                 i < rdN N f ((0 : Int)) n →                   Same (A := Empty) [LV.int IntKind.u8 (f i)] [LV.int IntKind.u8 (rdF N f (0 : Int) n i)]) ∧             ∀ (i : Nat), plainL (A := Empty) [LV.int IntKind.u8 (rdF N f (0 : Int) n i)]) ∧           rdL N f ((0 : Int)) n = 0 ∧ ∀ (i : Nat), plainL (A := Empty) [LV.bool (bitB f i)]
set_option maxRecDepth 100000 in
theorem e5 (N : Nat) (f : Nat → Int) (n : Int) (hN : N ≤ 2 ^ 43) (hn : n.toNat ≤ 8 * N) (hd : dirty f n.toNat = true) : runG Try.prog (SO (some false) none none [dL N f n hN hn hd]) 200 26 [] (startS Try.f26 (argA n) ((rd0 N f 0).map some)) .ret 2 [some (.own 0), some (.own 1), some (.own 1), none] 89 (endA N f 0 n) ((rd1b N f 0 n).map some) = some (some ((e5_G N f n hN hn hd))) := by kernel_rfl
--@]
theorem bits_toldW (N : Nat) (f : Nat → Int) (e n : Int) (hN : N ≤ 2 ^ 43) : ToldW Try.prog 26 [] (rd0 N f e) (argA n) (.vec (.own 3) (rdL N f e n)) (rd1b N f e n) := by
  have h8 : IntKind.wrap IntKind.i64 ((8 : Int) * (N : Int)) = 8 * (N : Int) := IntWalk.i64_in _ (by omega)
  have h7 : ((if n < 0 then 0 else n) : Int) = (n.toNat : Int) := by split <;> omega
  have h9 : n.toNat ≤ 8 * N → IntKind.wrap IntKind.i64 (Int.tdiv (IntKind.wrap IntKind.i64 ((n.toNat : Int) + 7)) 8) = (bytesN n.toNat : Int) := fun hn => lenB_eq (n := n.toNat) (by omega)
  have h10 : bytesN n.toNat = (n.toNat + 7) / 8 := rfl
  refine toldW_body (fn := Try.f26) rfl rfl (.inr rfl) (B := 2) (nn := 89) (l := endA N f e n) (cs := []) ?_ rfl rfl
  by_cases he : e = 0
  · subst he
    by_cases hn : n.toNat ≤ 8 * N
    · by_cases hd : dirty f n.toNat = true
      · refine ExB.auto (SO_ok _ _ _ _) noI_ok rfl mixed 200 _ (e5 N f n hN hn hd) ?_
        have hk : rdOk N f 0 n = false := by simp [rdOk, hd]
        simp only [condOk, e5_G, rdL, rdN, rdF, rdE, hk, h8, h7, h9 hn, hn, hd, if_true, Bool.false_eq_true, if_false]
        (and_intros <;> first | exact True.intro | omega | exact fun _ => ⟨trivial, trivial⟩ | exact fun _ _ => Same.refl _ | exact fun _ _ => Like.refl _ | (simp (disch := omega) only [true_and, and_true, Nat.beq_refl, Bool.true_and, decide_eq_true_eq, decide_eq_false_iff_not, beq_iff_eq, bne_iff_ne, beq_eq_false_iff_ne, bne_eq_false_iff_eq, ne_eq, Nat.blt_eq, Nat.ble_eq, Nat.beq_eq, Bool.and_eq_true, Bool.or_eq_true, IntKind.wrap_i64, IntKind.wrap_u64, IntKind.wrap_u8, IntKind.wrap_u32, Int.tdiv_eq_ediv_of_nonneg, Int.tmod_eq_emod_of_nonneg] <;> omega) | rfl | trivial)
      · have hd : dirty f n.toNat = false := by simpa using hd
        refine ExB.auto (SO_ok _ _ _ _) noI_ok rfl mixed 200 _ (e4 N f n hN hn hd) ?_
        have hk : rdOk N f 0 n = true := by simp [rdOk, hd, hn]
        simp only [condOk, e4_G, rdL, rdN, rdF, rdE, hk, h8, h7, h9 hn, hn, hd, if_true, Bool.false_eq_true, if_false]
        (and_intros <;> first | exact True.intro | omega | exact fun _ => ⟨trivial, trivial⟩ | exact fun _ _ => Same.refl _ | exact fun _ _ => Like.refl _ | (simp (disch := omega) only [true_and, and_true, Nat.beq_refl, Bool.true_and, decide_eq_true_eq, decide_eq_false_iff_not, beq_iff_eq, bne_iff_ne, beq_eq_false_iff_ne, bne_eq_false_iff_eq, ne_eq, Nat.blt_eq, Nat.ble_eq, Nat.beq_eq, Bool.and_eq_true, Bool.or_eq_true, IntKind.wrap_i64, IntKind.wrap_u64, IntKind.wrap_u8, IntKind.wrap_u32, Int.tdiv_eq_ediv_of_nonneg, Int.tmod_eq_emod_of_nonneg] <;> omega) | rfl | trivial)
    · refine ExB.auto (SO_ok _ _ _ _) noI_ok rfl mixed 200 _ (e3 N f n) ?_
      have hk : rdOk N f 0 n = false := by simp [rdOk, hn]
      simp only [condOk, e3_G, rdL, rdN, rdF, rdE, hk, h8, hn, if_true, Bool.false_eq_true, if_false]
      (and_intros <;> first | exact True.intro | omega | exact fun _ => ⟨trivial, trivial⟩ | exact fun _ _ => Same.refl _ | exact fun _ _ => Like.refl _ | (simp (disch := omega) only [true_and, and_true, Nat.beq_refl, Bool.true_and, decide_eq_true_eq, decide_eq_false_iff_not, beq_iff_eq, bne_iff_ne, beq_eq_false_iff_ne, bne_eq_false_iff_eq, ne_eq, Nat.blt_eq, Nat.ble_eq, Nat.beq_eq, Bool.and_eq_true, Bool.or_eq_true, IntKind.wrap_i64, IntKind.wrap_u64, IntKind.wrap_u8, IntKind.wrap_u32, Int.tdiv_eq_ediv_of_nonneg, Int.tmod_eq_emod_of_nonneg] <;> omega) | rfl | trivial)
  · have hk : rdOk N f e n = false := by simp [rdOk, he]
    by_cases hn : n.toNat ≤ 8 * N
    · refine ExB.auto (SO_ok _ _ _ _) noI_ok rfl mixed 200 _ (e2 N f e n) ?_
      simp only [condOk, e2_G, rdL, rdN, rdF, rdE, hk, h8, hn, he, if_true, Bool.false_eq_true, if_false]
      (and_intros <;> first | exact True.intro | omega | exact fun _ => ⟨trivial, trivial⟩ | exact fun _ _ => Same.refl _ | exact fun _ _ => Like.refl _ | (simp (disch := omega) only [true_and, and_true, Nat.beq_refl, Bool.true_and, decide_eq_true_eq, decide_eq_false_iff_not, beq_iff_eq, bne_iff_ne, beq_eq_false_iff_ne, bne_eq_false_iff_eq, ne_eq, Nat.blt_eq, Nat.ble_eq, Nat.beq_eq, Bool.and_eq_true, Bool.or_eq_true, IntKind.wrap_i64, IntKind.wrap_u64, IntKind.wrap_u8, IntKind.wrap_u32, Int.tdiv_eq_ediv_of_nonneg, Int.tmod_eq_emod_of_nonneg] <;> omega) | rfl | trivial)
    · refine ExB.auto (SO_ok _ _ _ _) noI_ok rfl mixed 200 _ (e1 N f e n) ?_
      simp only [condOk, e1_G, rdL, rdN, rdF, rdE, hk, h8, hn, he, if_true, Bool.false_eq_true, if_false]
      (and_intros <;> first | exact True.intro | omega | exact fun _ => ⟨trivial, trivial⟩ | exact fun _ _ => Same.refl _ | exact fun _ _ => Like.refl _ | (simp (disch := omega) only [true_and, and_true, Nat.beq_refl, Bool.true_and, decide_eq_true_eq, decide_eq_false_iff_not, beq_iff_eq, bne_iff_ne, beq_eq_false_iff_ne, bne_eq_false_iff_eq, ne_eq, Nat.blt_eq, Nat.ble_eq, Nat.beq_eq, Bool.and_eq_true, Bool.or_eq_true, IntKind.wrap_i64, IntKind.wrap_u64, IntKind.wrap_u8, IntKind.wrap_u32, Int.tdiv_eq_ediv_of_nonneg, Int.tmod_eq_emod_of_nonneg] <;> omega) | rfl | trivial)
end Go.Proofs.Ytjhjockdkpgpeaa.En
