/- DERIVED. Contracts of the readers' calls: bytes and numbers. -/
import Derived.Test.YtjhjockdkpgpeaaTC
import Derived.Laws.Bits64b
set_option linter.all false
namespace Go.Proofs.Ytjhjockdkpgpeaa.En
open Go Go.RowKit

/-- Bytes taken. -/
def tkOk (N : Nat) (e n : Int) : Bool := decide (e = 0) && decide (n.toNat ≤ N)
def tkL (N : Nat) (e n : Int) : Nat := if tkOk N e n = true then n.toNat else 0
def tkN (N : Nat) (e n : Int) : Nat := if tkOk N e n = true then N - n.toNat else N
def tkF (N : Nat) (f : Nat → Int) (e n : Int) (j : Nat) : Int := if tkOk N e n = true then f (n.toNat + j) else f j
def tkE (N : Nat) (e n : Int) : Int := if e = 0 then (if n.toNat ≤ N then 0 else 170) else e
noncomputable abbrev tkB (kd : Kd) (N : Nat) (f : Nat → Int) (e n : Int) : List (Blk Empty) := [rdB 2 (tkN N e n) (tkE N e n), roB N f, roB (tkN N e n) (tkF N f e n), ⟨kd, bytesU (tkL N e n) f⟩]
theorem tkB_ob (kd : Kd) (N : Nat) (f : Nat → Int) (e n : Int) : ∀ b ∈ tkB kd N f e n, ownlyL b.us := by
  intro b hb
  simp only [tkB, List.mem_cons, List.not_mem_nil, or_false] at hb
  rcases hb with rfl | rfl | rfl | rfl
  · exact rd_ownly ..
  · exact ro_ownly ..
  · exact ro_ownly ..
  · exact by_ownly ..
def advT (a b : Option Bool) : Adv where
  il _ := true
  dec f r i := match f, r, i with
    | 55, 1, 4 => a
    | 55, 3, 6 => b
    | 36, 2, 4 => a
    | 36, 4, 6 => b
    | _, _, _ => none
  rc f r i := match f, r, i with
    | 55, 6, 6 => true
    | 55, 7, 6 => true
    | 36, 7, 5 => true
    | 36, 8, 6 => true
    | 35, 1, 4 => true
    | _, _, _ => false
  fz _ _ := false
  res _ _ := 20
noncomputable abbrev ST (a b : Option Bool) : Sig Empty := sigOf (P := Try.prog) [] [] [] (I := noI) [] noMs (advT a b)
theorem ST_ok (a b : Option Bool) : SigOk Try.prog (ST a b) := sigOf_ok [] [] [] [] (noMs_ok _) _ noI_ok
--@gen rb1 (N : Nat) (f : Nat → Int) (n : Int) := runG Try.prog (ST none (some false)) 60 35 [] (startS Try.f35 (argA n) ((rd0 N f 0).map some)) .ret 2 [some (.own 0), some (.own 1), some (.own 3), some (.own 4)] 10 [(4, .vec (.own 3) (tkL N 0 n))] ((tkB (.row 5) N f 0 n).map some)
--@[
def rb1_G (N : Nat) (f : Nat → Int) (n : Int) : Prop := ((decide ((↑N : Int) < if n < (0 : Int) then (0 : Int) else n) = false ∧       (decide               ((0 : Int) ≤ (↑0 : Int) ∧                 ((↑0 : Int) ≤ if n < (0 : Int) then (0 : Int) else n) ∧                   ((if n < (0 : Int) then (0 : Int) else n) ≤                       if n < (0 : Int) then (0 : Int) else n) ∧                     (if n < (0 : Int) then (0 : Int) else n) ≤ (↑N : Int)) =             true ∧           Nat.ble N N = true) ∧         decide               (((0 : Int) ≤ if n < (0 : Int) then (0 : Int) else n) ∧                 (if n < (0 : Int) then (0 : Int) else n) ≤ (↑N : Int) ∧                   (↑N : Int) ≤ (↑N : Int) ∧ (↑N : Int) ≤ (↑N : Int)) =             true ∧           Nat.ble N N = true) ∧     Nat.ble (Int.toNat (if n < (0 : Int) then (0 : Int) else n))           (Int.toNat (if n < (0 : Int) then (0 : Int) else n)) =         true ∧       Nat.ble (Int.toNat (if n < (0 : Int) then (0 : Int) else n) * 1)           140737488355328 =         true) ∧   Int.toNat (if n < (0 : Int) then (0 : Int) else n) = tkL N ((0 : Int)) n ∧     (Int.toNat (↑N : Int) - Int.toNat (if n < (0 : Int) then (0 : Int) else n) =           tkN N ((0 : Int)) n ∧         (0 : Int) = tkE N ((0 : Int)) n) ∧       ((N = N ∧ ∀ (i : Nat), i < N → Same (A := Empty) [LV.int IntKind.u8 (f i)] [LV.int IntKind.u8 (f i)]) ∧           ∀ (i : Nat), plainL (A := Empty) [LV.int IntKind.u8 (f i)]) ∧         ((Int.toNat (↑N : Int) - Int.toNat (if n < (0 : Int) then (0 : Int) else n) =                 tkN N ((0 : Int)) n ∧               ∀ (i : Nat),                 i < tkN N ((0 : Int)) n →                   Same (A := Empty) [LV.int IntKind.u8                         (f (Int.toNat (if n < (0 : Int) then (0 : Int) else n) + i))]                     [LV.int IntKind.u8 (tkF N f ((0 : Int)) n i)]) ∧             ∀ (i : Nat), plainL (A := Empty) [LV.int IntKind.u8 (tkF N f ((0 : Int)) n i)]) ∧           (Int.toNat (if n < (0 : Int) then (0 : Int) else n) =                 tkL N ((0 : Int)) n ∧               ∀ (i : Nat),                 i < tkL N ((0 : Int)) n → Same (A := Empty) [LV.int IntKind.u8 (f i)] [LV.int IntKind.u8 (f i)]) ∧             ∀ (i : Nat), plainL (A := Empty) [LV.int IntKind.u8 (f i)]
set_option maxRecDepth 100000 in
theorem rb1 (N : Nat) (f : Nat → Int) (n : Int) : runG Try.prog (ST none (some false)) 60 35 [] (startS Try.f35 (argA n) ((rd0 N f 0).map some)) .ret 2 [some (.own 0), some (.own 1), some (.own 3), some (.own 4)] 10 [(4, .vec (.own 3) (tkL N 0 n))] ((tkB (.row 5) N f 0 n).map some) = some (some ((rb1_G N f n))) := by kernel_rfl
--@]
--@gen rb2 (N : Nat) (f : Nat → Int) (n : Int) := runG Try.prog (ST none (some true)) 60 35 [] (startS Try.f35 (argA n) ((rd0 N f 0).map some)) .ret 2 [some (.own 0), some (.own 1), some (.own 1), some (.own 2)] 10 [(4, .vec (.own 3) (tkL N 0 n))] ((tkB (.row 5) N f 0 n).map some)
--@[
def rb2_G (N : Nat) (f : Nat → Int) (n : Int) : Prop := (decide ((↑N : Int) < if n < (0 : Int) then (0 : Int) else n) = true ∧ true = true) ∧   0 = tkL N ((0 : Int)) n ∧     (N = tkN N ((0 : Int)) n ∧ (170 : Int) = tkE N ((0 : Int)) n) ∧       ((N = N ∧ ∀ (i : Nat), i < N → Same (A := Empty) [LV.int IntKind.u8 (f i)] [LV.int IntKind.u8 (f i)]) ∧           ∀ (i : Nat), plainL (A := Empty) [LV.int IntKind.u8 (f i)]) ∧         ((N = tkN N ((0 : Int)) n ∧               ∀ (i : Nat),                 i < tkN N ((0 : Int)) n →                   Same (A := Empty) [LV.int IntKind.u8 (f i)] [LV.int IntKind.u8 (tkF N f ((0 : Int)) n i)]) ∧             ∀ (i : Nat), plainL (A := Empty) [LV.int IntKind.u8 (tkF N f ((0 : Int)) n i)]) ∧           (0 = tkL N ((0 : Int)) n ∧               ∀ (i : Nat), i < tkL N ((0 : Int)) n → Same (A := Empty) [] [LV.int IntKind.u8 (f i)]) ∧             ∀ (i : Nat), plainL (A := Empty) [LV.int IntKind.u8 (f i)]
set_option maxRecDepth 100000 in
theorem rb2 (N : Nat) (f : Nat → Int) (n : Int) : runG Try.prog (ST none (some true)) 60 35 [] (startS Try.f35 (argA n) ((rd0 N f 0).map some)) .ret 2 [some (.own 0), some (.own 1), some (.own 1), some (.own 2)] 10 [(4, .vec (.own 3) (tkL N 0 n))] ((tkB (.row 5) N f 0 n).map some) = some (some ((rb2_G N f n))) := by kernel_rfl
--@]
--@gen rb3 (N : Nat) (f : Nat → Int) (e n : Int) := runG Try.prog (ST (some true) none) 60 35 [] (startS Try.f35 (argA n) ((rd0 N f e).map some)) .ret 2 [some (.own 0), some (.own 1), some (.own 1), some (.own 2)] 10 [(4, .vec (.own 3) (tkL N e n))] ((tkB (.row 5) N f e n).map some)
--@[
def rb3_G (N : Nat) (f : Nat → Int) (e n : Int) : Prop := ((e != (0 : Int)) = true ∧ true = true) ∧   0 = tkL N e n ∧     (N = tkN N e n ∧ e = tkE N e n) ∧       ((N = N ∧ ∀ (i : Nat), i < N → Same (A := Empty) [LV.int IntKind.u8 (f i)] [LV.int IntKind.u8 (f i)]) ∧           ∀ (i : Nat), plainL (A := Empty) [LV.int IntKind.u8 (f i)]) ∧         ((N = tkN N e n ∧               ∀ (i : Nat), i < tkN N e n → Same (A := Empty) [LV.int IntKind.u8 (f i)] [LV.int IntKind.u8 (tkF N f e n i)]) ∧             ∀ (i : Nat), plainL (A := Empty) [LV.int IntKind.u8 (tkF N f e n i)]) ∧           (0 = tkL N e n ∧ ∀ (i : Nat), i < tkL N e n → Same (A := Empty) [] [LV.int IntKind.u8 (f i)]) ∧             ∀ (i : Nat), plainL (A := Empty) [LV.int IntKind.u8 (f i)]
set_option maxRecDepth 100000 in
theorem rb3 (N : Nat) (f : Nat → Int) (e n : Int) : runG Try.prog (ST (some true) none) 60 35 [] (startS Try.f35 (argA n) ((rd0 N f e).map some)) .ret 2 [some (.own 0), some (.own 1), some (.own 1), some (.own 2)] 10 [(4, .vec (.own 3) (tkL N e n))] ((tkB (.row 5) N f e n).map some) = some (some ((rb3_G N f e n))) := by kernel_rfl
--@]
--@gen qb1 (N : Nat) (f : Nat → Int) (n : Int) := runG Try.prog (ST none (some false)) 60 36 [] (startS Try.f36 (argA n) ((rd0 N f 0).map some)) .ret 2 [some (.own 0), some (.own 1), some (.own 3), some (.own 2)] 39 [(4, .vec (.own 3) (tkL N 0 n))] ((tkB .ro N f 0 n).map some)
--@[
def qb1_G (N : Nat) (f : Nat → Int) (n : Int) : Prop := (decide ((↑N : Int) < if n < (0 : Int) then (0 : Int) else n) = false ∧     (decide             ((0 : Int) ≤ (↑0 : Int) ∧               ((↑0 : Int) ≤ if n < (0 : Int) then (0 : Int) else n) ∧                 (if n < (0 : Int) then (0 : Int) else n) ≤ (↑N : Int) ∧                   (↑N : Int) ≤ (↑N : Int)) =           true ∧         Nat.ble N N = true) ∧       decide             (((0 : Int) ≤ if n < (0 : Int) then (0 : Int) else n) ∧               (if n < (0 : Int) then (0 : Int) else n) ≤ (↑N : Int) ∧                 (↑N : Int) ≤ (↑N : Int) ∧ (↑N : Int) ≤ (↑N : Int)) =           true ∧         Nat.ble N N = true) ∧   Int.toNat (if n < (0 : Int) then (0 : Int) else n) = tkL N ((0 : Int)) n ∧     (Int.toNat (↑N : Int) - Int.toNat (if n < (0 : Int) then (0 : Int) else n) =           tkN N ((0 : Int)) n ∧         (0 : Int) = tkE N ((0 : Int)) n) ∧       ((N = N ∧ ∀ (i : Nat), i < N → Same (A := Empty) [LV.int IntKind.u8 (f i)] [LV.int IntKind.u8 (f i)]) ∧           ∀ (i : Nat), plainL (A := Empty) [LV.int IntKind.u8 (f i)]) ∧         ((Int.toNat (↑N : Int) - Int.toNat (if n < (0 : Int) then (0 : Int) else n) =                 tkN N ((0 : Int)) n ∧               ∀ (i : Nat),                 i < tkN N ((0 : Int)) n →                   Same (A := Empty) [LV.int IntKind.u8                         (f (Int.toNat (if n < (0 : Int) then (0 : Int) else n) + i))]                     [LV.int IntKind.u8 (tkF N f ((0 : Int)) n i)]) ∧             ∀ (i : Nat), plainL (A := Empty) [LV.int IntKind.u8 (tkF N f ((0 : Int)) n i)]) ∧           (Int.toNat (if n < (0 : Int) then (0 : Int) else n) =                 tkL N ((0 : Int)) n ∧               ∀ (i : Nat),                 i < tkL N ((0 : Int)) n → Same (A := Empty) [LV.int IntKind.u8 (f i)] [LV.int IntKind.u8 (f i)]) ∧             ∀ (i : Nat), plainL (A := Empty) [LV.int IntKind.u8 (f i)]
set_option maxRecDepth 100000 in
theorem qb1 (N : Nat) (f : Nat → Int) (n : Int) : runG Try.prog (ST none (some false)) 60 36 [] (startS Try.f36 (argA n) ((rd0 N f 0).map some)) .ret 2 [some (.own 0), some (.own 1), some (.own 3), some (.own 2)] 39 [(4, .vec (.own 3) (tkL N 0 n))] ((tkB .ro N f 0 n).map some) = some (some ((qb1_G N f n))) := by kernel_rfl
--@]
--@gen qb2 (N : Nat) (f : Nat → Int) (n : Int) := runG Try.prog (ST none (some true)) 60 36 [] (startS Try.f36 (argA n) ((rd0 N f 0).map some)) .ret 2 [some (.own 0), some (.own 1), some (.own 1), none] 39 [(4, .vec (.own 3) (tkL N 0 n))] ((tkB .ro N f 0 n).map some)
--@[
def qb2_G (N : Nat) (f : Nat → Int) (n : Int) : Prop := decide ((↑N : Int) < if n < (0 : Int) then (0 : Int) else n) = true ∧   tkL N ((0 : Int)) n = 0 ∧     (N = tkN N ((0 : Int)) n ∧ (170 : Int) = tkE N ((0 : Int)) n) ∧       ((N = N ∧ ∀ (i : Nat), i < N → Same (A := Empty) [LV.int IntKind.u8 (f i)] [LV.int IntKind.u8 (f i)]) ∧           ∀ (i : Nat), plainL (A := Empty) [LV.int IntKind.u8 (f i)]) ∧         ((N = tkN N ((0 : Int)) n ∧               ∀ (i : Nat),                 i < tkN N ((0 : Int)) n →                   Same (A := Empty) [LV.int IntKind.u8 (f i)] [LV.int IntKind.u8 (tkF N f ((0 : Int)) n i)]) ∧             ∀ (i : Nat), plainL (A := Empty) [LV.int IntKind.u8 (tkF N f ((0 : Int)) n i)]) ∧           tkL N ((0 : Int)) n = 0 ∧ ∀ (i : Nat), plainL (A := Empty) [LV.int IntKind.u8 (f i)]
set_option maxRecDepth 100000 in
theorem qb2 (N : Nat) (f : Nat → Int) (n : Int) : runG Try.prog (ST none (some true)) 60 36 [] (startS Try.f36 (argA n) ((rd0 N f 0).map some)) .ret 2 [some (.own 0), some (.own 1), some (.own 1), none] 39 [(4, .vec (.own 3) (tkL N 0 n))] ((tkB .ro N f 0 n).map some) = some (some ((qb2_G N f n))) := by kernel_rfl
--@]
--@gen qb3 (N : Nat) (f : Nat → Int) (e n : Int) := runG Try.prog (ST (some true) none) 60 36 [] (startS Try.f36 (argA n) ((rd0 N f e).map some)) .ret 2 [some (.own 0), some (.own 1), some (.own 1), none] 39 [(4, .vec (.own 3) (tkL N e n))] ((tkB .ro N f e n).map some)
--@[
def qb3_G (N : Nat) (f : Nat → Int) (e n : Int) : Prop := (e != (0 : Int)) = true ∧   tkL N e n = 0 ∧     (N = tkN N e n ∧ e = tkE N e n) ∧       ((N = N ∧ ∀ (i : Nat), i < N → Same (A := Empty) [LV.int IntKind.u8 (f i)] [LV.int IntKind.u8 (f i)]) ∧           ∀ (i : Nat), plainL (A := Empty) [LV.int IntKind.u8 (f i)]) ∧         ((N = tkN N e n ∧               ∀ (i : Nat), i < tkN N e n → Same (A := Empty) [LV.int IntKind.u8 (f i)] [LV.int IntKind.u8 (tkF N f e n i)]) ∧             ∀ (i : Nat), plainL (A := Empty) [LV.int IntKind.u8 (tkF N f e n i)]) ∧           tkL N e n = 0 ∧ ∀ (i : Nat), plainL (A := Empty) [LV.int IntKind.u8 (f i)]
set_option maxRecDepth 100000 in
theorem qb3 (N : Nat) (f : Nat → Int) (e n : Int) : runG Try.prog (ST (some true) none) 60 36 [] (startS Try.f36 (argA n) ((rd0 N f e).map some)) .ret 2 [some (.own 0), some (.own 1), some (.own 1), none] 39 [(4, .vec (.own 3) (tkL N e n))] ((tkB .ro N f e n).map some) = some (some ((qb3_G N f e n))) := by kernel_rfl
--@]
theorem rbytes_told (N : Nat) (f : Nat → Int) (e n : Int) (hN : N ≤ 2 ^ 43) : ToldW Try.prog 35 [] (rd0 N f e) (argA n) (.vec (.own 3) (tkL N e n)) (tkB (.row 5) N f e n) := by
  have h7 : ((if n < 0 then 0 else n) : Int) = (n.toNat : Int) := by split <;> omega
  refine toldW_body (fn := Try.f35) rfl rfl (.inr rfl) (B := 2) (nn := 10) (l := [(4, .vec (.own 3) (tkL N e n))]) (cs := []) ?_ rfl rfl
  by_cases he : e = 0
  · subst he
    by_cases hn : n.toNat ≤ N
    · refine ExB.auto (ST_ok _ _) noI_ok rfl mixed 60 _ (rb1 N f n) ?_
      have hk : tkOk N 0 n = true := by simp [tkOk, hn]
      simp only [condOk, rb1_G, tkL, tkN, tkF, tkE, hk, h7, hn, if_true, Int.toNat_natCast, Bool.false_eq_true, if_false]
      (and_intros <;> first | exact True.intro | omega | exact fun _ => ⟨trivial, trivial⟩ | exact fun _ _ => Same.refl _ | exact fun _ _ => Like.refl _ | (simp (disch := omega) only [true_and, and_true, Nat.beq_refl, Bool.true_and, decide_eq_true_eq, decide_eq_false_iff_not, beq_iff_eq, bne_iff_ne, beq_eq_false_iff_ne, bne_eq_false_iff_eq, ne_eq, Nat.blt_eq, Nat.ble_eq, Nat.beq_eq, Bool.and_eq_true, Bool.or_eq_true, IntKind.wrap_i64, IntKind.wrap_u64, IntKind.wrap_u8, IntKind.wrap_u32, Int.tdiv_eq_ediv_of_nonneg, Int.tmod_eq_emod_of_nonneg] <;> omega) | rfl | trivial)
    · refine ExB.auto (ST_ok _ _) noI_ok rfl mixed 60 _ (rb2 N f n) ?_
      have hk : tkOk N 0 n = false := by simp [tkOk, hn]
      simp only [condOk, rb2_G, tkL, tkN, tkF, tkE, hk, h7, hn, if_true, Int.toNat_natCast, Bool.false_eq_true, if_false]
      (and_intros <;> first | exact True.intro | omega | exact fun _ => ⟨trivial, trivial⟩ | exact fun _ _ => Same.refl _ | exact fun _ _ => Like.refl _ | (simp (disch := omega) only [true_and, and_true, Nat.beq_refl, Bool.true_and, decide_eq_true_eq, decide_eq_false_iff_not, beq_iff_eq, bne_iff_ne, beq_eq_false_iff_ne, bne_eq_false_iff_eq, ne_eq, Nat.blt_eq, Nat.ble_eq, Nat.beq_eq, Bool.and_eq_true, Bool.or_eq_true, IntKind.wrap_i64, IntKind.wrap_u64, IntKind.wrap_u8, IntKind.wrap_u32, Int.tdiv_eq_ediv_of_nonneg, Int.tmod_eq_emod_of_nonneg] <;> omega) | rfl | trivial)
  · refine ExB.auto (ST_ok _ _) noI_ok rfl mixed 60 _ (rb3 N f e n) ?_
    have hk : tkOk N e n = false := by simp [tkOk, he]
    simp only [condOk, rb3_G, tkL, tkN, tkF, tkE, hk, h7, he, if_true, Int.toNat_natCast, Bool.false_eq_true, if_false]
    (and_intros <;> first | exact True.intro | omega | exact fun _ => ⟨trivial, trivial⟩ | exact fun _ _ => Same.refl _ | exact fun _ _ => Like.refl _ | (simp (disch := omega) only [true_and, and_true, Nat.beq_refl, Bool.true_and, decide_eq_true_eq, decide_eq_false_iff_not, beq_iff_eq, bne_iff_ne, beq_eq_false_iff_ne, bne_eq_false_iff_eq, ne_eq, Nat.blt_eq, Nat.ble_eq, Nat.beq_eq, Bool.and_eq_true, Bool.or_eq_true, IntKind.wrap_i64, IntKind.wrap_u64, IntKind.wrap_u8, IntKind.wrap_u32, Int.tdiv_eq_ediv_of_nonneg, Int.tmod_eq_emod_of_nonneg] <;> omega) | rfl | trivial)
set_option maxRecDepth 100000 in
theorem ent35 : ∀ args w, (callFunc 35 args).run Try.prog w = .ok (.enter 35 args) w := ent_of (f := 35) (P := Try.prog) rfl rfl rfl
noncomputable def rbS : Spec Try.prog Empty 35 where
  X := Nat × (Nat → Int) × Int × Int
  us _ := []
  bls0 x := rd0 x.1 x.2.1 x.2.2.1
  args x := argA x.2.2.2
  v x := .vec (.own 3) (tkL x.1 x.2.2.1 x.2.2.2)
  bls1 x := tkB (.row 5) x.1 x.2.1 x.2.2.1 x.2.2.2
  c x := x.1 ≤ 2 ^ 43
  told x h := rbytes_told x.1 x.2.1 x.2.2.1 x.2.2.2 h
  ov _ := ⟨3, rfl⟩
  ob x := tkB_ob _ _ _ _ _
noncomputable def conRBytes : ConC Try.prog Empty := rbS.con ent35 fun I vs mem => match vs with
  | [p, .int _ n] => match pickRd mem p with
    | some (r, d, N, f, e) => some ((N, f, e, n), [r, d], [])
    | none => none
  | _ => none
theorem qbytes_told (N : Nat) (f : Nat → Int) (e n : Int) (hN : N ≤ 2 ^ 43) : ToldW Try.prog 36 [] (rd0 N f e) (argA n) (.vec (.own 3) (tkL N e n)) (tkB .ro N f e n) := by
  have h7 : ((if n < 0 then 0 else n) : Int) = (n.toNat : Int) := by split <;> omega
  refine toldW_body (fn := Try.f36) rfl rfl (.inr rfl) (B := 2) (nn := 39) (l := [(4, .vec (.own 3) (tkL N e n))]) (cs := []) ?_ rfl rfl
  by_cases he : e = 0
  · subst he
    by_cases hn : n.toNat ≤ N
    · refine ExB.auto (ST_ok _ _) noI_ok rfl mixed 60 _ (qb1 N f n) ?_
      have hk : tkOk N 0 n = true := by simp [tkOk, hn]
      simp only [condOk, qb1_G, tkL, tkN, tkF, tkE, hk, h7, hn, if_true, Int.toNat_natCast, Bool.false_eq_true, if_false]
      (and_intros <;> first | exact True.intro | omega | exact fun _ => ⟨trivial, trivial⟩ | exact fun _ _ => Same.refl _ | exact fun _ _ => Like.refl _ | (simp (disch := omega) only [true_and, and_true, Nat.beq_refl, Bool.true_and, decide_eq_true_eq, decide_eq_false_iff_not, beq_iff_eq, bne_iff_ne, beq_eq_false_iff_ne, bne_eq_false_iff_eq, ne_eq, Nat.blt_eq, Nat.ble_eq, Nat.beq_eq, Bool.and_eq_true, Bool.or_eq_true, IntKind.wrap_i64, IntKind.wrap_u64, IntKind.wrap_u8, IntKind.wrap_u32, Int.tdiv_eq_ediv_of_nonneg, Int.tmod_eq_emod_of_nonneg] <;> omega) | rfl | trivial)
    · refine ExB.auto (ST_ok _ _) noI_ok rfl mixed 60 _ (qb2 N f n) ?_
      have hk : tkOk N 0 n = false := by simp [tkOk, hn]
      simp only [condOk, qb2_G, tkL, tkN, tkF, tkE, hk, h7, hn, if_true, Int.toNat_natCast, Bool.false_eq_true, if_false]
      (and_intros <;> first | exact True.intro | omega | exact fun _ => ⟨trivial, trivial⟩ | exact fun _ _ => Same.refl _ | exact fun _ _ => Like.refl _ | (simp (disch := omega) only [true_and, and_true, Nat.beq_refl, Bool.true_and, decide_eq_true_eq, decide_eq_false_iff_not, beq_iff_eq, bne_iff_ne, beq_eq_false_iff_ne, bne_eq_false_iff_eq, ne_eq, Nat.blt_eq, Nat.ble_eq, Nat.beq_eq, Bool.and_eq_true, Bool.or_eq_true, IntKind.wrap_i64, IntKind.wrap_u64, IntKind.wrap_u8, IntKind.wrap_u32, Int.tdiv_eq_ediv_of_nonneg, Int.tmod_eq_emod_of_nonneg] <;> omega) | rfl | trivial)
  · refine ExB.auto (ST_ok _ _) noI_ok rfl mixed 60 _ (qb3 N f e n) ?_
    have hk : tkOk N e n = false := by simp [tkOk, he]
    simp only [condOk, qb3_G, tkL, tkN, tkF, tkE, hk, h7, he, if_true, Int.toNat_natCast, Bool.false_eq_true, if_false]
    (and_intros <;> first | exact True.intro | omega | exact fun _ => ⟨trivial, trivial⟩ | exact fun _ _ => Same.refl _ | exact fun _ _ => Like.refl _ | (simp (disch := omega) only [true_and, and_true, Nat.beq_refl, Bool.true_and, decide_eq_true_eq, decide_eq_false_iff_not, beq_iff_eq, bne_iff_ne, beq_eq_false_iff_ne, bne_eq_false_iff_eq, ne_eq, Nat.blt_eq, Nat.ble_eq, Nat.beq_eq, Bool.and_eq_true, Bool.or_eq_true, IntKind.wrap_i64, IntKind.wrap_u64, IntKind.wrap_u8, IntKind.wrap_u32, Int.tdiv_eq_ediv_of_nonneg, Int.tmod_eq_emod_of_nonneg] <;> omega) | rfl | trivial)
set_option maxRecDepth 100000 in
theorem ent36 : ∀ args w, (callFunc 36 args).run Try.prog w = .ok (.enter 36 args) w := ent_of (f := 36) (P := Try.prog) rfl rfl rfl
noncomputable def qbS : Spec Try.prog Empty 36 where
  X := Nat × (Nat → Int) × Int × Int
  us _ := []
  bls0 x := rd0 x.1 x.2.1 x.2.2.1
  args x := argA x.2.2.2
  v x := .vec (.own 3) (tkL x.1 x.2.2.1 x.2.2.2)
  bls1 x := tkB .ro x.1 x.2.1 x.2.2.1 x.2.2.2
  c x := x.1 ≤ 2 ^ 43
  told x h := qbytes_told x.1 x.2.1 x.2.2.1 x.2.2.2 h
  ov _ := ⟨3, rfl⟩
  ob x := tkB_ob _ _ _ _ _
noncomputable def conQBytes : ConC Try.prog Empty := qbS.con ent36 fun I vs mem => match vs with
  | [p, .int _ n] => match pickRd mem p with
    | some (r, d, N, f, e) => some ((N, f, e, n), [r, d], [])
    | none => none
  | _ => none

/-! ## numbers -/
def uintV (N : Nat) (f : Nat → Int) (e : Int) : Int := if tkOk N e 8 = true then f 0 + f 1 * 2 ^ 8 + f 2 * 2 ^ 16 + f 3 * 2 ^ 24 + f 4 * 2 ^ 32 + f 5 * 2 ^ 40 + f 6 * 2 ^ 48 + f 7 * 2 ^ 56 else 0
noncomputable abbrev uiB (N : Nat) (f : Nat → Int) (e : Int) : List (Blk Empty) := [rdB 2 (tkN N e 8) (tkE N e 8), roB N f, roB (tkN N e 8) (tkF N f e 8)]
def advU (a b : Option Bool) : Adv := { advT a b with rc := fun _ _ _ => true }
noncomputable abbrev SU (a b : Option Bool) : Sig Empty := sigOf (P := Try.prog) [] [] [] (I := noI) [] noMs (advU a b)
theorem SU_ok (a b : Option Bool) : SigOk Try.prog (SU a b) := sigOf_ok [] [] [] [] (noMs_ok _) _ noI_ok
--@gen ru1 (N : Nat) (f : Nat → Int) := runG Try.prog (SU none (some false)) 80 33 [] (startS Try.f33 [.ptr (.own 0) 0 []] ((rd0 N f 0).map some)) .ret 2 [some (.own 0), some (.own 1), some (.own 3)] 24 [(2, .int .u64 (uintV N f 0))] ((uiB N f 0).map some)
--@[
def ru1_G (N : Nat) (f : Nat → Int) : Prop := ((decide ((↑N : Int) < (8 : Int)) = false ∧       (decide               ((0 : Int) ≤ (↑0 : Int) ∧                 (↑0 : Int) ≤ (8 : Int) ∧                   (8 : Int) ≤ (8 : Int) ∧ (8 : Int) ≤ (↑N : Int)) =             true ∧           Nat.ble N N = true) ∧         (decide                 ((0 : Int) ≤ (8 : Int) ∧                   (8 : Int) ≤ (↑N : Int) ∧ (↑N : Int) ≤ (↑N : Int) ∧ (↑N : Int) ≤ (↑N : Int)) =               true ∧             Nat.ble N N = true) ∧           true = true) ∧     (true = true ∧ true = true) ∧       true = true ∧         (true = true ∧ true = true) ∧           true = true ∧             (true = true ∧ true = true) ∧               true = true ∧                 (true = true ∧ true = true) ∧                   true = true ∧                     (true = true ∧ true = true) ∧                       true = true ∧                         (true = true ∧ true = true) ∧                           true = true ∧                             (true = true ∧ true = true) ∧ true = true ∧ (true = true ∧ true = true) ∧ true = true) ∧   bits BinOp.or IntKind.u64         (bits BinOp.or IntKind.u64           (bits BinOp.or IntKind.u64             (bits BinOp.or IntKind.u64               (bits BinOp.or IntKind.u64                 (bits BinOp.or IntKind.u64                   (bits BinOp.or IntKind.u64                     (bits BinOp.or IntKind.u64 ((0 : Int))                       (IntKind.wrap IntKind.u64                         (IntKind.wrap IntKind.u64 (f 0) * (2 : Int) ^ 0)))                     (IntKind.wrap IntKind.u64                       (IntKind.wrap IntKind.u64 (f 1) * (2 : Int) ^ 8)))                   (IntKind.wrap IntKind.u64                     (IntKind.wrap IntKind.u64 (f 2) * (2 : Int) ^ 16)))                 (IntKind.wrap IntKind.u64                   (IntKind.wrap IntKind.u64 (f 3) * (2 : Int) ^ 24)))               (IntKind.wrap IntKind.u64                 (IntKind.wrap IntKind.u64 (f 4) * (2 : Int) ^ 32)))             (IntKind.wrap IntKind.u64 (IntKind.wrap IntKind.u64 (f 5) * (2 : Int) ^ 40)))           (IntKind.wrap IntKind.u64 (IntKind.wrap IntKind.u64 (f 6) * (2 : Int) ^ 48)))         (IntKind.wrap IntKind.u64 (IntKind.wrap IntKind.u64 (f 7) * (2 : Int) ^ 56)) =       uintV N f ((0 : Int)) ∧     (Int.toNat (↑N : Int) - 8 = tkN N ((0 : Int)) ((8 : Int)) ∧         (0 : Int) = tkE N ((0 : Int)) ((8 : Int))) ∧       ((N = N ∧ ∀ (i : Nat), i < N → Same (A := Empty) [LV.int IntKind.u8 (f i)] [LV.int IntKind.u8 (f i)]) ∧           ∀ (i : Nat), plainL (A := Empty) [LV.int IntKind.u8 (f i)]) ∧         (Int.toNat (↑N : Int) - 8 = tkN N ((0 : Int)) ((8 : Int)) ∧             ∀ (i : Nat),               i < tkN N ((0 : Int)) ((8 : Int)) →                 Same (A := Empty) [LV.int IntKind.u8 (f (8 + i))]                   [LV.int IntKind.u8 (tkF N f ((0 : Int)) ((8 : Int)) i)]) ∧           ∀ (i : Nat), plainL (A := Empty) [LV.int IntKind.u8 (tkF N f ((0 : Int)) ((8 : Int)) i)]
set_option maxRecDepth 100000 in
theorem ru1 (N : Nat) (f : Nat → Int) : runG Try.prog (SU none (some false)) 80 33 [] (startS Try.f33 [.ptr (.own 0) 0 []] ((rd0 N f 0).map some)) .ret 2 [some (.own 0), some (.own 1), some (.own 3)] 24 [(2, .int .u64 (uintV N f 0))] ((uiB N f 0).map some) = some (some ((ru1_G N f))) := by kernel_rfl
--@]
--@gen ru2 (N : Nat) (f : Nat → Int) := runG Try.prog (SU none (some true)) 80 33 [] (startS Try.f33 [.ptr (.own 0) 0 []] ((rd0 N f 0).map some)) .ret 2 [some (.own 0), some (.own 1), some (.own 1)] 24 [(2, .int .u64 (uintV N f 0))] ((uiB N f 0).map some)
--@[
def ru2_G (N : Nat) (f : Nat → Int) : Prop := (decide ((↑N : Int) < (8 : Int)) = true ∧ true = true) ∧   (0 : Int) = uintV N f ((0 : Int)) ∧     (N = tkN N ((0 : Int)) ((8 : Int)) ∧         (170 : Int) = tkE N ((0 : Int)) ((8 : Int))) ∧       ((N = N ∧ ∀ (i : Nat), i < N → Same (A := Empty) [LV.int IntKind.u8 (f i)] [LV.int IntKind.u8 (f i)]) ∧           ∀ (i : Nat), plainL (A := Empty) [LV.int IntKind.u8 (f i)]) ∧         (N = tkN N ((0 : Int)) ((8 : Int)) ∧             ∀ (i : Nat),               i < tkN N ((0 : Int)) ((8 : Int)) →                 Same (A := Empty) [LV.int IntKind.u8 (f i)]                   [LV.int IntKind.u8 (tkF N f ((0 : Int)) ((8 : Int)) i)]) ∧           ∀ (i : Nat), plainL (A := Empty) [LV.int IntKind.u8 (tkF N f ((0 : Int)) ((8 : Int)) i)]
set_option maxRecDepth 100000 in
theorem ru2 (N : Nat) (f : Nat → Int) : runG Try.prog (SU none (some true)) 80 33 [] (startS Try.f33 [.ptr (.own 0) 0 []] ((rd0 N f 0).map some)) .ret 2 [some (.own 0), some (.own 1), some (.own 1)] 24 [(2, .int .u64 (uintV N f 0))] ((uiB N f 0).map some) = some (some ((ru2_G N f))) := by kernel_rfl
--@]
--@gen ru3 (N : Nat) (f : Nat → Int) (e : Int) := runG Try.prog (SU (some true) none) 80 33 [] (startS Try.f33 [.ptr (.own 0) 0 []] ((rd0 N f e).map some)) .ret 2 [some (.own 0), some (.own 1), some (.own 1)] 24 [(2, .int .u64 (uintV N f e))] ((uiB N f e).map some)
--@[
def ru3_G (N : Nat) (f : Nat → Int) (e : Int) : Prop := (e != (0 : Int)) = true ∧   (0 : Int) = uintV N f e ∧     (N = tkN N e ((8 : Int)) ∧ e = tkE N e ((8 : Int))) ∧       ((N = N ∧ ∀ (i : Nat), i < N → Same (A := Empty) [LV.int IntKind.u8 (f i)] [LV.int IntKind.u8 (f i)]) ∧           ∀ (i : Nat), plainL (A := Empty) [LV.int IntKind.u8 (f i)]) ∧         (N = tkN N e ((8 : Int)) ∧             ∀ (i : Nat),               i < tkN N e ((8 : Int)) →                 Same (A := Empty) [LV.int IntKind.u8 (f i)] [LV.int IntKind.u8 (tkF N f e ((8 : Int)) i)]) ∧           ∀ (i : Nat), plainL (A := Empty) [LV.int IntKind.u8 (tkF N f e ((8 : Int)) i)]
set_option maxRecDepth 100000 in
theorem ru3 (N : Nat) (f : Nat → Int) (e : Int) : runG Try.prog (SU (some true) none) 80 33 [] (startS Try.f33 [.ptr (.own 0) 0 []] ((rd0 N f e).map some)) .ret 2 [some (.own 0), some (.own 1), some (.own 1)] 24 [(2, .int .u64 (uintV N f e))] ((uiB N f e).map some) = some (some ((ru3_G N f e))) := by kernel_rfl
--@]
--@gen qu1 (N : Nat) (f : Nat → Int) := runG Try.prog (SU none (some false)) 80 34 [] (startS Try.f34 [.ptr (.own 0) 0 []] ((rd0 N f 0).map some)) .ret 2 [some (.own 0), some (.own 1), some (.own 3)] 24 [(2, .int .u64 (uintV N f 0))] ((uiB N f 0).map some)
--@[
def qu1_G (N : Nat) (f : Nat → Int) : Prop := ((decide ((↑N : Int) < (8 : Int)) = false ∧       (decide               ((0 : Int) ≤ (↑0 : Int) ∧                 (↑0 : Int) ≤ (8 : Int) ∧                   (8 : Int) ≤ (↑N : Int) ∧ (↑N : Int) ≤ (↑N : Int)) =             true ∧           Nat.ble N N = true) ∧         (decide                 ((0 : Int) ≤ (8 : Int) ∧                   (8 : Int) ≤ (↑N : Int) ∧ (↑N : Int) ≤ (↑N : Int) ∧ (↑N : Int) ≤ (↑N : Int)) =               true ∧             Nat.ble N N = true) ∧           true = true) ∧     (true = true ∧ true = true ∧ true = true) ∧       (true = true ∧ true = true ∧ true = true) ∧         (true = true ∧ true = true ∧ true = true) ∧           (true = true ∧ true = true ∧ true = true) ∧             (true = true ∧ true = true ∧ true = true) ∧               (true = true ∧ true = true ∧ true = true) ∧                 (true = true ∧ true = true ∧ true = true) ∧ true = true ∧ true = true ∧ true = true) ∧   bits BinOp.or IntKind.u64         (IntKind.wrap IntKind.u64           (bits BinOp.or IntKind.u64               (IntKind.wrap IntKind.u64                 (bits BinOp.or IntKind.u64                     (IntKind.wrap IntKind.u64                       (bits BinOp.or IntKind.u64                           (IntKind.wrap IntKind.u64                             (bits BinOp.or IntKind.u64                                 (IntKind.wrap IntKind.u64                                   (bits BinOp.or IntKind.u64                                       (IntKind.wrap IntKind.u64                                         (bits BinOp.or IntKind.u64                                             (IntKind.wrap IntKind.u64                                               (bits BinOp.or IntKind.u64                                                   (IntKind.wrap IntKind.u64                                                     ((0 : Int) * (2 : Int) ^ 8))                                                   (IntKind.wrap IntKind.u64 (f 7)) *                                                 (2 : Int) ^ 8))                                             (IntKind.wrap IntKind.u64 (f 6)) *                                           (2 : Int) ^ 8))                                       (IntKind.wrap IntKind.u64 (f 5)) *                                     (2 : Int) ^ 8))                                 (IntKind.wrap IntKind.u64 (f 4)) *                               (2 : Int) ^ 8))                           (IntKind.wrap IntKind.u64 (f 3)) *                         (2 : Int) ^ 8))                     (IntKind.wrap IntKind.u64 (f 2)) *                   (2 : Int) ^ 8))               (IntKind.wrap IntKind.u64 (f 1)) *             (2 : Int) ^ 8))         (IntKind.wrap IntKind.u64 (f 0)) =       uintV N f ((0 : Int)) ∧     (Int.toNat (↑N : Int) - 8 = tkN N ((0 : Int)) ((8 : Int)) ∧         (0 : Int) = tkE N ((0 : Int)) ((8 : Int))) ∧       ((N = N ∧ ∀ (i : Nat), i < N → Same (A := Empty) [LV.int IntKind.u8 (f i)] [LV.int IntKind.u8 (f i)]) ∧           ∀ (i : Nat), plainL (A := Empty) [LV.int IntKind.u8 (f i)]) ∧         (Int.toNat (↑N : Int) - 8 = tkN N ((0 : Int)) ((8 : Int)) ∧             ∀ (i : Nat),               i < tkN N ((0 : Int)) ((8 : Int)) →                 Same (A := Empty) [LV.int IntKind.u8 (f (8 + i))]                   [LV.int IntKind.u8 (tkF N f ((0 : Int)) ((8 : Int)) i)]) ∧           ∀ (i : Nat), plainL (A := Empty) [LV.int IntKind.u8 (tkF N f ((0 : Int)) ((8 : Int)) i)]
set_option maxRecDepth 100000 in
theorem qu1 (N : Nat) (f : Nat → Int) : runG Try.prog (SU none (some false)) 80 34 [] (startS Try.f34 [.ptr (.own 0) 0 []] ((rd0 N f 0).map some)) .ret 2 [some (.own 0), some (.own 1), some (.own 3)] 24 [(2, .int .u64 (uintV N f 0))] ((uiB N f 0).map some) = some (some ((qu1_G N f))) := by kernel_rfl
--@]
--@gen qu2 (N : Nat) (f : Nat → Int) := runG Try.prog (SU none (some true)) 80 34 [] (startS Try.f34 [.ptr (.own 0) 0 []] ((rd0 N f 0).map some)) .ret 2 [some (.own 0), some (.own 1), some (.own 1)] 24 [(2, .int .u64 (uintV N f 0))] ((uiB N f 0).map some)
--@[
def qu2_G (N : Nat) (f : Nat → Int) : Prop := (decide ((↑N : Int) < (8 : Int)) = true ∧ true = true) ∧   (0 : Int) = uintV N f ((0 : Int)) ∧     (N = tkN N ((0 : Int)) ((8 : Int)) ∧         (170 : Int) = tkE N ((0 : Int)) ((8 : Int))) ∧       ((N = N ∧ ∀ (i : Nat), i < N → Same (A := Empty) [LV.int IntKind.u8 (f i)] [LV.int IntKind.u8 (f i)]) ∧           ∀ (i : Nat), plainL (A := Empty) [LV.int IntKind.u8 (f i)]) ∧         (N = tkN N ((0 : Int)) ((8 : Int)) ∧             ∀ (i : Nat),               i < tkN N ((0 : Int)) ((8 : Int)) →                 Same (A := Empty) [LV.int IntKind.u8 (f i)]                   [LV.int IntKind.u8 (tkF N f ((0 : Int)) ((8 : Int)) i)]) ∧           ∀ (i : Nat), plainL (A := Empty) [LV.int IntKind.u8 (tkF N f ((0 : Int)) ((8 : Int)) i)]
set_option maxRecDepth 100000 in
theorem qu2 (N : Nat) (f : Nat → Int) : runG Try.prog (SU none (some true)) 80 34 [] (startS Try.f34 [.ptr (.own 0) 0 []] ((rd0 N f 0).map some)) .ret 2 [some (.own 0), some (.own 1), some (.own 1)] 24 [(2, .int .u64 (uintV N f 0))] ((uiB N f 0).map some) = some (some ((qu2_G N f))) := by kernel_rfl
--@]
--@gen qu3 (N : Nat) (f : Nat → Int) (e : Int) := runG Try.prog (SU (some true) none) 80 34 [] (startS Try.f34 [.ptr (.own 0) 0 []] ((rd0 N f e).map some)) .ret 2 [some (.own 0), some (.own 1), some (.own 1)] 24 [(2, .int .u64 (uintV N f e))] ((uiB N f e).map some)
--@[
def qu3_G (N : Nat) (f : Nat → Int) (e : Int) : Prop := (e != (0 : Int)) = true ∧   (0 : Int) = uintV N f e ∧     (N = tkN N e ((8 : Int)) ∧ e = tkE N e ((8 : Int))) ∧       ((N = N ∧ ∀ (i : Nat), i < N → Same (A := Empty) [LV.int IntKind.u8 (f i)] [LV.int IntKind.u8 (f i)]) ∧           ∀ (i : Nat), plainL (A := Empty) [LV.int IntKind.u8 (f i)]) ∧         (N = tkN N e ((8 : Int)) ∧             ∀ (i : Nat),               i < tkN N e ((8 : Int)) →                 Same (A := Empty) [LV.int IntKind.u8 (f i)] [LV.int IntKind.u8 (tkF N f e ((8 : Int)) i)]) ∧           ∀ (i : Nat), plainL (A := Empty) [LV.int IntKind.u8 (tkF N f e ((8 : Int)) i)]
set_option maxRecDepth 100000 in
theorem qu3 (N : Nat) (f : Nat → Int) (e : Int) : runG Try.prog (SU (some true) none) 80 34 [] (startS Try.f34 [.ptr (.own 0) 0 []] ((rd0 N f e).map some)) .ret 2 [some (.own 0), some (.own 1), some (.own 1)] 24 [(2, .int .u64 (uintV N f e))] ((uiB N f e).map some) = some (some ((qu3_G N f e))) := by kernel_rfl
--@]
theorem or_high {a v : Int} (i : Nat) (ha : 0 ≤ a) (h1 : a < 2 ^ i) (hv : 0 ≤ v) (h2 : v < 256) (hi : i ≤ 56) : bits .or .u64 a (IntKind.wrap .u64 (IntKind.wrap .u64 v * (2 : Int) ^ i)) = a + v * 2 ^ i := by
  obtain ⟨x, rfl⟩ := Int.eq_ofNat_of_zero_le ha
  obtain ⟨y, rfl⟩ := Int.eq_ofNat_of_zero_le hv
  have hp : (2 : Nat) ^ i ≤ 2 ^ 56 := Nat.pow_le_pow_right (by omega) hi
  have hx : x < 2 ^ i := by exact_mod_cast h1
  have hy : y < 256 := by omega
  have hb : y * 2 ^ i < 18446744073709551616 := by
    have := Nat.mul_le_mul (show y ≤ 255 by omega) hp
    omega
  have e1 : IntKind.wrap .u64 ((y : Nat) : Int) = ((y : Nat) : Int) := IntWalk.u64_in _ (by omega)
  have e2 : ((y : Nat) : Int) * (2 : Int) ^ i = ((y * 2 ^ i : Nat) : Int) := by push_cast; rfl
  rw [e1, e2, IntWalk.u64_in _ (by omega), bits_or_u64_nat _ _ (by omega) hb]
  rw [Nat.mul_comm y, Nat.or_comm, ← Nat.two_pow_add_eq_or_of_lt hx]
  push_cast
  omega
theorem or_low {a v : Int} (ha : 0 ≤ a) (h1 : a < 2 ^ 56) (hv : 0 ≤ v) (h2 : v < 256) : bits .or .u64 (IntKind.wrap .u64 (a * (2 : Int) ^ 8)) (IntKind.wrap .u64 v) = a * 2 ^ 8 + v := by
  obtain ⟨x, rfl⟩ := Int.eq_ofNat_of_zero_le ha
  obtain ⟨y, rfl⟩ := Int.eq_ofNat_of_zero_le hv
  rw [IntWalk.u64_in _ (by omega), IntWalk.u64_in _ (by omega)]
  have e2 : ((x : Nat) : Int) * (2 : Int) ^ 8 = ((2 ^ 8 * x : Nat) : Int) := by omega
  rw [e2, bits_or_u64_nat _ _ (by omega) (by omega), ← Nat.two_pow_add_eq_or_of_lt (show y < 2 ^ 8 by omega)]
  omega
theorem ru_sum (f : Nat → Int) (h0 : 0 ≤ f 0 ∧ f 0 < 256) (h1 : 0 ≤ f 1 ∧ f 1 < 256) (h2 : 0 ≤ f 2 ∧ f 2 < 256) (h3 : 0 ≤ f 3 ∧ f 3 < 256) (h4 : 0 ≤ f 4 ∧ f 4 < 256) (h5 : 0 ≤ f 5 ∧ f 5 < 256) (h6 : 0 ≤ f 6 ∧ f 6 < 256) (h7 : 0 ≤ f 7 ∧ f 7 < 256) : (bits .or .u64 (bits .or .u64 (bits .or .u64 (bits .or .u64 (bits .or .u64 (bits .or .u64 (bits .or .u64 (bits .or .u64 (0 : Int) (IntKind.wrap .u64 (IntKind.wrap .u64 (f 0) * (2 : Int) ^ 0))) (IntKind.wrap .u64 (IntKind.wrap .u64 (f 1) * (2 : Int) ^ 8))) (IntKind.wrap .u64 (IntKind.wrap .u64 (f 2) * (2 : Int) ^ 16))) (IntKind.wrap .u64 (IntKind.wrap .u64 (f 3) * (2 : Int) ^ 24))) (IntKind.wrap .u64 (IntKind.wrap .u64 (f 4) * (2 : Int) ^ 32))) (IntKind.wrap .u64 (IntKind.wrap .u64 (f 5) * (2 : Int) ^ 40))) (IntKind.wrap .u64 (IntKind.wrap .u64 (f 6) * (2 : Int) ^ 48))) (IntKind.wrap .u64 (IntKind.wrap .u64 (f 7) * (2 : Int) ^ 56))) = f 0 + f 1 * 2 ^ 8 + f 2 * 2 ^ 16 + f 3 * 2 ^ 24 + f 4 * 2 ^ 32 + f 5 * 2 ^ 40 + f 6 * 2 ^ 48 + f 7 * 2 ^ 56 := by
  rw [or_high 0 (by omega) (by omega) h0.1 h0.2 (by omega)]
  rw [or_high 8 (by omega) (by omega) h1.1 h1.2 (by omega)]
  rw [or_high 16 (by omega) (by omega) h2.1 h2.2 (by omega)]
  rw [or_high 24 (by omega) (by omega) h3.1 h3.2 (by omega)]
  rw [or_high 32 (by omega) (by omega) h4.1 h4.2 (by omega)]
  rw [or_high 40 (by omega) (by omega) h5.1 h5.2 (by omega)]
  rw [or_high 48 (by omega) (by omega) h6.1 h6.2 (by omega)]
  rw [or_high 56 (by omega) (by omega) h7.1 h7.2 (by omega)]
  omega
theorem qu_sum (f : Nat → Int) (h0 : 0 ≤ f 0 ∧ f 0 < 256) (h1 : 0 ≤ f 1 ∧ f 1 < 256) (h2 : 0 ≤ f 2 ∧ f 2 < 256) (h3 : 0 ≤ f 3 ∧ f 3 < 256) (h4 : 0 ≤ f 4 ∧ f 4 < 256) (h5 : 0 ≤ f 5 ∧ f 5 < 256) (h6 : 0 ≤ f 6 ∧ f 6 < 256) (h7 : 0 ≤ f 7 ∧ f 7 < 256) : (bits .or .u64 (IntKind.wrap .u64 ((bits .or .u64 (IntKind.wrap .u64 ((bits .or .u64 (IntKind.wrap .u64 ((bits .or .u64 (IntKind.wrap .u64 ((bits .or .u64 (IntKind.wrap .u64 ((bits .or .u64 (IntKind.wrap .u64 ((bits .or .u64 (IntKind.wrap .u64 ((bits .or .u64 (IntKind.wrap .u64 ((0 : Int) * (2 : Int) ^ 8)) (IntKind.wrap .u64 (f 7))) * (2 : Int) ^ 8)) (IntKind.wrap .u64 (f 6))) * (2 : Int) ^ 8)) (IntKind.wrap .u64 (f 5))) * (2 : Int) ^ 8)) (IntKind.wrap .u64 (f 4))) * (2 : Int) ^ 8)) (IntKind.wrap .u64 (f 3))) * (2 : Int) ^ 8)) (IntKind.wrap .u64 (f 2))) * (2 : Int) ^ 8)) (IntKind.wrap .u64 (f 1))) * (2 : Int) ^ 8)) (IntKind.wrap .u64 (f 0))) = f 0 + f 1 * 2 ^ 8 + f 2 * 2 ^ 16 + f 3 * 2 ^ 24 + f 4 * 2 ^ 32 + f 5 * 2 ^ 40 + f 6 * 2 ^ 48 + f 7 * 2 ^ 56 := by
  rw [or_low (by omega) (by omega) h7.1 h7.2]
  rw [or_low (by omega) (by omega) h6.1 h6.2]
  rw [or_low (by omega) (by omega) h5.1 h5.2]
  rw [or_low (by omega) (by omega) h4.1 h4.2]
  rw [or_low (by omega) (by omega) h3.1 h3.2]
  rw [or_low (by omega) (by omega) h2.1 h2.2]
  rw [or_low (by omega) (by omega) h1.1 h1.2]
  rw [or_low (by omega) (by omega) h0.1 h0.2]
  omega
theorem ruint2_told (N : Nat) (f : Nat → Int) (e : Int) (hf : ∀ j, j < N → 0 ≤ f j ∧ f j < 256) : ToldW Try.prog 33 [] (rd0 N f e) [.ptr (.own 0) 0 []] (.int .u64 (uintV N f e)) (uiB N f e) := by
  refine toldW_body (fn := Try.f33) rfl rfl (.inr rfl) (B := 2) (nn := 24) (l := [(2, .int .u64 (uintV N f e))]) (cs := []) ?_ rfl rfl
  by_cases he : e = 0
  · subst he
    by_cases hn : 8 ≤ N
    · refine ExB.auto (SU_ok _ _) noI_ok rfl mixed 80 _ (ru1 N f) ?_
      have hk : tkOk N 0 8 = true := by simp [tkOk, hn]
      simp only [condOk, ru1_G, tkN, tkF, tkE, uintV, hk, hn, if_true, Int.toNat_natCast, Bool.false_eq_true, if_false, show (8 : Int).toNat = 8 from rfl]
      and_intros <;> first | exact ru_sum f (hf 0 (by omega)) (hf 1 (by omega)) (hf 2 (by omega)) (hf 3 (by omega)) (hf 4 (by omega)) (hf 5 (by omega)) (hf 6 (by omega)) (hf 7 (by omega)) | exact True.intro | omega | exact fun _ => ⟨trivial, trivial⟩ | exact fun _ _ => Same.refl _ | exact fun _ _ => Like.refl _ | (simp (disch := omega) only [true_and, and_true, Nat.beq_refl, Bool.true_and, decide_eq_true_eq, decide_eq_false_iff_not, beq_iff_eq, bne_iff_ne, beq_eq_false_iff_ne, bne_eq_false_iff_eq, ne_eq, Nat.blt_eq, Nat.ble_eq, Nat.beq_eq, Bool.and_eq_true, Bool.or_eq_true, IntKind.wrap_i64, IntKind.wrap_u64, IntKind.wrap_u8, IntKind.wrap_u32, Int.tdiv_eq_ediv_of_nonneg, Int.tmod_eq_emod_of_nonneg] <;> omega) | rfl | trivial
    · refine ExB.auto (SU_ok _ _) noI_ok rfl mixed 80 _ (ru2 N f) ?_
      have hk : tkOk N 0 8 = false := by simp [tkOk]; omega
      simp only [condOk, ru2_G, tkN, tkF, tkE, uintV, hk, hn, if_true, Int.toNat_natCast, Bool.false_eq_true, if_false, show (8 : Int).toNat = 8 from rfl]
      (and_intros <;> first | exact True.intro | omega | exact fun _ => ⟨trivial, trivial⟩ | exact fun _ _ => Same.refl _ | exact fun _ _ => Like.refl _ | (simp (disch := omega) only [true_and, and_true, Nat.beq_refl, Bool.true_and, decide_eq_true_eq, decide_eq_false_iff_not, beq_iff_eq, bne_iff_ne, beq_eq_false_iff_ne, bne_eq_false_iff_eq, ne_eq, Nat.blt_eq, Nat.ble_eq, Nat.beq_eq, Bool.and_eq_true, Bool.or_eq_true, IntKind.wrap_i64, IntKind.wrap_u64, IntKind.wrap_u8, IntKind.wrap_u32, Int.tdiv_eq_ediv_of_nonneg, Int.tmod_eq_emod_of_nonneg] <;> omega) | rfl | trivial)
  · refine ExB.auto (SU_ok _ _) noI_ok rfl mixed 80 _ (ru3 N f e) ?_
    have hk : tkOk N e 8 = false := by simp [tkOk, he]
    simp only [condOk, ru3_G, tkN, tkF, tkE, uintV, hk, he, if_true, Int.toNat_natCast, Bool.false_eq_true, if_false, show (8 : Int).toNat = 8 from rfl]
    (and_intros <;> first | exact True.intro | omega | exact fun _ => ⟨trivial, trivial⟩ | exact fun _ _ => Same.refl _ | exact fun _ _ => Like.refl _ | (simp (disch := omega) only [true_and, and_true, Nat.beq_refl, Bool.true_and, decide_eq_true_eq, decide_eq_false_iff_not, beq_iff_eq, bne_iff_ne, beq_eq_false_iff_ne, bne_eq_false_iff_eq, ne_eq, Nat.blt_eq, Nat.ble_eq, Nat.beq_eq, Bool.and_eq_true, Bool.or_eq_true, IntKind.wrap_i64, IntKind.wrap_u64, IntKind.wrap_u8, IntKind.wrap_u32, Int.tdiv_eq_ediv_of_nonneg, Int.tmod_eq_emod_of_nonneg] <;> omega) | rfl | trivial)
set_option maxRecDepth 100000 in
theorem ent33 : ∀ args w, (callFunc 33 args).run Try.prog w = .ok (.enter 33 args) w := ent_of (f := 33) (P := Try.prog) rfl rfl rfl
noncomputable def ruS : Spec Try.prog Empty 33 where
  X := Nat × (Nat → Int) × Int
  us _ := []
  bls0 x := rd0 x.1 x.2.1 x.2.2
  args x := [.ptr (.own 0) 0 []]
  v x := .int .u64 (uintV x.1 x.2.1 x.2.2)
  bls1 x := uiB x.1 x.2.1 x.2.2
  c x := ∀ j, j < x.1 → 0 ≤ x.2.1 j ∧ x.2.1 j < 256
  told x h := ruint2_told x.1 x.2.1 x.2.2 h
  ov _ := trivial
  ob x b hb := by
    simp only [uiB, List.mem_cons, List.not_mem_nil, or_false] at hb
    rcases hb with rfl | rfl | rfl
    · exact rd_ownly ..
    · exact ro_ownly ..
    · exact ro_ownly ..
noncomputable def conRUint : ConC Try.prog Empty := ruS.con ent33 pickR1
theorem quint_told (N : Nat) (f : Nat → Int) (e : Int) (hf : ∀ j, j < N → 0 ≤ f j ∧ f j < 256) : ToldW Try.prog 34 [] (rd0 N f e) [.ptr (.own 0) 0 []] (.int .u64 (uintV N f e)) (uiB N f e) := by
  refine toldW_body (fn := Try.f34) rfl rfl (.inr rfl) (B := 2) (nn := 24) (l := [(2, .int .u64 (uintV N f e))]) (cs := []) ?_ rfl rfl
  by_cases he : e = 0
  · subst he
    by_cases hn : 8 ≤ N
    · refine ExB.auto (SU_ok _ _) noI_ok rfl mixed 80 _ (qu1 N f) ?_
      have hk : tkOk N 0 8 = true := by simp [tkOk, hn]
      simp only [condOk, qu1_G, tkN, tkF, tkE, uintV, hk, hn, if_true, Int.toNat_natCast, Bool.false_eq_true, if_false, show (8 : Int).toNat = 8 from rfl]
      and_intros <;> first | exact qu_sum f (hf 0 (by omega)) (hf 1 (by omega)) (hf 2 (by omega)) (hf 3 (by omega)) (hf 4 (by omega)) (hf 5 (by omega)) (hf 6 (by omega)) (hf 7 (by omega)) | exact True.intro | omega | exact fun _ => ⟨trivial, trivial⟩ | exact fun _ _ => Same.refl _ | exact fun _ _ => Like.refl _ | (simp (disch := omega) only [true_and, and_true, Nat.beq_refl, Bool.true_and, decide_eq_true_eq, decide_eq_false_iff_not, beq_iff_eq, bne_iff_ne, beq_eq_false_iff_ne, bne_eq_false_iff_eq, ne_eq, Nat.blt_eq, Nat.ble_eq, Nat.beq_eq, Bool.and_eq_true, Bool.or_eq_true, IntKind.wrap_i64, IntKind.wrap_u64, IntKind.wrap_u8, IntKind.wrap_u32, Int.tdiv_eq_ediv_of_nonneg, Int.tmod_eq_emod_of_nonneg] <;> omega) | rfl | trivial
    · refine ExB.auto (SU_ok _ _) noI_ok rfl mixed 80 _ (qu2 N f) ?_
      have hk : tkOk N 0 8 = false := by simp [tkOk]; omega
      simp only [condOk, qu2_G, tkN, tkF, tkE, uintV, hk, hn, if_true, Int.toNat_natCast, Bool.false_eq_true, if_false, show (8 : Int).toNat = 8 from rfl]
      (and_intros <;> first | exact True.intro | omega | exact fun _ => ⟨trivial, trivial⟩ | exact fun _ _ => Same.refl _ | exact fun _ _ => Like.refl _ | (simp (disch := omega) only [true_and, and_true, Nat.beq_refl, Bool.true_and, decide_eq_true_eq, decide_eq_false_iff_not, beq_iff_eq, bne_iff_ne, beq_eq_false_iff_ne, bne_eq_false_iff_eq, ne_eq, Nat.blt_eq, Nat.ble_eq, Nat.beq_eq, Bool.and_eq_true, Bool.or_eq_true, IntKind.wrap_i64, IntKind.wrap_u64, IntKind.wrap_u8, IntKind.wrap_u32, Int.tdiv_eq_ediv_of_nonneg, Int.tmod_eq_emod_of_nonneg] <;> omega) | rfl | trivial)
  · refine ExB.auto (SU_ok _ _) noI_ok rfl mixed 80 _ (qu3 N f e) ?_
    have hk : tkOk N e 8 = false := by simp [tkOk, he]
    simp only [condOk, qu3_G, tkN, tkF, tkE, uintV, hk, he, if_true, Int.toNat_natCast, Bool.false_eq_true, if_false, show (8 : Int).toNat = 8 from rfl]
    (and_intros <;> first | exact True.intro | omega | exact fun _ => ⟨trivial, trivial⟩ | exact fun _ _ => Same.refl _ | exact fun _ _ => Like.refl _ | (simp (disch := omega) only [true_and, and_true, Nat.beq_refl, Bool.true_and, decide_eq_true_eq, decide_eq_false_iff_not, beq_iff_eq, bne_iff_ne, beq_eq_false_iff_ne, bne_eq_false_iff_eq, ne_eq, Nat.blt_eq, Nat.ble_eq, Nat.beq_eq, Bool.and_eq_true, Bool.or_eq_true, IntKind.wrap_i64, IntKind.wrap_u64, IntKind.wrap_u8, IntKind.wrap_u32, Int.tdiv_eq_ediv_of_nonneg, Int.tmod_eq_emod_of_nonneg] <;> omega) | rfl | trivial)
set_option maxRecDepth 100000 in
theorem ent34 : ∀ args w, (callFunc 34 args).run Try.prog w = .ok (.enter 34 args) w := ent_of (f := 34) (P := Try.prog) rfl rfl rfl
noncomputable def quS : Spec Try.prog Empty 34 where
  X := Nat × (Nat → Int) × Int
  us _ := []
  bls0 x := rd0 x.1 x.2.1 x.2.2
  args x := [.ptr (.own 0) 0 []]
  v x := .int .u64 (uintV x.1 x.2.1 x.2.2)
  bls1 x := uiB x.1 x.2.1 x.2.2
  c x := ∀ j, j < x.1 → 0 ≤ x.2.1 j ∧ x.2.1 j < 256
  told x h := quint_told x.1 x.2.1 x.2.2 h
  ov _ := trivial
  ob x b hb := by
    simp only [uiB, List.mem_cons, List.not_mem_nil, or_false] at hb
    rcases hb with rfl | rfl | rfl
    · exact rd_ownly ..
    · exact ro_ownly ..
    · exact ro_ownly ..
noncomputable def conQUint : ConC Try.prog Empty := quS.con ent34 pickR1
end Go.Proofs.Ytjhjockdkpgpeaa.En
