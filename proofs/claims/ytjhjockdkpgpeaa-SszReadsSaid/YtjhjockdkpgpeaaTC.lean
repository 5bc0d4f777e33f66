/- DERIVED. Contracts of a reader's calls. -/
import Derived.Test.YtjhjockdkpgpeaaTB
import Derived.Test.YtjhjockdkpgpeaaVSV
set_option linter.all false
namespace Go.Proofs.Ytjhjockdkpgpeaa.En
open Go Go.RowKit

/-! ## a place -/
def advPl (a : Bool) : Adv where
  il _ := true
  dec f r i := match f, r, i with
    | 24, 2, 1 => some a
    | _, _, _ => none
  rc f r i := match f, r, i with
    | 24, 1, 2 => true
    | _, _, _ => false
  fz _ _ := false
  res _ _ := 20
noncomputable abbrev SPl (a : Bool) : Sig Empty := sigOf (P := Try.prog) [] [] [] (I := noI) [] noMs (advPl a)
theorem SPl_ok (a : Bool) : SigOk Try.prog (SPl a) := sigOf_ok [] [] [] [] (noMs_ok _) _ noI_ok
--@gen pl1 (a m : Int) := runG Try.prog (SPl true) 50 24 [] (startS Try.f24 [.int .i64 a, .int .i64 m] ([].map some)) .ret 0 [] 14 [(4, .int .i64 (a % m))] ([].map some)
--@[
def pl1_G (a m : Int) : Prop := ((m != (0 : Int)) = true ∧ decide (Int.tmod a m < (0 : Int)) = true) ∧   IntKind.wrap IntKind.i64 (Int.tmod a m + m) = a % m
set_option maxRecDepth 100000 in
theorem pl1 (a m : Int) : runG Try.prog (SPl true) 50 24 [] (startS Try.f24 [.int .i64 a, .int .i64 m] ([].map some)) .ret 0 [] 14 [(4, .int .i64 (a % m))] ([].map some) = some (some ((pl1_G a m))) := by kernel_rfl
--@]
--@gen pl0 (a m : Int) := runG Try.prog (SPl false) 50 24 [] (startS Try.f24 [.int .i64 a, .int .i64 m] ([].map some)) .ret 0 [] 14 [(4, .int .i64 (a % m))] ([].map some)
--@[
def pl0_G (a m : Int) : Prop := ((m != (0 : Int)) = true ∧ decide (Int.tmod a m < (0 : Int)) = false) ∧ Int.tmod a m = a % m
set_option maxRecDepth 100000 in
theorem pl0 (a m : Int) : runG Try.prog (SPl false) 50 24 [] (startS Try.f24 [.int .i64 a, .int .i64 m] ([].map some)) .ret 0 [] 14 [(4, .int .i64 (a % m))] ([].map some) = some (some ((pl0_G a m))) := by kernel_rfl
--@]
theorem place_told (a m : Int) (h : 0 < m ∧ m ≤ 2 ^ 62) : ToldW Try.prog 24 [] [] [.int .i64 a, .int .i64 m] (.int .i64 (a % m) : LV Empty) [] := by
  refine toldW_body (fn := Try.f24) rfl rfl (.inr rfl) (B := 0) (nn := 14) (l := [(4, .int .i64 (a % m))]) (cs := []) ?_ rfl rfl
  have h1 : a.tmod m = if 0 ≤ a ∨ a % m = 0 then a % m else a % m - m := by
    rw [Int.tmod_eq_emod]
    have : (m.natAbs : Int) = m := by omega
    have hd : m ∣ a ↔ a % m = 0 := Int.dvd_iff_emod_eq_zero ..
    simp only [hd]
    split <;> omega
  have h2 := Int.emod_nonneg a (show m ≠ 0 by omega)
  have h3 := Int.emod_lt_of_pos a h.1
  have h4 : (m != 0) = true := by simp; omega
  by_cases hn : a.tmod m < 0
  · refine ExB.auto (SPl_ok _) noI_ok rfl mixed 50 _ (pl1 a m) ?_
    simp only [condOk, pl1_G, h4]
    rw [h1] at hn ⊢
    split at hn
    · omega
    · rename_i hh
      rw [if_neg hh]
      refine ⟨⟨trivial, decide_eq_true hn⟩, ?_⟩
      rw [IntWalk.i64_in _ (by omega)]; omega
  · refine ExB.auto (SPl_ok _) noI_ok rfl mixed 50 _ (pl0 a m) ?_
    simp only [condOk, pl0_G, h4]
    rw [h1] at hn ⊢
    split at hn
    · rename_i hh
      rw [if_pos hh]
      exact ⟨⟨trivial, decide_eq_false hn⟩, rfl⟩
    · omega
set_option maxRecDepth 100000 in
theorem ent24 : ∀ args w, (callFunc 24 args).run Try.prog w = .ok (.enter 24 args) w := ent_of (f := 24) (P := Try.prog) rfl rfl rfl
noncomputable def placeS : Spec Try.prog Empty 24 where
  X := Int × Int
  us _ := []
  bls0 _ := []
  args x := [.int .i64 x.1, .int .i64 x.2]
  v x := .int .i64 (x.1 % x.2)
  bls1 _ := []
  c x := 0 < x.2 ∧ x.2 ≤ 2 ^ 62
  told x h := place_told x.1 x.2 h
  ov _ := trivial
  ob x b hb := absurd hb List.not_mem_nil
noncomputable def conPlace : ConC Try.prog Empty := placeS.con ent24 fun I vs mem => match vs with
  | [.int _ a, .int _ m] => some ((a, m), [], [])
  | _ => none

/-! ## readers -/
/-- The reader that a pointer names: its block, its data's, what they say. -/
def pickRd (mem : Mem Empty) : LV Empty → Option (Nat × Nat × Nat × (Nat → Int) × Int)
  | .ptr (.own r) _ _ => match mem[r]? with
    | some (some ⟨_, [.vec (.own d) n, .int _ e]⟩) => match mem[d]? with
      | some (some ⟨_, [.rows _ _ g]⟩) => some (r, d, n, fun j => byteOf (g j), e)
      | _ => none
    | _ => none
  | _ => none
theorem rd_ownly (k N : Nat) (e : Int) : ownlyL (rdB k N e).us := ⟨⟨k, rfl⟩, trivial, trivial⟩
theorem ro_ownly (N : Nat) (f : Nat → Int) : ownlyL (roB N f).us := ⟨fun _ => ⟨trivial, trivial⟩, trivial⟩
theorem bo_ownly (N : Nat) (f : Nat → Bool) (kd : Kd) : ownlyL (Blk.us ⟨kd, boolsU N f⟩) := ⟨fun _ => ⟨trivial, trivial⟩, trivial⟩
theorem by_ownly (N : Nat) (f : Nat → Int) (kd : Kd) : ownlyL (Blk.us ⟨kd, bytesU N f⟩) := ⟨fun _ => ⟨trivial, trivial⟩, trivial⟩
set_option maxRecDepth 100000 in
theorem ent26 : ∀ args w, (callFunc 26 args).run Try.prog w = .ok (.enter 26 args) w := ent_of (f := 26) (P := Try.prog) rfl rfl rfl
noncomputable def rbitsS : Spec Try.prog Empty 26 where
  X := Nat × (Nat → Int) × Int × Int
  us _ := []
  bls0 x := rd0 x.1 x.2.1 x.2.2.1
  args x := argA x.2.2.2
  v x := .vec (.own 3) (rdL x.1 x.2.1 x.2.2.1 x.2.2.2)
  bls1 x := rd1b x.1 x.2.1 x.2.2.1 x.2.2.2
  c x := x.1 ≤ 2 ^ 43
  told x h := bits_toldW x.1 x.2.1 x.2.2.1 x.2.2.2 h
  ov _ := ⟨3, rfl⟩
  ob x b hb := by
    simp only [rd1b, List.mem_cons, List.not_mem_nil, or_false] at hb
    rcases hb with rfl | rfl | rfl | rfl
    · exact rd_ownly ..
    · exact ro_ownly ..
    · exact ro_ownly ..
    · exact bo_ownly ..
noncomputable def conRBits : ConC Try.prog Empty := rbitsS.con ent26 fun I vs mem => match vs with
  | [p, .int _ n] => match pickRd mem p with
    | some (r, d, N, f, e) => some ((N, f, e, n), [r, d], [])
    | none => none
  | _ => none

/-! ## End, Err -/
def advE (a b : Bool) : Adv where
  il _ := true
  dec f r i := match f, r, i with
    | 27, 1, 4 => some a
    | 27, 1, 11 => some b
    | _, _, _ => none
  rc f r i := false
  fz _ _ := false
  res _ _ := 20
noncomputable abbrev SE (a b : Bool) : Sig Empty := sigOf (P := Try.prog) [] [] [] (I := noI) [] noMs (advE a b)
theorem SE_ok (a b : Bool) : SigOk Try.prog (SE a b) := sigOf_ok [] [] [] [] (noMs_ok _) _ noI_ok
def endV (N : Nat) (e : Int) : Int := if e = 0 ∧ 0 < N then 170 else e
--@gen en1 (N : Nat) (f : Nat → Int) (e : Int) := runG Try.prog (SE true true) 50 27 [] (startS Try.f27 [.ptr (.own 0) 0 []] ((rd0 N f e).map some)) .ret 2 [some (.own 0), some (.own 1)] 20 [(2, .int .i64 (endV N e))] ((rd0 N f e).map some)
--@[
def en1_G (N : Nat) (f : Nat → Int) (e : Int) : Prop := ((e == (0 : Int)) = true ∧ decide ((0 : Int) < (↑N : Int)) = true) ∧   (170 : Int) = endV N e ∧     (N = N ∧ e = e) ∧       (N = N ∧ ∀ (i : Nat), i < N → Same (A := Empty) [LV.int IntKind.u8 (f i)] [LV.int IntKind.u8 (f i)]) ∧         ∀ (i : Nat), plainL (A := Empty) [LV.int IntKind.u8 (f i)]
set_option maxRecDepth 100000 in
theorem en1 (N : Nat) (f : Nat → Int) (e : Int) : runG Try.prog (SE true true) 50 27 [] (startS Try.f27 [.ptr (.own 0) 0 []] ((rd0 N f e).map some)) .ret 2 [some (.own 0), some (.own 1)] 20 [(2, .int .i64 (endV N e))] ((rd0 N f e).map some) = some (some ((en1_G N f e))) := by kernel_rfl
--@]
--@gen en2 (N : Nat) (f : Nat → Int) (e : Int) := runG Try.prog (SE true false) 50 27 [] (startS Try.f27 [.ptr (.own 0) 0 []] ((rd0 N f e).map some)) .ret 2 [some (.own 0), some (.own 1)] 20 [(2, .int .i64 (endV N e))] ((rd0 N f e).map some)
--@[
def en2_G (N : Nat) (f : Nat → Int) (e : Int) : Prop := ((e == (0 : Int)) = true ∧ decide ((0 : Int) < (↑N : Int)) = false) ∧   e = endV N e ∧     (N = N ∧ e = e) ∧       (N = N ∧ ∀ (i : Nat), i < N → Same (A := Empty) [LV.int IntKind.u8 (f i)] [LV.int IntKind.u8 (f i)]) ∧         ∀ (i : Nat), plainL (A := Empty) [LV.int IntKind.u8 (f i)]
set_option maxRecDepth 100000 in
theorem en2 (N : Nat) (f : Nat → Int) (e : Int) : runG Try.prog (SE true false) 50 27 [] (startS Try.f27 [.ptr (.own 0) 0 []] ((rd0 N f e).map some)) .ret 2 [some (.own 0), some (.own 1)] 20 [(2, .int .i64 (endV N e))] ((rd0 N f e).map some) = some (some ((en2_G N f e))) := by kernel_rfl
--@]
--@gen en3 (N : Nat) (f : Nat → Int) (e : Int) := runG Try.prog (SE false false) 50 27 [] (startS Try.f27 [.ptr (.own 0) 0 []] ((rd0 N f e).map some)) .ret 2 [some (.own 0), some (.own 1)] 20 [(2, .int .i64 (endV N e))] ((rd0 N f e).map some)
--@[
def en3_G (N : Nat) (f : Nat → Int) (e : Int) : Prop := (e == (0 : Int)) = false ∧   e = endV N e ∧     (N = N ∧ e = e) ∧       (N = N ∧ ∀ (i : Nat), i < N → Same (A := Empty) [LV.int IntKind.u8 (f i)] [LV.int IntKind.u8 (f i)]) ∧         ∀ (i : Nat), plainL (A := Empty) [LV.int IntKind.u8 (f i)]
set_option maxRecDepth 100000 in
theorem en3 (N : Nat) (f : Nat → Int) (e : Int) : runG Try.prog (SE false false) 50 27 [] (startS Try.f27 [.ptr (.own 0) 0 []] ((rd0 N f e).map some)) .ret 2 [some (.own 0), some (.own 1)] 20 [(2, .int .i64 (endV N e))] ((rd0 N f e).map some) = some (some ((en3_G N f e))) := by kernel_rfl
--@]
--@gen er (N : Nat) (f : Nat → Int) (e : Int) := runG Try.prog (SE false false) 50 39 [] (startS Try.f39 [.ptr (.own 0) 0 []] ((rd0 N f e).map some)) .ret 2 [some (.own 0), some (.own 1)] 7 [(2, .int .i64 e)] ((rd0 N f e).map some)
--@[
def er_G (N : Nat) (f : Nat → Int) (e : Int) : Prop := e = e ∧   (N = N ∧ e = e) ∧     (N = N ∧ ∀ (i : Nat), i < N → Same (A := Empty) [LV.int IntKind.u8 (f i)] [LV.int IntKind.u8 (f i)]) ∧       ∀ (i : Nat), plainL (A := Empty) [LV.int IntKind.u8 (f i)]
set_option maxRecDepth 100000 in
theorem er (N : Nat) (f : Nat → Int) (e : Int) : runG Try.prog (SE false false) 50 39 [] (startS Try.f39 [.ptr (.own 0) 0 []] ((rd0 N f e).map some)) .ret 2 [some (.own 0), some (.own 1)] 7 [(2, .int .i64 e)] ((rd0 N f e).map some) = some (some ((er_G N f e))) := by kernel_rfl
--@]
theorem end_toldW (N : Nat) (f : Nat → Int) (e : Int) : ToldW Try.prog 27 [] (rd0 N f e) [.ptr (.own 0) 0 []] (.int .i64 (endV N e)) (rd0 N f e) := by
  refine toldW_body (fn := Try.f27) rfl rfl (.inr rfl) (B := 2) (nn := 20) (l := [(2, .int .i64 (endV N e))]) (cs := []) ?_ rfl rfl
  by_cases he : e = 0
  · by_cases hn : 0 < N
    · refine ExB.auto (SE_ok _ _) noI_ok rfl mixed 50 _ (en1 N f e) ?_
      simp only [condOk, en1_G, endV, he, hn, and_self, if_true]
      (and_intros <;> first | exact True.intro | omega | exact fun _ => ⟨trivial, trivial⟩ | exact fun _ _ => Same.refl _ | exact fun _ _ => Like.refl _ | (simp (disch := omega) only [true_and, and_true, Nat.beq_refl, Bool.true_and, decide_eq_true_eq, decide_eq_false_iff_not, beq_iff_eq, bne_iff_ne, beq_eq_false_iff_ne, bne_eq_false_iff_eq, ne_eq, Nat.blt_eq, Nat.ble_eq, Nat.beq_eq, Bool.and_eq_true, Bool.or_eq_true, IntKind.wrap_i64, IntKind.wrap_u64, IntKind.wrap_u8, IntKind.wrap_u32, Int.tdiv_eq_ediv_of_nonneg, Int.tmod_eq_emod_of_nonneg] <;> omega) | rfl | trivial)
    · refine ExB.auto (SE_ok _ _) noI_ok rfl mixed 50 _ (en2 N f e) ?_
      simp only [condOk, en2_G, endV, he, hn, and_false, if_false]
      (and_intros <;> first | exact True.intro | omega | exact fun _ => ⟨trivial, trivial⟩ | exact fun _ _ => Same.refl _ | exact fun _ _ => Like.refl _ | (simp (disch := omega) only [true_and, and_true, Nat.beq_refl, Bool.true_and, decide_eq_true_eq, decide_eq_false_iff_not, beq_iff_eq, bne_iff_ne, beq_eq_false_iff_ne, bne_eq_false_iff_eq, ne_eq, Nat.blt_eq, Nat.ble_eq, Nat.beq_eq, Bool.and_eq_true, Bool.or_eq_true, IntKind.wrap_i64, IntKind.wrap_u64, IntKind.wrap_u8, IntKind.wrap_u32, Int.tdiv_eq_ediv_of_nonneg, Int.tmod_eq_emod_of_nonneg] <;> omega) | rfl | trivial)
  · refine ExB.auto (SE_ok _ _) noI_ok rfl mixed 50 _ (en3 N f e) ?_
    simp only [condOk, en3_G, endV, he, false_and, if_false]
    (and_intros <;> first | exact True.intro | omega | exact fun _ => ⟨trivial, trivial⟩ | exact fun _ _ => Same.refl _ | exact fun _ _ => Like.refl _ | (simp (disch := omega) only [true_and, and_true, Nat.beq_refl, Bool.true_and, decide_eq_true_eq, decide_eq_false_iff_not, beq_iff_eq, bne_iff_ne, beq_eq_false_iff_ne, bne_eq_false_iff_eq, ne_eq, Nat.blt_eq, Nat.ble_eq, Nat.beq_eq, Bool.and_eq_true, Bool.or_eq_true, IntKind.wrap_i64, IntKind.wrap_u64, IntKind.wrap_u8, IntKind.wrap_u32, Int.tdiv_eq_ediv_of_nonneg, Int.tmod_eq_emod_of_nonneg] <;> omega) | rfl | trivial)
theorem err_toldW (N : Nat) (f : Nat → Int) (e : Int) : ToldW Try.prog 39 [] (rd0 N f e) [.ptr (.own 0) 0 []] (.int .i64 e) (rd0 N f e) := by
  refine toldW_body (fn := Try.f39) rfl rfl (.inr rfl) (B := 2) (nn := 7) (l := [(2, .int .i64 e)]) (cs := []) ?_ rfl rfl
  refine ExB.auto (SE_ok _ _) noI_ok rfl mixed 50 _ (er N f e) ?_
  simp only [condOk, er_G]
  (and_intros <;> first | exact True.intro | omega | exact fun _ => ⟨trivial, trivial⟩ | exact fun _ _ => Same.refl _ | exact fun _ _ => Like.refl _ | (simp (disch := omega) only [true_and, and_true, Nat.beq_refl, Bool.true_and, decide_eq_true_eq, decide_eq_false_iff_not, beq_iff_eq, bne_iff_ne, beq_eq_false_iff_ne, bne_eq_false_iff_eq, ne_eq, Nat.blt_eq, Nat.ble_eq, Nat.beq_eq, Bool.and_eq_true, Bool.or_eq_true, IntKind.wrap_i64, IntKind.wrap_u64, IntKind.wrap_u8, IntKind.wrap_u32, Int.tdiv_eq_ediv_of_nonneg, Int.tmod_eq_emod_of_nonneg] <;> omega) | rfl | trivial)
set_option maxRecDepth 100000 in
theorem ent27 : ∀ args w, (callFunc 27 args).run Try.prog w = .ok (.enter 27 args) w := ent_of (f := 27) (P := Try.prog) rfl rfl rfl
set_option maxRecDepth 100000 in
theorem ent39 : ∀ args w, (callFunc 39 args).run Try.prog w = .ok (.enter 39 args) w := ent_of (f := 39) (P := Try.prog) rfl rfl rfl
noncomputable def endS : Spec Try.prog Empty 27 where
  X := Nat × (Nat → Int) × Int
  us _ := []
  bls0 x := rd0 x.1 x.2.1 x.2.2
  args x := [.ptr (.own 0) 0 []]
  v x := .int .i64 (endV x.1 x.2.2)
  bls1 x := rd0 x.1 x.2.1 x.2.2
  c x := True
  told x h := end_toldW x.1 x.2.1 x.2.2
  ov _ := trivial
  ob x b hb := by
    simp only [rd0, List.mem_cons, List.not_mem_nil, or_false] at hb
    rcases hb with rfl | rfl
    · exact rd_ownly ..
    · exact ro_ownly ..
noncomputable def pickR1 (I : Inp Empty) (vs : List (LV Empty)) (mem : Mem Empty) : Option ((Nat × (Nat → Int) × Int) × List Nat × List Key) := match vs with
  | [p] => match pickRd mem p with
    | some (r, d, N, f, e) => some ((N, f, e), [r, d], [])
    | none => none
  | _ => none
noncomputable def conREnd : ConC Try.prog Empty := endS.con ent27 pickR1
noncomputable def errS : Spec Try.prog Empty 39 where
  X := Nat × (Nat → Int) × Int
  us _ := []
  bls0 x := rd0 x.1 x.2.1 x.2.2
  args x := [.ptr (.own 0) 0 []]
  v x := .int .i64 x.2.2
  bls1 x := rd0 x.1 x.2.1 x.2.2
  c x := True
  told x h := err_toldW x.1 x.2.1 x.2.2
  ov _ := trivial
  ob x b hb := by
    simp only [rd0, List.mem_cons, List.not_mem_nil, or_false] at hb
    rcases hb with rfl | rfl
    · exact rd_ownly ..
    · exact ro_ownly ..
noncomputable def conRErr : ConC Try.prog Empty := errS.con ent39 pickR1

/-! ## a new one -/
noncomputable abbrev SN (n : Nat) (f : Nat → Int) : Sig Empty := sigOf (P := Try.prog) [] [] [] (I := inB n f) [] noMs { advE false false with rc := fun _ _ _ => true }
theorem SN_ok (n : Nat) (f : Nat → Int) : SigOk Try.prog (SN n f) := sigOf_ok [] [] [] [] (noMs_ok _) _ (inB_ok n f)
--@gen nr (n : Nat) (f : Nat → Int) := runG Try.prog (SN n f) 50 25 [] (startS Try.f25 [.vec (.inp 0 0) n] ([].map some)) .ret 0 [some (.own 1), some (.own 0)] 7 [(2, .ptr (.own 0) 0 [])] ([rdB 1 n 0, ⟨.row 5, bytesU n f⟩].map some)
--@[
def nr_G (n : Nat) (f : Nat → Int) : Prop := (Nat.ble n n = true ∧ Nat.ble (n * 1) ((2 : Nat) ^ (47 : Nat)) = true) ∧   (n = n ∧ (0 : Int) = (0 : Int)) ∧     (n = n ∧ ∀ (i : Nat), i < n → Same (A := Empty) [LV.int IntKind.u8 (f i)] [LV.int IntKind.u8 (f i)]) ∧       ∀ (i : Nat), plainL (A := Empty) [LV.int IntKind.u8 (f i)]
set_option maxRecDepth 100000 in
theorem nr (n : Nat) (f : Nat → Int) : runG Try.prog (SN n f) 50 25 [] (startS Try.f25 [.vec (.inp 0 0) n] ([].map some)) .ret 0 [some (.own 1), some (.own 0)] 7 [(2, .ptr (.own 0) 0 [])] ([rdB 1 n 0, ⟨.row 5, bytesU n f⟩].map some) = some (some ((nr_G n f))) := by kernel_rfl
--@]
theorem new_toldW (n : Nat) (f : Nat → Int) (h : n ≤ 2 ^ 46) : ToldW Try.prog 25 [bytesU n f] [] [.vec (.inp 0 0) n] (.ptr (.own 0) 0 []) [rdB 1 n 0, ⟨.row 5, bytesU n f⟩] := by
  refine toldW_body (fn := Try.f25) rfl rfl (.inr rfl) (B := 0) (nn := 7) (l := [(2, .ptr (.own 0) 0 [])]) (cs := []) ?_ rfl rfl
  refine ExB.auto (SN_ok _ _) (inB_ok n f) rfl mixed 50 _ (nr n f) ?_
  simp only [condOk, nr_G]
  (and_intros <;> first | exact True.intro | omega | exact fun _ => ⟨trivial, trivial⟩ | exact fun _ _ => Same.refl _ | exact fun _ _ => Like.refl _ | (simp (disch := omega) only [true_and, and_true, Nat.beq_refl, Bool.true_and, decide_eq_true_eq, decide_eq_false_iff_not, beq_iff_eq, bne_iff_ne, beq_eq_false_iff_ne, bne_eq_false_iff_eq, ne_eq, Nat.blt_eq, Nat.ble_eq, Nat.beq_eq, Bool.and_eq_true, Bool.or_eq_true, IntKind.wrap_i64, IntKind.wrap_u64, IntKind.wrap_u8, IntKind.wrap_u32, Int.tdiv_eq_ediv_of_nonneg, Int.tmod_eq_emod_of_nonneg] <;> omega) | rfl | trivial)
set_option maxRecDepth 100000 in
theorem ent25 : ∀ args w, (callFunc 25 args).run Try.prog w = .ok (.enter 25 args) w := ent_of (f := 25) (P := Try.prog) rfl rfl rfl
noncomputable def newS : Spec Try.prog Empty 25 where
  X := Nat × (Nat → Int)
  us x := [bytesU x.1 x.2]
  bls0 _ := []
  args x := [.vec (.inp 0 0) x.1]
  v x := .ptr (.own 0) 0 []
  bls1 x := [rdB 1 x.1 0, ⟨.row 5, bytesU x.1 x.2⟩]
  c x := x.1 ≤ 2 ^ 46
  told x h := new_toldW x.1 x.2 h
  ov _ := ⟨0, rfl⟩
  ob x b hb := by
    simp only [List.mem_cons, List.not_mem_nil, or_false] at hb
    rcases hb with rfl | rfl
    · exact rd_ownly ..
    · exact by_ownly ..
/-- Bytes that a slice names. -/
def pickBy (I : Inp Empty) (mem : Mem Empty) : LV Empty → Option (Key × Nat × (Nat → Int))
  | .vec k n => match at? I mem k with
    | some ⟨_, [.rows _ _ g]⟩ => some (k, n, fun j => byteOf (g j))
    | _ => none
  | _ => none
noncomputable def conNew : ConC Try.prog Empty := newS.con ent25 fun I vs mem => match vs with
  | [p] => match pickBy I mem p with
    | some (k, n, f) => some ((n, f), [], [k])
    | none => none
  | _ => none
end Go.Proofs.Ytjhjockdkpgpeaa.En
