/- DERIVED. Steps that come in; whether they are few. -/
import Derived.Test.YtjhjockdkpgpeaaTH
set_option linter.all false
namespace Go.Proofs.Ytjhjockdkpgpeaa.En
open Go Go.RowKit

/-- Steps: how many; what each says; its bytes, its bits. And bytes beside them. -/
structure Stps where
  n : Nat
  W : Nat → Int
  K : Nat → Int
  X : Nat → Int
  lb : Nat → Nat
  B : Nat → Nat → Int
  ll : Nat → Nat
  L : Nat → Nat → Bool
  m : Nat
  g : Nat → Int
noncomputable abbrev stepU (s : Stps) (i : Nat) : List (LV Empty) := [.int .i64 (s.W i), .int .i64 (s.K i), .int .u64 (s.X i), .vec (.inp 1 i) (s.lb i), .vec (.inp 2 i) (s.ll i)]
noncomputable def inS (s : Stps) : Inp Empty
  | 0, 0 => [.rows s.n 5 (stepU s)]
  | 0, 1 => bytesU s.m s.g
  | 1, i => bytesU (s.lb i) (s.B i)
  | 2, i => boolsU (s.ll i) (s.L i)
  | _, _ => []
theorem inS_ok (s : Stps) : InpOk (inS s) := by
  intro x y
  match x, y with
  | 0, 0 => exact ⟨fun i => ⟨trivial, trivial, trivial, trivial, trivial, trivial⟩, trivial⟩
  | 0, 1 => exact plainL_alien _ (bytes_plain _ _)
  | 0, y + 2 => exact trivial
  | 1, i => exact plainL_alien _ (bytes_plain _ _)
  | 2, i => exact plainL_alien _ (Elt.plain_us _ _ _)
  | x + 3, y => exact trivial
/-- What the steps weigh. -/
def cost (s : Stps) : Nat → Nat
  | 0 => 0
  | k + 1 => cost s k + 1 + s.lb k + s.ll k
def few (s : Stps) : Prop := s.n ≤ 100 ∧ cost s s.n ≤ 5000
theorem cost_mono (s : Stps) : ∀ {a b : Nat}, a ≤ b → cost s a ≤ cost s b := by
  intro a b h
  induction b with
  | zero => have : a = 0 := by omega
            subst this; exact Nat.le_refl _
  | succ b ih =>
    rcases Nat.lt_or_ge a (b + 1) with hl | hl
    · have := ih (by omega)
      simp only [cost]; omega
    · have : a = b + 1 := by omega
      subst this; exact Nat.le_refl _
theorem cost_at {s : Stps} (h : cost s s.n ≤ 5000) {k : Nat} (hk : k < s.n) : s.lb k ≤ 5000 ∧ s.ll k ≤ 5000 ∧ cost s k ≤ 5000 := by
  have := cost_mono s (show k + 1 ≤ s.n by omega)
  simp only [cost] at this
  omega

def advLi (a b c d : Bool) : Adv where
  il _ := true
  dec f r i := match f, r, i with
    | 14, 3, 3 => some a
    | 14, 3, 6 => some b
    | 14, 6, 2 => some c
    | 14, 6, 5 => some d
    | _, _, _ => none
  rc _ _ _ := true
  fz _ _ := false
  res _ _ := 20
noncomputable abbrev SLi (a b c d : Bool) (s : Stps) (ls : List (LoopF Try.prog (inS s))) : Sig Empty := sigOf (P := Try.prog) [] [] [] (I := inS s) ls noMs (advLi a b c d)
theorem SLi_ok (a b c d : Bool) (s : Stps) (ls : List (LoopF Try.prog (inS s))) : SigOk Try.prog (SLi a b c d s ls) := sigOf_ok [] [] [] ls (noMs_ok _) _ (inS_ok s)
noncomputable abbrev liT (s : Stps) (k : Nat) : List (Nat × LV Empty) := [(0, .vec (.inp 0 0) s.n), (3, .int .i64 (cost s k : Int)), (4, .int .i64 (k : Int))]
noncomputable def liJ (s : Stps) (k : Nat) : LS Empty := ⟨tm 38 (liT s k), [], []⟩
--@gen li1 (s : Stps) (k : Nat) := runG Try.prog (SLi true true true true s []) 40 14 [0, 0, 1, 0, 1, 1] (liJ s k) .normal 0 [] 38 (liT s (k + 1)) []
--@[
def li1_G (s : Stps) (k : Nat) : Prop := ((decide ((↑k : Int) < (↑(Stps.n s) : Int)) = true ∧ decide ((↑(cost s k) : Int) ≤ (5000 : Int)) = true) ∧     decide ((0 : Int) ≤ (↑k : Int) ∧ (↑k : Int) < (↑(Stps.n s) : Int)) = true ∧       Nat.blt (Int.toNat (↑k : Int)) (Stps.n s) = true ∧         decide ((0 : Int) ≤ (↑k : Int) ∧ (↑k : Int) < (↑(Stps.n s) : Int)) = true ∧           Nat.blt (Int.toNat (↑k : Int)) (Stps.n s) = true) ∧   (0 = 0 ∧ Stps.n s = Stps.n s) ∧     IntKind.wrap IntKind.i64           (IntKind.wrap IntKind.i64               (IntKind.wrap IntKind.i64 ((↑(cost s k) : Int) + (1 : Int)) +                 (↑(Stps.lb s (Int.toNat (↑k : Int))) : Int)) +             (↑(Stps.ll s (Int.toNat (↑k : Int))) : Int)) =         (↑(cost s (k + 1)) : Int) ∧       IntKind.wrap IntKind.i64 ((↑k : Int) + (1 : Int)) = (↑(k + 1) : Int)
set_option maxRecDepth 100000 in
theorem li1 (s : Stps) (k : Nat) : runG Try.prog (SLi true true true true s []) 40 14 [0, 0, 1, 0, 1, 1] (liJ s k) .normal 0 [] 38 (liT s (k + 1)) [] = some (some ((li1_G s k))) := by kernel_rfl
--@]
--@gen li2 (s : Stps) (k : Nat) := runG Try.prog (SLi false true true true s []) 40 14 [0, 0, 1, 0, 1, 1] (liJ s k) (.exit 0) 0 [] 38 [(0, .vec (.inp 0 0) s.n), (3, .int .i64 (cost s k : Int))] []
--@[
def li2_G (s : Stps) (k : Nat) : Prop := decide ((↑k : Int) < (↑(Stps.n s) : Int)) = false ∧   (0 = 0 ∧ Stps.n s = Stps.n s) ∧ (↑(cost s k) : Int) = (↑(cost s k) : Int)
set_option maxRecDepth 100000 in
theorem li2 (s : Stps) (k : Nat) : runG Try.prog (SLi false true true true s []) 40 14 [0, 0, 1, 0, 1, 1] (liJ s k) (.exit 0) 0 [] 38 [(0, .vec (.inp 0 0) s.n), (3, .int .i64 (cost s k : Int))] [] = some (some ((li2_G s k))) := by kernel_rfl
--@]
--@gen li3 (s : Stps) (k : Nat) := runG Try.prog (SLi true false true true s []) 40 14 [0, 0, 1, 0, 1, 1] (liJ s k) (.exit 0) 0 [] 38 [(0, .vec (.inp 0 0) s.n), (3, .int .i64 (cost s k : Int))] []
--@[
def li3_G (s : Stps) (k : Nat) : Prop := (decide ((↑k : Int) < (↑(Stps.n s) : Int)) = true ∧ decide ((↑(cost s k) : Int) ≤ (5000 : Int)) = false) ∧   (0 = 0 ∧ Stps.n s = Stps.n s) ∧ (↑(cost s k) : Int) = (↑(cost s k) : Int)
set_option maxRecDepth 100000 in
theorem li3 (s : Stps) (k : Nat) : runG Try.prog (SLi true false true true s []) 40 14 [0, 0, 1, 0, 1, 1] (liJ s k) (.exit 0) 0 [] 38 [(0, .vec (.inp 0 0) s.n), (3, .int .i64 (cost s k : Int))] [] = some (some ((li3_G s k))) := by kernel_rfl
--@]
noncomputable def liE (s : Stps) : LS Empty := entry Try.prog (SLi true true true true s []) 40 14 [0, 1, 0, 1, 1] [.vec (.inp 0 0) s.n] []
--@gen liI (s : Stps) := mS (inS s) [] (liE s) 38 (liT s 0) []
--@[
def liI_G (s : Stps) : Prop := (0 = 0 ∧ Stps.n s = Stps.n s) ∧   (0 : Int) = (↑(cost s 0) : Int) ∧ (0 : Int) = (↑0 : Int)
set_option maxRecDepth 100000 in
theorem liI (s : Stps) : mS (inS s) [] (liE s) 38 (liT s 0) [] = some (some ((liI_G s))) := by kernel_rfl
--@]
/-- Where the counting stops. -/
def stopL (s : Stps) (k : Nat) : Prop := (∀ j, j < k → j < s.n ∧ cost s j ≤ 5000) ∧ (k = s.n ∨ (k < s.n ∧ 5000 < cost s k))
theorem stopL_ex (s : Stps) : ∃ k, stopL s k := by
  have : ∀ q, q ≤ s.n → (∃ k, stopL s k) ∨ ∀ j, j < q → j < s.n ∧ cost s j ≤ 5000 := by
    intro q
    induction q with
    | zero => exact fun _ => .inr fun j hj => absurd hj (Nat.not_lt_zero j)
    | succ q ih =>
      intro hq
      rcases ih (by omega) with h | h
      · exact .inl h
      · by_cases hc : cost s q ≤ 5000
        · refine .inr fun j hj => ?_
          rcases Nat.lt_or_ge j q with hl | hl
          · exact h j hl
          · have : j = q := by omega
            subst this
            exact ⟨by omega, hc⟩
        · exact .inl ⟨q, h, .inr ⟨by omega, by omega⟩⟩
  rcases this s.n (Nat.le_refl _) with h | h
  · exact h
  · exact ⟨s.n, h, .inl rfl⟩
theorem few_stop {s : Stps} {k : Nat} (h : stopL s k) : few s ↔ s.n ≤ 100 ∧ cost s k ≤ 5000 := by
  constructor
  · intro hf
    refine ⟨hf.1, Nat.le_trans (cost_mono s ?_) hf.2⟩
    rcases h.2 with h | h <;> omega
  · rintro ⟨h1, h2⟩
    refine ⟨h1, ?_⟩
    rcases h.2 with rfl | ⟨_, h⟩
    · exact h2
    · omega
/-- The slices are no longer than slices may be. -/
def okS (s : Stps) : Prop := s.n ≤ 2 ^ 48 ∧ s.m ≤ 2 ^ 48 ∧ ∀ k, k < s.n → s.lb k ≤ 2 ^ 48 ∧ s.ll k ≤ 2 ^ 48
noncomputable abbrev liZ (s : Stps) (k : Nat) : LS Empty := ⟨tm 38 [(0, .vec (.inp 0 0) s.n), (3, .int .i64 (cost s k : Int))], [], []⟩
set_option maxRecDepth 100000 in
theorem li_code : codeAt Try.prog 14 [0, 1, 0, 1, 1] = .loop (codeAt Try.prog 14 [0, 0, 1, 0, 1, 1]) := by kernel_rfl
theorem li_loop (s : Stps) (k : Nat) (hs : okS s) (h : stopL s k) : ExB 0 Try.prog (inS s) (codeAt Try.prog 14 [0, 1, 0, 1, 1]) (liE s) (.exit 0) (liZ s k) := by
  obtain ⟨hn, _, hl⟩ := hs
  refine ExB.enter (cs := []) (inS_ok s) _ ?_ (liI s) ?_ rfl
  · rw [li_code]
    refine ExB.loop (by simp) (liJ s) k (fun j hj => ExB.auto (SLi_ok _ _ _ _ s _) (inS_ok s) rfl mixed 40 _ (li1 s j) ?_) ?_
    · obtain ⟨h1, h2⟩ := h.1 j hj
      obtain ⟨h3, h4⟩ := hl j h1
      have e : IntKind.wrap IntKind.i64 (IntKind.wrap IntKind.i64 (IntKind.wrap IntKind.i64 ((cost s j : Int) + 1) + (s.lb j : Int)) + (s.ll j : Int)) = ((cost s (j + 1) : Nat) : Int) := by
        rw [IntWalk.i64_in ((cost s j : Int) + 1) (by omega), IntWalk.i64_in ((cost s j : Int) + 1 + (s.lb j : Int)) (by omega), IntWalk.i64_in _ (by omega)]
        simp only [cost]; omega
      simp only [condOk, li1_G, Int.toNat_natCast, e]
      (and_intros <;> first | exact True.intro | omega | exact fun _ => ⟨trivial, trivial⟩ | exact fun _ _ => Same.refl _ | exact fun _ _ => Like.refl _ | (simp (disch := omega) only [true_and, and_true, Nat.beq_refl, Bool.true_and, decide_eq_true_eq, decide_eq_false_iff_not, beq_iff_eq, bne_iff_ne, beq_eq_false_iff_ne, bne_eq_false_iff_eq, ne_eq, Nat.blt_eq, Nat.ble_eq, Nat.beq_eq, Bool.and_eq_true, Bool.or_eq_true, IntKind.wrap_i64, IntKind.wrap_u64, IntKind.wrap_u8, IntKind.wrap_u32, Int.tdiv_eq_ediv_of_nonneg, Int.tmod_eq_emod_of_nonneg] <;> omega) | rfl | trivial)
    · by_cases hk : k = s.n
      · refine ExB.auto (SLi_ok _ _ _ _ s _) (inS_ok s) rfl mixed 40 _ (li2 s k) ?_
        simp only [condOk, li2_G]
        (and_intros <;> first | exact True.intro | omega | exact fun _ => ⟨trivial, trivial⟩ | exact fun _ _ => Same.refl _ | exact fun _ _ => Like.refl _ | (simp (disch := omega) only [true_and, and_true, Nat.beq_refl, Bool.true_and, decide_eq_true_eq, decide_eq_false_iff_not, beq_iff_eq, bne_iff_ne, beq_eq_false_iff_ne, bne_eq_false_iff_eq, ne_eq, Nat.blt_eq, Nat.ble_eq, Nat.beq_eq, Bool.and_eq_true, Bool.or_eq_true, IntKind.wrap_i64, IntKind.wrap_u64, IntKind.wrap_u8, IntKind.wrap_u32, Int.tdiv_eq_ediv_of_nonneg, Int.tmod_eq_emod_of_nonneg] <;> omega) | rfl | trivial)
      · refine ExB.auto (SLi_ok _ _ _ _ s _) (inS_ok s) rfl mixed 40 _ (li3 s k) ?_
        have := h.2
        simp only [condOk, li3_G]
        (and_intros <;> first | exact True.intro | omega | exact fun _ => ⟨trivial, trivial⟩ | exact fun _ _ => Same.refl _ | exact fun _ _ => Like.refl _ | (simp (disch := omega) only [true_and, and_true, Nat.beq_refl, Bool.true_and, decide_eq_true_eq, decide_eq_false_iff_not, beq_iff_eq, bne_iff_ne, beq_eq_false_iff_ne, bne_eq_false_iff_eq, ne_eq, Nat.blt_eq, Nat.ble_eq, Nat.beq_eq, Bool.and_eq_true, Bool.or_eq_true, IntKind.wrap_i64, IntKind.wrap_u64, IntKind.wrap_u8, IntKind.wrap_u32, Int.tdiv_eq_ediv_of_nonneg, Int.tmod_eq_emod_of_nonneg] <;> omega) | rfl | trivial)
  · simp only [condOk, liI_G]
    (and_intros <;> first | exact True.intro | omega | exact fun _ => ⟨trivial, trivial⟩ | exact fun _ _ => Same.refl _ | exact fun _ _ => Like.refl _ | (simp (disch := omega) only [true_and, and_true, Nat.beq_refl, Bool.true_and, decide_eq_true_eq, decide_eq_false_iff_not, beq_iff_eq, bne_iff_ne, beq_eq_false_iff_ne, bne_eq_false_iff_eq, ne_eq, Nat.blt_eq, Nat.ble_eq, Nat.beq_eq, Bool.and_eq_true, Bool.or_eq_true, IntKind.wrap_i64, IntKind.wrap_u64, IntKind.wrap_u8, IntKind.wrap_u32, Int.tdiv_eq_ediv_of_nonneg, Int.tmod_eq_emod_of_nonneg] <;> omega) | rfl | trivial)
set_option maxRecDepth 100000 in
theorem li_grow (s : Stps) (k : Nat) : growB (liE s) (liZ s k) = true := by kernel_rfl
set_option maxRecDepth 100000 in
theorem li_none (s : Stps) : Nat.ble (liE s).mem.length 0 = true := by kernel_rfl
noncomputable def liL (s : Stps) (k : Nat) (hs : okS s) (h : stopL s k) : LoopF Try.prog (inS s) := LoopF.of (li_loop s k hs h) (li_grow ..) (li_none ..)
end Go.Proofs.Ytjhjockdkpgpeaa.En
