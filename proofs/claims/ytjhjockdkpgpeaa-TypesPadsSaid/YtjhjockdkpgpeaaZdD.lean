/- DERIVED. Texts laid together: TH TO U1 U2 U3 U4 U5. -/
import Derived.Test.YtjhjockdkpgpeaaZdC
import Derived.Laws.Bits64b
/- DERIVED. Contracts of a writer's calls. -/
set_option linter.all false
namespace Go.Proofs.Ytjhjockdkpgpeaa.En
open Go Go.RowKit

def catF (N : Nat) (f g : Nat → Int) (j : Nat) : Int := if j < N then f j else g (j - N)
theorem bif_lt {α : Type} (j N : Nat) (a b : α) : (bif Nat.blt j N then a else b) = if j < N then a else b := by
  by_cases h : j < N
  · rw [ltB h, if_pos h]; rfl
  · rw [blt_false h, if_neg h]; rfl
theorem same_cat (N : Nat) (f g : Nat → Int) (j : Nat) : Same (A := Empty) [.int .u8 (bif Nat.blt j N then f j else g (j - N))] [.int .u8 (catF N f g j)] :=
  Same.int (bif_lt ..)
noncomputable abbrev wB (k N : Nat) : Blk Empty := ⟨.rw, [.vec (.own k) N]⟩
noncomputable abbrev rowB (N : Nat) (f : Nat → Int) : Blk Empty := ⟨.row 5, bytesU N f⟩
noncomputable abbrev deadE : Blk Empty := ⟨.dead, []⟩
noncomputable abbrev w0 (N : Nat) (f : Nat → Int) : List (Blk Empty) := [wB 1 N, rowB N f]
noncomputable abbrev w1 (N : Nat) (f : Nat → Int) : List (Blk Empty) := [wB 2 N, deadE, rowB N f]
theorem w_ownly (k N : Nat) : ownlyL (wB k N).us := ⟨⟨k, rfl⟩, trivial⟩
theorem row_ownly (N : Nat) (f : Nat → Int) : ownlyL (rowB N f).us := ⟨fun _ => ⟨trivial, trivial⟩, trivial⟩
theorem w1_ob (N : Nat) (f : Nat → Int) : ∀ b ∈ w1 N f, ownlyL b.us := by
  intro b hb
  simp only [w1, List.mem_cons, List.not_mem_nil, or_false] at hb
  rcases hb with rfl | rfl | rfl
  · exact w_ownly ..
  · exact trivial
  · exact row_ownly ..
def advW : Adv where
  il _ := true
  dec f r i := none
  rc _ _ _ := true
  fz _ _ := false
  res _ _ := 20
noncomputable abbrev SW (I : Inp Empty) (ps : List (ConP Try.prog Empty)) (ls : List (LoopF Try.prog I)) : Sig Empty := sigOf (P := Try.prog) ps [] [] (I := I) ls noMs advW
theorem SW_ok {I : Inp Empty} (hI : InpOk I) (ps : List (ConP Try.prog Empty)) (ls : List (LoopF Try.prog I)) : SigOk Try.prog (SW I ps ls) := sigOf_ok ps [] [] ls (noMs_ok _) _ hI
/-- The writer that a pointer names. -/
def pickW (mem : Mem Empty) : LV Empty → Option (Nat × Nat × Nat × (Nat → Int))
  | .ptr (.own r) _ _ => match mem[r]? with
    | some (some ⟨_, [.vec (.own d) n]⟩) => match mem[d]? with
      | some (some ⟨_, [.rows _ _ g]⟩) => some (r, d, n, fun j => byteOf (g j))
      | _ => none
    | _ => none
  | _ => none

/-! ## Bytes -/
--@gen wby (N m : Nat) (f g : Nat → Int) := runG Try.prog (SW (inB m g) [] []) 50 18 [] (startS Try.f18 [.ptr (.own 0) 0 [], .vec (.inp 0 0) m] ((w0 N f).map some)) .normal 2 [some (.own 0), some (.own 1), some (.own 2)] 13 [] ((w1 (N + m) (catF N f g)).map some)
--@[
def wby_G (N m : Nat) (f g : Nat → Int) : Prop := ((Nat.ble m m = true ∧ (Nat.beq N N && Nat.ble ((N + m) * 1) 140737488355328) = true) ∧ true = true) ∧   N + m = N + m ∧     (N + m = N + m ∧         ∀ (i : Nat),           i < N + m →             Same (A := Empty) [LV.int IntKind.u8 (bif Nat.blt i N then f i else g (i - N))] [LV.int IntKind.u8 (catF N f g i)]) ∧       ∀ (i : Nat), plainL (A := Empty) [LV.int IntKind.u8 (catF N f g i)]
set_option maxRecDepth 100000 in
theorem wby (N m : Nat) (f g : Nat → Int) : runG Try.prog (SW (inB m g) [] []) 50 18 [] (startS Try.f18 [.ptr (.own 0) 0 [], .vec (.inp 0 0) m] ((w0 N f).map some)) .normal 2 [some (.own 0), some (.own 1), some (.own 2)] 13 [] ((w1 (N + m) (catF N f g)).map some) = some (some ((wby_G N m f g))) := by kernel_rfl
--@]
theorem wbytes_told (N m : Nat) (f g : Nat → Int) (h : N + m ≤ 2 ^ 46) : ToldW Try.prog 18 [bytesU m g] (w0 N f) [.ptr (.own 0) 0 [], .vec (.inp 0 0) m] (.tup []) (w1 (N + m) (catF N f g)) := by
  refine toldW_body (fn := Try.f18) rfl rfl (.inl rfl) (B := 2) (nn := 13) (l := []) (cs := []) ?_ rfl rfl
  refine ExB.auto (SW_ok (inB_ok m g) _ _) (inB_ok m g) rfl mixed 50 _ (wby N m f g) ?_
  simp only [condOk, wby_G]
  and_intros <;> first | exact fun j _ => same_cat N f g j | exact True.intro | omega | exact fun _ => ⟨trivial, trivial⟩ | exact fun _ _ => Same.refl _ | exact fun _ _ => Like.refl _ | (simp (disch := omega) only [true_and, and_true, Nat.beq_refl, Bool.true_and, decide_eq_true_eq, decide_eq_false_iff_not, beq_iff_eq, bne_iff_ne, beq_eq_false_iff_ne, bne_eq_false_iff_eq, ne_eq, Nat.blt_eq, Nat.ble_eq, Nat.beq_eq, Bool.and_eq_true, Bool.or_eq_true, IntKind.wrap_i64, IntKind.wrap_u64, IntKind.wrap_u8, IntKind.wrap_u32, Int.tdiv_eq_ediv_of_nonneg, Int.tmod_eq_emod_of_nonneg] <;> omega) | rfl | trivial
set_option maxRecDepth 100000 in
theorem ent18 : ∀ args w, (callFunc 18 args).run Try.prog w = .ok (.enter 18 args) w := ent_of (f := 18) (P := Try.prog) rfl rfl rfl
noncomputable def wbytesS : Spec Try.prog Empty 18 where
  X := Nat × (Nat → Int) × Nat × (Nat → Int)
  us x := [bytesU x.2.2.1 x.2.2.2]
  bls0 x := w0 x.1 x.2.1
  args x := [.ptr (.own 0) 0 [], .vec (.inp 0 0) x.2.2.1]
  v x := .tup []
  bls1 x := w1 (x.1 + x.2.2.1) (catF x.1 x.2.1 x.2.2.2)
  c x := x.1 + x.2.2.1 ≤ 2 ^ 46
  told x h := wbytes_told _ _ _ _ h
  ov _ := trivial
  ob x := w1_ob _ _
noncomputable def conWBytes : ConC Try.prog Empty := wbytesS.con ent18 fun I vs mem => match vs with
  | [p, q] => match pickW mem p, pickBy I mem q with
    | some (r, d, N, f), some (k, m, g) => some ((N, f, m, g), [r, d], [k])
    | _, _ => none
  | _ => none

/-! ## Uint -/
--@gen wui (N : Nat) (f : Nat → Int) (x : Int) := runG Try.prog (SW noI [conChunk] []) 50 15 [] (startS Try.f15 [.ptr (.own 0) 0 [], .int .u64 x] ((w0 N f).map some)) .normal 2 [some (.own 0), some (.own 1), some (.own 3)] 10 [] ((w1 (N + 8) (catF N f (chunkN x))).map some)
--@[
def wui_G (N : Nat) (f : Nat → Int) (x : Int) : Prop := (true = true ∧     true = true ∧       (true = true ∧ (Nat.beq N N && Nat.ble ((N + 8) * 1) 140737488355328) = true) ∧         true = true) ∧   N + 8 = N + 8 ∧     (N + 8 = N + 8 ∧         ∀ (i : Nat),           i < N + 8 →             Same (A := Empty) [LV.int IntKind.u8 (bif Nat.blt i N then f i else chunkN x (i - N))]               [LV.int IntKind.u8 (catF N f (chunkN x) i)]) ∧       ∀ (i : Nat), plainL (A := Empty) [LV.int IntKind.u8 (catF N f (chunkN x) i)]
set_option maxRecDepth 100000 in
theorem wui (N : Nat) (f : Nat → Int) (x : Int) : runG Try.prog (SW noI [conChunk] []) 50 15 [] (startS Try.f15 [.ptr (.own 0) 0 [], .int .u64 x] ((w0 N f).map some)) .normal 2 [some (.own 0), some (.own 1), some (.own 3)] 10 [] ((w1 (N + 8) (catF N f (chunkN x))).map some) = some (some ((wui_G N f x))) := by kernel_rfl
--@]
theorem wuint_told (N : Nat) (f : Nat → Int) (x : Int) (h : N ≤ 2 ^ 46) : ToldW Try.prog 15 [] (w0 N f) [.ptr (.own 0) 0 [], .int .u64 x] (.tup []) (w1 (N + 8) (catF N f (chunkN x))) := by
  refine toldW_body (fn := Try.f15) rfl rfl (.inl rfl) (B := 2) (nn := 10) (l := []) (cs := []) ?_ rfl rfl
  refine ExB.auto (SW_ok noI_ok _ _) noI_ok rfl mixed 50 _ (wui N f x) ?_
  simp only [condOk, wui_G]
  and_intros <;> first | exact fun j _ => same_cat N f (chunkN x) j | exact True.intro | omega | exact fun _ => ⟨trivial, trivial⟩ | exact fun _ _ => Same.refl _ | exact fun _ _ => Like.refl _ | (simp (disch := omega) only [true_and, and_true, Nat.beq_refl, Bool.true_and, decide_eq_true_eq, decide_eq_false_iff_not, beq_iff_eq, bne_iff_ne, beq_eq_false_iff_ne, bne_eq_false_iff_eq, ne_eq, Nat.blt_eq, Nat.ble_eq, Nat.beq_eq, Bool.and_eq_true, Bool.or_eq_true, IntKind.wrap_i64, IntKind.wrap_u64, IntKind.wrap_u8, IntKind.wrap_u32, Int.tdiv_eq_ediv_of_nonneg, Int.tmod_eq_emod_of_nonneg] <;> omega) | rfl | trivial
set_option maxRecDepth 100000 in
theorem ent15 : ∀ args w, (callFunc 15 args).run Try.prog w = .ok (.enter 15 args) w := ent_of (f := 15) (P := Try.prog) rfl rfl rfl
noncomputable def wuintS : Spec Try.prog Empty 15 where
  X := Nat × (Nat → Int) × Int
  us x := []
  bls0 x := w0 x.1 x.2.1
  args x := [.ptr (.own 0) 0 [], .int .u64 x.2.2]
  v x := .tup []
  bls1 x := w1 (x.1 + 8) (catF x.1 x.2.1 (chunkN x.2.2))
  c x := x.1 ≤ 2 ^ 46
  told x h := wuint_told _ _ _ h
  ov _ := trivial
  ob x := w1_ob _ _
noncomputable def conWUint : ConC Try.prog Empty := wuintS.con ent15 fun I vs mem => match vs with
  | [p, .int _ x] => match pickW mem p with
    | some (r, d, N, f) => some ((N, f, x), [r, d], [])
    | _ => none
  | _ => none

/-! ## All -/
--@gen wal (N : Nat) (f : Nat → Int) := runG Try.prog (SW noI [] []) 50 22 [] (startS Try.f22 [.ptr (.own 0) 0 []] ((w0 N f).map some)) .ret 2 [some (.own 0), some (.own 1), some (.own 2)] 8 [(2, .vec (.own 2) N)] ((w0 N f ++ [rowB N f]).map some)
--@[
def wal_G (N : Nat) (f : Nat → Int) : Prop := (Nat.ble N N = true ∧ Nat.ble (N * 1) 140737488355328 = true) ∧   N = N ∧     N = N ∧       ((N = N ∧ ∀ (i : Nat), i < N → Same (A := Empty) [LV.int IntKind.u8 (f i)] [LV.int IntKind.u8 (f i)]) ∧           ∀ (i : Nat), plainL (A := Empty) [LV.int IntKind.u8 (f i)]) ∧         (N = N ∧ ∀ (i : Nat), i < N → Same (A := Empty) [LV.int IntKind.u8 (f i)] [LV.int IntKind.u8 (f i)]) ∧           ∀ (i : Nat), plainL (A := Empty) [LV.int IntKind.u8 (f i)]
set_option maxRecDepth 100000 in
theorem wal (N : Nat) (f : Nat → Int) : runG Try.prog (SW noI [] []) 50 22 [] (startS Try.f22 [.ptr (.own 0) 0 []] ((w0 N f).map some)) .ret 2 [some (.own 0), some (.own 1), some (.own 2)] 8 [(2, .vec (.own 2) N)] ((w0 N f ++ [rowB N f]).map some) = some (some ((wal_G N f))) := by kernel_rfl
--@]
theorem wall_told (N : Nat) (f : Nat → Int) (h : N ≤ 2 ^ 46) : ToldW Try.prog 22 [] (w0 N f) [.ptr (.own 0) 0 []] (.vec (.own 2) N) (w0 N f ++ [rowB N f]) := by
  refine toldW_body (fn := Try.f22) rfl rfl (.inr rfl) (B := 2) (nn := 8) (l := [(2, .vec (.own 2) N)]) (cs := []) ?_ rfl rfl
  refine ExB.auto (SW_ok noI_ok _ _) noI_ok rfl mixed 50 _ (wal N f) ?_
  simp only [condOk, wal_G]
  (and_intros <;> first | exact True.intro | omega | exact fun _ => ⟨trivial, trivial⟩ | exact fun _ _ => Same.refl _ | exact fun _ _ => Like.refl _ | (simp (disch := omega) only [true_and, and_true, Nat.beq_refl, Bool.true_and, decide_eq_true_eq, decide_eq_false_iff_not, beq_iff_eq, bne_iff_ne, beq_eq_false_iff_ne, bne_eq_false_iff_eq, ne_eq, Nat.blt_eq, Nat.ble_eq, Nat.beq_eq, Bool.and_eq_true, Bool.or_eq_true, IntKind.wrap_i64, IntKind.wrap_u64, IntKind.wrap_u8, IntKind.wrap_u32, Int.tdiv_eq_ediv_of_nonneg, Int.tmod_eq_emod_of_nonneg] <;> omega) | rfl | trivial)
set_option maxRecDepth 100000 in
theorem ent22 : ∀ args w, (callFunc 22 args).run Try.prog w = .ok (.enter 22 args) w := ent_of (f := 22) (P := Try.prog) rfl rfl rfl
noncomputable def wallS : Spec Try.prog Empty 22 where
  X := Nat × (Nat → Int)
  us x := []
  bls0 x := w0 x.1 x.2
  args x := [.ptr (.own 0) 0 []]
  v x := .vec (.own 2) x.1
  bls1 x := w0 x.1 x.2 ++ [rowB x.1 x.2]
  c x := x.1 ≤ 2 ^ 46
  told x h := wall_told _ _ h
  ov _ := ⟨2, rfl⟩
  ob x b hb := by
    simp only [w0, List.cons_append, List.nil_append, List.mem_cons, List.not_mem_nil, or_false] at hb
    rcases hb with rfl | rfl | rfl
    · exact w_ownly ..
    · exact row_ownly ..
    · exact row_ownly ..
noncomputable def conWAll : ConC Try.prog Empty := wallS.con ent22 fun I vs mem => match vs with
  | [p] => match pickW mem p with
    | some (r, d, N, f) => some ((N, f), [r, d], [])
    | _ => none
  | _ => none

/-! ## Copy -/
--@gen cpy (m : Nat) (g : Nat → Int) := runG Try.prog (SW (inB m g) [] []) 50 17 [] (startS Try.f17 [.vec (.inp 0 0) m] ([].map some)) .ret 0 [some (.own 0)] 5 [(2, .vec (.own 0) m)] ([rowB m g].map some)
--@[
def cpy_G (m : Nat) (g : Nat → Int) : Prop := (Nat.ble m m = true ∧ Nat.ble (m * 1) 140737488355328 = true) ∧   m = m ∧     (m = m ∧ ∀ (i : Nat), i < m → Same (A := Empty) [LV.int IntKind.u8 (g i)] [LV.int IntKind.u8 (g i)]) ∧       ∀ (i : Nat), plainL (A := Empty) [LV.int IntKind.u8 (g i)]
set_option maxRecDepth 100000 in
theorem cpy (m : Nat) (g : Nat → Int) : runG Try.prog (SW (inB m g) [] []) 50 17 [] (startS Try.f17 [.vec (.inp 0 0) m] ([].map some)) .ret 0 [some (.own 0)] 5 [(2, .vec (.own 0) m)] ([rowB m g].map some) = some (some ((cpy_G m g))) := by kernel_rfl
--@]
theorem copy_told (m : Nat) (g : Nat → Int) (h : m ≤ 2 ^ 46) : ToldW Try.prog 17 [bytesU m g] [] [.vec (.inp 0 0) m] (.vec (.own 0) m) [rowB m g] := by
  refine toldW_body (fn := Try.f17) rfl rfl (.inr rfl) (B := 0) (nn := 5) (l := [(2, .vec (.own 0) m)]) (cs := []) ?_ rfl rfl
  refine ExB.auto (SW_ok (inB_ok m g) _ _) (inB_ok m g) rfl mixed 50 _ (cpy m g) ?_
  simp only [condOk, cpy_G]
  (and_intros <;> first | exact True.intro | omega | exact fun _ => ⟨trivial, trivial⟩ | exact fun _ _ => Same.refl _ | exact fun _ _ => Like.refl _ | (simp (disch := omega) only [true_and, and_true, Nat.beq_refl, Bool.true_and, decide_eq_true_eq, decide_eq_false_iff_not, beq_iff_eq, bne_iff_ne, beq_eq_false_iff_ne, bne_eq_false_iff_eq, ne_eq, Nat.blt_eq, Nat.ble_eq, Nat.beq_eq, Bool.and_eq_true, Bool.or_eq_true, IntKind.wrap_i64, IntKind.wrap_u64, IntKind.wrap_u8, IntKind.wrap_u32, Int.tdiv_eq_ediv_of_nonneg, Int.tmod_eq_emod_of_nonneg] <;> omega) | rfl | trivial)
set_option maxRecDepth 100000 in
theorem ent17 : ∀ args w, (callFunc 17 args).run Try.prog w = .ok (.enter 17 args) w := ent_of (f := 17) (P := Try.prog) rfl rfl rfl
noncomputable def copyS : Spec Try.prog Empty 17 where
  X := Nat × (Nat → Int)
  us x := [bytesU x.1 x.2]
  bls0 x := []
  args x := [.vec (.inp 0 0) x.1]
  v x := .vec (.own 0) x.1
  bls1 x := [rowB x.1 x.2]
  c x := x.1 ≤ 2 ^ 46
  told x h := copy_told _ _ h
  ov _ := ⟨0, rfl⟩
  ob x b hb := by
    simp only [List.mem_cons, List.not_mem_nil, or_false] at hb
    subst hb
    exact row_ownly ..
noncomputable def conCopy : ConC Try.prog Empty := copyS.con ent17 fun I vs mem => match vs with
  | [q] => match pickBy I mem q with
    | some (k, m, g) => some ((m, g), [], [k])
    | _ => none
  | _ => none

/-! ## the document's Uint -/
--@gen rui (N : Nat) (f : Nat → Int) (x : Int) := runG Try.prog (SW noI [] []) 100 16 [] (startS Try.f16 [.vec (.own 0) N, .int .u64 x] ([rowB N f].map some)) .ret 1 [some (.own 0), some (.own 16)] 19 [(4, .vec (.own 1) (N + 8))] ([deadE, rowB (N + 8) (catF N f (chunkN x))].map some)
--@[
def rui_G (N : Nat) (f : Nat → Int) (x : Int) : Prop := ((true = true ∧ true = true ∧ (Nat.beq N N && Nat.ble ((N + 1) * 1) 140737488355328) = true) ∧     (true = true ∧         true = true ∧           (Nat.beq (N + 1) (N + 1) &&               Nat.ble ((N + 1 + 1) * 1) 140737488355328) =             true) ∧       (true = true ∧           true = true ∧             (Nat.beq (N + 1 + 1) (N + 1 + 1) &&                 Nat.ble ((N + 1 + 1 + 1) * 1) 140737488355328) =               true) ∧         (true = true ∧             true = true ∧               (Nat.beq (N + 1 + 1 + 1) (N + 1 + 1 + 1) &&                   Nat.ble ((N + 1 + 1 + 1 + 1) * 1) 140737488355328) =                 true) ∧           (true = true ∧               true = true ∧                 (Nat.beq (N + 1 + 1 + 1 + 1)                       (N + 1 + 1 + 1 + 1) &&                     Nat.ble ((N + 1 + 1 + 1 + 1 + 1) * 1)                       140737488355328) =                   true) ∧             (true = true ∧                 true = true ∧                   (Nat.beq (N + 1 + 1 + 1 + 1 + 1)                         (N + 1 + 1 + 1 + 1 + 1) &&                       Nat.ble ((N + 1 + 1 + 1 + 1 + 1 + 1) * 1)                         140737488355328) =                     true) ∧               (true = true ∧                   true = true ∧                     (Nat.beq (N + 1 + 1 + 1 + 1 + 1 + 1)                           (N + 1 + 1 + 1 + 1 + 1 + 1) &&                         Nat.ble                           ((N + 1 + 1 + 1 + 1 + 1 + 1 + 1) *                             1)                           140737488355328) =                       true) ∧                 true = true ∧                   true = true ∧                     (Nat.beq (N + 1 + 1 + 1 + 1 + 1 + 1 + 1)                           (N + 1 + 1 + 1 + 1 + 1 + 1 + 1) &&                         Nat.ble                           ((N + 1 + 1 + 1 + 1 + 1 + 1 + 1 +                               1) *                             1)                           140737488355328) =                       true) ∧   N + 1 + 1 + 1 + 1 + 1 + 1 + 1 + 1 = N + 8 ∧     (N + 1 + 1 + 1 + 1 + 1 + 1 + 1 + 1 = N + 8 ∧         ∀ (i : Nat),           i < N + 8 →             Same (A := Empty) (mrgR (Nat.blt i (N + 1 + 1 + 1 + 1 + 1 + 1 + 1))                 (mrgR (Nat.blt i (N + 1 + 1 + 1 + 1 + 1 + 1))                   (mrgR (Nat.blt i (N + 1 + 1 + 1 + 1 + 1))                     (mrgR (Nat.blt i (N + 1 + 1 + 1 + 1))                       (mrgR (Nat.blt i (N + 1 + 1 + 1))                         (mrgR (Nat.blt i (N + 1 + 1))                           (mrgR (Nat.blt i (N + 1))                             (mrgR (Nat.blt i N) [LV.int IntKind.u8 (f i)]                               (List.getD                                 (List.set                                   (List.replicate 1 (units (LV.int IntKind.u8 ((0 : Int)))))                                   0                                   (units                                     (LV.int IntKind.u8                                       (IntKind.wrap IntKind.u8 (Int.fdiv x ((2 : Int) ^ 0))))))                                 (i - N) []))                             (List.getD                               (List.set (List.replicate 1 (units (LV.int IntKind.u8 ((0 : Int)))))                                 0                                 (units                                   (LV.int IntKind.u8                                     (IntKind.wrap IntKind.u8 (Int.fdiv x ((2 : Int) ^ 8))))))                               (i - (N + 1)) []))                           (List.getD                             (List.set (List.replicate 1 (units (LV.int IntKind.u8 ((0 : Int)))))                               0                               (units                                 (LV.int IntKind.u8                                   (IntKind.wrap IntKind.u8 (Int.fdiv x ((2 : Int) ^ 16))))))                             (i - (N + 1 + 1)) []))                         (List.getD                           (List.set (List.replicate 1 (units (LV.int IntKind.u8 ((0 : Int)))))                             0                             (units                               (LV.int IntKind.u8                                 (IntKind.wrap IntKind.u8 (Int.fdiv x ((2 : Int) ^ 24))))))                           (i - (N + 1 + 1 + 1)) []))                       (List.getD                         (List.set (List.replicate 1 (units (LV.int IntKind.u8 ((0 : Int)))))                           0                           (units                             (LV.int IntKind.u8                               (IntKind.wrap IntKind.u8 (Int.fdiv x ((2 : Int) ^ 32))))))                         (i - (N + 1 + 1 + 1 + 1)) []))                     (List.getD                       (List.set (List.replicate 1 (units (LV.int IntKind.u8 ((0 : Int)))))                         0                         (units                           (LV.int IntKind.u8                             (IntKind.wrap IntKind.u8 (Int.fdiv x ((2 : Int) ^ 40))))))                       (i - (N + 1 + 1 + 1 + 1 + 1)) []))                   (List.getD                     (List.set (List.replicate 1 (units (LV.int IntKind.u8 ((0 : Int)))))                       0                       (units                         (LV.int IntKind.u8                           (IntKind.wrap IntKind.u8 (Int.fdiv x ((2 : Int) ^ 48))))))                     (i - (N + 1 + 1 + 1 + 1 + 1 + 1)) []))                 (List.getD                   (List.set (List.replicate 1 (units (LV.int IntKind.u8 ((0 : Int))))) 0                     (units                       (LV.int IntKind.u8 (IntKind.wrap IntKind.u8 (Int.fdiv x ((2 : Int) ^ 56))))))                   (i - (N + 1 + 1 + 1 + 1 + 1 + 1 + 1)) []))               [LV.int IntKind.u8 (catF N f (chunkN x) i)]) ∧       ∀ (i : Nat), plainL (A := Empty) [LV.int IntKind.u8 (catF N f (chunkN x) i)]
set_option maxRecDepth 100000 in
theorem rui (N : Nat) (f : Nat → Int) (x : Int) : runG Try.prog (SW noI [] []) 100 16 [] (startS Try.f16 [.vec (.own 0) N, .int .u64 x] ([rowB N f].map some)) .ret 1 [some (.own 0), some (.own 16)] 19 [(4, .vec (.own 1) (N + 8))] ([deadE, rowB (N + 8) (catF N f (chunkN x))].map some) = some (some ((rui_G N f x))) := by kernel_rfl
--@]
theorem lay1 {N k M i : Nat} {e x : Int} {f : Nat → Int} (hi : i = M) (hM : M = N + k) (hk : k < 8) (he : e = IntKind.u8.wrap (x.fdiv (2 ^ (8 * k)))) : Same (A := Empty) (List.getD (List.set (List.replicate 1 (units (LV.int .u8 0))) 0 (units (LV.int .u8 e))) (i - M) []) [.int .u8 (catF N f (chunkN x) i)] := by
  subst hi hM he
  rw [Nat.sub_self]
  refine Same.int ?_
  simp only [catF, chunkN, show ¬ N + k < N by omega, if_false, show N + k - N = k by omega, hk, if_true]
theorem ruint_told (N : Nat) (f : Nat → Int) (x : Int) (h : N ≤ 2 ^ 46) : ToldW Try.prog 16 [] [rowB N f] [.vec (.own 0) N, .int .u64 x] (.vec (.own 1) (N + 8)) [deadE, rowB (N + 8) (catF N f (chunkN x))] := by
  refine toldW_body (fn := Try.f16) rfl rfl (.inr rfl) (B := 1) (nn := 19) (l := [(4, .vec (.own 1) (N + 8))]) (cs := []) ?_ rfl rfl
  refine ExB.auto (SW_ok noI_ok _ _) noI_ok rfl mixed 100 _ (rui N f x) ?_
  simp only [condOk, rui_G]
  refine ⟨?_, ?_, ⟨?_, fun i hi => ?_⟩, ?_⟩
  rotate_left 3
  · refine Same.lt (fun _ => ?_) fun _ => lay1 (k := 7) (by omega) rfl (by omega) rfl
    refine Same.lt (fun _ => ?_) fun _ => lay1 (k := 6) (by omega) rfl (by omega) rfl
    refine Same.lt (fun _ => ?_) fun _ => lay1 (k := 5) (by omega) rfl (by omega) rfl
    refine Same.lt (fun _ => ?_) fun _ => lay1 (k := 4) (by omega) rfl (by omega) rfl
    refine Same.lt (fun _ => ?_) fun _ => lay1 (k := 3) (by omega) rfl (by omega) rfl
    refine Same.lt (fun _ => ?_) fun _ => lay1 (k := 2) (by omega) rfl (by omega) rfl
    refine Same.lt (fun _ => ?_) fun _ => lay1 (k := 1) (by omega) rfl (by omega) rfl
    refine Same.lt (fun hj => ?_) fun _ => lay1 (k := 0) (by omega) rfl (by omega) rfl
    exact Same.int (by simp [catF, hj])
  all_goals (and_intros <;> first | exact True.intro | omega | exact fun _ => ⟨trivial, trivial⟩ | exact fun _ _ => Same.refl _ | exact fun _ _ => Like.refl _ | (simp (disch := omega) only [true_and, and_true, Nat.beq_refl, Bool.true_and, decide_eq_true_eq, decide_eq_false_iff_not, beq_iff_eq, bne_iff_ne, beq_eq_false_iff_ne, bne_eq_false_iff_eq, ne_eq, Nat.blt_eq, Nat.ble_eq, Nat.beq_eq, Bool.and_eq_true, Bool.or_eq_true, IntKind.wrap_i64, IntKind.wrap_u64, IntKind.wrap_u8, IntKind.wrap_u32, Int.tdiv_eq_ediv_of_nonneg, Int.tmod_eq_emod_of_nonneg] <;> omega) | rfl | trivial)
set_option maxRecDepth 100000 in
theorem ent16 : ∀ args w, (callFunc 16 args).run Try.prog w = .ok (.enter 16 args) w := ent_of (f := 16) (P := Try.prog) rfl rfl rfl
/-- A row that a slice names. -/
def pickRow (mem : Mem Empty) : LV Empty → Option (Nat × Nat × (Nat → Int))
  | .vec (.own k) n => match mem[k]? with
    | some (some ⟨_, [.rows _ _ g]⟩) => some (k, n, fun j => byteOf (g j))
    | _ => none
  | _ => none
noncomputable def ruintS : Spec Try.prog Empty 16 where
  X := Nat × (Nat → Int) × Int
  us x := []
  bls0 x := [rowB x.1 x.2.1]
  args x := [.vec (.own 0) x.1, .int .u64 x.2.2]
  v x := .vec (.own 1) (x.1 + 8)
  bls1 x := [deadE, rowB (x.1 + 8) (catF x.1 x.2.1 (chunkN x.2.2))]
  c x := x.1 ≤ 2 ^ 46
  told x h := ruint_told _ _ _ h
  ov _ := ⟨1, rfl⟩
  ob x b hb := by
    simp only [List.mem_cons, List.not_mem_nil, or_false] at hb
    rcases hb with rfl | rfl
    · exact trivial
    · exact row_ownly ..
noncomputable def conUintR : ConC Try.prog Empty := ruintS.con ent16 fun I vs mem => match vs with
  | [q, .int _ x] => match pickRow mem q with
    | some (k, m, g) => some ((m, g, x), [k], [])
    | _ => none
  | _ => none

/-! ## Spoil -/
def advS (a b : Bool) : Adv where
  il _ := true
  dec f r i := match f, r, i with
    | 19, 1, 3 => some a
    | 20, 2, 0 => some a
    | 20, 3, 2 => some b
    | _, _, _ => none
  rc _ _ _ := true
  fz _ _ := false
  res _ _ := 20
noncomputable abbrev SS (a b : Bool) (I : Inp Empty) (ls : List (LoopF Try.prog I)) : Sig Empty := sigOf (P := Try.prog) [] [] [] (I := I) ls noMs (advS a b)
theorem SS_ok (a b : Bool) {I : Inp Empty} (hI : InpOk I) (ls : List (LoopF Try.prog I)) : SigOk Try.prog (SS a b I ls) := sigOf_ok [] [] [] ls (noMs_ok _) _ hI
def xorTo (k : Nat) (f : Nat → Int) (j : Nat) : Int := if j < k then bits .xor .u8 (f j) 165 else f j
noncomputable abbrev spT (n k : Nat) : List (Nat × LV Empty) := [(0, .vec (.own 0) n), (2, .int .i64 (k : Int))]
noncomputable def spJ (n : Nat) (f : Nat → Int) (k : Nat) : LS Empty := ⟨tm 17 (spT n k), [some (rowB n (xorTo k f))], []⟩
--@gen sp1 (n k : Nat) (f : Nat → Int) := runG Try.prog (SS true false noI []) 40 19 [0, 0, 1] (spJ n f k) .normal 1 [some (.own 0)] 17 (spT n (k + 1)) [some (rowB n (xorTo (k + 1) f))]
--@[
def sp1_G (n k : Nat) (f : Nat → Int) : Prop := (decide ((↑k : Int) < (↑n : Int)) = true ∧     decide ((0 : Int) ≤ (↑k : Int) ∧ (↑k : Int) < (↑n : Int)) = true ∧       Nat.blt (Int.toNat (↑k : Int)) n = true ∧         decide ((0 : Int) ≤ (↑k : Int) ∧ (↑k : Int) < (↑n : Int)) = true ∧           Nat.blt (Int.toNat (↑k : Int)) n = true ∧             rowOk (Kd.row (5 : TypeId)) (bytesU n (xorTo k f))                 (setRows (bytesU n (xorTo k f)) 0 fun (j : Nat) =>                   mrgR (Nat.beq j (Int.toNat (↑k : Int)))                     (units                         (LV.int IntKind.u8                           (bits BinOp.xor IntKind.u8 (xorTo k f (Int.toNat (↑k : Int))) ((165 : Int)))) ++                       [])                     [LV.int IntKind.u8 (xorTo k f j)]) =               true) ∧   (n = n ∧ IntKind.wrap IntKind.i64 ((↑k : Int) + (1 : Int)) = (↑(k + 1) : Int)) ∧     (n = n ∧         ∀ (i : Nat),           i < n →             Same (A := Empty) [LV.int IntKind.u8                   (bif Nat.beq i (Int.toNat (↑k : Int)) then                     bits BinOp.xor IntKind.u8 (xorTo k f (Int.toNat (↑k : Int))) ((165 : Int))                   else xorTo k f i)]               [LV.int IntKind.u8 (xorTo (k + 1) f i)]) ∧       ∀ (i : Nat), plainL (A := Empty) [LV.int IntKind.u8 (xorTo (k + 1) f i)]
set_option maxRecDepth 100000 in
theorem sp1 (n k : Nat) (f : Nat → Int) : runG Try.prog (SS true false noI []) 40 19 [0, 0, 1] (spJ n f k) .normal 1 [some (.own 0)] 17 (spT n (k + 1)) [some (rowB n (xorTo (k + 1) f))] = some (some ((sp1_G n k f))) := by kernel_rfl
--@]
--@gen sp0 (n : Nat) (f : Nat → Int) := runG Try.prog (SS false false noI []) 40 19 [0, 0, 1] (spJ n f n) (.exit 0) 1 [some (.own 0)] 17 [] [some (rowB n (xorTo n f))]
--@[
def sp0_G (n : Nat) (f : Nat → Int) : Prop := decide ((↑n : Int) < (↑n : Int)) = false ∧   (n = n ∧ ∀ (i : Nat), i < n → Same (A := Empty) [LV.int IntKind.u8 (xorTo n f i)] [LV.int IntKind.u8 (xorTo n f i)]) ∧     ∀ (i : Nat), plainL (A := Empty) [LV.int IntKind.u8 (xorTo n f i)]
set_option maxRecDepth 100000 in
theorem sp0 (n : Nat) (f : Nat → Int) : runG Try.prog (SS false false noI []) 40 19 [0, 0, 1] (spJ n f n) (.exit 0) 1 [some (.own 0)] 17 [] [some (rowB n (xorTo n f))] = some (some ((sp0_G n f))) := by kernel_rfl
--@]
noncomputable def spE (n : Nat) (f : Nat → Int) : LS Empty := entry Try.prog (SS true false noI []) 40 19 [0, 1] [.vec (.own 0) n] [some (rowB n f)]
--@gen spI (n : Nat) (f : Nat → Int) := mS noI [some (.own 0)] (spE n f) 17 (spT n 0) [some (rowB n (xorTo 0 f))]
--@[
def spI_G (n : Nat) (f : Nat → Int) : Prop := (n = n ∧ (0 : Int) = (↑0 : Int)) ∧   (n = n ∧ ∀ (i : Nat), i < n → Same (A := Empty) [LV.int IntKind.u8 (f i)] [LV.int IntKind.u8 (xorTo 0 f i)]) ∧     ∀ (i : Nat), plainL (A := Empty) [LV.int IntKind.u8 (xorTo 0 f i)]
set_option maxRecDepth 100000 in
theorem spI (n : Nat) (f : Nat → Int) : mS noI [some (.own 0)] (spE n f) 17 (spT n 0) [some (rowB n (xorTo 0 f))] = some (some ((spI_G n f))) := by kernel_rfl
--@]

/-! ## a writer's Bits -/
noncomputable abbrev wbM (N m : Nat) (f g : Nat → Int) : Mem Empty := [wB 1 N, rowB N f, rowB m g].map some
noncomputable abbrev wbT (n m k : Nat) : List (Nat × LV Empty) := [(0, .ptr (.own 0) 0 []), (4, .vec (.own 2) m), (12, .vec (.inp 0 0) n), (13, .int .i64 (n : Int)), (14, .int .i64 (k : Int))]
noncomputable def wbJ (N m n : Nat) (f : Nat → Int) (l : Nat → Bool) (k : Nat) : LS Empty := ⟨tm 35 (wbT n m k), wbM N m f (packB l k), []⟩
--@gen wb1 (N m n k : Nat) (f : Nat → Int) (l : Nat → Bool) := runG Try.prog (SS true true (inL n l) []) 40 20 [0, 0, 1, 0, 1] (wbJ N m n f l k) .normal 3 [some (.own 0), some (.own 1), some (.own 2)] 35 (wbT n m (k + 1)) (wbM N m f (packB l (k + 1)))
--@[
def wb1_G (N m n k : Nat) (f : Nat → Int) (l : Nat → Bool) : Prop := (decide ((↑k : Int) < (↑n : Int)) = true ∧     (decide ((0 : Int) ≤ (↑k : Int) ∧ (↑k : Int) < (↑n : Int)) = true ∧         Nat.blt (Int.toNat (↑k : Int)) n = true ∧ l (Int.toNat (↑k : Int)) = true) ∧       true = true ∧         decide               ((0 : Int) ≤ IntKind.wrap IntKind.i64 (Int.tdiv (↑k : Int) ((8 : Int))) ∧                 IntKind.wrap IntKind.i64 (Int.tdiv (↑k : Int) ((8 : Int))) < (↑m : Int)) =             true ∧           Nat.blt (Int.toNat (IntKind.wrap IntKind.i64 (Int.tdiv (↑k : Int) ((8 : Int))))) m = true ∧             true = true ∧               true = true ∧                 decide                       ((0 : Int) ≤ IntKind.wrap IntKind.i64 (Int.tdiv (↑k : Int) ((8 : Int))) ∧                         IntKind.wrap IntKind.i64 (Int.tdiv (↑k : Int) ((8 : Int))) < (↑m : Int)) =                     true ∧                   Nat.blt (Int.toNat (IntKind.wrap IntKind.i64 (Int.tdiv (↑k : Int) ((8 : Int))))) m =                       true ∧                     rowOk (Kd.row (5 : TypeId)) (bytesU m (packB l k))                         (setRows (bytesU m (packB l k)) 0 fun (j : Nat) =>                           mrgR                             (Nat.beq j                               (Int.toNat (IntKind.wrap IntKind.i64 (Int.tdiv (↑k : Int) ((8 : Int))))))                             (units                                 (LV.int IntKind.u8                                   (bits BinOp.or IntKind.u8                                     (packB l k                                       (Int.toNat                                         (IntKind.wrap IntKind.i64 (Int.tdiv (↑k : Int) ((8 : Int))))))                                     (IntKind.wrap IntKind.u8                                       ((1 : Int) *                                         (2 : Int) ^                                           min                                             (Int.toNat                                               (IntKind.wrap IntKind.u64 (Int.tmod (↑k : Int) ((8 : Int)))))                                             8)))) ++                               [])                             [LV.int IntKind.u8 (packB l k j)]) =                       true) ∧   (m = m ∧       (0 = 0 ∧ n = n) ∧         (↑n : Int) = (↑n : Int) ∧           IntKind.wrap IntKind.i64 ((↑k : Int) + (1 : Int)) = (↑(k + 1) : Int)) ∧     N = N ∧       ((N = N ∧ ∀ (i : Nat), i < N → Same (A := Empty) [LV.int IntKind.u8 (f i)] [LV.int IntKind.u8 (f i)]) ∧           ∀ (i : Nat), plainL (A := Empty) [LV.int IntKind.u8 (f i)]) ∧         (m = m ∧             ∀ (i : Nat),               i < m →                 Same (A := Empty) [LV.int IntKind.u8                       (bif                           Nat.beq i                             (Int.toNat (IntKind.wrap IntKind.i64 (Int.tdiv (↑k : Int) ((8 : Int))))) then                         bits BinOp.or IntKind.u8                           (packB l k                             (Int.toNat (IntKind.wrap IntKind.i64 (Int.tdiv (↑k : Int) ((8 : Int))))))                           (IntKind.wrap IntKind.u8                             ((1 : Int) *                               (2 : Int) ^                                 min (Int.toNat (IntKind.wrap IntKind.u64 (Int.tmod (↑k : Int) ((8 : Int)))))                                   8))                       else packB l k i)]                   [LV.int IntKind.u8 (packB l (k + 1) i)]) ∧           ∀ (i : Nat), plainL (A := Empty) [LV.int IntKind.u8 (packB l (k + 1) i)]
set_option maxRecDepth 100000 in
theorem wb1 (N m n k : Nat) (f : Nat → Int) (l : Nat → Bool) : runG Try.prog (SS true true (inL n l) []) 40 20 [0, 0, 1, 0, 1] (wbJ N m n f l k) .normal 3 [some (.own 0), some (.own 1), some (.own 2)] 35 (wbT n m (k + 1)) (wbM N m f (packB l (k + 1))) = some (some ((wb1_G N m n k f l))) := by kernel_rfl
--@]
--@gen wb2 (N m n k : Nat) (f : Nat → Int) (l : Nat → Bool) := runG Try.prog (SS true false (inL n l) []) 40 20 [0, 0, 1, 0, 1] (wbJ N m n f l k) .normal 3 [some (.own 0), some (.own 1), some (.own 2)] 35 (wbT n m (k + 1)) (wbM N m f (packB l (k + 1)))
--@[
def wb2_G (N m n k : Nat) (f : Nat → Int) (l : Nat → Bool) : Prop := (decide ((↑k : Int) < (↑n : Int)) = true ∧     decide ((0 : Int) ≤ (↑k : Int) ∧ (↑k : Int) < (↑n : Int)) = true ∧       Nat.blt (Int.toNat (↑k : Int)) n = true ∧ l (Int.toNat (↑k : Int)) = false) ∧   (m = m ∧       (0 = 0 ∧ n = n) ∧         (↑n : Int) = (↑n : Int) ∧           IntKind.wrap IntKind.i64 ((↑k : Int) + (1 : Int)) = (↑(k + 1) : Int)) ∧     N = N ∧       ((N = N ∧ ∀ (i : Nat), i < N → Same (A := Empty) [LV.int IntKind.u8 (f i)] [LV.int IntKind.u8 (f i)]) ∧           ∀ (i : Nat), plainL (A := Empty) [LV.int IntKind.u8 (f i)]) ∧         (m = m ∧             ∀ (i : Nat),               i < m → Same (A := Empty) [LV.int IntKind.u8 (packB l k i)] [LV.int IntKind.u8 (packB l (k + 1) i)]) ∧           ∀ (i : Nat), plainL (A := Empty) [LV.int IntKind.u8 (packB l (k + 1) i)]
set_option maxRecDepth 100000 in
theorem wb2 (N m n k : Nat) (f : Nat → Int) (l : Nat → Bool) : runG Try.prog (SS true false (inL n l) []) 40 20 [0, 0, 1, 0, 1] (wbJ N m n f l k) .normal 3 [some (.own 0), some (.own 1), some (.own 2)] 35 (wbT n m (k + 1)) (wbM N m f (packB l (k + 1))) = some (some ((wb2_G N m n k f l))) := by kernel_rfl
--@]
--@gen wb3 (N m n : Nat) (f : Nat → Int) (l : Nat → Bool) := runG Try.prog (SS false false (inL n l) []) 40 20 [0, 0, 1, 0, 1] (wbJ N m n f l n) (.exit 0) 3 [some (.own 0), some (.own 1), some (.own 2)] 35 [(0, .ptr (.own 0) 0 []), (4, .vec (.own 2) m)] (wbM N m f (packB l n))
--@[
def wb3_G (N m n : Nat) (f : Nat → Int) (l : Nat → Bool) : Prop := decide ((↑n : Int) < (↑n : Int)) = false ∧   m = m ∧     N = N ∧       ((N = N ∧ ∀ (i : Nat), i < N → Same (A := Empty) [LV.int IntKind.u8 (f i)] [LV.int IntKind.u8 (f i)]) ∧           ∀ (i : Nat), plainL (A := Empty) [LV.int IntKind.u8 (f i)]) ∧         (m = m ∧ ∀ (i : Nat), i < m → Same (A := Empty) [LV.int IntKind.u8 (packB l n i)] [LV.int IntKind.u8 (packB l n i)]) ∧           ∀ (i : Nat), plainL (A := Empty) [LV.int IntKind.u8 (packB l n i)]
set_option maxRecDepth 100000 in
theorem wb3 (N m n : Nat) (f : Nat → Int) (l : Nat → Bool) : runG Try.prog (SS false false (inL n l) []) 40 20 [0, 0, 1, 0, 1] (wbJ N m n f l n) (.exit 0) 3 [some (.own 0), some (.own 1), some (.own 2)] 35 [(0, .ptr (.own 0) 0 []), (4, .vec (.own 2) m)] (wbM N m f (packB l n)) = some (some ((wb3_G N m n f l))) := by kernel_rfl
--@]
noncomputable def wbE (N n : Nat) (f : Nat → Int) (l : Nat → Bool) : LS Empty := entry Try.prog (SS true false (inL n l) []) 40 20 [0, 1, 0, 1] [.ptr (.own 0) 0 [], .vec (.inp 0 0) n] ((w0 N f).map some)
--@gen wbI (N n : Nat) (f : Nat → Int) (l : Nat → Bool) := mS (inL n l) [some (.own 0), some (.own 1), some (.own 2)] (wbE N n f l) 35 (wbT n (bytesN n) 0) (wbM N (bytesN n) f (packB l 0))
--@[
def wbI_G (N n : Nat) (f : Nat → Int) (l : Nat → Bool) : Prop := (Int.toNat         (IntKind.wrap IntKind.i64           (Int.tdiv (IntKind.wrap IntKind.i64 ((↑n : Int) + (7 : Int))) ((8 : Int)))) =       bytesN n ∧     (0 = 0 ∧ n = n) ∧ (↑n : Int) = (↑n : Int) ∧ (0 : Int) = (↑0 : Int)) ∧   N = N ∧     ((N = N ∧ ∀ (i : Nat), i < N → Same (A := Empty) [LV.int IntKind.u8 (f i)] [LV.int IntKind.u8 (f i)]) ∧         ∀ (i : Nat), plainL (A := Empty) [LV.int IntKind.u8 (f i)]) ∧       (Int.toNat               (IntKind.wrap IntKind.i64                 (Int.tdiv (IntKind.wrap IntKind.i64 ((↑n : Int) + (7 : Int))) ((8 : Int)))) =             bytesN n ∧           ∀ (i : Nat),             i < bytesN n →               Same (A := Empty) [LV.int IntKind.u8 ((0 : Int))] [LV.int IntKind.u8 ((0 : Int))]) ∧         ∀ (i : Nat), plainL (A := Empty) [LV.int IntKind.u8 ((0 : Int))]
set_option maxRecDepth 100000 in
theorem wbI (N n : Nat) (f : Nat → Int) (l : Nat → Bool) : mS (inL n l) [some (.own 0), some (.own 1), some (.own 2)] (wbE N n f l) 35 (wbT n (bytesN n) 0) (wbM N (bytesN n) f (packB l 0)) = some (some ((wbI_G N n f l))) := by kernel_rfl
--@]

theorem xorTo_zero (f : Nat → Int) : xorTo 0 f = f := funext fun j => by simp [xorTo]
set_option maxRecDepth 100000 in
theorem sp_code : codeAt Try.prog 19 [0, 1] = .loop (codeAt Try.prog 19 [0, 0, 1]) := by kernel_rfl
theorem sp_loop (n : Nat) (f : Nat → Int) (h : n ≤ 2 ^ 46) : ExB 1 Try.prog noI (codeAt Try.prog 19 [0, 1]) (spE n f) (.exit 0) ⟨tm 17 [], [some (rowB n (xorTo n f))], []⟩ := by
  refine ExB.enter (cs := []) noI_ok _ ?_ (spI n f) ?_ rfl
  · rw [sp_code]
    refine ExB.loop (by simp) (spJ n f) n (fun k hk => ExB.auto (SS_ok _ _ noI_ok _) noI_ok rfl mixed 40 _ (sp1 n k f) ?_) (ExB.auto (SS_ok _ _ noI_ok _) noI_ok rfl mixed 40 _ (sp0 n f) ?_)
    · simp only [condOk, sp1_G, Int.toNat_natCast]
      and_intros <;> first | exact rowOk_rows _ _ _ _ _ | (intro j hj; refine Same.int ?_; simp only [xorTo]; rcases Nat.lt_trichotomy j k with h1 | h1 | h1 <;> (try subst h1) <;> simp [Nat.beq_refl, Nat.beq_eq, *] <;> omega) | exact True.intro | omega | exact fun _ => ⟨trivial, trivial⟩ | exact fun _ _ => Same.refl _ | exact fun _ _ => Like.refl _ | (simp (disch := omega) only [true_and, and_true, Nat.beq_refl, Bool.true_and, decide_eq_true_eq, decide_eq_false_iff_not, beq_iff_eq, bne_iff_ne, beq_eq_false_iff_ne, bne_eq_false_iff_eq, ne_eq, Nat.blt_eq, Nat.ble_eq, Nat.beq_eq, Bool.and_eq_true, Bool.or_eq_true, IntKind.wrap_i64, IntKind.wrap_u64, IntKind.wrap_u8, IntKind.wrap_u32, Int.tdiv_eq_ediv_of_nonneg, Int.tmod_eq_emod_of_nonneg] <;> omega) | rfl | trivial
    · simp only [condOk, sp0_G]
      (and_intros <;> first | exact True.intro | omega | exact fun _ => ⟨trivial, trivial⟩ | exact fun _ _ => Same.refl _ | exact fun _ _ => Like.refl _ | (simp (disch := omega) only [true_and, and_true, Nat.beq_refl, Bool.true_and, decide_eq_true_eq, decide_eq_false_iff_not, beq_iff_eq, bne_iff_ne, beq_eq_false_iff_ne, bne_eq_false_iff_eq, ne_eq, Nat.blt_eq, Nat.ble_eq, Nat.beq_eq, Bool.and_eq_true, Bool.or_eq_true, IntKind.wrap_i64, IntKind.wrap_u64, IntKind.wrap_u8, IntKind.wrap_u32, Int.tdiv_eq_ediv_of_nonneg, Int.tmod_eq_emod_of_nonneg] <;> omega) | rfl | trivial)
  · simp only [condOk, spI_G, xorTo_zero]
    (and_intros <;> first | exact True.intro | omega | exact fun _ => ⟨trivial, trivial⟩ | exact fun _ _ => Same.refl _ | exact fun _ _ => Like.refl _ | (simp (disch := omega) only [true_and, and_true, Nat.beq_refl, Bool.true_and, decide_eq_true_eq, decide_eq_false_iff_not, beq_iff_eq, bne_iff_ne, beq_eq_false_iff_ne, bne_eq_false_iff_eq, ne_eq, Nat.blt_eq, Nat.ble_eq, Nat.beq_eq, Bool.and_eq_true, Bool.or_eq_true, IntKind.wrap_i64, IntKind.wrap_u64, IntKind.wrap_u8, IntKind.wrap_u32, Int.tdiv_eq_ediv_of_nonneg, Int.tmod_eq_emod_of_nonneg] <;> omega) | rfl | trivial)
set_option maxRecDepth 100000 in
theorem sp_grow (n : Nat) (f : Nat → Int) : growB (spE n f) ⟨tm 17 [], [some (rowB n (xorTo n f))], []⟩ = true := by kernel_rfl
set_option maxRecDepth 100000 in
theorem sp_one (n : Nat) (f : Nat → Int) : Nat.ble (spE n f).mem.length 1 = true := by kernel_rfl
noncomputable def spL (n : Nat) (f : Nat → Int) (h : n ≤ 2 ^ 46) : LoopF Try.prog noI := LoopF.of (sp_loop n f h) (sp_grow ..) (sp_one ..)
--@gen sp (n : Nat) (f : Nat → Int) (h : n ≤ 2 ^ 46) := runG Try.prog (SS false false noI [spL n f h]) 40 19 [] (startS Try.f19 [.vec (.own 0) n] ([rowB n f].map some)) .normal 1 [some (.own 0)] 17 [] ([rowB n (xorTo n f)].map some)
--@[
def sp_G (n : Nat) (f : Nat → Int) (h : n ≤ 2 ^ 46) : Prop := (LS.tmps (LoopF.s (spL n f h)) = LS.tmps (LoopF.s (spL n f h)) ∧     LS.mem (LoopF.s (spL n f h)) = LS.mem (LoopF.s (spL n f h))) ∧   (n = n ∧ ∀ (i : Nat), i < n → Same (A := Empty) [LV.int IntKind.u8 (xorTo n f i)] [LV.int IntKind.u8 (xorTo n f i)]) ∧     ∀ (i : Nat), plainL (A := Empty) [LV.int IntKind.u8 (xorTo n f i)]
set_option maxRecDepth 100000 in
theorem sp (n : Nat) (f : Nat → Int) (h : n ≤ 2 ^ 46) : runG Try.prog (SS false false noI [spL n f h]) 40 19 [] (startS Try.f19 [.vec (.own 0) n] ([rowB n f].map some)) .normal 1 [some (.own 0)] 17 [] ([rowB n (xorTo n f)].map some) = some (some ((sp_G n f h))) := by kernel_rfl
--@]
theorem spoil_told (n : Nat) (f : Nat → Int) (h : n ≤ 2 ^ 46) : ToldW Try.prog 19 [] [rowB n f] [.vec (.own 0) n] (.tup []) [rowB n (xorTo n f)] := by
  refine toldW_body (fn := Try.f19) rfl rfl (.inl rfl) (B := 1) (nn := 17) (l := []) (cs := []) ?_ rfl rfl
  refine ExB.auto (SS_ok _ _ noI_ok _) noI_ok rfl mixed 40 _ (sp n f h) ?_
  simp only [condOk, sp_G]
  (and_intros <;> first | exact True.intro | omega | exact fun _ => ⟨trivial, trivial⟩ | exact fun _ _ => Same.refl _ | exact fun _ _ => Like.refl _ | (simp (disch := omega) only [true_and, and_true, Nat.beq_refl, Bool.true_and, decide_eq_true_eq, decide_eq_false_iff_not, beq_iff_eq, bne_iff_ne, beq_eq_false_iff_ne, bne_eq_false_iff_eq, ne_eq, Nat.blt_eq, Nat.ble_eq, Nat.beq_eq, Bool.and_eq_true, Bool.or_eq_true, IntKind.wrap_i64, IntKind.wrap_u64, IntKind.wrap_u8, IntKind.wrap_u32, Int.tdiv_eq_ediv_of_nonneg, Int.tmod_eq_emod_of_nonneg] <;> omega) | rfl | trivial)
set_option maxRecDepth 100000 in
theorem ent19 : ∀ args w, (callFunc 19 args).run Try.prog w = .ok (.enter 19 args) w := ent_of (f := 19) (P := Try.prog) rfl rfl rfl
noncomputable def spoilS : Spec Try.prog Empty 19 where
  X := Nat × (Nat → Int)
  us x := []
  bls0 x := [rowB x.1 x.2]
  args x := [.vec (.own 0) x.1]
  v x := .tup []
  bls1 x := [rowB x.1 (xorTo x.1 x.2)]
  c x := x.1 ≤ 2 ^ 46
  told x h := spoil_told _ _ h
  ov _ := trivial
  ob x b hb := by
    simp only [List.mem_cons, List.not_mem_nil, or_false] at hb
    subst hb
    exact row_ownly ..
noncomputable def conSpoil : ConC Try.prog Empty := spoilS.con ent19 fun I vs mem => match vs with
  | [q] => match pickRow mem q with
    | some (k, m, g) => some ((m, g), [k], [])
    | _ => none
  | _ => none

/-! ## a writer's Bits: the call -/
theorem packB_step (l : Nat → Bool) (k j : Nat) (h : l k = true) : Same (A := Empty) [.int .u8 (bif Nat.beq j (k / 8) then bits .or .u8 (packB l k (k / 8)) (IntKind.u8.wrap (1 * 2 ^ min (k % 8) 8)) else packB l k j)] [.int .u8 (packB l (k + 1) j)] := by
  refine Same.int ?_
  by_cases hj : j = k / 8
  · subst hj
    simp [packB, h, bitW, Nat.beq_refl]
  · have : Nat.beq j (k / 8) = false := by
      cases hb : Nat.beq j (k / 8) with
      | true => exact absurd (beqN hb) hj
      | false => rfl
    simp [packB, h, hj, this]
set_option maxRecDepth 100000 in
theorem wb_code : codeAt Try.prog 20 [0, 1, 0, 1] = .loop (codeAt Try.prog 20 [0, 0, 1, 0, 1]) := by kernel_rfl
noncomputable abbrev wbZ (N m n : Nat) (f : Nat → Int) (l : Nat → Bool) : LS Empty := ⟨tm 35 [(0, .ptr (.own 0) 0 []), (4, .vec (.own 2) m)], wbM N m f (packB l n), []⟩
theorem wb_loop (N n : Nat) (f : Nat → Int) (l : Nat → Bool) (h : n ≤ 2 ^ 46) : ExB 3 Try.prog (inL n l) (codeAt Try.prog 20 [0, 1, 0, 1]) (wbE N n f l) (.exit 0) (wbZ N (bytesN n) n f l) := by
  have hm : n ≤ 8 * bytesN n := by unfold bytesN; omega
  refine ExB.enter (cs := []) (inL_ok n l) _ ?_ (wbI N n f l) ?_ rfl
  · rw [wb_code]
    refine ExB.loop (by simp) (wbJ N (bytesN n) n f l) n (fun k hk => ?_) (ExB.auto (SS_ok _ _ (inL_ok n l) _) (inL_ok n l) rfl mixed 40 _ (wb3 N (bytesN n) n f l) ?_)
    · have e1 := byteI_eq (k := k) (by omega)
      have e2 : byteI k = k / 8 := by unfold byteI; rw [e1]; omega
      have e3 := tmod8 k
      have e4 : IntKind.wrap IntKind.u64 ((k % 8 : Nat) : Int) = ((k % 8 : Nat) : Int) := IntWalk.u64_in _ (by omega)
      have e5 : IntKind.wrap IntKind.i64 ((k : Int) + 1) = ((k + 1 : Nat) : Int) := by rw [IntWalk.i64_in _ (by omega)]; rfl
      cases hl : l k with
      | true =>
        refine ExB.auto (SS_ok _ _ (inL_ok n l) _) (inL_ok n l) rfl mixed 40 _ (wb1 N (bytesN n) n k f l) ?_
        simp only [condOk, wb1_G, Int.toNat_natCast, e1, e3, e4, e5]
        and_intros <;> first | exact rowOk_rows _ _ _ _ _ | exact fun j _ => packB_step l k j hl | exact hl | exact True.intro | omega | exact fun _ => ⟨trivial, trivial⟩ | exact fun _ _ => Same.refl _ | exact fun _ _ => Like.refl _ | (simp (disch := omega) only [true_and, and_true, Nat.beq_refl, Bool.true_and, decide_eq_true_eq, decide_eq_false_iff_not, beq_iff_eq, bne_iff_ne, beq_eq_false_iff_ne, bne_eq_false_iff_eq, ne_eq, Nat.blt_eq, Nat.ble_eq, Nat.beq_eq, Bool.and_eq_true, Bool.or_eq_true, IntKind.wrap_i64, IntKind.wrap_u64, IntKind.wrap_u8, IntKind.wrap_u32, Int.tdiv_eq_ediv_of_nonneg, Int.tmod_eq_emod_of_nonneg] <;> omega) | rfl | trivial
      | false =>
        refine ExB.auto (SS_ok _ _ (inL_ok n l) _) (inL_ok n l) rfl mixed 40 _ (wb2 N (bytesN n) n k f l) ?_
        simp only [condOk, wb2_G, Int.toNat_natCast, e5]
        and_intros <;> first | exact hl | (intro j _; refine Same.int ?_; simp [packB, hl]; done) | exact True.intro | omega | exact fun _ => ⟨trivial, trivial⟩ | exact fun _ _ => Same.refl _ | exact fun _ _ => Like.refl _ | (simp (disch := omega) only [true_and, and_true, Nat.beq_refl, Bool.true_and, decide_eq_true_eq, decide_eq_false_iff_not, beq_iff_eq, bne_iff_ne, beq_eq_false_iff_ne, bne_eq_false_iff_eq, ne_eq, Nat.blt_eq, Nat.ble_eq, Nat.beq_eq, Bool.and_eq_true, Bool.or_eq_true, IntKind.wrap_i64, IntKind.wrap_u64, IntKind.wrap_u8, IntKind.wrap_u32, Int.tdiv_eq_ediv_of_nonneg, Int.tmod_eq_emod_of_nonneg] <;> omega) | rfl | trivial
    · simp only [condOk, wb3_G]
      (and_intros <;> first | exact True.intro | omega | exact fun _ => ⟨trivial, trivial⟩ | exact fun _ _ => Same.refl _ | exact fun _ _ => Like.refl _ | (simp (disch := omega) only [true_and, and_true, Nat.beq_refl, Bool.true_and, decide_eq_true_eq, decide_eq_false_iff_not, beq_iff_eq, bne_iff_ne, beq_eq_false_iff_ne, bne_eq_false_iff_eq, ne_eq, Nat.blt_eq, Nat.ble_eq, Nat.beq_eq, Bool.and_eq_true, Bool.or_eq_true, IntKind.wrap_i64, IntKind.wrap_u64, IntKind.wrap_u8, IntKind.wrap_u32, Int.tdiv_eq_ediv_of_nonneg, Int.tmod_eq_emod_of_nonneg] <;> omega) | rfl | trivial)
  · have h1 : IntKind.wrap IntKind.i64 (Int.tdiv (IntKind.wrap IntKind.i64 ((n : Int) + 7)) 8) = (bytesN n : Int) := lenB_eq (n := n) (by omega)
    simp only [condOk, wbI_G, h1, Int.toNat_natCast]
    (and_intros <;> first | exact True.intro | omega | exact fun _ => ⟨trivial, trivial⟩ | exact fun _ _ => Same.refl _ | exact fun _ _ => Like.refl _ | (simp (disch := omega) only [true_and, and_true, Nat.beq_refl, Bool.true_and, decide_eq_true_eq, decide_eq_false_iff_not, beq_iff_eq, bne_iff_ne, beq_eq_false_iff_ne, bne_eq_false_iff_eq, ne_eq, Nat.blt_eq, Nat.ble_eq, Nat.beq_eq, Bool.and_eq_true, Bool.or_eq_true, IntKind.wrap_i64, IntKind.wrap_u64, IntKind.wrap_u8, IntKind.wrap_u32, Int.tdiv_eq_ediv_of_nonneg, Int.tmod_eq_emod_of_nonneg] <;> omega) | rfl | trivial)
set_option maxRecDepth 100000 in
theorem wb_grow (N n : Nat) (f : Nat → Int) (l : Nat → Bool) (m : Nat) : growB (wbE N n f l) (wbZ N m n f l) = true := by kernel_rfl
set_option maxRecDepth 100000 in
theorem wb_three (N n : Nat) (f : Nat → Int) (l : Nat → Bool) : Nat.ble (wbE N n f l).mem.length 3 = true := by kernel_rfl
noncomputable def wbL (N n : Nat) (f : Nat → Int) (l : Nat → Bool) (h : n ≤ 2 ^ 46) : LoopF Try.prog (inL n l) := LoopF.of (wb_loop N n f l h) (wb_grow ..) (wb_three ..)
--@gen wb (N n : Nat) (f : Nat → Int) (l : Nat → Bool) (h : n ≤ 2 ^ 46) := runG Try.prog (SS false false (inL n l) [wbL N n f l h]) 60 20 [] (startS Try.f20 [.ptr (.own 0) 0 [], .vec (.inp 0 0) n] ((w0 N f).map some)) .normal 2 [some (.own 0), some (.own 1), some (.own 3)] 35 [] ((w1 (N + bytesN n) (catF N f (packB l n))).map some)
--@[
def wb_G (N n : Nat) (f : Nat → Int) (l : Nat → Bool) (h : n ≤ 2 ^ 46) : Prop := ((true = true ∧       decide           (IntKind.wrap IntKind.i64                 (Int.tdiv (IntKind.wrap IntKind.i64 ((↑n : Int) + (7 : Int))) ((8 : Int))) =               IntKind.wrap IntKind.i64                 (Int.tdiv (IntKind.wrap IntKind.i64 ((↑n : Int) + (7 : Int))) ((8 : Int))) ∧             (0 : Int) ≤                 IntKind.wrap IntKind.i64                   (Int.tdiv (IntKind.wrap IntKind.i64 ((↑n : Int) + (7 : Int))) ((8 : Int))) ∧               (↑1 : Int) *                   IntKind.wrap IntKind.i64                     (Int.tdiv (IntKind.wrap IntKind.i64 ((↑n : Int) + (7 : Int))) ((8 : Int))) ≤                 (2 : Int) ^ 48) =         true) ∧     (LS.tmps (LoopF.s (wbL N n f l h)) = LS.tmps (LoopF.s (wbL N n f l h)) ∧         LS.mem (LoopF.s (wbL N n f l h)) = LS.mem (LoopF.s (wbL N n f l h))) ∧       (Nat.ble (bytesN n) (bytesN n) = true ∧           (Nat.beq N N && Nat.ble ((N + bytesN n) * 1) 140737488355328) = true) ∧         true = true) ∧   N + bytesN n = N + bytesN n ∧     (N + bytesN n = N + bytesN n ∧         ∀ (i : Nat),           i < N + bytesN n →             Same (A := Empty) [LV.int IntKind.u8 (bif Nat.blt i N then f i else packB l n (i - N))]               [LV.int IntKind.u8 (catF N f (packB l n) i)]) ∧       ∀ (i : Nat), plainL (A := Empty) [LV.int IntKind.u8 (catF N f (packB l n) i)]
set_option maxRecDepth 100000 in
theorem wb (N n : Nat) (f : Nat → Int) (l : Nat → Bool) (h : n ≤ 2 ^ 46) : runG Try.prog (SS false false (inL n l) [wbL N n f l h]) 60 20 [] (startS Try.f20 [.ptr (.own 0) 0 [], .vec (.inp 0 0) n] ((w0 N f).map some)) .normal 2 [some (.own 0), some (.own 1), some (.own 3)] 35 [] ((w1 (N + bytesN n) (catF N f (packB l n))).map some) = some (some ((wb_G N n f l h))) := by kernel_rfl
--@]
theorem wbits_told (N n : Nat) (f : Nat → Int) (l : Nat → Bool) (h : n ≤ 2 ^ 46) (hN : N ≤ 2 ^ 45) : ToldW Try.prog 20 [boolsU n l] (w0 N f) [.ptr (.own 0) 0 [], .vec (.inp 0 0) n] (.tup []) (w1 (N + bytesN n) (catF N f (packB l n))) := by
  have h1 : IntKind.wrap IntKind.i64 (Int.tdiv (IntKind.wrap IntKind.i64 ((n : Int) + 7)) 8) = (bytesN n : Int) := lenB_eq (n := n) (by omega)
  have h2 : bytesN n ≤ 2 ^ 45 := by unfold bytesN; omega
  refine toldW_body (fn := Try.f20) rfl rfl (.inl rfl) (B := 2) (nn := 35) (l := []) (cs := []) ?_ rfl rfl
  refine ExB.auto (SS_ok _ _ (inL_ok n l) _) (inL_ok n l) rfl mixed 60 _ (wb N n f l h) ?_
  simp only [condOk, wb_G, h1]
  and_intros <;> first | exact fun j _ => same_cat N f (packB l n) j | exact True.intro | omega | exact fun _ => ⟨trivial, trivial⟩ | exact fun _ _ => Same.refl _ | exact fun _ _ => Like.refl _ | (simp (disch := omega) only [true_and, and_true, Nat.beq_refl, Bool.true_and, decide_eq_true_eq, decide_eq_false_iff_not, beq_iff_eq, bne_iff_ne, beq_eq_false_iff_ne, bne_eq_false_iff_eq, ne_eq, Nat.blt_eq, Nat.ble_eq, Nat.beq_eq, Bool.and_eq_true, Bool.or_eq_true, IntKind.wrap_i64, IntKind.wrap_u64, IntKind.wrap_u8, IntKind.wrap_u32, Int.tdiv_eq_ediv_of_nonneg, Int.tmod_eq_emod_of_nonneg] <;> omega) | rfl | trivial
set_option maxRecDepth 100000 in
theorem ent20 : ∀ args w, (callFunc 20 args).run Try.prog w = .ok (.enter 20 args) w := ent_of (f := 20) (P := Try.prog) rfl rfl rfl
/-- Bits that a slice names. -/
def pickBo (I : Inp Empty) (mem : Mem Empty) : LV Empty → Option (Key × Nat × (Nat → Bool))
  | .vec k n => match at? I mem k with
    | some ⟨_, [.rows _ _ g]⟩ => some (k, n, fun j => boolOf (g j))
    | _ => none
  | _ => none
noncomputable def wbitsS : Spec Try.prog Empty 20 where
  X := Nat × (Nat → Int) × Nat × (Nat → Bool)
  us x := [boolsU x.2.2.1 x.2.2.2]
  bls0 x := w0 x.1 x.2.1
  args x := [.ptr (.own 0) 0 [], .vec (.inp 0 0) x.2.2.1]
  v x := .tup []
  bls1 x := w1 (x.1 + bytesN x.2.2.1) (catF x.1 x.2.1 (packB x.2.2.2 x.2.2.1))
  c x := x.2.2.1 ≤ 2 ^ 46 ∧ x.1 ≤ 2 ^ 45
  told x h := wbits_told _ _ _ _ h.1 h.2
  ov _ := trivial
  ob x := w1_ob _ _
noncomputable def conWBits : ConC Try.prog Empty := wbitsS.con ent20 fun I vs mem => match vs with
  | [p, q] => match pickW mem p, pickBo I mem q with
    | some (r, d, N, f), some (k, m, g) => some ((N, f, m, g), [r, d], [k])
    | _, _ => none
  | _ => none
end Go.Proofs.Ytjhjockdkpgpeaa.En

/- DERIVED. Contracts of the readers' calls: bytes and numbers. -/
set_option linter.all false
namespace Go.Proofs.Ytjhjockdkpgpeaa.En
open Go Go.RowKit

/-- Bytes taken. -/
def tkOk (N : Nat) (e n : Int) : Bool := decide (e = 0) && decide (n.toNat ≤ N)
def tkL (N : Nat) (e n : Int) : Nat := if tkOk N e n = true then n.toNat else 0
def tkN (N : Nat) (e n : Int) : Nat := if tkOk N e n = true then N - n.toNat else N
def tkF (N : Nat) (f : Nat → Int) (e n : Int) (j : Nat) : Int := if tkOk N e n = true then f (n.toNat + j) else f j
def tkE (N : Nat) (e n : Int) : Int := if e = 0 then (if n.toNat ≤ N then 0 else 170) else e
noncomputable abbrev tkB (kd : Kd) (N : Nat) (f : Nat → Int) (e n : Int) : List (Blk Empty) := [rdB 2 (tkN N e n) (tkE N e n), roB N f, roB (tkN N e n) (tkF N f e n), ⟨kd, bytesU (tkL N e n) f⟩]
theorem tkB_ob (kd : Kd) (N : Nat) (f : Nat → Int) (e n : Int) : ∀ b ∈ tkB kd N f e n, ownlyL b.us := by
  intro b hb
  simp only [tkB, List.mem_cons, List.not_mem_nil, or_false] at hb
  rcases hb with rfl | rfl | rfl | rfl
  · exact rd_ownly ..
  · exact ro_ownly ..
  · exact ro_ownly ..
  · exact by_ownly ..
def advT (a b : Option Bool) : Adv where
  il _ := true
  dec f r i := match f, r, i with
    | 55, 1, 4 => a
    | 55, 3, 6 => b
    | 36, 2, 4 => a
    | 36, 4, 6 => b
    | _, _, _ => none
  rc f r i := match f, r, i with
    | 55, 6, 6 => true
    | 55, 7, 6 => true
    | 36, 7, 5 => true
    | 36, 8, 6 => true
    | 35, 1, 4 => true
    | _, _, _ => false
  fz _ _ := false
  res _ _ := 20
noncomputable abbrev ST (a b : Option Bool) : Sig Empty := sigOf (P := Try.prog) [] [] [] (I := noI) [] noMs (advT a b)
theorem ST_ok (a b : Option Bool) : SigOk Try.prog (ST a b) := sigOf_ok [] [] [] [] (noMs_ok _) _ noI_ok
--@gen rb1 (N : Nat) (f : Nat → Int) (n : Int) := runG Try.prog (ST none (some false)) 60 35 [] (startS Try.f35 (argA n) ((rd0 N f 0).map some)) .ret 2 [some (.own 0), some (.own 1), some (.own 3), some (.own 4)] 10 [(4, .vec (.own 3) (tkL N 0 n))] ((tkB (.row 5) N f 0 n).map some)
--@[
def rb1_G (N : Nat) (f : Nat → Int) (n : Int) : Prop := ((decide ((↑N : Int) < if n < (0 : Int) then (0 : Int) else n) = false ∧       (decide               ((0 : Int) ≤ (↑0 : Int) ∧                 ((↑0 : Int) ≤ if n < (0 : Int) then (0 : Int) else n) ∧                   ((if n < (0 : Int) then (0 : Int) else n) ≤                       if n < (0 : Int) then (0 : Int) else n) ∧                     (if n < (0 : Int) then (0 : Int) else n) ≤ (↑N : Int)) =             true ∧           Nat.ble N N = true) ∧         decide               (((0 : Int) ≤ if n < (0 : Int) then (0 : Int) else n) ∧                 (if n < (0 : Int) then (0 : Int) else n) ≤ (↑N : Int) ∧                   (↑N : Int) ≤ (↑N : Int) ∧ (↑N : Int) ≤ (↑N : Int)) =             true ∧           Nat.ble N N = true) ∧     Nat.ble (Int.toNat (if n < (0 : Int) then (0 : Int) else n))           (Int.toNat (if n < (0 : Int) then (0 : Int) else n)) =         true ∧       Nat.ble (Int.toNat (if n < (0 : Int) then (0 : Int) else n) * 1)           140737488355328 =         true) ∧   Int.toNat (if n < (0 : Int) then (0 : Int) else n) = tkL N ((0 : Int)) n ∧     (Int.toNat (↑N : Int) - Int.toNat (if n < (0 : Int) then (0 : Int) else n) =           tkN N ((0 : Int)) n ∧         (0 : Int) = tkE N ((0 : Int)) n) ∧       ((N = N ∧ ∀ (i : Nat), i < N → Same (A := Empty) [LV.int IntKind.u8 (f i)] [LV.int IntKind.u8 (f i)]) ∧           ∀ (i : Nat), plainL (A := Empty) [LV.int IntKind.u8 (f i)]) ∧         ((Int.toNat (↑N : Int) - Int.toNat (if n < (0 : Int) then (0 : Int) else n) =                 tkN N ((0 : Int)) n ∧               ∀ (i : Nat),                 i < tkN N ((0 : Int)) n →                   Same (A := Empty) [LV.int IntKind.u8                         (f (Int.toNat (if n < (0 : Int) then (0 : Int) else n) + i))]                     [LV.int IntKind.u8 (tkF N f ((0 : Int)) n i)]) ∧             ∀ (i : Nat), plainL (A := Empty) [LV.int IntKind.u8 (tkF N f ((0 : Int)) n i)]) ∧           (Int.toNat (if n < (0 : Int) then (0 : Int) else n) =                 tkL N ((0 : Int)) n ∧               ∀ (i : Nat),                 i < tkL N ((0 : Int)) n → Same (A := Empty) [LV.int IntKind.u8 (f i)] [LV.int IntKind.u8 (f i)]) ∧             ∀ (i : Nat), plainL (A := Empty) [LV.int IntKind.u8 (f i)]
set_option maxRecDepth 100000 in
theorem rb1 (N : Nat) (f : Nat → Int) (n : Int) : runG Try.prog (ST none (some false)) 60 35 [] (startS Try.f35 (argA n) ((rd0 N f 0).map some)) .ret 2 [some (.own 0), some (.own 1), some (.own 3), some (.own 4)] 10 [(4, .vec (.own 3) (tkL N 0 n))] ((tkB (.row 5) N f 0 n).map some) = some (some ((rb1_G N f n))) := by kernel_rfl
--@]
--@gen rb2 (N : Nat) (f : Nat → Int) (n : Int) := runG Try.prog (ST none (some true)) 60 35 [] (startS Try.f35 (argA n) ((rd0 N f 0).map some)) .ret 2 [some (.own 0), some (.own 1), some (.own 1), some (.own 2)] 10 [(4, .vec (.own 3) (tkL N 0 n))] ((tkB (.row 5) N f 0 n).map some)
--@[
def rb2_G (N : Nat) (f : Nat → Int) (n : Int) : Prop := (decide ((↑N : Int) < if n < (0 : Int) then (0 : Int) else n) = true ∧ true = true) ∧   0 = tkL N ((0 : Int)) n ∧     (N = tkN N ((0 : Int)) n ∧ (170 : Int) = tkE N ((0 : Int)) n) ∧       ((N = N ∧ ∀ (i : Nat), i < N → Same (A := Empty) [LV.int IntKind.u8 (f i)] [LV.int IntKind.u8 (f i)]) ∧           ∀ (i : Nat), plainL (A := Empty) [LV.int IntKind.u8 (f i)]) ∧         ((N = tkN N ((0 : Int)) n ∧               ∀ (i : Nat),                 i < tkN N ((0 : Int)) n →                   Same (A := Empty) [LV.int IntKind.u8 (f i)] [LV.int IntKind.u8 (tkF N f ((0 : Int)) n i)]) ∧             ∀ (i : Nat), plainL (A := Empty) [LV.int IntKind.u8 (tkF N f ((0 : Int)) n i)]) ∧           (0 = tkL N ((0 : Int)) n ∧               ∀ (i : Nat), i < tkL N ((0 : Int)) n → Same (A := Empty) [] [LV.int IntKind.u8 (f i)]) ∧             ∀ (i : Nat), plainL (A := Empty) [LV.int IntKind.u8 (f i)]
set_option maxRecDepth 100000 in
theorem rb2 (N : Nat) (f : Nat → Int) (n : Int) : runG Try.prog (ST none (some true)) 60 35 [] (startS Try.f35 (argA n) ((rd0 N f 0).map some)) .ret 2 [some (.own 0), some (.own 1), some (.own 1), some (.own 2)] 10 [(4, .vec (.own 3) (tkL N 0 n))] ((tkB (.row 5) N f 0 n).map some) = some (some ((rb2_G N f n))) := by kernel_rfl
--@]
--@gen rb3 (N : Nat) (f : Nat → Int) (e n : Int) := runG Try.prog (ST (some true) none) 60 35 [] (startS Try.f35 (argA n) ((rd0 N f e).map some)) .ret 2 [some (.own 0), some (.own 1), some (.own 1), some (.own 2)] 10 [(4, .vec (.own 3) (tkL N e n))] ((tkB (.row 5) N f e n).map some)
--@[
def rb3_G (N : Nat) (f : Nat → Int) (e n : Int) : Prop := ((e != (0 : Int)) = true ∧ true = true) ∧   0 = tkL N e n ∧     (N = tkN N e n ∧ e = tkE N e n) ∧       ((N = N ∧ ∀ (i : Nat), i < N → Same (A := Empty) [LV.int IntKind.u8 (f i)] [LV.int IntKind.u8 (f i)]) ∧           ∀ (i : Nat), plainL (A := Empty) [LV.int IntKind.u8 (f i)]) ∧         ((N = tkN N e n ∧               ∀ (i : Nat), i < tkN N e n → Same (A := Empty) [LV.int IntKind.u8 (f i)] [LV.int IntKind.u8 (tkF N f e n i)]) ∧             ∀ (i : Nat), plainL (A := Empty) [LV.int IntKind.u8 (tkF N f e n i)]) ∧           (0 = tkL N e n ∧ ∀ (i : Nat), i < tkL N e n → Same (A := Empty) [] [LV.int IntKind.u8 (f i)]) ∧             ∀ (i : Nat), plainL (A := Empty) [LV.int IntKind.u8 (f i)]
set_option maxRecDepth 100000 in
theorem rb3 (N : Nat) (f : Nat → Int) (e n : Int) : runG Try.prog (ST (some true) none) 60 35 [] (startS Try.f35 (argA n) ((rd0 N f e).map some)) .ret 2 [some (.own 0), some (.own 1), some (.own 1), some (.own 2)] 10 [(4, .vec (.own 3) (tkL N e n))] ((tkB (.row 5) N f e n).map some) = some (some ((rb3_G N f e n))) := by kernel_rfl
--@]
--@gen qb1 (N : Nat) (f : Nat → Int) (n : Int) := runG Try.prog (ST none (some false)) 60 36 [] (startS Try.f36 (argA n) ((rd0 N f 0).map some)) .ret 2 [some (.own 0), some (.own 1), some (.own 3), some (.own 2)] 39 [(4, .vec (.own 3) (tkL N 0 n))] ((tkB .ro N f 0 n).map some)
--@[
def qb1_G (N : Nat) (f : Nat → Int) (n : Int) : Prop := (decide ((↑N : Int) < if n < (0 : Int) then (0 : Int) else n) = false ∧     (decide             ((0 : Int) ≤ (↑0 : Int) ∧               ((↑0 : Int) ≤ if n < (0 : Int) then (0 : Int) else n) ∧                 (if n < (0 : Int) then (0 : Int) else n) ≤ (↑N : Int) ∧                   (↑N : Int) ≤ (↑N : Int)) =           true ∧         Nat.ble N N = true) ∧       decide             (((0 : Int) ≤ if n < (0 : Int) then (0 : Int) else n) ∧               (if n < (0 : Int) then (0 : Int) else n) ≤ (↑N : Int) ∧                 (↑N : Int) ≤ (↑N : Int) ∧ (↑N : Int) ≤ (↑N : Int)) =           true ∧         Nat.ble N N = true) ∧   Int.toNat (if n < (0 : Int) then (0 : Int) else n) = tkL N ((0 : Int)) n ∧     (Int.toNat (↑N : Int) - Int.toNat (if n < (0 : Int) then (0 : Int) else n) =           tkN N ((0 : Int)) n ∧         (0 : Int) = tkE N ((0 : Int)) n) ∧       ((N = N ∧ ∀ (i : Nat), i < N → Same (A := Empty) [LV.int IntKind.u8 (f i)] [LV.int IntKind.u8 (f i)]) ∧           ∀ (i : Nat), plainL (A := Empty) [LV.int IntKind.u8 (f i)]) ∧         ((Int.toNat (↑N : Int) - Int.toNat (if n < (0 : Int) then (0 : Int) else n) =                 tkN N ((0 : Int)) n ∧               ∀ (i : Nat),                 i < tkN N ((0 : Int)) n →                   Same (A := Empty) [LV.int IntKind.u8                         (f (Int.toNat (if n < (0 : Int) then (0 : Int) else n) + i))]                     [LV.int IntKind.u8 (tkF N f ((0 : Int)) n i)]) ∧             ∀ (i : Nat), plainL (A := Empty) [LV.int IntKind.u8 (tkF N f ((0 : Int)) n i)]) ∧           (Int.toNat (if n < (0 : Int) then (0 : Int) else n) =                 tkL N ((0 : Int)) n ∧               ∀ (i : Nat),                 i < tkL N ((0 : Int)) n → Same (A := Empty) [LV.int IntKind.u8 (f i)] [LV.int IntKind.u8 (f i)]) ∧             ∀ (i : Nat), plainL (A := Empty) [LV.int IntKind.u8 (f i)]
set_option maxRecDepth 100000 in
theorem qb1 (N : Nat) (f : Nat → Int) (n : Int) : runG Try.prog (ST none (some false)) 60 36 [] (startS Try.f36 (argA n) ((rd0 N f 0).map some)) .ret 2 [some (.own 0), some (.own 1), some (.own 3), some (.own 2)] 39 [(4, .vec (.own 3) (tkL N 0 n))] ((tkB .ro N f 0 n).map some) = some (some ((qb1_G N f n))) := by kernel_rfl
--@]
--@gen qb2 (N : Nat) (f : Nat → Int) (n : Int) := runG Try.prog (ST none (some true)) 60 36 [] (startS Try.f36 (argA n) ((rd0 N f 0).map some)) .ret 2 [some (.own 0), some (.own 1), some (.own 1), none] 39 [(4, .vec (.own 3) (tkL N 0 n))] ((tkB .ro N f 0 n).map some)
--@[
def qb2_G (N : Nat) (f : Nat → Int) (n : Int) : Prop := decide ((↑N : Int) < if n < (0 : Int) then (0 : Int) else n) = true ∧   tkL N ((0 : Int)) n = 0 ∧     (N = tkN N ((0 : Int)) n ∧ (170 : Int) = tkE N ((0 : Int)) n) ∧       ((N = N ∧ ∀ (i : Nat), i < N → Same (A := Empty) [LV.int IntKind.u8 (f i)] [LV.int IntKind.u8 (f i)]) ∧           ∀ (i : Nat), plainL (A := Empty) [LV.int IntKind.u8 (f i)]) ∧         ((N = tkN N ((0 : Int)) n ∧               ∀ (i : Nat),                 i < tkN N ((0 : Int)) n →                   Same (A := Empty) [LV.int IntKind.u8 (f i)] [LV.int IntKind.u8 (tkF N f ((0 : Int)) n i)]) ∧             ∀ (i : Nat), plainL (A := Empty) [LV.int IntKind.u8 (tkF N f ((0 : Int)) n i)]) ∧           tkL N ((0 : Int)) n = 0 ∧ ∀ (i : Nat), plainL (A := Empty) [LV.int IntKind.u8 (f i)]
set_option maxRecDepth 100000 in
theorem qb2 (N : Nat) (f : Nat → Int) (n : Int) : runG Try.prog (ST none (some true)) 60 36 [] (startS Try.f36 (argA n) ((rd0 N f 0).map some)) .ret 2 [some (.own 0), some (.own 1), some (.own 1), none] 39 [(4, .vec (.own 3) (tkL N 0 n))] ((tkB .ro N f 0 n).map some) = some (some ((qb2_G N f n))) := by kernel_rfl
--@]
--@gen qb3 (N : Nat) (f : Nat → Int) (e n : Int) := runG Try.prog (ST (some true) none) 60 36 [] (startS Try.f36 (argA n) ((rd0 N f e).map some)) .ret 2 [some (.own 0), some (.own 1), some (.own 1), none] 39 [(4, .vec (.own 3) (tkL N e n))] ((tkB .ro N f e n).map some)
--@[
def qb3_G (N : Nat) (f : Nat → Int) (e n : Int) : Prop := (e != (0 : Int)) = true ∧   tkL N e n = 0 ∧     (N = tkN N e n ∧ e = tkE N e n) ∧       ((N = N ∧ ∀ (i : Nat), i < N → Same (A := Empty) [LV.int IntKind.u8 (f i)] [LV.int IntKind.u8 (f i)]) ∧           ∀ (i : Nat), plainL (A := Empty) [LV.int IntKind.u8 (f i)]) ∧         ((N = tkN N e n ∧               ∀ (i : Nat), i < tkN N e n → Same (A := Empty) [LV.int IntKind.u8 (f i)] [LV.int IntKind.u8 (tkF N f e n i)]) ∧             ∀ (i : Nat), plainL (A := Empty) [LV.int IntKind.u8 (tkF N f e n i)]) ∧           tkL N e n = 0 ∧ ∀ (i : Nat), plainL (A := Empty) [LV.int IntKind.u8 (f i)]
set_option maxRecDepth 100000 in
theorem qb3 (N : Nat) (f : Nat → Int) (e n : Int) : runG Try.prog (ST (some true) none) 60 36 [] (startS Try.f36 (argA n) ((rd0 N f e).map some)) .ret 2 [some (.own 0), some (.own 1), some (.own 1), none] 39 [(4, .vec (.own 3) (tkL N e n))] ((tkB .ro N f e n).map some) = some (some ((qb3_G N f e n))) := by kernel_rfl
--@]
theorem rbytes_told (N : Nat) (f : Nat → Int) (e n : Int) (hN : N ≤ 2 ^ 43) : ToldW Try.prog 35 [] (rd0 N f e) (argA n) (.vec (.own 3) (tkL N e n)) (tkB (.row 5) N f e n) := by
  have h7 : ((if n < 0 then 0 else n) : Int) = (n.toNat : Int) := by split <;> omega
  refine toldW_body (fn := Try.f35) rfl rfl (.inr rfl) (B := 2) (nn := 10) (l := [(4, .vec (.own 3) (tkL N e n))]) (cs := []) ?_ rfl rfl
  by_cases he : e = 0
  · subst he
    by_cases hn : n.toNat ≤ N
    · refine ExB.auto (ST_ok _ _) noI_ok rfl mixed 60 _ (rb1 N f n) ?_
      have hk : tkOk N 0 n = true := by simp [tkOk, hn]
      simp only [condOk, rb1_G, tkL, tkN, tkF, tkE, hk, h7, hn, if_true, Int.toNat_natCast, Bool.false_eq_true, if_false]
      (and_intros <;> first | exact True.intro | omega | exact fun _ => ⟨trivial, trivial⟩ | exact fun _ _ => Same.refl _ | exact fun _ _ => Like.refl _ | (simp (disch := omega) only [true_and, and_true, Nat.beq_refl, Bool.true_and, decide_eq_true_eq, decide_eq_false_iff_not, beq_iff_eq, bne_iff_ne, beq_eq_false_iff_ne, bne_eq_false_iff_eq, ne_eq, Nat.blt_eq, Nat.ble_eq, Nat.beq_eq, Bool.and_eq_true, Bool.or_eq_true, IntKind.wrap_i64, IntKind.wrap_u64, IntKind.wrap_u8, IntKind.wrap_u32, Int.tdiv_eq_ediv_of_nonneg, Int.tmod_eq_emod_of_nonneg] <;> omega) | rfl | trivial)
    · refine ExB.auto (ST_ok _ _) noI_ok rfl mixed 60 _ (rb2 N f n) ?_
      have hk : tkOk N 0 n = false := by simp [tkOk, hn]
      simp only [condOk, rb2_G, tkL, tkN, tkF, tkE, hk, h7, hn, if_true, Int.toNat_natCast, Bool.false_eq_true, if_false]
      (and_intros <;> first | exact True.intro | omega | exact fun _ => ⟨trivial, trivial⟩ | exact fun _ _ => Same.refl _ | exact fun _ _ => Like.refl _ | (simp (disch := omega) only [true_and, and_true, Nat.beq_refl, Bool.true_and, decide_eq_true_eq, decide_eq_false_iff_not, beq_iff_eq, bne_iff_ne, beq_eq_false_iff_ne, bne_eq_false_iff_eq, ne_eq, Nat.blt_eq, Nat.ble_eq, Nat.beq_eq, Bool.and_eq_true, Bool.or_eq_true, IntKind.wrap_i64, IntKind.wrap_u64, IntKind.wrap_u8, IntKind.wrap_u32, Int.tdiv_eq_ediv_of_nonneg, Int.tmod_eq_emod_of_nonneg] <;> omega) | rfl | trivial)
  · refine ExB.auto (ST_ok _ _) noI_ok rfl mixed 60 _ (rb3 N f e n) ?_
    have hk : tkOk N e n = false := by simp [tkOk, he]
    simp only [condOk, rb3_G, tkL, tkN, tkF, tkE, hk, h7, he, if_true, Int.toNat_natCast, Bool.false_eq_true, if_false]
    (and_intros <;> first | exact True.intro | omega | exact fun _ => ⟨trivial, trivial⟩ | exact fun _ _ => Same.refl _ | exact fun _ _ => Like.refl _ | (simp (disch := omega) only [true_and, and_true, Nat.beq_refl, Bool.true_and, decide_eq_true_eq, decide_eq_false_iff_not, beq_iff_eq, bne_iff_ne, beq_eq_false_iff_ne, bne_eq_false_iff_eq, ne_eq, Nat.blt_eq, Nat.ble_eq, Nat.beq_eq, Bool.and_eq_true, Bool.or_eq_true, IntKind.wrap_i64, IntKind.wrap_u64, IntKind.wrap_u8, IntKind.wrap_u32, Int.tdiv_eq_ediv_of_nonneg, Int.tmod_eq_emod_of_nonneg] <;> omega) | rfl | trivial)
set_option maxRecDepth 100000 in
theorem ent35 : ∀ args w, (callFunc 35 args).run Try.prog w = .ok (.enter 35 args) w := ent_of (f := 35) (P := Try.prog) rfl rfl rfl
noncomputable def rbS : Spec Try.prog Empty 35 where
  X := Nat × (Nat → Int) × Int × Int
  us _ := []
  bls0 x := rd0 x.1 x.2.1 x.2.2.1
  args x := argA x.2.2.2
  v x := .vec (.own 3) (tkL x.1 x.2.2.1 x.2.2.2)
  bls1 x := tkB (.row 5) x.1 x.2.1 x.2.2.1 x.2.2.2
  c x := x.1 ≤ 2 ^ 43
  told x h := rbytes_told x.1 x.2.1 x.2.2.1 x.2.2.2 h
  ov _ := ⟨3, rfl⟩
  ob x := tkB_ob _ _ _ _ _
noncomputable def conRBytes : ConC Try.prog Empty := rbS.con ent35 fun I vs mem => match vs with
  | [p, .int _ n] => match pickRd mem p with
    | some (r, d, N, f, e) => some ((N, f, e, n), [r, d], [])
    | none => none
  | _ => none
theorem qbytes_told (N : Nat) (f : Nat → Int) (e n : Int) (hN : N ≤ 2 ^ 43) : ToldW Try.prog 36 [] (rd0 N f e) (argA n) (.vec (.own 3) (tkL N e n)) (tkB .ro N f e n) := by
  have h7 : ((if n < 0 then 0 else n) : Int) = (n.toNat : Int) := by split <;> omega
  refine toldW_body (fn := Try.f36) rfl rfl (.inr rfl) (B := 2) (nn := 39) (l := [(4, .vec (.own 3) (tkL N e n))]) (cs := []) ?_ rfl rfl
  by_cases he : e = 0
  · subst he
    by_cases hn : n.toNat ≤ N
    · refine ExB.auto (ST_ok _ _) noI_ok rfl mixed 60 _ (qb1 N f n) ?_
      have hk : tkOk N 0 n = true := by simp [tkOk, hn]
      simp only [condOk, qb1_G, tkL, tkN, tkF, tkE, hk, h7, hn, if_true, Int.toNat_natCast, Bool.false_eq_true, if_false]
      (and_intros <;> first | exact True.intro | omega | exact fun _ => ⟨trivial, trivial⟩ | exact fun _ _ => Same.refl _ | exact fun _ _ => Like.refl _ | (simp (disch := omega) only [true_and, and_true, Nat.beq_refl, Bool.true_and, decide_eq_true_eq, decide_eq_false_iff_not, beq_iff_eq, bne_iff_ne, beq_eq_false_iff_ne, bne_eq_false_iff_eq, ne_eq, Nat.blt_eq, Nat.ble_eq, Nat.beq_eq, Bool.and_eq_true, Bool.or_eq_true, IntKind.wrap_i64, IntKind.wrap_u64, IntKind.wrap_u8, IntKind.wrap_u32, Int.tdiv_eq_ediv_of_nonneg, Int.tmod_eq_emod_of_nonneg] <;> omega) | rfl | trivial)
    · refine ExB.auto (ST_ok _ _) noI_ok rfl mixed 60 _ (qb2 N f n) ?_
      have hk : tkOk N 0 n = false := by simp [tkOk, hn]
      simp only [condOk, qb2_G, tkL, tkN, tkF, tkE, hk, h7, hn, if_true, Int.toNat_natCast, Bool.false_eq_true, if_false]
      (and_intros <;> first | exact True.intro | omega | exact fun _ => ⟨trivial, trivial⟩ | exact fun _ _ => Same.refl _ | exact fun _ _ => Like.refl _ | (simp (disch := omega) only [true_and, and_true, Nat.beq_refl, Bool.true_and, decide_eq_true_eq, decide_eq_false_iff_not, beq_iff_eq, bne_iff_ne, beq_eq_false_iff_ne, bne_eq_false_iff_eq, ne_eq, Nat.blt_eq, Nat.ble_eq, Nat.beq_eq, Bool.and_eq_true, Bool.or_eq_true, IntKind.wrap_i64, IntKind.wrap_u64, IntKind.wrap_u8, IntKind.wrap_u32, Int.tdiv_eq_ediv_of_nonneg, Int.tmod_eq_emod_of_nonneg] <;> omega) | rfl | trivial)
  · refine ExB.auto (ST_ok _ _) noI_ok rfl mixed 60 _ (qb3 N f e n) ?_
    have hk : tkOk N e n = false := by simp [tkOk, he]
    simp only [condOk, qb3_G, tkL, tkN, tkF, tkE, hk, h7, he, if_true, Int.toNat_natCast, Bool.false_eq_true, if_false]
    (and_intros <;> first | exact True.intro | omega | exact fun _ => ⟨trivial, trivial⟩ | exact fun _ _ => Same.refl _ | exact fun _ _ => Like.refl _ | (simp (disch := omega) only [true_and, and_true, Nat.beq_refl, Bool.true_and, decide_eq_true_eq, decide_eq_false_iff_not, beq_iff_eq, bne_iff_ne, beq_eq_false_iff_ne, bne_eq_false_iff_eq, ne_eq, Nat.blt_eq, Nat.ble_eq, Nat.beq_eq, Bool.and_eq_true, Bool.or_eq_true, IntKind.wrap_i64, IntKind.wrap_u64, IntKind.wrap_u8, IntKind.wrap_u32, Int.tdiv_eq_ediv_of_nonneg, Int.tmod_eq_emod_of_nonneg] <;> omega) | rfl | trivial)
set_option maxRecDepth 100000 in
theorem ent36 : ∀ args w, (callFunc 36 args).run Try.prog w = .ok (.enter 36 args) w := ent_of (f := 36) (P := Try.prog) rfl rfl rfl
noncomputable def qbS : Spec Try.prog Empty 36 where
  X := Nat × (Nat → Int) × Int × Int
  us _ := []
  bls0 x := rd0 x.1 x.2.1 x.2.2.1
  args x := argA x.2.2.2
  v x := .vec (.own 3) (tkL x.1 x.2.2.1 x.2.2.2)
  bls1 x := tkB .ro x.1 x.2.1 x.2.2.1 x.2.2.2
  c x := x.1 ≤ 2 ^ 43
  told x h := qbytes_told x.1 x.2.1 x.2.2.1 x.2.2.2 h
  ov _ := ⟨3, rfl⟩
  ob x := tkB_ob _ _ _ _ _
noncomputable def conQBytes : ConC Try.prog Empty := qbS.con ent36 fun I vs mem => match vs with
  | [p, .int _ n] => match pickRd mem p with
    | some (r, d, N, f, e) => some ((N, f, e, n), [r, d], [])
    | none => none
  | _ => none

/-! ## numbers -/
def uintV (N : Nat) (f : Nat → Int) (e : Int) : Int := if tkOk N e 8 = true then f 0 + f 1 * 2 ^ 8 + f 2 * 2 ^ 16 + f 3 * 2 ^ 24 + f 4 * 2 ^ 32 + f 5 * 2 ^ 40 + f 6 * 2 ^ 48 + f 7 * 2 ^ 56 else 0
noncomputable abbrev uiB (N : Nat) (f : Nat → Int) (e : Int) : List (Blk Empty) := [rdB 2 (tkN N e 8) (tkE N e 8), roB N f, roB (tkN N e 8) (tkF N f e 8)]
def advU (a b : Option Bool) : Adv := { advT a b with rc := fun _ _ _ => true }
noncomputable abbrev SU (a b : Option Bool) : Sig Empty := sigOf (P := Try.prog) [] [] [] (I := noI) [] noMs (advU a b)
theorem SU_ok (a b : Option Bool) : SigOk Try.prog (SU a b) := sigOf_ok [] [] [] [] (noMs_ok _) _ noI_ok
--@gen ru1 (N : Nat) (f : Nat → Int) := runG Try.prog (SU none (some false)) 80 33 [] (startS Try.f33 [.ptr (.own 0) 0 []] ((rd0 N f 0).map some)) .ret 2 [some (.own 0), some (.own 1), some (.own 3)] 24 [(2, .int .u64 (uintV N f 0))] ((uiB N f 0).map some)
--@[
def ru1_G (N : Nat) (f : Nat → Int) : Prop := ((decide ((↑N : Int) < (8 : Int)) = false ∧       (decide               ((0 : Int) ≤ (↑0 : Int) ∧                 (↑0 : Int) ≤ (8 : Int) ∧                   (8 : Int) ≤ (8 : Int) ∧ (8 : Int) ≤ (↑N : Int)) =             true ∧           Nat.ble N N = true) ∧         (decide                 ((0 : Int) ≤ (8 : Int) ∧                   (8 : Int) ≤ (↑N : Int) ∧ (↑N : Int) ≤ (↑N : Int) ∧ (↑N : Int) ≤ (↑N : Int)) =               true ∧             Nat.ble N N = true) ∧           true = true) ∧     (true = true ∧ true = true) ∧       true = true ∧         (true = true ∧ true = true) ∧           true = true ∧             (true = true ∧ true = true) ∧               true = true ∧                 (true = true ∧ true = true) ∧                   true = true ∧                     (true = true ∧ true = true) ∧                       true = true ∧                         (true = true ∧ true = true) ∧                           true = true ∧                             (true = true ∧ true = true) ∧ true = true ∧ (true = true ∧ true = true) ∧ true = true) ∧   bits BinOp.or IntKind.u64         (bits BinOp.or IntKind.u64           (bits BinOp.or IntKind.u64             (bits BinOp.or IntKind.u64               (bits BinOp.or IntKind.u64                 (bits BinOp.or IntKind.u64                   (bits BinOp.or IntKind.u64                     (bits BinOp.or IntKind.u64 ((0 : Int))                       (IntKind.wrap IntKind.u64                         (IntKind.wrap IntKind.u64 (f 0) * (2 : Int) ^ 0)))                     (IntKind.wrap IntKind.u64                       (IntKind.wrap IntKind.u64 (f 1) * (2 : Int) ^ 8)))                   (IntKind.wrap IntKind.u64                     (IntKind.wrap IntKind.u64 (f 2) * (2 : Int) ^ 16)))                 (IntKind.wrap IntKind.u64                   (IntKind.wrap IntKind.u64 (f 3) * (2 : Int) ^ 24)))               (IntKind.wrap IntKind.u64                 (IntKind.wrap IntKind.u64 (f 4) * (2 : Int) ^ 32)))             (IntKind.wrap IntKind.u64 (IntKind.wrap IntKind.u64 (f 5) * (2 : Int) ^ 40)))           (IntKind.wrap IntKind.u64 (IntKind.wrap IntKind.u64 (f 6) * (2 : Int) ^ 48)))         (IntKind.wrap IntKind.u64 (IntKind.wrap IntKind.u64 (f 7) * (2 : Int) ^ 56)) =       uintV N f ((0 : Int)) ∧     (Int.toNat (↑N : Int) - 8 = tkN N ((0 : Int)) ((8 : Int)) ∧         (0 : Int) = tkE N ((0 : Int)) ((8 : Int))) ∧       ((N = N ∧ ∀ (i : Nat), i < N → Same (A := Empty) [LV.int IntKind.u8 (f i)] [LV.int IntKind.u8 (f i)]) ∧           ∀ (i : Nat), plainL (A := Empty) [LV.int IntKind.u8 (f i)]) ∧         (Int.toNat (↑N : Int) - 8 = tkN N ((0 : Int)) ((8 : Int)) ∧             ∀ (i : Nat),               i < tkN N ((0 : Int)) ((8 : Int)) →                 Same (A := Empty) [LV.int IntKind.u8 (f (8 + i))]                   [LV.int IntKind.u8 (tkF N f ((0 : Int)) ((8 : Int)) i)]) ∧           ∀ (i : Nat), plainL (A := Empty) [LV.int IntKind.u8 (tkF N f ((0 : Int)) ((8 : Int)) i)]
set_option maxRecDepth 100000 in
theorem ru1 (N : Nat) (f : Nat → Int) : runG Try.prog (SU none (some false)) 80 33 [] (startS Try.f33 [.ptr (.own 0) 0 []] ((rd0 N f 0).map some)) .ret 2 [some (.own 0), some (.own 1), some (.own 3)] 24 [(2, .int .u64 (uintV N f 0))] ((uiB N f 0).map some) = some (some ((ru1_G N f))) := by kernel_rfl
--@]
--@gen ru2 (N : Nat) (f : Nat → Int) := runG Try.prog (SU none (some true)) 80 33 [] (startS Try.f33 [.ptr (.own 0) 0 []] ((rd0 N f 0).map some)) .ret 2 [some (.own 0), some (.own 1), some (.own 1)] 24 [(2, .int .u64 (uintV N f 0))] ((uiB N f 0).map some)
--@[
def ru2_G (N : Nat) (f : Nat → Int) : Prop := (decide ((↑N : Int) < (8 : Int)) = true ∧ true = true) ∧   (0 : Int) = uintV N f ((0 : Int)) ∧     (N = tkN N ((0 : Int)) ((8 : Int)) ∧         (170 : Int) = tkE N ((0 : Int)) ((8 : Int))) ∧       ((N = N ∧ ∀ (i : Nat), i < N → Same (A := Empty) [LV.int IntKind.u8 (f i)] [LV.int IntKind.u8 (f i)]) ∧           ∀ (i : Nat), plainL (A := Empty) [LV.int IntKind.u8 (f i)]) ∧         (N = tkN N ((0 : Int)) ((8 : Int)) ∧             ∀ (i : Nat),               i < tkN N ((0 : Int)) ((8 : Int)) →                 Same (A := Empty) [LV.int IntKind.u8 (f i)]                   [LV.int IntKind.u8 (tkF N f ((0 : Int)) ((8 : Int)) i)]) ∧           ∀ (i : Nat), plainL (A := Empty) [LV.int IntKind.u8 (tkF N f ((0 : Int)) ((8 : Int)) i)]
set_option maxRecDepth 100000 in
theorem ru2 (N : Nat) (f : Nat → Int) : runG Try.prog (SU none (some true)) 80 33 [] (startS Try.f33 [.ptr (.own 0) 0 []] ((rd0 N f 0).map some)) .ret 2 [some (.own 0), some (.own 1), some (.own 1)] 24 [(2, .int .u64 (uintV N f 0))] ((uiB N f 0).map some) = some (some ((ru2_G N f))) := by kernel_rfl
--@]
--@gen ru3 (N : Nat) (f : Nat → Int) (e : Int) := runG Try.prog (SU (some true) none) 80 33 [] (startS Try.f33 [.ptr (.own 0) 0 []] ((rd0 N f e).map some)) .ret 2 [some (.own 0), some (.own 1), some (.own 1)] 24 [(2, .int .u64 (uintV N f e))] ((uiB N f e).map some)
--@[
def ru3_G (N : Nat) (f : Nat → Int) (e : Int) : Prop := (e != (0 : Int)) = true ∧   (0 : Int) = uintV N f e ∧     (N = tkN N e ((8 : Int)) ∧ e = tkE N e ((8 : Int))) ∧       ((N = N ∧ ∀ (i : Nat), i < N → Same (A := Empty) [LV.int IntKind.u8 (f i)] [LV.int IntKind.u8 (f i)]) ∧           ∀ (i : Nat), plainL (A := Empty) [LV.int IntKind.u8 (f i)]) ∧         (N = tkN N e ((8 : Int)) ∧             ∀ (i : Nat),               i < tkN N e ((8 : Int)) →                 Same (A := Empty) [LV.int IntKind.u8 (f i)] [LV.int IntKind.u8 (tkF N f e ((8 : Int)) i)]) ∧           ∀ (i : Nat), plainL (A := Empty) [LV.int IntKind.u8 (tkF N f e ((8 : Int)) i)]
set_option maxRecDepth 100000 in
theorem ru3 (N : Nat) (f : Nat → Int) (e : Int) : runG Try.prog (SU (some true) none) 80 33 [] (startS Try.f33 [.ptr (.own 0) 0 []] ((rd0 N f e).map some)) .ret 2 [some (.own 0), some (.own 1), some (.own 1)] 24 [(2, .int .u64 (uintV N f e))] ((uiB N f e).map some) = some (some ((ru3_G N f e))) := by kernel_rfl
--@]
--@gen qu1 (N : Nat) (f : Nat → Int) := runG Try.prog (SU none (some false)) 80 34 [] (startS Try.f34 [.ptr (.own 0) 0 []] ((rd0 N f 0).map some)) .ret 2 [some (.own 0), some (.own 1), some (.own 3)] 24 [(2, .int .u64 (uintV N f 0))] ((uiB N f 0).map some)
--@[
def qu1_G (N : Nat) (f : Nat → Int) : Prop := ((decide ((↑N : Int) < (8 : Int)) = false ∧       (decide               ((0 : Int) ≤ (↑0 : Int) ∧                 (↑0 : Int) ≤ (8 : Int) ∧                   (8 : Int) ≤ (↑N : Int) ∧ (↑N : Int) ≤ (↑N : Int)) =             true ∧           Nat.ble N N = true) ∧         (decide                 ((0 : Int) ≤ (8 : Int) ∧                   (8 : Int) ≤ (↑N : Int) ∧ (↑N : Int) ≤ (↑N : Int) ∧ (↑N : Int) ≤ (↑N : Int)) =               true ∧             Nat.ble N N = true) ∧           true = true) ∧     (true = true ∧ true = true ∧ true = true) ∧       (true = true ∧ true = true ∧ true = true) ∧         (true = true ∧ true = true ∧ true = true) ∧           (true = true ∧ true = true ∧ true = true) ∧             (true = true ∧ true = true ∧ true = true) ∧               (true = true ∧ true = true ∧ true = true) ∧                 (true = true ∧ true = true ∧ true = true) ∧ true = true ∧ true = true ∧ true = true) ∧   bits BinOp.or IntKind.u64         (IntKind.wrap IntKind.u64           (bits BinOp.or IntKind.u64               (IntKind.wrap IntKind.u64                 (bits BinOp.or IntKind.u64                     (IntKind.wrap IntKind.u64                       (bits BinOp.or IntKind.u64                           (IntKind.wrap IntKind.u64                             (bits BinOp.or IntKind.u64                                 (IntKind.wrap IntKind.u64                                   (bits BinOp.or IntKind.u64                                       (IntKind.wrap IntKind.u64                                         (bits BinOp.or IntKind.u64                                             (IntKind.wrap IntKind.u64                                               (bits BinOp.or IntKind.u64                                                   (IntKind.wrap IntKind.u64                                                     ((0 : Int) * (2 : Int) ^ 8))                                                   (IntKind.wrap IntKind.u64 (f 7)) *                                                 (2 : Int) ^ 8))                                             (IntKind.wrap IntKind.u64 (f 6)) *                                           (2 : Int) ^ 8))                                       (IntKind.wrap IntKind.u64 (f 5)) *                                     (2 : Int) ^ 8))                                 (IntKind.wrap IntKind.u64 (f 4)) *                               (2 : Int) ^ 8))                           (IntKind.wrap IntKind.u64 (f 3)) *                         (2 : Int) ^ 8))                     (IntKind.wrap IntKind.u64 (f 2)) *                   (2 : Int) ^ 8))               (IntKind.wrap IntKind.u64 (f 1)) *             (2 : Int) ^ 8))         (IntKind.wrap IntKind.u64 (f 0)) =       uintV N f ((0 : Int)) ∧     (Int.toNat (↑N : Int) - 8 = tkN N ((0 : Int)) ((8 : Int)) ∧         (0 : Int) = tkE N ((0 : Int)) ((8 : Int))) ∧       ((N = N ∧ ∀ (i : Nat), i < N → Same (A := Empty) [LV.int IntKind.u8 (f i)] [LV.int IntKind.u8 (f i)]) ∧           ∀ (i : Nat), plainL (A := Empty) [LV.int IntKind.u8 (f i)]) ∧         (Int.toNat (↑N : Int) - 8 = tkN N ((0 : Int)) ((8 : Int)) ∧             ∀ (i : Nat),               i < tkN N ((0 : Int)) ((8 : Int)) →                 Same (A := Empty) [LV.int IntKind.u8 (f (8 + i))]                   [LV.int IntKind.u8 (tkF N f ((0 : Int)) ((8 : Int)) i)]) ∧           ∀ (i : Nat), plainL (A := Empty) [LV.int IntKind.u8 (tkF N f ((0 : Int)) ((8 : Int)) i)]
set_option maxRecDepth 100000 in
theorem qu1 (N : Nat) (f : Nat → Int) : runG Try.prog (SU none (some false)) 80 34 [] (startS Try.f34 [.ptr (.own 0) 0 []] ((rd0 N f 0).map some)) .ret 2 [some (.own 0), some (.own 1), some (.own 3)] 24 [(2, .int .u64 (uintV N f 0))] ((uiB N f 0).map some) = some (some ((qu1_G N f))) := by kernel_rfl
--@]
--@gen qu2 (N : Nat) (f : Nat → Int) := runG Try.prog (SU none (some true)) 80 34 [] (startS Try.f34 [.ptr (.own 0) 0 []] ((rd0 N f 0).map some)) .ret 2 [some (.own 0), some (.own 1), some (.own 1)] 24 [(2, .int .u64 (uintV N f 0))] ((uiB N f 0).map some)
--@[
def qu2_G (N : Nat) (f : Nat → Int) : Prop := (decide ((↑N : Int) < (8 : Int)) = true ∧ true = true) ∧   (0 : Int) = uintV N f ((0 : Int)) ∧     (N = tkN N ((0 : Int)) ((8 : Int)) ∧         (170 : Int) = tkE N ((0 : Int)) ((8 : Int))) ∧       ((N = N ∧ ∀ (i : Nat), i < N → Same (A := Empty) [LV.int IntKind.u8 (f i)] [LV.int IntKind.u8 (f i)]) ∧           ∀ (i : Nat), plainL (A := Empty) [LV.int IntKind.u8 (f i)]) ∧         (N = tkN N ((0 : Int)) ((8 : Int)) ∧             ∀ (i : Nat),               i < tkN N ((0 : Int)) ((8 : Int)) →                 Same (A := Empty) [LV.int IntKind.u8 (f i)]                   [LV.int IntKind.u8 (tkF N f ((0 : Int)) ((8 : Int)) i)]) ∧           ∀ (i : Nat), plainL (A := Empty) [LV.int IntKind.u8 (tkF N f ((0 : Int)) ((8 : Int)) i)]
set_option maxRecDepth 100000 in
theorem qu2 (N : Nat) (f : Nat → Int) : runG Try.prog (SU none (some true)) 80 34 [] (startS Try.f34 [.ptr (.own 0) 0 []] ((rd0 N f 0).map some)) .ret 2 [some (.own 0), some (.own 1), some (.own 1)] 24 [(2, .int .u64 (uintV N f 0))] ((uiB N f 0).map some) = some (some ((qu2_G N f))) := by kernel_rfl
--@]
--@gen qu3 (N : Nat) (f : Nat → Int) (e : Int) := runG Try.prog (SU (some true) none) 80 34 [] (startS Try.f34 [.ptr (.own 0) 0 []] ((rd0 N f e).map some)) .ret 2 [some (.own 0), some (.own 1), some (.own 1)] 24 [(2, .int .u64 (uintV N f e))] ((uiB N f e).map some)
--@[
def qu3_G (N : Nat) (f : Nat → Int) (e : Int) : Prop := (e != (0 : Int)) = true ∧   (0 : Int) = uintV N f e ∧     (N = tkN N e ((8 : Int)) ∧ e = tkE N e ((8 : Int))) ∧       ((N = N ∧ ∀ (i : Nat), i < N → Same (A := Empty) [LV.int IntKind.u8 (f i)] [LV.int IntKind.u8 (f i)]) ∧           ∀ (i : Nat), plainL (A := Empty) [LV.int IntKind.u8 (f i)]) ∧         (N = tkN N e ((8 : Int)) ∧             ∀ (i : Nat),               i < tkN N e ((8 : Int)) →                 Same (A := Empty) [LV.int IntKind.u8 (f i)] [LV.int IntKind.u8 (tkF N f e ((8 : Int)) i)]) ∧           ∀ (i : Nat), plainL (A := Empty) [LV.int IntKind.u8 (tkF N f e ((8 : Int)) i)]
set_option maxRecDepth 100000 in
theorem qu3 (N : Nat) (f : Nat → Int) (e : Int) : runG Try.prog (SU (some true) none) 80 34 [] (startS Try.f34 [.ptr (.own 0) 0 []] ((rd0 N f e).map some)) .ret 2 [some (.own 0), some (.own 1), some (.own 1)] 24 [(2, .int .u64 (uintV N f e))] ((uiB N f e).map some) = some (some ((qu3_G N f e))) := by kernel_rfl
--@]
theorem or_high {a v : Int} (i : Nat) (ha : 0 ≤ a) (h1 : a < 2 ^ i) (hv : 0 ≤ v) (h2 : v < 256) (hi : i ≤ 56) : bits .or .u64 a (IntKind.wrap .u64 (IntKind.wrap .u64 v * (2 : Int) ^ i)) = a + v * 2 ^ i := by
  obtain ⟨x, rfl⟩ := Int.eq_ofNat_of_zero_le ha
  obtain ⟨y, rfl⟩ := Int.eq_ofNat_of_zero_le hv
  have hp : (2 : Nat) ^ i ≤ 2 ^ 56 := Nat.pow_le_pow_right (by omega) hi
  have hx : x < 2 ^ i := by exact_mod_cast h1
  have hy : y < 256 := by omega
  have hb : y * 2 ^ i < 18446744073709551616 := by
    have := Nat.mul_le_mul (show y ≤ 255 by omega) hp
    omega
  have e1 : IntKind.wrap .u64 ((y : Nat) : Int) = ((y : Nat) : Int) := IntWalk.u64_in _ (by omega)
  have e2 : ((y : Nat) : Int) * (2 : Int) ^ i = ((y * 2 ^ i : Nat) : Int) := by push_cast; rfl
  rw [e1, e2, IntWalk.u64_in _ (by omega), bits_or_u64_nat _ _ (by omega) hb]
  rw [Nat.mul_comm y, Nat.or_comm, ← Nat.two_pow_add_eq_or_of_lt hx]
  push_cast
  omega
theorem or_low {a v : Int} (ha : 0 ≤ a) (h1 : a < 2 ^ 56) (hv : 0 ≤ v) (h2 : v < 256) : bits .or .u64 (IntKind.wrap .u64 (a * (2 : Int) ^ 8)) (IntKind.wrap .u64 v) = a * 2 ^ 8 + v := by
  obtain ⟨x, rfl⟩ := Int.eq_ofNat_of_zero_le ha
  obtain ⟨y, rfl⟩ := Int.eq_ofNat_of_zero_le hv
  rw [IntWalk.u64_in _ (by omega), IntWalk.u64_in _ (by omega)]
  have e2 : ((x : Nat) : Int) * (2 : Int) ^ 8 = ((2 ^ 8 * x : Nat) : Int) := by omega
  rw [e2, bits_or_u64_nat _ _ (by omega) (by omega), ← Nat.two_pow_add_eq_or_of_lt (show y < 2 ^ 8 by omega)]
  omega
theorem ru_sum (f : Nat → Int) (h0 : 0 ≤ f 0 ∧ f 0 < 256) (h1 : 0 ≤ f 1 ∧ f 1 < 256) (h2 : 0 ≤ f 2 ∧ f 2 < 256) (h3 : 0 ≤ f 3 ∧ f 3 < 256) (h4 : 0 ≤ f 4 ∧ f 4 < 256) (h5 : 0 ≤ f 5 ∧ f 5 < 256) (h6 : 0 ≤ f 6 ∧ f 6 < 256) (h7 : 0 ≤ f 7 ∧ f 7 < 256) : (bits .or .u64 (bits .or .u64 (bits .or .u64 (bits .or .u64 (bits .or .u64 (bits .or .u64 (bits .or .u64 (bits .or .u64 (0 : Int) (IntKind.wrap .u64 (IntKind.wrap .u64 (f 0) * (2 : Int) ^ 0))) (IntKind.wrap .u64 (IntKind.wrap .u64 (f 1) * (2 : Int) ^ 8))) (IntKind.wrap .u64 (IntKind.wrap .u64 (f 2) * (2 : Int) ^ 16))) (IntKind.wrap .u64 (IntKind.wrap .u64 (f 3) * (2 : Int) ^ 24))) (IntKind.wrap .u64 (IntKind.wrap .u64 (f 4) * (2 : Int) ^ 32))) (IntKind.wrap .u64 (IntKind.wrap .u64 (f 5) * (2 : Int) ^ 40))) (IntKind.wrap .u64 (IntKind.wrap .u64 (f 6) * (2 : Int) ^ 48))) (IntKind.wrap .u64 (IntKind.wrap .u64 (f 7) * (2 : Int) ^ 56))) = f 0 + f 1 * 2 ^ 8 + f 2 * 2 ^ 16 + f 3 * 2 ^ 24 + f 4 * 2 ^ 32 + f 5 * 2 ^ 40 + f 6 * 2 ^ 48 + f 7 * 2 ^ 56 := by
  rw [or_high 0 (by omega) (by omega) h0.1 h0.2 (by omega)]
  rw [or_high 8 (by omega) (by omega) h1.1 h1.2 (by omega)]
  rw [or_high 16 (by omega) (by omega) h2.1 h2.2 (by omega)]
  rw [or_high 24 (by omega) (by omega) h3.1 h3.2 (by omega)]
  rw [or_high 32 (by omega) (by omega) h4.1 h4.2 (by omega)]
  rw [or_high 40 (by omega) (by omega) h5.1 h5.2 (by omega)]
  rw [or_high 48 (by omega) (by omega) h6.1 h6.2 (by omega)]
  rw [or_high 56 (by omega) (by omega) h7.1 h7.2 (by omega)]
  omega
theorem qu_sum (f : Nat → Int) (h0 : 0 ≤ f 0 ∧ f 0 < 256) (h1 : 0 ≤ f 1 ∧ f 1 < 256) (h2 : 0 ≤ f 2 ∧ f 2 < 256) (h3 : 0 ≤ f 3 ∧ f 3 < 256) (h4 : 0 ≤ f 4 ∧ f 4 < 256) (h5 : 0 ≤ f 5 ∧ f 5 < 256) (h6 : 0 ≤ f 6 ∧ f 6 < 256) (h7 : 0 ≤ f 7 ∧ f 7 < 256) : (bits .or .u64 (IntKind.wrap .u64 ((bits .or .u64 (IntKind.wrap .u64 ((bits .or .u64 (IntKind.wrap .u64 ((bits .or .u64 (IntKind.wrap .u64 ((bits .or .u64 (IntKind.wrap .u64 ((bits .or .u64 (IntKind.wrap .u64 ((bits .or .u64 (IntKind.wrap .u64 ((bits .or .u64 (IntKind.wrap .u64 ((0 : Int) * (2 : Int) ^ 8)) (IntKind.wrap .u64 (f 7))) * (2 : Int) ^ 8)) (IntKind.wrap .u64 (f 6))) * (2 : Int) ^ 8)) (IntKind.wrap .u64 (f 5))) * (2 : Int) ^ 8)) (IntKind.wrap .u64 (f 4))) * (2 : Int) ^ 8)) (IntKind.wrap .u64 (f 3))) * (2 : Int) ^ 8)) (IntKind.wrap .u64 (f 2))) * (2 : Int) ^ 8)) (IntKind.wrap .u64 (f 1))) * (2 : Int) ^ 8)) (IntKind.wrap .u64 (f 0))) = f 0 + f 1 * 2 ^ 8 + f 2 * 2 ^ 16 + f 3 * 2 ^ 24 + f 4 * 2 ^ 32 + f 5 * 2 ^ 40 + f 6 * 2 ^ 48 + f 7 * 2 ^ 56 := by
  rw [or_low (by omega) (by omega) h7.1 h7.2]
  rw [or_low (by omega) (by omega) h6.1 h6.2]
  rw [or_low (by omega) (by omega) h5.1 h5.2]
  rw [or_low (by omega) (by omega) h4.1 h4.2]
  rw [or_low (by omega) (by omega) h3.1 h3.2]
  rw [or_low (by omega) (by omega) h2.1 h2.2]
  rw [or_low (by omega) (by omega) h1.1 h1.2]
  rw [or_low (by omega) (by omega) h0.1 h0.2]
  omega
theorem ruint2_told (N : Nat) (f : Nat → Int) (e : Int) (hf : ∀ j, j < N → 0 ≤ f j ∧ f j < 256) : ToldW Try.prog 33 [] (rd0 N f e) [.ptr (.own 0) 0 []] (.int .u64 (uintV N f e)) (uiB N f e) := by
  refine toldW_body (fn := Try.f33) rfl rfl (.inr rfl) (B := 2) (nn := 24) (l := [(2, .int .u64 (uintV N f e))]) (cs := []) ?_ rfl rfl
  by_cases he : e = 0
  · subst he
    by_cases hn : 8 ≤ N
    · refine ExB.auto (SU_ok _ _) noI_ok rfl mixed 80 _ (ru1 N f) ?_
      have hk : tkOk N 0 8 = true := by simp [tkOk, hn]
      simp only [condOk, ru1_G, tkN, tkF, tkE, uintV, hk, hn, if_true, Int.toNat_natCast, Bool.false_eq_true, if_false, show (8 : Int).toNat = 8 from rfl]
      and_intros <;> first | exact ru_sum f (hf 0 (by omega)) (hf 1 (by omega)) (hf 2 (by omega)) (hf 3 (by omega)) (hf 4 (by omega)) (hf 5 (by omega)) (hf 6 (by omega)) (hf 7 (by omega)) | exact True.intro | omega | exact fun _ => ⟨trivial, trivial⟩ | exact fun _ _ => Same.refl _ | exact fun _ _ => Like.refl _ | (simp (disch := omega) only [true_and, and_true, Nat.beq_refl, Bool.true_and, decide_eq_true_eq, decide_eq_false_iff_not, beq_iff_eq, bne_iff_ne, beq_eq_false_iff_ne, bne_eq_false_iff_eq, ne_eq, Nat.blt_eq, Nat.ble_eq, Nat.beq_eq, Bool.and_eq_true, Bool.or_eq_true, IntKind.wrap_i64, IntKind.wrap_u64, IntKind.wrap_u8, IntKind.wrap_u32, Int.tdiv_eq_ediv_of_nonneg, Int.tmod_eq_emod_of_nonneg] <;> omega) | rfl | trivial
    · refine ExB.auto (SU_ok _ _) noI_ok rfl mixed 80 _ (ru2 N f) ?_
      have hk : tkOk N 0 8 = false := by simp [tkOk]; omega
      simp only [condOk, ru2_G, tkN, tkF, tkE, uintV, hk, hn, if_true, Int.toNat_natCast, Bool.false_eq_true, if_false, show (8 : Int).toNat = 8 from rfl]
      (and_intros <;> first | exact True.intro | omega | exact fun _ => ⟨trivial, trivial⟩ | exact fun _ _ => Same.refl _ | exact fun _ _ => Like.refl _ | (simp (disch := omega) only [true_and, and_true, Nat.beq_refl, Bool.true_and, decide_eq_true_eq, decide_eq_false_iff_not, beq_iff_eq, bne_iff_ne, beq_eq_false_iff_ne, bne_eq_false_iff_eq, ne_eq, Nat.blt_eq, Nat.ble_eq, Nat.beq_eq, Bool.and_eq_true, Bool.or_eq_true, IntKind.wrap_i64, IntKind.wrap_u64, IntKind.wrap_u8, IntKind.wrap_u32, Int.tdiv_eq_ediv_of_nonneg, Int.tmod_eq_emod_of_nonneg] <;> omega) | rfl | trivial)
  · refine ExB.auto (SU_ok _ _) noI_ok rfl mixed 80 _ (ru3 N f e) ?_
    have hk : tkOk N e 8 = false := by simp [tkOk, he]
    simp only [condOk, ru3_G, tkN, tkF, tkE, uintV, hk, he, if_true, Int.toNat_natCast, Bool.false_eq_true, if_false, show (8 : Int).toNat = 8 from rfl]
    (and_intros <;> first | exact True.intro | omega | exact fun _ => ⟨trivial, trivial⟩ | exact fun _ _ => Same.refl _ | exact fun _ _ => Like.refl _ | (simp (disch := omega) only [true_and, and_true, Nat.beq_refl, Bool.true_and, decide_eq_true_eq, decide_eq_false_iff_not, beq_iff_eq, bne_iff_ne, beq_eq_false_iff_ne, bne_eq_false_iff_eq, ne_eq, Nat.blt_eq, Nat.ble_eq, Nat.beq_eq, Bool.and_eq_true, Bool.or_eq_true, IntKind.wrap_i64, IntKind.wrap_u64, IntKind.wrap_u8, IntKind.wrap_u32, Int.tdiv_eq_ediv_of_nonneg, Int.tmod_eq_emod_of_nonneg] <;> omega) | rfl | trivial)
set_option maxRecDepth 100000 in
theorem ent33 : ∀ args w, (callFunc 33 args).run Try.prog w = .ok (.enter 33 args) w := ent_of (f := 33) (P := Try.prog) rfl rfl rfl
noncomputable def ruS : Spec Try.prog Empty 33 where
  X := Nat × (Nat → Int) × Int
  us _ := []
  bls0 x := rd0 x.1 x.2.1 x.2.2
  args x := [.ptr (.own 0) 0 []]
  v x := .int .u64 (uintV x.1 x.2.1 x.2.2)
  bls1 x := uiB x.1 x.2.1 x.2.2
  c x := ∀ j, j < x.1 → 0 ≤ x.2.1 j ∧ x.2.1 j < 256
  told x h := ruint2_told x.1 x.2.1 x.2.2 h
  ov _ := trivial
  ob x b hb := by
    simp only [uiB, List.mem_cons, List.not_mem_nil, or_false] at hb
    rcases hb with rfl | rfl | rfl
    · exact rd_ownly ..
    · exact ro_ownly ..
    · exact ro_ownly ..
noncomputable def conRUint : ConC Try.prog Empty := ruS.con ent33 pickR1
theorem quint_told (N : Nat) (f : Nat → Int) (e : Int) (hf : ∀ j, j < N → 0 ≤ f j ∧ f j < 256) : ToldW Try.prog 34 [] (rd0 N f e) [.ptr (.own 0) 0 []] (.int .u64 (uintV N f e)) (uiB N f e) := by
  refine toldW_body (fn := Try.f34) rfl rfl (.inr rfl) (B := 2) (nn := 24) (l := [(2, .int .u64 (uintV N f e))]) (cs := []) ?_ rfl rfl
  by_cases he : e = 0
  · subst he
    by_cases hn : 8 ≤ N
    · refine ExB.auto (SU_ok _ _) noI_ok rfl mixed 80 _ (qu1 N f) ?_
      have hk : tkOk N 0 8 = true := by simp [tkOk, hn]
      simp only [condOk, qu1_G, tkN, tkF, tkE, uintV, hk, hn, if_true, Int.toNat_natCast, Bool.false_eq_true, if_false, show (8 : Int).toNat = 8 from rfl]
      and_intros <;> first | exact qu_sum f (hf 0 (by omega)) (hf 1 (by omega)) (hf 2 (by omega)) (hf 3 (by omega)) (hf 4 (by omega)) (hf 5 (by omega)) (hf 6 (by omega)) (hf 7 (by omega)) | exact True.intro | omega | exact fun _ => ⟨trivial, trivial⟩ | exact fun _ _ => Same.refl _ | exact fun _ _ => Like.refl _ | (simp (disch := omega) only [true_and, and_true, Nat.beq_refl, Bool.true_and, decide_eq_true_eq, decide_eq_false_iff_not, beq_iff_eq, bne_iff_ne, beq_eq_false_iff_ne, bne_eq_false_iff_eq, ne_eq, Nat.blt_eq, Nat.ble_eq, Nat.beq_eq, Bool.and_eq_true, Bool.or_eq_true, IntKind.wrap_i64, IntKind.wrap_u64, IntKind.wrap_u8, IntKind.wrap_u32, Int.tdiv_eq_ediv_of_nonneg, Int.tmod_eq_emod_of_nonneg] <;> omega) | rfl | trivial
    · refine ExB.auto (SU_ok _ _) noI_ok rfl mixed 80 _ (qu2 N f) ?_
      have hk : tkOk N 0 8 = false := by simp [tkOk]; omega
      simp only [condOk, qu2_G, tkN, tkF, tkE, uintV, hk, hn, if_true, Int.toNat_natCast, Bool.false_eq_true, if_false, show (8 : Int).toNat = 8 from rfl]
      (and_intros <;> first | exact True.intro | omega | exact fun _ => ⟨trivial, trivial⟩ | exact fun _ _ => Same.refl _ | exact fun _ _ => Like.refl _ | (simp (disch := omega) only [true_and, and_true, Nat.beq_refl, Bool.true_and, decide_eq_true_eq, decide_eq_false_iff_not, beq_iff_eq, bne_iff_ne, beq_eq_false_iff_ne, bne_eq_false_iff_eq, ne_eq, Nat.blt_eq, Nat.ble_eq, Nat.beq_eq, Bool.and_eq_true, Bool.or_eq_true, IntKind.wrap_i64, IntKind.wrap_u64, IntKind.wrap_u8, IntKind.wrap_u32, Int.tdiv_eq_ediv_of_nonneg, Int.tmod_eq_emod_of_nonneg] <;> omega) | rfl | trivial)
  · refine ExB.auto (SU_ok _ _) noI_ok rfl mixed 80 _ (qu3 N f e) ?_
    have hk : tkOk N e 8 = false := by simp [tkOk, he]
    simp only [condOk, qu3_G, tkN, tkF, tkE, uintV, hk, he, if_true, Int.toNat_natCast, Bool.false_eq_true, if_false, show (8 : Int).toNat = 8 from rfl]
    (and_intros <;> first | exact True.intro | omega | exact fun _ => ⟨trivial, trivial⟩ | exact fun _ _ => Same.refl _ | exact fun _ _ => Like.refl _ | (simp (disch := omega) only [true_and, and_true, Nat.beq_refl, Bool.true_and, decide_eq_true_eq, decide_eq_false_iff_not, beq_iff_eq, bne_iff_ne, beq_eq_false_iff_ne, bne_eq_false_iff_eq, ne_eq, Nat.blt_eq, Nat.ble_eq, Nat.beq_eq, Bool.and_eq_true, Bool.or_eq_true, IntKind.wrap_i64, IntKind.wrap_u64, IntKind.wrap_u8, IntKind.wrap_u32, Int.tdiv_eq_ediv_of_nonneg, Int.tmod_eq_emod_of_nonneg] <;> omega) | rfl | trivial)
set_option maxRecDepth 100000 in
theorem ent34 : ∀ args w, (callFunc 34 args).run Try.prog w = .ok (.enter 34 args) w := ent_of (f := 34) (P := Try.prog) rfl rfl rfl
noncomputable def quS : Spec Try.prog Empty 34 where
  X := Nat × (Nat → Int) × Int
  us _ := []
  bls0 x := rd0 x.1 x.2.1 x.2.2
  args x := [.ptr (.own 0) 0 []]
  v x := .int .u64 (uintV x.1 x.2.1 x.2.2)
  bls1 x := uiB x.1 x.2.1 x.2.2
  c x := ∀ j, j < x.1 → 0 ≤ x.2.1 j ∧ x.2.1 j < 256
  told x h := quint_told x.1 x.2.1 x.2.2 h
  ov _ := trivial
  ob x b hb := by
    simp only [uiB, List.mem_cons, List.not_mem_nil, or_false] at hb
    rcases hb with rfl | rfl | rfl
    · exact rd_ownly ..
    · exact ro_ownly ..
    · exact ro_ownly ..
noncomputable def conQUint : ConC Try.prog Empty := quS.con ent34 pickR1
end Go.Proofs.Ytjhjockdkpgpeaa.En

/- DERIVED. The known run of layer 19: first write of a writer. -/
set_option linter.all false
namespace Go.Proofs.Ytjhjockdkpgpeaa.En
open Go Go.RowKit

/-- Either of two contracts. -/
def ConC.or {P : Program} {A : Type} [Ab A] (a b : ConC P A) (h : b.f = a.f) : ConC P A where
  f := a.f
  fn I vs mem := match a.fn I vs mem with
    | some r => some r
    | none => b.fn I vs mem
  ent := a.ent
  grow I vs mem v mem' c e := by
    split at e
    · rename_i r hr; cases e; exact a.grow I vs mem v mem' c hr
    · exact b.grow I vs mem v mem' c e
  call I hI vs mem v mem' c e hc Own ρ w ha := by
    split at e
    · rename_i r hr; cases e; exact a.call I hI vs mem v mem' c hr hc Own ρ w ha
    · have := b.call I hI vs mem v mem' c e hc Own ρ w ha
      rw [h] at this; exact this
  tc I vs mem := match a.fn I vs mem with
    | some _ => a.tc I vs mem
    | none => b.tc I vs mem
  keep I vs mem v mem' c l e ht := by
    split at e
    · rename_i r hr; cases e
      rw [hr] at ht
      exact a.keep I vs mem v mem' c l hr ht
    · rename_i hr
      rw [hr] at ht
      exact b.keep I vs mem v mem' c l e ht
noncomputable abbrev n0B : List (Blk Empty) := [⟨.rw, [.nils]⟩]
noncomputable abbrev n1B (N : Nat) (f : Nat → Int) : List (Blk Empty) := [wB 1 N, rowB N f]
--@gen wu0 (x : Int) := runG Try.prog (SW noI [conChunk] []) 50 15 [] (startS Try.f15 [.ptr (.own 0) 0 [], .int .u64 x] (n0B.map some)) .normal 1 [some (.own 0), some (.own 2)] 10 [] ((n1B 8 (chunkN x)).map some)
--@[
def wu0_G (x : Int) : Prop := (true = true ∧ true = true ∧ (true = true ∧ true = true) ∧ true = true) ∧   8 = 8 ∧     (8 = 8 ∧         ∀ (i : Nat), i < 8 → Same (A := Empty) [LV.int IntKind.u8 (chunkN x i)] [LV.int IntKind.u8 (chunkN x i)]) ∧       ∀ (i : Nat), plainL (A := Empty) [LV.int IntKind.u8 (chunkN x i)]
set_option maxRecDepth 100000 in
theorem wu0 (x : Int) : runG Try.prog (SW noI [conChunk] []) 50 15 [] (startS Try.f15 [.ptr (.own 0) 0 [], .int .u64 x] (n0B.map some)) .normal 1 [some (.own 0), some (.own 2)] 10 [] ((n1B 8 (chunkN x)).map some) = some (some ((wu0_G x))) := by kernel_rfl
--@]
theorem wu0_told (x : Int) : ToldW Try.prog 15 [] n0B [.ptr (.own 0) 0 [], .int .u64 x] (.tup []) (n1B 8 (chunkN x)) := by
  refine toldW_body (fn := Try.f15) rfl rfl (.inl rfl) (B := 1) (nn := 10) (l := []) (cs := []) ?_ rfl rfl
  refine ExB.auto (SW_ok noI_ok _ _) noI_ok rfl mixed 50 _ (wu0 x) ?_
  simp only [condOk, wu0_G]
  and_intros <;> first | exact fun j _ => Same.int rfl | exact True.intro | omega | exact fun _ => ⟨trivial, trivial⟩ | exact fun _ _ => Same.refl _ | exact fun _ _ => Like.refl _ | (simp (disch := omega) only [true_and, and_true, Nat.beq_refl, Bool.true_and, decide_eq_true_eq, decide_eq_false_iff_not, beq_iff_eq, bne_iff_ne, beq_eq_false_iff_ne, bne_eq_false_iff_eq, ne_eq, Nat.blt_eq, Nat.ble_eq, Nat.beq_eq, Bool.and_eq_true, Bool.or_eq_true, IntKind.wrap_i64, IntKind.wrap_u64, IntKind.wrap_u8, IntKind.wrap_u32, Int.tdiv_eq_ediv_of_nonneg, Int.tmod_eq_emod_of_nonneg] <;> omega) | rfl | trivial
noncomputable def wu0S : Spec Try.prog Empty 15 where
  X := Int
  us x := []
  bls0 x := n0B
  args x := [.ptr (.own 0) 0 [], .int .u64 x]
  v x := .tup []
  bls1 x := n1B 8 (chunkN x)
  c x := True
  told x h := wu0_told x
  ov _ := trivial
  ob x b hb := by
    simp only [n1B, List.mem_cons, List.not_mem_nil, or_false] at hb
    rcases hb with rfl | rfl
    · exact w_ownly ..
    · exact row_ownly ..
noncomputable def conWUint0 : ConC Try.prog Empty := wu0S.con ent15 fun I vs mem => match vs with
  | [.ptr (.own r) _ _, .int _ x] => match mem[r]? with
    | some (some ⟨_, [.nils]⟩) => some (x, [r], [])
    | _ => none
  | _ => none
noncomputable def conWUintA : ConC Try.prog Empty := conWUint.or conWUint0 rfl
def adv19 : Adv where
  il f := !(Nat.beq f 15 || Nat.beq f 20 || Nat.beq f 22 || Nat.beq f 25 || Nat.beq f 26 || Nat.beq f 27 || Nat.beq f 33 || Nat.beq f 35)
  dec _ _ _ := none
  rc _ _ _ := true
  fz f r := match f with
    | 55 => true
    | 29 => true
    | _ => false
  res f r := match f, r with
    | 71, 1 => 3
    | 70, 6 => 4
    | 79, 2 => 12
    | 80, 2 => 12
    | 81, 2 => 12
    | 70, 1 => 80
    | 58, 2 => 200
    | 59, 5 => 600
    | 60, 7 => 70
    | 69, 5 => 70
    | 43, 1 => 300
    | 44, 2 => 700
    | 40, _ => 900
    | _, _ => 12
  pl f r := match f, r with
    | 79, 2 => true
    | 80, 2 => true
    | 81, 2 => true
    | _, _ => false
noncomputable abbrev S19 : Sig Empty := sigOf (P := Try.prog) [] [] [conWUintA, conWBits, conWAll, conNew, conRUint, conRBytes, conRBits, conREnd] (I := inOf []) [] noMs adv19
end Go.Proofs.Ytjhjockdkpgpeaa.En

/- DERIVED. Struct values told in groups: a flat list of cells as rows; contracts that want them so. -/
set_option linter.all false
namespace Go.Proofs.Ytjhjockdkpgpeaa.En
open Go Go.RowKit

section
variable {A : Type} [Ab A] {P : Program}
/-- Rows of one nought each. -/
def zRow : List (LV A) → Bool
  | [.int .u8 (.ofNat 0)] => true
  | _ => false
def allZ : List (List (LV A)) → Bool
  | [] => true
  | r :: l => match zRow r with
    | true => allZ l
    | false => false
def rowsF (l : List (List (LV A))) : Nat → List (LV A) := match allZ l with
  | true => fun _ => [.int .u8 0]
  | false => fun j => l.getD j (l.headD [])
theorem allZ_get : ∀ (l : List (List (LV A))), allZ l = true → ∀ i, i < l.length → l.getD i [] = [.int .u8 0]
  | [], _, i, hi => by simp at hi
  | r :: l, h, i, hi => by
    simp only [allZ] at h
    split at h
    · rename_i hz
      cases i with
      | zero =>
        unfold zRow at hz
        split at hz
        · rfl
        · cases hz
      | succ i => simpa using allZ_get l h i (by simpa using hi)
    · cases h
/-- Units put together as a pattern tells: none: one as it is; (n, z): n rows of z cells. -/
def rgU : List (Option (Nat × Nat)) → List (LV A) → Option (List (LV A))
  | [], us => match us with
    | [] => some []
    | _ => none
  | none :: t, us => match us with
    | u :: us' => match rgU t us' with
      | some r => some (u :: r)
      | none => none
    | [] => none
  | some (n, z) :: t, us => match rowsAt us 0 with
    | some _ => match us with
      | u :: us' => match rgU t us' with
        | some r => some (u :: r)
        | none => none
      | [] => none
    | none => match cutRows us 0 z n, skipU us (n * z) with
      | some l, some us' => match rgU t us' with
        | some r => match allZ l with
          | true => some (.rows n z (fun _ => [.int .u8 0]) :: r)
          | false => some (.rows n z (fun j => l.getD j (l.headD [])) :: r)
        | none => none
      | _, _ => none
theorem cutRows_len {us : List (LV A)} {z : Nat} : ∀ (n o : Nat) (l : List (List (LV A))), cutRows us o z n = some l → l.length = n
  | 0, _, l, h => by cases h; rfl
  | n + 1, o, l, h => by
    simp only [cutRows] at h
    split at h
    · split at h
      · rename_i rs hrs
        cases h
        simp [cutRows_len n _ rs hrs]
      · cases h
    · cases h
theorem getD_any {α : Type} {l : List α} {i : Nat} (h : i < l.length) (a b : α) : l.getD i a = l.getD i b := by simp [List.getD_eq_getElem?_getD, List.getElem?_eq_getElem h]
theorem rowsF_eq {l : List (List (LV A))} {i : Nat} (h : i < l.length) : rowsF l i = l.getD i [] := by
  unfold rowsF
  cases hz : allZ l with
  | true => exact (allZ_get l hz i h).symm
  | false => exact getD_any h _ _
theorem rgRows (n z : Nat) (l : List (List (LV A))) (r : List (LV A)) : (match allZ l with
    | true => some (.rows n z (fun _ => [.int .u8 0]) :: r)
    | false => some (.rows n z (fun j => l.getD j (l.headD [])) :: r)) = some (LV.rows n z (rowsF l) :: r) := by
  unfold rowsF
  cases allZ l <;> rfl
theorem rgU_cells [LawAb A] (ρ : Key → Loc) : ∀ (t : List (Option (Nat × Nat))) (us r : List (LV A)), rgU t us = some r → cellsL ρ r = cellsL ρ us
  | [], us, r, h => by
    simp only [rgU] at h
    split at h
    · cases h; rfl
    · cases h
  | none :: t, us, r, h => by
    simp only [rgU] at h
    split at h
    · split at h
      · rename_i r' hr
        cases h
        simp only [cellsL, rgU_cells ρ t _ _ hr]
      · cases h
    · cases h
  | some (n, z) :: t, us, r, h => by
    simp only [rgU] at h
    split at h
    · split at h
      · split at h
        · rename_i r' hr
          cases h
          simp only [cellsL, rgU_cells ρ t _ _ hr]
        · cases h
      · cases h
    · split at h
      · rename_i l us' hl hs
        split at h
        · rename_i r' hr
          rw [rgRows] at h
          cases h
          obtain ⟨e1, e2⟩ := skipU_sound ρ us _ _ hs
          have hL := len_cellsL ρ us
          have key : rowCells ρ n z (rowsF l) = (cellsL ρ us).take (n * z) := by
            apply List.ext_getElem?
            intro j
            by_cases hj : j < n * z
            · obtain ⟨i, q, rfl, hq, hi⟩ := row_split' hj
              rw [get_rowCells ρ _ hi hq, rowsF_eq (by rw [cutRows_len _ _ _ hl]; exact hi), cut_get ρ hl hi hq, List.getElem?_take_of_lt hj, Nat.zero_add]
            · rw [List.getElem?_eq_none (by rw [len_rowCells]; omega), List.getElem?_eq_none (by simp; omega)]
          have : cellsL ρ (LV.rows n z (rowsF l) :: r') = rowCells ρ n z (rowsF l) ++ cellsL ρ r' := by simp [cellsL, LV.cells, rowCells]
          rw [this, key, rgU_cells ρ t _ _ hr, e1, List.take_append_drop]
        · cases h
      · cases h
theorem kin_getDd {p : Key → Nat → Prop} {l : List (List (LV A))} (h : ∀ us ∈ l, kinL p us) (i : Nat) : kinL p (l.getD i (l.headD [])) := by
  rw [List.getD_eq_getElem?_getD]
  cases hi : l[i]? with
  | some x => exact h x (List.mem_of_getElem? hi)
  | none => cases l with
    | nil => exact trivial
    | cons x l => exact h x (List.mem_cons_self ..)
theorem rgU_kin {p : Key → Nat → Prop} : ∀ (t : List (Option (Nat × Nat))) (us r : List (LV A)), rgU t us = some r → kinL p us → kinL p r
  | [], us, r, h, hk => by
    simp only [rgU] at h
    split at h
    · cases h; exact hk
    · cases h
  | none :: t, us, r, h, hk => by
    simp only [rgU] at h
    split at h
    · split at h
      · rename_i r' hr
        cases h
        exact ⟨hk.1, rgU_kin t _ _ hr hk.2⟩
      · cases h
    · cases h
  | some (n, z) :: t, us, r, h, hk => by
    simp only [rgU] at h
    split at h
    · split at h
      · split at h
        · rename_i r' hr
          cases h
          exact ⟨hk.1, rgU_kin t _ _ hr hk.2⟩
        · cases h
      · cases h
    · split at h
      · rename_i l us' hl hs
        split at h
        · rename_i r' hr
          rw [rgRows] at h
          cases h
          exact ⟨fun i => by
            unfold rowsF
            cases allZ l with
            | true => exact ⟨trivial, trivial⟩
            | false => exact kin_getDd (kin_cutRows hk _ _ _ hl) i, rgU_kin t _ _ hr (kin_skipU _ _ _ hs hk)⟩
        · cases h
      · cases h
/-- The first argument in groups. -/
def rgA (t : List (Option (Nat × Nat))) : List (LV A) → Option (List (LV A))
  | .agg us :: vs => match rgU t us with
    | some r => some (.agg r :: vs)
    | none => none
  | _ => none
theorem rgA_tr [LawAb A] {t : List (Option (Nat × Nat))} {vs vs' : List (LV A)} (h : rgA t vs = some vs') : (∀ ρ, trs ρ vs' = trs ρ vs) ∧ ∀ p, kinL p vs → kinL p vs' := by
  unfold rgA at h
  split at h
  · split at h
    · rename_i us vs r hr
      cases h
      refine ⟨fun ρ => ?_, fun p hk => ⟨rgU_kin _ _ _ hr hk.1, hk.2⟩⟩
      simp only [trs, LV.tr, rgU_cells ρ _ _ _ hr]
    · cases h
  · cases h
/-- A contract, its first argument put in groups ahead. -/
def ConC.grp [LawAb A] (a : ConC P A) (t : List (Option (Nat × Nat))) : ConC P A where
  f := a.f
  fn I vs mem := match rgA t vs with
    | some vs' => a.fn I vs' mem
    | none => none
  ent := a.ent
  grow I vs mem v mem' c e := by
    split at e
    · exact a.grow I _ mem v mem' c e
    · cases e
  call I hI vs mem v mem' c e hc Own ρ w ha := by
    split at e
    · rename_i vs' hv
      obtain ⟨h1, h2⟩ := rgA_tr hv
      rw [← h1 ρ]
      exact a.call I hI vs' mem v mem' c e hc Own ρ w ⟨ha.mem, ha.mine, ha.new, h2 _ ha.kinV, ha.kinM⟩
    · cases e
end
end Go.Proofs.Ytjhjockdkpgpeaa.En

/- DERIVED. An optimistic update as bytes, with any header, bits, signature, slot. -/
set_option linter.all false
namespace Go.Proofs.Ytjhjockdkpgpeaa.En
open Go Go.RowKit

/-- What an optimistic update's bytes hang on; and what else stands in its value. -/
structure Opt where
  sl : Int
  pr : Int
  pa : Nat → Int
  st : Nat → Int
  bo : Nat → Int
  m : Nat
  bf : Nat → Bool
  sg : Nat → Int
  s : Int
  su : Nat → Int
  br : Nat → Int
  fs : Int
  fp : Int
  fa : Nat → Int
  ft : Nat → Int
  fb : Nat → Int
  fi : Nat → Int
noncomputable abbrev byF (n : Nat) (f : Nat → Int) : LV Empty := .rows n 1 fun j => [.int .u8 (f j)]
noncomputable abbrev uG (x : Opt) (b : LV Empty) : List (LV Empty) := [.int .u64 x.sl, .int .u64 x.pr, byF 32 x.pa, byF 32 x.st, byF 32 x.bo, .nils, byF 48 x.su, byF 160 x.br, .int .u64 x.fs, .int .u64 x.fp, byF 32 x.fa, byF 32 x.ft, byF 32 x.fb, byF 192 x.fi, b, byF 96 x.sg, .int .u64 x.s]
def hdrF (x : Opt) : Nat → Int := catF (8 + 8 + 32 + 32) (catF (8 + 8 + 32) (catF (8 + 8) (catF 8 (chunkN x.sl) (chunkN x.pr)) x.pa) x.st) x.bo
def optN (m : Nat) : Nat := 8 + 8 + 32 + 32 + 32 + bytesN m + 96 + 8
def optF (x : Opt) : Nat → Int := catF (8 + 8 + 32 + 32 + 32 + bytesN x.m + 96) (catF (8 + 8 + 32 + 32 + 32 + bytesN x.m) (catF (8 + 8 + 32 + 32 + 32) (hdrF x) (packB x.bf x.m)) x.sg) (chunkN x.s)
noncomputable def inO (m : Nat) (bf : Nat → Bool) : Inp Empty := inOf [boolsU m bf]
noncomputable abbrev SOp (m : Nat) (bf : Nat → Bool) : Sig Empty := sigOf (P := Try.prog) [] [] [conWUintA, conWBits, conWAll] (I := inO m bf) [] noMs adv19
theorem inO_ok (m : Nat) (bf : Nat → Bool) : InpOk (inO m bf) := inL_ok m bf
theorem SOp_ok (m : Nat) (bf : Nat → Bool) : SigOk Try.prog (SOp m bf) := sigOf_ok [] [] [conWUintA, conWBits, conWAll] [] (noMs_ok _) _ (inO_ok m bf)
--@gen enO (x : Opt) := runG Try.prog (SOp x.m x.bf) 200 43 [] (startS Try.f43 [.agg (uG x (.vec (.inp 0 0) x.m))] []) .ret 0 [some (.own 155)] 5 [(2, .vec (.own 0) (optN x.m))] [some (rowB (optN x.m) (optF x))]
--@[
def enO_G (x : Opt) : Prop := (((decide             ((↑(Opt.m x) : Int) = (↑(Opt.m x) : Int) ∧               (0 : Int) ≤ (↑(Opt.m x) : Int) ∧                 (↑48 : Int) * (↑(Opt.m x) : Int) ≤ (2 : Int) ^ 48) =           true ∧         true = true ∧           rowOk (A := Empty) (Kd.row 69)               [LV.rows (Int.toNat (↑(Opt.m x) : Int)) 48 fun (x : Nat) =>                   units                     (LV.agg                       [LV.int IntKind.u8 ((0 : Int)), LV.int IntKind.u8 ((0 : Int)),                         LV.int IntKind.u8 ((0 : Int)), LV.int IntKind.u8 ((0 : Int)),                         LV.int IntKind.u8 ((0 : Int)), LV.int IntKind.u8 ((0 : Int)),                         LV.int IntKind.u8 ((0 : Int)), LV.int IntKind.u8 ((0 : Int)),                         LV.int IntKind.u8 ((0 : Int)), LV.int IntKind.u8 ((0 : Int)),                         LV.int IntKind.u8 ((0 : Int)), LV.int IntKind.u8 ((0 : Int)),                         LV.int IntKind.u8 ((0 : Int)), LV.int IntKind.u8 ((0 : Int)),                         LV.int IntKind.u8 ((0 : Int)), LV.int IntKind.u8 ((0 : Int)),                         LV.int IntKind.u8 ((0 : Int)), LV.int IntKind.u8 ((0 : Int)),                         LV.int IntKind.u8 ((0 : Int)), LV.int IntKind.u8 ((0 : Int)),                         LV.int IntKind.u8 ((0 : Int)), LV.int IntKind.u8 ((0 : Int)),                         LV.int IntKind.u8 ((0 : Int)), LV.int IntKind.u8 ((0 : Int)),                         LV.int IntKind.u8 ((0 : Int)), LV.int IntKind.u8 ((0 : Int)),                         LV.int IntKind.u8 ((0 : Int)), LV.int IntKind.u8 ((0 : Int)),                         LV.int IntKind.u8 ((0 : Int)), LV.int IntKind.u8 ((0 : Int)),                         LV.int IntKind.u8 ((0 : Int)), LV.int IntKind.u8 ((0 : Int)),                         LV.int IntKind.u8 ((0 : Int)), LV.int IntKind.u8 ((0 : Int)),                         LV.int IntKind.u8 ((0 : Int)), LV.int IntKind.u8 ((0 : Int)),                         LV.int IntKind.u8 ((0 : Int)), LV.int IntKind.u8 ((0 : Int)),                         LV.int IntKind.u8 ((0 : Int)), LV.int IntKind.u8 ((0 : Int)),                         LV.int IntKind.u8 ((0 : Int)), LV.int IntKind.u8 ((0 : Int)),                         LV.int IntKind.u8 ((0 : Int)), LV.int IntKind.u8 ((0 : Int)),                         LV.int IntKind.u8 ((0 : Int)), LV.int IntKind.u8 ((0 : Int)),                         LV.int IntKind.u8 ((0 : Int)), LV.int IntKind.u8 ((0 : Int))])]               (setRows                 [LV.rows (Int.toNat (↑(Opt.m x) : Int)) 48 fun (x : Nat) =>                     units                       (LV.agg                         [LV.int IntKind.u8 ((0 : Int)), LV.int IntKind.u8 ((0 : Int)),                           LV.int IntKind.u8 ((0 : Int)), LV.int IntKind.u8 ((0 : Int)),                           LV.int IntKind.u8 ((0 : Int)), LV.int IntKind.u8 ((0 : Int)),                           LV.int IntKind.u8 ((0 : Int)), LV.int IntKind.u8 ((0 : Int)),                           LV.int IntKind.u8 ((0 : Int)), LV.int IntKind.u8 ((0 : Int)),                           LV.int IntKind.u8 ((0 : Int)), LV.int IntKind.u8 ((0 : Int)),                           LV.int IntKind.u8 ((0 : Int)), LV.int IntKind.u8 ((0 : Int)),                           LV.int IntKind.u8 ((0 : Int)), LV.int IntKind.u8 ((0 : Int)),                           LV.int IntKind.u8 ((0 : Int)), LV.int IntKind.u8 ((0 : Int)),                           LV.int IntKind.u8 ((0 : Int)), LV.int IntKind.u8 ((0 : Int)),                           LV.int IntKind.u8 ((0 : Int)), LV.int IntKind.u8 ((0 : Int)),                           LV.int IntKind.u8 ((0 : Int)), LV.int IntKind.u8 ((0 : Int)),                           LV.int IntKind.u8 ((0 : Int)), LV.int IntKind.u8 ((0 : Int)),                           LV.int IntKind.u8 ((0 : Int)), LV.int IntKind.u8 ((0 : Int)),                           LV.int IntKind.u8 ((0 : Int)), LV.int IntKind.u8 ((0 : Int)),                           LV.int IntKind.u8 ((0 : Int)), LV.int IntKind.u8 ((0 : Int)),                           LV.int IntKind.u8 ((0 : Int)), LV.int IntKind.u8 ((0 : Int)),                           LV.int IntKind.u8 ((0 : Int)), LV.int IntKind.u8 ((0 : Int)),                           LV.int IntKind.u8 ((0 : Int)), LV.int IntKind.u8 ((0 : Int)),                           LV.int IntKind.u8 ((0 : Int)), LV.int IntKind.u8 ((0 : Int)),                           LV.int IntKind.u8 ((0 : Int)), LV.int IntKind.u8 ((0 : Int)),                           LV.int IntKind.u8 ((0 : Int)), LV.int IntKind.u8 ((0 : Int)),                           LV.int IntKind.u8 ((0 : Int)), LV.int IntKind.u8 ((0 : Int)),                           LV.int IntKind.u8 ((0 : Int)), LV.int IntKind.u8 ((0 : Int))])]                 0 fun (j : Nat) =>                 mrgR (Nat.blt j (Nat.min 0 (Int.toNat (↑(Opt.m x) : Int)))) []                   (units                     (LV.agg                       [LV.int IntKind.u8 ((0 : Int)), LV.int IntKind.u8 ((0 : Int)),                         LV.int IntKind.u8 ((0 : Int)), LV.int IntKind.u8 ((0 : Int)),                         LV.int IntKind.u8 ((0 : Int)), LV.int IntKind.u8 ((0 : Int)),                         LV.int IntKind.u8 ((0 : Int)), LV.int IntKind.u8 ((0 : Int)),                         LV.int IntKind.u8 ((0 : Int)), LV.int IntKind.u8 ((0 : Int)),                         LV.int IntKind.u8 ((0 : Int)), LV.int IntKind.u8 ((0 : Int)),                         LV.int IntKind.u8 ((0 : Int)), LV.int IntKind.u8 ((0 : Int)),                         LV.int IntKind.u8 ((0 : Int)), LV.int IntKind.u8 ((0 : Int)),                         LV.int IntKind.u8 ((0 : Int)), LV.int IntKind.u8 ((0 : Int)),                         LV.int IntKind.u8 ((0 : Int)), LV.int IntKind.u8 ((0 : Int)),                         LV.int IntKind.u8 ((0 : Int)), LV.int IntKind.u8 ((0 : Int)),                         LV.int IntKind.u8 ((0 : Int)), LV.int IntKind.u8 ((0 : Int)),                         LV.int IntKind.u8 ((0 : Int)), LV.int IntKind.u8 ((0 : Int)),                         LV.int IntKind.u8 ((0 : Int)), LV.int IntKind.u8 ((0 : Int)),                         LV.int IntKind.u8 ((0 : Int)), LV.int IntKind.u8 ((0 : Int)),                         LV.int IntKind.u8 ((0 : Int)), LV.int IntKind.u8 ((0 : Int)),                         LV.int IntKind.u8 ((0 : Int)), LV.int IntKind.u8 ((0 : Int)),                         LV.int IntKind.u8 ((0 : Int)), LV.int IntKind.u8 ((0 : Int)),                         LV.int IntKind.u8 ((0 : Int)), LV.int IntKind.u8 ((0 : Int)),                         LV.int IntKind.u8 ((0 : Int)), LV.int IntKind.u8 ((0 : Int)),                         LV.int IntKind.u8 ((0 : Int)), LV.int IntKind.u8 ((0 : Int)),                         LV.int IntKind.u8 ((0 : Int)), LV.int IntKind.u8 ((0 : Int)),                         LV.int IntKind.u8 ((0 : Int)), LV.int IntKind.u8 ((0 : Int)),                         LV.int IntKind.u8 ((0 : Int)), LV.int IntKind.u8 ((0 : Int))]))) =             true) ∧       true = true) ∧     ((true = true ∧ true = true ∧ true = true) ∧ true = true ∧ true = true ∧ true = true) ∧       (true = true ∧ true = true) ∧         (Opt.sl x = Opt.sl x ∧ True) ∧           (true = true ∧ true = true) ∧             (Opt.pr x = Opt.pr x ∧                 (8 = 8 ∧                     (8 = 8 ∧                         ∀ (i : Nat),                           i < 8 →                             Same (A := Empty) [LV.int IntKind.u8 (chunkN (Opt.sl x) i)] [LV.int IntKind.u8 (chunkN (Opt.sl x) i)]) ∧                       ∀ (i : Nat), plainL (A := Empty) [LV.int IntKind.u8 (chunkN (Opt.sl x) i)]) ∧                   8 ≤ 70368744177664) ∧               (true = true ∧ true = true) ∧                 ((true = true ∧ true = true) ∧ true = true) ∧                   (true = true ∧ true = true) ∧                     ((true = true ∧ true = true) ∧ true = true) ∧                       (true = true ∧ true = true) ∧                         ((true = true ∧ true = true) ∧ true = true) ∧                           (true = true ∧ true = true) ∧                             ((0 = 0 ∧ Opt.m x = Opt.m x) ∧                                 (8 + 8 + 32 + 32 + 32 =                                       8 + 8 + 32 + 32 + 32 ∧                                     (8 + 8 + 32 + 32 + 32 =                                           8 + 8 + 32 + 32 + 32 ∧                                         ∀ (i : Nat),                                           i < 8 + 8 + 32 + 32 + 32 →                                             Same (A := Empty) [LV.int IntKind.u8                                                   (bif Nat.blt i (8 + 8 + 32 + 32) then                                                     bif Nat.blt i (8 + 8 + 32) then                                                       bif Nat.blt i (8 + 8) then                                                         catF 8 (chunkN (Opt.sl x)) (chunkN (Opt.pr x)) i                                                       else Opt.pa x (i - (8 + 8))                                                     else Opt.st x (i - (8 + 8 + 32))                                                   else                                                     Opt.bo x (i - (8 + 8 + 32 + 32)))]                                               [LV.int IntKind.u8                                                   (bif Nat.blt i (8 + 8 + 32 + 32) then                                                     bif Nat.blt i (8 + 8 + 32) then                                                       bif Nat.blt i (8 + 8) then                                                         catF 8 (chunkN (Opt.sl x)) (chunkN (Opt.pr x)) i                                                       else Opt.pa x (i - (8 + 8))                                                     else Opt.st x (i - (8 + 8 + 32))                                                   else                                                     Opt.bo x                                                       (i - (8 + 8 + 32 + 32)))]) ∧                                       ∀ (i : Nat),                                         plainL (A := Empty) [LV.int IntKind.u8                                               (bif Nat.blt i (8 + 8 + 32 + 32) then                                                 bif Nat.blt i (8 + 8 + 32) then                                                   bif Nat.blt i (8 + 8) then                                                     catF 8 (chunkN (Opt.sl x)) (chunkN (Opt.pr x)) i                                                   else Opt.pa x (i - (8 + 8))                                                 else Opt.st x (i - (8 + 8 + 32))                                               else Opt.bo x (i - (8 + 8 + 32 + 32)))]) ∧                                   ((Opt.m x = Opt.m x ∧                                         ∀ (i : Nat), i < Opt.m x → Same (A := Empty) [LV.bool (Opt.bf x i)] [LV.bool (Opt.bf x i)]) ∧                                       ∀ (i : Nat), plainL (A := Empty) [LV.bool (Opt.bf x i)]) ∧                                     Opt.m x ≤ 70368744177664 ∧                                       8 + 8 + 32 + 32 + 32 ≤                                         35184372088832) ∧                               (true = true ∧ true = true) ∧                                 ((true = true ∧                                       (Nat.beq                                             (8 + 8 + 32 + 32 + 32 +                                               bytesN (Opt.m x))                                             (8 + 8 + 32 + 32 + 32 +                                               bytesN (Opt.m x)) &&                                           Nat.ble                                             ((8 + 8 + 32 + 32 + 32 +                                                   bytesN (Opt.m x) +                                                 96) *                                               1)                                             140737488355328) =                                         true) ∧                                     true = true) ∧                                   (true = true ∧ true = true) ∧                                     (Opt.s x = Opt.s x ∧                                         (8 + 8 + 32 + 32 + 32 +                                                   bytesN (Opt.m x) +                                                 96 =                                               8 + 8 + 32 + 32 + 32 +                                                   bytesN (Opt.m x) +                                                 96 ∧                                             (8 + 8 + 32 + 32 + 32 +                                                       bytesN (Opt.m x) +                                                     96 =                                                   8 + 8 + 32 + 32 + 32 +                                                       bytesN (Opt.m x) +                                                     96 ∧                                                 ∀ (i : Nat),                                                   i <                                                       8 + 8 + 32 + 32 + 32 +                                                           bytesN (Opt.m x) +                                                         96 →                                                     Same (A := Empty) [LV.int IntKind.u8                                                           (bif                                                               Nat.blt i                                                                 (8 + 8 + 32 + 32 +                                                                     32 +                                                                   bytesN (Opt.m x)) then                                                             catF                                                               (8 + 8 + 32 + 32 +                                                                 32)                                                               (fun (j : Nat) =>                                                                 bif                                                                     Nat.blt j                                                                       (8 + 8 + 32 +                                                                         32) then                                                                   bif                                                                       Nat.blt j                                                                         (8 + 8 + 32) then                                                                     bif Nat.blt j (8 + 8) then                                                                       catF 8 (chunkN (Opt.sl x))                                                                         (chunkN (Opt.pr x)) j                                                                     else Opt.pa x (j - (8 + 8))                                                                   else                                                                     Opt.st x (j - (8 + 8 + 32))                                                                 else                                                                   Opt.bo x                                                                     (j -                                                                       (8 + 8 + 32 +                                                                         32)))                                                               (packB (Opt.bf x) (Opt.m x)) i                                                           else                                                             Opt.sg x                                                               (i -                                                                 (8 + 8 + 32 + 32 +                                                                     32 +                                                                   bytesN (Opt.m x))))]                                                       [LV.int IntKind.u8                                                           (bif                                                               Nat.blt i                                                                 (8 + 8 + 32 + 32 +                                                                     32 +                                                                   bytesN (Opt.m x)) then                                                             catF                                                               (8 + 8 + 32 + 32 +                                                                 32)                                                               (fun (j : Nat) =>                                                                 bif                                                                     Nat.blt j                                                                       (8 + 8 + 32 +                                                                         32) then                                                                   bif                                                                       Nat.blt j                                                                         (8 + 8 + 32) then                                                                     bif Nat.blt j (8 + 8) then                                                                       catF 8 (chunkN (Opt.sl x))                                                                         (chunkN (Opt.pr x)) j                                                                     else Opt.pa x (j - (8 + 8))                                                                   else                                                                     Opt.st x (j - (8 + 8 + 32))                                                                 else                                                                   Opt.bo x                                                                     (j -                                                                       (8 + 8 + 32 +                                                                         32)))                                                               (packB (Opt.bf x) (Opt.m x)) i                                                           else                                                             Opt.sg x                                                               (i -                                                                 (8 + 8 + 32 + 32 +                                                                     32 +                                                                   bytesN (Opt.m x))))]) ∧                                               ∀ (i : Nat),                                                 plainL (A := Empty) [LV.int IntKind.u8                                                       (bif                                                           Nat.blt i                                                             (8 + 8 + 32 + 32 +                                                                 32 +                                                               bytesN (Opt.m x)) then                                                         catF                                                           (8 + 8 + 32 + 32 + 32)                                                           (fun (j : Nat) =>                                                             bif                                                                 Nat.blt j                                                                   (8 + 8 + 32 + 32) then                                                               bif Nat.blt j (8 + 8 + 32) then                                                                 bif Nat.blt j (8 + 8) then                                                                   catF 8 (chunkN (Opt.sl x))                                                                     (chunkN (Opt.pr x)) j                                                                 else Opt.pa x (j - (8 + 8))                                                               else Opt.st x (j - (8 + 8 + 32))                                                             else                                                               Opt.bo x                                                                 (j - (8 + 8 + 32 + 32)))                                                           (packB (Opt.bf x) (Opt.m x)) i                                                       else                                                         Opt.sg x                                                           (i -                                                             (8 + 8 + 32 + 32 +                                                                 32 +                                                               bytesN (Opt.m x))))]) ∧                                           8 + 8 + 32 + 32 + 32 +                                                 bytesN (Opt.m x) +                                               96 ≤                                             70368744177664) ∧                                       (8 + 8 + 32 + 32 + 32 + bytesN (Opt.m x) +                                                 96 +                                               8 =                                             8 + 8 + 32 + 32 + 32 +                                                   bytesN (Opt.m x) +                                                 96 +                                               8 ∧                                           (8 + 8 + 32 + 32 + 32 +                                                       bytesN (Opt.m x) +                                                     96 +                                                   8 =                                                 8 + 8 + 32 + 32 + 32 +                                                       bytesN (Opt.m x) +                                                     96 +                                                   8 ∧                                               ∀ (i : Nat),                                                 i <                                                     8 + 8 + 32 + 32 + 32 +                                                           bytesN (Opt.m x) +                                                         96 +                                                       8 →                                                   Same (A := Empty) [LV.int IntKind.u8                                                         (catF                                                           (8 + 8 + 32 + 32 +                                                                 32 +                                                               bytesN (Opt.m x) +                                                             96)                                                           (fun (j : Nat) =>                                                             bif                                                                 Nat.blt j                                                                   (8 + 8 + 32 + 32 +                                                                       32 +                                                                     bytesN (Opt.m x)) then                                                               catF                                                                 (8 + 8 + 32 + 32 +                                                                   32)                                                                 (fun (j : Nat) =>                                                                   bif                                                                       Nat.blt j                                                                         (8 + 8 + 32 +                                                                           32) then                                                                     bif                                                                         Nat.blt j                                                                           (8 + 8 + 32) then                                                                       bif Nat.blt j (8 + 8) then                                                                         catF 8 (chunkN (Opt.sl x))                                                                           (chunkN (Opt.pr x)) j                                                                       else Opt.pa x (j - (8 + 8))                                                                     else                                                                       Opt.st x                                                                         (j - (8 + 8 + 32))                                                                   else                                                                     Opt.bo x                                                                       (j -                                                                         (8 + 8 + 32 +                                                                           32)))                                                                 (packB (Opt.bf x) (Opt.m x)) j                                                             else                                                               Opt.sg x                                                                 (j -                                                                   (8 + 8 + 32 + 32 +                                                                       32 +                                                                     bytesN (Opt.m x))))                                                           (chunkN (Opt.s x)) i)]                                                     [LV.int IntKind.u8                                                         (catF                                                           (8 + 8 + 32 + 32 +                                                                 32 +                                                               bytesN (Opt.m x) +                                                             96)                                                           (fun (j : Nat) =>                                                             bif                                                                 Nat.blt j                                                                   (8 + 8 + 32 + 32 +                                                                       32 +                                                                     bytesN (Opt.m x)) then                                                               catF                                                                 (8 + 8 + 32 + 32 +                                                                   32)                                                                 (fun (j : Nat) =>                                                                   bif                                                                       Nat.blt j                                                                         (8 + 8 + 32 +                                                                           32) then                                                                     bif                                                                         Nat.blt j                                                                           (8 + 8 + 32) then                                                                       bif Nat.blt j (8 + 8) then                                                                         catF 8 (chunkN (Opt.sl x))                                                                           (chunkN (Opt.pr x)) j                                                                       else Opt.pa x (j - (8 + 8))                                                                     else                                                                       Opt.st x                                                                         (j - (8 + 8 + 32))                                                                   else                                                                     Opt.bo x                                                                       (j -                                                                         (8 + 8 + 32 +                                                                           32)))                                                                 (packB (Opt.bf x) (Opt.m x)) j                                                             else                                                               Opt.sg x                                                                 (j -                                                                   (8 + 8 + 32 + 32 +                                                                       32 +                                                                     bytesN (Opt.m x))))                                                           (chunkN (Opt.s x)) i)]) ∧                                             ∀ (i : Nat),                                               plainL (A := Empty) [LV.int IntKind.u8                                                     (catF                                                       (8 + 8 + 32 + 32 + 32 +                                                           bytesN (Opt.m x) +                                                         96)                                                       (fun (j : Nat) =>                                                         bif                                                             Nat.blt j                                                               (8 + 8 + 32 + 32 +                                                                   32 +                                                                 bytesN (Opt.m x)) then                                                           catF                                                             (8 + 8 + 32 + 32 +                                                               32)                                                             (fun (j : Nat) =>                                                               bif                                                                   Nat.blt j                                                                     (8 + 8 + 32 +                                                                       32) then                                                                 bif Nat.blt j (8 + 8 + 32) then                                                                   bif Nat.blt j (8 + 8) then                                                                     catF 8 (chunkN (Opt.sl x))                                                                       (chunkN (Opt.pr x)) j                                                                   else Opt.pa x (j - (8 + 8))                                                                 else Opt.st x (j - (8 + 8 + 32))                                                               else                                                                 Opt.bo x                                                                   (j -                                                                     (8 + 8 + 32 + 32)))                                                             (packB (Opt.bf x) (Opt.m x)) j                                                         else                                                           Opt.sg x                                                             (j -                                                               (8 + 8 + 32 + 32 +                                                                   32 +                                                                 bytesN (Opt.m x))))                                                       (chunkN (Opt.s x)) i)]) ∧                                         8 + 8 + 32 + 32 + 32 +                                                 bytesN (Opt.m x) +                                               96 +                                             8 ≤                                           70368744177664) ∧   8 + 8 + 32 + 32 + 32 + bytesN (Opt.m x) + 96 + 8 =       optN (Opt.m x) ∧     (8 + 8 + 32 + 32 + 32 + bytesN (Opt.m x) + 96 + 8 =           optN (Opt.m x) ∧         ∀ (i : Nat),           i < optN (Opt.m x) →             Same (A := Empty) [LV.int IntKind.u8                   (catF (8 + 8 + 32 + 32 + 32 + bytesN (Opt.m x) + 96)                     (fun (j : Nat) =>                       bif                           Nat.blt j                             (8 + 8 + 32 + 32 + 32 + bytesN (Opt.m x)) then                         catF (8 + 8 + 32 + 32 + 32)                           (fun (j : Nat) =>                             bif Nat.blt j (8 + 8 + 32 + 32) then                               bif Nat.blt j (8 + 8 + 32) then                                 bif Nat.blt j (8 + 8) then                                   catF 8 (chunkN (Opt.sl x)) (chunkN (Opt.pr x)) j                                 else Opt.pa x (j - (8 + 8))                               else Opt.st x (j - (8 + 8 + 32))                             else Opt.bo x (j - (8 + 8 + 32 + 32)))                           (packB (Opt.bf x) (Opt.m x)) j                       else                         Opt.sg x                           (j - (8 + 8 + 32 + 32 + 32 + bytesN (Opt.m x))))                     (chunkN (Opt.s x)) i)]               [LV.int IntKind.u8 (optF x i)]) ∧       ∀ (i : Nat), plainL (A := Empty) [LV.int IntKind.u8 (optF x i)]
set_option maxRecDepth 100000 in
theorem enO (x : Opt) : runG Try.prog (SOp x.m x.bf) 200 43 [] (startS Try.f43 [.agg (uG x (.vec (.inp 0 0) x.m))] []) .ret 0 [some (.own 155)] 5 [(2, .vec (.own 0) (optN x.m))] [some (rowB (optN x.m) (optF x))] = some (some ((enO_G x))) := by kernel_rfl
--@]
theorem blt_if {α : Type} (i n : Nat) (a b : α) : (bif Nat.blt i n then a else b) = if i < n then a else b := by
  by_cases h : i < n
  · rw [if_pos h, show Nat.blt i n = true from by rw [Nat.blt_eq]; exact h]; rfl
  · rw [if_neg h, blt_false h]; rfl
theorem encO_told (x : Opt) (h : x.m ≤ 2 ^ 40) : ToldW Try.prog 43 [boolsU x.m x.bf] [] [.agg (uG x (.vec (.inp 0 0) x.m))] (.vec (.own 0) (optN x.m)) [rowB (optN x.m) (optF x)] := by
  have h2 : bytesN x.m ≤ 2 ^ 40 := by unfold bytesN; omega
  refine toldW_body (fn := Try.f43) rfl rfl (.inr rfl) (B := 0) (nn := 5) (l := [(2, .vec (.own 0) (optN x.m))]) (cs := []) ?_ rfl rfl
  refine ExB.auto (SOp_ok x.m x.bf) (inO_ok x.m x.bf) rfl mixed 200 _ (enO x) ?_
  simp only [condOk, enO_G]
  and_intros <;> first
    | exact rfl
    | exact rowOk_rows _ _ _ _ _
    | exact fun i _ => Same.int (by simp only [optF, hdrF, catF, blt_if])
    | exact True.intro | omega | exact fun _ => ⟨trivial, trivial⟩ | exact fun _ _ => Same.refl _ | exact fun _ _ => Like.refl _ | (simp (disch := omega) only [true_and, and_true, Nat.beq_refl, Bool.true_and, decide_eq_true_eq, decide_eq_false_iff_not, beq_iff_eq, bne_iff_ne, beq_eq_false_iff_ne, bne_eq_false_iff_eq, ne_eq, Nat.blt_eq, Nat.ble_eq, Nat.beq_eq, Bool.and_eq_true, Bool.or_eq_true, IntKind.wrap_i64, IntKind.wrap_u64, IntKind.wrap_u8, IntKind.wrap_u32, Int.tdiv_eq_ediv_of_nonneg, Int.tmod_eq_emod_of_nonneg] <;> omega) | rfl | trivial
    | (rw [decide_eq_true_eq]; omega)
set_option maxRecDepth 100000 in
theorem ent43 : ∀ args w, (callFunc 43 args).run Try.prog w = .ok (.enter 43 args) w := ent_of (f := 43) (P := Try.prog) rfl rfl rfl
noncomputable def encOS : Spec Try.prog Empty 43 where
  X := Opt
  us x := [boolsU x.m x.bf]
  bls0 x := []
  args x := [.agg (uG x (.vec (.inp 0 0) x.m))]
  v x := .vec (.own 0) (optN x.m)
  bls1 x := [rowB (optN x.m) (optF x)]
  c x := x.m ≤ 2 ^ 40
  told x h := encO_told x h
  ov _ := ⟨0, rfl⟩
  ob x b hb := by
    simp only [List.mem_cons, List.not_mem_nil, or_false] at hb
    subst hb
    exact row_ownly ..
noncomputable def conEncO : ConC Try.prog Empty := encOS.con ent43 fun I vs mem => match vs with
  | [.agg [.int _ sl, .int _ pr, .rows _ _ pa, .rows _ _ st, .rows _ _ bo, _, .rows _ _ su, .rows _ _ br, .int _ fs, .int _ fp, .rows _ _ fa, .rows _ _ ft, .rows _ _ fb, .rows _ _ fi, b, .rows _ _ sg, .int _ s]] => match pickBo I mem b with
    | some (k, m, bf) => some ({ sl, pr, pa := fun i => byteOf (pa i), st := fun i => byteOf (st i), bo := fun i => byteOf (bo i), m, bf, sg := fun i => byteOf (sg i), s, su := fun i => byteOf (su i), br := fun i => byteOf (br i), fs, fp, fa := fun i => byteOf (fa i), ft := fun i => byteOf (ft i), fb := fun i => byteOf (fb i), fi := fun i => byteOf (fi i) }, [], [k])
    | none => none
  | _ => none
/-- How an update's flat cells are put together. -/
def grpU : List (Option (Nat × Nat)) := [none, none, some (32, 1), some (32, 1), some (32, 1), none, some (48, 1), some (160, 1), none, none, some (32, 1), some (32, 1), some (32, 1), some (192, 1), none, some (96, 1), none]
noncomputable def conEncU : ConC Try.prog Empty := conEncO.grp grpU
end Go.Proofs.Ytjhjockdkpgpeaa.En

/- DERIVED. A reader's calls where nothing fails, and where the bits are not clean; a committee's size within its bounds. -/
set_option linter.all false
namespace Go.Proofs.Ytjhjockdkpgpeaa.En
open Go Go.RowKit

noncomputable abbrev xbB (N : Nat) (f : Nat → Int) (n : Nat) : List (Blk Empty) := [rdB 2 (N - n) 0, roB N f, roB (N - n) (fun j => f (n + j)), ⟨.row 5, bytesU n f⟩]
noncomputable def xbS : Spec Try.prog Empty 35 where
  X := Nat × (Nat → Int) × Int
  us _ := []
  bls0 x := rd0 x.1 x.2.1 0
  args x := argA x.2.2
  v x := .vec (.own 3) x.2.2.toNat
  bls1 x := xbB x.1 x.2.1 x.2.2.toNat
  c x := x.1 ≤ 2 ^ 43 ∧ x.2.2.toNat ≤ x.1
  told x h := by
    have := rbytes_told x.1 x.2.1 0 x.2.2 h.1
    have hk : tkOk x.1 0 x.2.2 = true := by simp [tkOk, h.2]
    have e2 : tkF x.1 x.2.1 0 x.2.2 = fun j => x.2.1 (x.2.2.toNat + j) := by funext j; simp only [tkF, hk, if_true]
    simp only [tkB, tkN, tkL, tkE, e2, hk, h.2, if_true] at this
    exact this
  ov _ := ⟨3, rfl⟩
  ob x b hb := by
    simp only [xbB, List.mem_cons, List.not_mem_nil, or_false] at hb
    rcases hb with rfl | rfl | rfl | rfl
    · exact rd_ownly ..
    · exact ro_ownly ..
    · exact ro_ownly ..
    · exact by_ownly ..
noncomputable def conXB0 : ConC Try.prog Empty := xbS.con ent35 fun I vs mem => match vs with
  | [p, .int _ n] => match pickRd mem p with
    | some (r, d, N, f, .ofNat 0) => some ((N, f, n), [r, d], [])
    | _ => none
  | _ => none
noncomputable def conXBytes : ConC Try.prog Empty := conXB0.or conRBytes rfl
/-- The number that eight bytes say. -/
def wordF (f : Nat → Int) : Int := uintV 8 f 0
noncomputable def xuS : Spec Try.prog Empty 33 where
  X := Nat × (Nat → Int)
  us _ := []
  bls0 x := rd0 x.1 x.2 0
  args x := [.ptr (.own 0) 0 []]
  v x := .int .u64 (wordF x.2)
  bls1 x := [rdB 2 (x.1 - 8) 0, roB x.1 x.2, roB (x.1 - 8) (fun j => x.2 (8 + j))]
  c x := 8 ≤ x.1 ∧ ∀ j, j < x.1 → 0 ≤ x.2 j ∧ x.2 j < 256
  told x h := by
    have := ruint2_told x.1 x.2 0 h.2
    have hk : tkOk x.1 0 8 = true := by simp only [tkOk, decide_true, Bool.true_and, decide_eq_true_eq]; exact h.1
    have hk8 : tkOk 8 0 8 = true := rfl
    have e2 : tkF x.1 x.2 0 8 = fun j => x.2 (8 + j) := by funext j; simp only [tkF, hk, if_true]; rfl
    have e3 : uintV x.1 x.2 0 = wordF x.2 := by simp only [uintV, wordF, hk, hk8, if_true]
    have e4 : (8 : Int).toNat = 8 := rfl
    simp only [uiB, tkN, tkE, e2, e3, hk, if_true, e4, h.1] at this
    exact this
  ov _ := trivial
  ob x b hb := by
    simp only [List.mem_cons, List.not_mem_nil, or_false] at hb
    rcases hb with rfl | rfl | rfl
    · exact rd_ownly ..
    · exact ro_ownly ..
    · exact ro_ownly ..
noncomputable def conXU0 : ConC Try.prog Empty := xuS.con ent33 fun I vs mem => match vs with
  | [p] => match pickRd mem p with
    | some (r, d, N, f, .ofNat 0) => some ((N, f), [r, d], [])
    | _ => none
  | _ => none
noncomputable def conXUint : ConC Try.prog Empty := conXU0.or conRUint rfl
noncomputable abbrev xtB (N : Nat) (f : Nat → Int) (n : Nat) : List (Blk Empty) := [rdB 2 (N - bytesN n) 0, roB N f, roB (N - bytesN n) (fun j => f (bytesN n + j)), ⟨.row 4, boolsU n (bitB f)⟩]
noncomputable def xtS : Spec Try.prog Empty 26 where
  X := Nat × (Nat → Int) × Int
  us _ := []
  bls0 x := rd0 x.1 x.2.1 0
  args x := argA x.2.2
  v x := .vec (.own 3) x.2.2.toNat
  bls1 x := xtB x.1 x.2.1 x.2.2.toNat
  c x := x.1 ≤ 2 ^ 43 ∧ x.2.2.toNat ≤ 8 * x.1 ∧ dirty x.2.1 x.2.2.toNat = false
  told x h := by
    have := bits_toldW x.1 x.2.1 0 x.2.2 h.1
    have hk : rdOk x.1 x.2.1 0 x.2.2 = true := by simp [rdOk, h.2.1, h.2.2]
    have e2 : rdF x.1 x.2.1 0 x.2.2 = fun j => x.2.1 (bytesN x.2.2.toNat + j) := by funext j; simp only [rdF, hk, if_true]
    simp only [rd1b, rdN, rdL, rdE, e2, hk, h.2.1, h.2.2, if_true, Bool.false_eq_true, if_false] at this
    exact this
  ov _ := ⟨3, rfl⟩
  ob x b hb := by
    simp only [xtB, List.mem_cons, List.not_mem_nil, or_false] at hb
    rcases hb with rfl | rfl | rfl | rfl
    · exact rd_ownly ..
    · exact ro_ownly ..
    · exact ro_ownly ..
    · exact bo_ownly ..
/-- Clean bits. -/
noncomputable def conXBits : ConC Try.prog Empty := xtS.con ent26 fun I vs mem => match vs with
  | [p, .int _ n] => match pickRd mem p with
    | some (r, d, N, f, .ofNat 0) => some ((N, f, n), [r, d], [])
    | _ => none
  | _ => none
noncomputable abbrev xeB (N : Nat) (f : Nat → Int) : List (Blk Empty) := [rdB 2 N 171, roB N f, roB N f, ⟨.row 4, boolsU 0 (bitB f)⟩]
noncomputable def xeS : Spec Try.prog Empty 26 where
  X := Nat × (Nat → Int) × Int
  us _ := []
  bls0 x := rd0 x.1 x.2.1 0
  args x := argA x.2.2
  v x := .vec (.own 3) 0
  bls1 x := xeB x.1 x.2.1
  c x := x.1 ≤ 2 ^ 43 ∧ x.2.2.toNat ≤ 8 * x.1 ∧ dirty x.2.1 x.2.2.toNat = true
  told x h := by
    have := bits_toldW x.1 x.2.1 0 x.2.2 h.1
    have hk : rdOk x.1 x.2.1 0 x.2.2 = false := by simp [rdOk, h.2.2]
    have e2 : rdF x.1 x.2.1 0 x.2.2 = x.2.1 := by funext j; simp only [rdF, hk, Bool.false_eq_true, if_false]
    simp only [rd1b, rdN, rdL, rdE, e2, hk, h.2.1, h.2.2, if_true, Bool.false_eq_true, if_false] at this
    exact this
  ov _ := ⟨3, rfl⟩
  ob x b hb := by
    simp only [xeB, List.mem_cons, List.not_mem_nil, or_false] at hb
    rcases hb with rfl | rfl | rfl | rfl
    · exact rd_ownly ..
    · exact ro_ownly ..
    · exact ro_ownly ..
    · exact bo_ownly ..
/-- Bits that are not clean. -/
noncomputable def conXDirty : ConC Try.prog Empty := xeS.con ent26 fun I vs mem => match vs with
  | [p, .int _ n] => match pickRd mem p with
    | some (r, d, N, f, .ofNat 0) => some ((N, f, n), [r, d], [])
    | _ => none
  | _ => none
/-! ## behind an error -/
noncomputable abbrev xfB (N : Nat) (f : Nat → Int) (e : Int) : List (Blk Empty) := [rdB 2 N e, roB N f, roB N f, ⟨.row 5, bytesU 0 f⟩]
noncomputable def xfS : Spec Try.prog Empty 35 where
  X := Nat × (Nat → Int) × Int × Int
  us _ := []
  bls0 x := rd0 x.1 x.2.1 x.2.2.1
  args x := argA x.2.2.2
  v x := .vec (.own 3) 0
  bls1 x := xfB x.1 x.2.1 x.2.2.1
  c x := x.1 ≤ 2 ^ 43 ∧ x.2.2.1 ≠ 0
  told x h := by
    have := rbytes_told x.1 x.2.1 x.2.2.1 x.2.2.2 h.1
    have hk : tkOk x.1 x.2.2.1 x.2.2.2 = false := by simp [tkOk, h.2]
    have e2 : tkF x.1 x.2.1 x.2.2.1 x.2.2.2 = x.2.1 := by funext j; simp only [tkF, hk, Bool.false_eq_true, if_false]
    simp only [tkB, tkN, tkL, tkE, e2, hk, h.2, Bool.false_eq_true, if_false] at this
    exact this
  ov _ := ⟨3, rfl⟩
  ob x b hb := by
    simp only [xfB, List.mem_cons, List.not_mem_nil, or_false] at hb
    rcases hb with rfl | rfl | rfl | rfl
    · exact rd_ownly ..
    · exact ro_ownly ..
    · exact ro_ownly ..
    · exact by_ownly ..
noncomputable def conXB1 : ConC Try.prog Empty := xfS.con ent35 fun I vs mem => match vs with
  | [p, .int _ n] => match pickRd mem p with
    | some (r, d, N, f, e) => some ((N, f, e, n), [r, d], [])
    | _ => none
  | _ => none
noncomputable def conXB : ConC Try.prog Empty := conXB0.or conXB1 rfl
noncomputable def xvS : Spec Try.prog Empty 33 where
  X := Nat × (Nat → Int) × Int
  us _ := []
  bls0 x := rd0 x.1 x.2.1 x.2.2
  args x := [.ptr (.own 0) 0 []]
  v x := .int .u64 0
  bls1 x := [rdB 2 x.1 x.2.2, roB x.1 x.2.1, roB x.1 x.2.1]
  c x := (∀ j, j < x.1 → 0 ≤ x.2.1 j ∧ x.2.1 j < 256) ∧ x.2.2 ≠ 0
  told x h := by
    have := ruint2_told x.1 x.2.1 x.2.2 h.1
    have hk : tkOk x.1 x.2.2 8 = false := by simp [tkOk, h.2]
    have e2 : tkF x.1 x.2.1 x.2.2 8 = x.2.1 := by funext j; simp only [tkF, hk, Bool.false_eq_true, if_false]
    have e3 : uintV x.1 x.2.1 x.2.2 = 0 := by simp only [uintV, hk, Bool.false_eq_true, if_false]
    simp only [uiB, tkN, tkE, e2, e3, hk, h.2, Bool.false_eq_true, if_false] at this
    exact this
  ov _ := trivial
  ob x b hb := by
    simp only [List.mem_cons, List.not_mem_nil, or_false] at hb
    rcases hb with rfl | rfl | rfl
    · exact rd_ownly ..
    · exact ro_ownly ..
    · exact ro_ownly ..
noncomputable def conXU1 : ConC Try.prog Empty := xvS.con ent33 pickR1
noncomputable def conXU : ConC Try.prog Empty := conXU0.or conXU1 rfl
end Go.Proofs.Ytjhjockdkpgpeaa.En

/- DERIVED. Sizes of a committee within its bounds. -/
set_option linter.all false
namespace Go.Proofs.Ytjhjockdkpgpeaa.En
open Go Go.RowKit

def advZ : Adv where
  il _ := true
  dec _ _ _ := none
  rc _ _ _ := true
  fz _ _ := false
  res _ _ := 20
noncomputable abbrev SZ : Sig Empty := sigOf (P := Try.prog) [] [] [] (I := noI) [] noMs advZ
theorem SZ_ok : SigOk Try.prog SZ := sigOf_ok [] [] [] [] (noMs_ok _) _ noI_ok
--@gen szr (n : Int) := runG Try.prog SZ 60 56 [] (startS Try.f56 [.int .i64 n] ([].map some)) .ret 0 [] 6 [(2, .int .i64 n)] ([].map some)
--@[
def szr_G (n : Int) : Prop := (if (512 : Int) < if n < (1 : Int) then (1 : Int) else n then     (512 : Int)   else if n < (1 : Int) then (1 : Int) else n) =   n
set_option maxRecDepth 100000 in
theorem szr (n : Int) : runG Try.prog SZ 60 56 [] (startS Try.f56 [.int .i64 n] ([].map some)) .ret 0 [] 6 [(2, .int .i64 n)] ([].map some) = some (some ((szr_G n))) := by kernel_rfl
--@]
theorem size_told (n : Int) (h : 1 ≤ n ∧ n ≤ 512) : ToldW Try.prog 56 [] [] [.int .i64 n] (.int .i64 n : LV Empty) [] := by
  refine toldW_body (fn := Try.f56) rfl rfl (.inr rfl) (B := 0) (nn := 6) (l := [(2, .int .i64 n)]) (cs := []) ?_ rfl rfl
  refine ExB.auto SZ_ok noI_ok rfl mixed 60 _ (szr n) ?_
  simp only [condOk, szr_G]
  (repeat' split) <;> omega
set_option maxRecDepth 100000 in
theorem ent56 : ∀ args w, (callFunc 56 args).run Try.prog w = .ok (.enter 56 args) w := ent_of (f := 56) (P := Try.prog) rfl rfl rfl
set_option maxRecDepth 100000 in
theorem ent41 : ∀ args w, (callFunc 41 args).run Try.prog w = .ok (.enter 41 args) w := ent_of (f := 41) (P := Try.prog) rfl rfl rfl
noncomputable def sizeS : Spec Try.prog Empty 56 where
  X := Int
  us _ := []
  bls0 _ := []
  args x := [.int .i64 x]
  v x := .int .i64 x
  bls1 _ := []
  c x := 1 ≤ x ∧ x ≤ 512
  told x h := size_told x h
  ov _ := trivial
  ob x b hb := by simp at hb
noncomputable def conSize : ConC Try.prog Empty := sizeS.con ent56 fun I vs mem => match vs with
  | [.int _ n] => some (n, [], [])
  | _ => none
noncomputable def optI (n : Int) : Int := 112 + ((n + 7) / 8 + 96) + 8
noncomputable abbrev sizesV (n : Int) : List (LV Empty) := [.int .i64 (112 + 48 * (n + 1) + 160), .int .i64 (optI n + 112 + 192 + 48 * (n + 1) + 160), .int .i64 (optI n + 112 + 192), .int .i64 (optI n)]
noncomputable abbrev SZ1 : Sig Empty := sigOf (P := Try.prog) [] [] [conSize] (I := noI) [] noMs { advZ with il := fun f => !Nat.beq f 56 }
theorem SZ1_ok : SigOk Try.prog SZ1 := sigOf_ok [] [] [conSize] [] (noMs_ok _) _ noI_ok
--@gen szs (n : Int) := runG Try.prog SZ1 60 41 [] (startS Try.f41 [.int .i64 n] ([].map some)) .ret 0 [] 34 [(2, .int .i64 (112 + 48 * (n + 1) + 160)), (3, .int .i64 (optI n + 112 + 192 + 48 * (n + 1) + 160)), (4, .int .i64 (optI n + 112 + 192)), (5, .int .i64 (optI n))] ([].map some)
--@[
def szs_G (n : Int) : Prop := ((n = n ∧ (1 : Int) ≤ n ∧ n ≤ (512 : Int)) ∧ true = true) ∧   IntKind.wrap IntKind.i64         (IntKind.wrap IntKind.i64             ((112 : Int) +               IntKind.wrap IntKind.i64                 ((48 : Int) * IntKind.wrap IntKind.i64 (n + (1 : Int)))) +           (160 : Int)) =       (112 : Int) + (48 : Int) * (n + (1 : Int)) + (160 : Int) ∧     IntKind.wrap IntKind.i64           (IntKind.wrap IntKind.i64               (IntKind.wrap IntKind.i64                   (IntKind.wrap IntKind.i64                       (IntKind.wrap IntKind.i64                           (IntKind.wrap IntKind.i64                               ((112 : Int) +                                 IntKind.wrap IntKind.i64                                   (IntKind.wrap IntKind.i64                                       (Int.tdiv (IntKind.wrap IntKind.i64 (n + (7 : Int)))                                         ((8 : Int))) +                                     (96 : Int))) +                             (8 : Int)) +                         (112 : Int)) +                     (192 : Int)) +                 IntKind.wrap IntKind.i64                   ((48 : Int) * IntKind.wrap IntKind.i64 (n + (1 : Int)))) +             (160 : Int)) =         optI n + (112 : Int) + (192 : Int) +             (48 : Int) * (n + (1 : Int)) +           (160 : Int) ∧       IntKind.wrap IntKind.i64             (IntKind.wrap IntKind.i64                 (IntKind.wrap IntKind.i64                     (IntKind.wrap IntKind.i64                         ((112 : Int) +                           IntKind.wrap IntKind.i64                             (IntKind.wrap IntKind.i64                                 (Int.tdiv (IntKind.wrap IntKind.i64 (n + (7 : Int)))                                   ((8 : Int))) +                               (96 : Int))) +                       (8 : Int)) +                   (112 : Int)) +               (192 : Int)) =           optI n + (112 : Int) + (192 : Int) ∧         IntKind.wrap IntKind.i64             (IntKind.wrap IntKind.i64                 ((112 : Int) +                   IntKind.wrap IntKind.i64                     (IntKind.wrap IntKind.i64                         (Int.tdiv (IntKind.wrap IntKind.i64 (n + (7 : Int))) ((8 : Int))) +                       (96 : Int))) +               (8 : Int)) =           optI n
set_option maxRecDepth 100000 in
theorem szs (n : Int) : runG Try.prog SZ1 60 41 [] (startS Try.f41 [.int .i64 n] ([].map some)) .ret 0 [] 34 [(2, .int .i64 (112 + 48 * (n + 1) + 160)), (3, .int .i64 (optI n + 112 + 192 + 48 * (n + 1) + 160)), (4, .int .i64 (optI n + 112 + 192)), (5, .int .i64 (optI n))] ([].map some) = some (some ((szs_G n))) := by kernel_rfl
--@]
theorem sizes_told (n : Int) (h : 1 ≤ n ∧ n ≤ 512) : ToldW Try.prog 41 [] [] [.int .i64 n] (.tup (sizesV n) : LV Empty) [] := by
  refine toldW_body (fn := Try.f41) rfl rfl (.inr rfl) (B := 0) (nn := 34) (l := [(2, .int .i64 (112 + 48 * (n + 1) + 160)), (3, .int .i64 (optI n + 112 + 192 + 48 * (n + 1) + 160)), (4, .int .i64 (optI n + 112 + 192)), (5, .int .i64 (optI n))]) (cs := []) ?_ rfl rfl
  refine ExB.auto SZ1_ok noI_ok rfl mixed 60 _ (szs n) ?_
  simp only [condOk, szs_G, optI]
  have h1 : IntKind.wrap .i64 (n + 1) = n + 1 := IntWalk.i64_in _ (by omega)
  have h2 : IntKind.wrap .i64 (48 * (n + 1)) = 48 * (n + 1) := IntWalk.i64_in _ (by omega)
  have h3 : IntKind.wrap .i64 (n + 7) = n + 7 := IntWalk.i64_in _ (by omega)
  have h4 : (n + 7).tdiv 8 = (n + 7) / 8 := Int.tdiv_eq_ediv_of_nonneg (by omega)
  simp only [h1, h2, h3, h4]
  have w : ∀ a : Int, 0 ≤ a → a < 2 ^ 62 → IntKind.wrap .i64 a = a := fun a h1 h2 => IntWalk.i64_in _ (by omega)
  and_intros <;> first | omega | rfl | (simp (disch := omega) only [w])
noncomputable def sizesS : Spec Try.prog Empty 41 where
  X := Int
  us _ := []
  bls0 _ := []
  args x := [.int .i64 x]
  v x := .tup (sizesV x)
  bls1 _ := []
  c x := 1 ≤ x ∧ x ≤ 512
  told x h := sizes_told x h
  ov _ := ⟨trivial, trivial, trivial, trivial, trivial⟩
  ob x b hb := by simp at hb
noncomputable def conSizes : ConC Try.prog Empty := sizesS.con ent41 fun I vs mem => match vs with
  | [.int _ n] => some (n, [], [])
  | _ => none
end Go.Proofs.Ytjhjockdkpgpeaa.En
