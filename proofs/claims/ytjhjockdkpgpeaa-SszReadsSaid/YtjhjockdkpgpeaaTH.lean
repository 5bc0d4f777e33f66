/- DERIVED. Contracts of a writer's calls. -/
import Derived.Test.YtjhjockdkpgpeaaTC
import Derived.Test.YtjhjockdkpgpeaaT9
set_option linter.all false
namespace Go.Proofs.Ytjhjockdkpgpeaa.En
open Go Go.RowKit

def catF (N : Nat) (f g : Nat → Int) (j : Nat) : Int := if j < N then f j else g (j - N)
theorem bif_lt {α : Type} (j N : Nat) (a b : α) : (bif Nat.blt j N then a else b) = if j < N then a else b := by
  by_cases h : j < N
  · rw [ltB h, if_pos h]; rfl
  · rw [blt_false h, if_neg h]; rfl
theorem same_cat (N : Nat) (f g : Nat → Int) (j : Nat) : Same (A := Empty) [.int .u8 (bif Nat.blt j N then f j else g (j - N))] [.int .u8 (catF N f g j)] :=
  Same.int (bif_lt ..)
noncomputable abbrev wB (k N : Nat) : Blk Empty := ⟨.rw, [.vec (.own k) N]⟩
noncomputable abbrev rowB (N : Nat) (f : Nat → Int) : Blk Empty := ⟨.row 5, bytesU N f⟩
noncomputable abbrev deadE : Blk Empty := ⟨.dead, []⟩
noncomputable abbrev w0 (N : Nat) (f : Nat → Int) : List (Blk Empty) := [wB 1 N, rowB N f]
noncomputable abbrev w1 (N : Nat) (f : Nat → Int) : List (Blk Empty) := [wB 2 N, deadE, rowB N f]
theorem w_ownly (k N : Nat) : ownlyL (wB k N).us := ⟨⟨k, rfl⟩, trivial⟩
theorem row_ownly (N : Nat) (f : Nat → Int) : ownlyL (rowB N f).us := ⟨fun _ => ⟨trivial, trivial⟩, trivial⟩
theorem w1_ob (N : Nat) (f : Nat → Int) : ∀ b ∈ w1 N f, ownlyL b.us := by
  intro b hb
  simp only [w1, List.mem_cons, List.not_mem_nil, or_false] at hb
  rcases hb with rfl | rfl | rfl
  · exact w_ownly ..
  · exact trivial
  · exact row_ownly ..
def advW : Adv where
  il _ := true
  dec f r i := none
  rc _ _ _ := true
  fz _ _ := false
  res _ _ := 20
noncomputable abbrev SW (I : Inp Empty) (ps : List (ConP Try.prog Empty)) (ls : List (LoopF Try.prog I)) : Sig Empty := sigOf (P := Try.prog) ps [] [] (I := I) ls noMs advW
theorem SW_ok {I : Inp Empty} (hI : InpOk I) (ps : List (ConP Try.prog Empty)) (ls : List (LoopF Try.prog I)) : SigOk Try.prog (SW I ps ls) := sigOf_ok ps [] [] ls (noMs_ok _) _ hI
/-- The writer that a pointer names. -/
def pickW (mem : Mem Empty) : LV Empty → Option (Nat × Nat × Nat × (Nat → Int))
  | .ptr (.own r) _ _ => match mem[r]? with
    | some (some ⟨_, [.vec (.own d) n]⟩) => match mem[d]? with
      | some (some ⟨_, [.rows _ _ g]⟩) => some (r, d, n, fun j => byteOf (g j))
      | _ => none
    | _ => none
  | _ => none

/-! ## Bytes -/
--@gen wby (N m : Nat) (f g : Nat → Int) := runG Try.prog (SW (inB m g) [] []) 50 18 [] (startS Try.f18 [.ptr (.own 0) 0 [], .vec (.inp 0 0) m] ((w0 N f).map some)) .normal 2 [some (.own 0), some (.own 1), some (.own 2)] 13 [] ((w1 (N + m) (catF N f g)).map some)
--@[
def wby_G (N m : Nat) (f g : Nat → Int) : Prop := ((Nat.ble m m = true ∧ (Nat.beq N N && Nat.ble ((N + m) * 1) 140737488355328) = true) ∧ true = true) ∧   N + m = N + m ∧     (N + m = N + m ∧         ∀ (i : Nat),           i < N + m →             Same (A := Empty) [LV.int IntKind.u8 (bif Nat.blt i N then f i else g (i - N))] [LV.int IntKind.u8 (catF N f g i)]) ∧       ∀ (i : Nat), plainL (A := Empty) [LV.int IntKind.u8 (catF N f g i)]
set_option maxRecDepth 100000 in
theorem wby (N m : Nat) (f g : Nat → Int) : runG Try.prog (SW (inB m g) [] []) 50 18 [] (startS Try.f18 [.ptr (.own 0) 0 [], .vec (.inp 0 0) m] ((w0 N f).map some)) .normal 2 [some (.own 0), some (.own 1), some (.own 2)] 13 [] ((w1 (N + m) (catF N f g)).map some) = some (some ((wby_G N m f g))) := by kernel_rfl
--@]
theorem wbytes_told (N m : Nat) (f g : Nat → Int) (h : N + m ≤ 2 ^ 46) : ToldW Try.prog 18 [bytesU m g] (w0 N f) [.ptr (.own 0) 0 [], .vec (.inp 0 0) m] (.tup []) (w1 (N + m) (catF N f g)) := by
  refine toldW_body (fn := Try.f18) rfl rfl (.inl rfl) (B := 2) (nn := 13) (l := []) (cs := []) ?_ rfl rfl
  refine ExB.auto (SW_ok (inB_ok m g) _ _) (inB_ok m g) rfl mixed 50 _ (wby N m f g) ?_
  simp only [condOk, wby_G]
  and_intros <;> first | exact fun j _ => same_cat N f g j | exact True.intro | omega | exact fun _ => ⟨trivial, trivial⟩ | exact fun _ _ => Same.refl _ | exact fun _ _ => Like.refl _ | (simp (disch := omega) only [true_and, and_true, Nat.beq_refl, Bool.true_and, decide_eq_true_eq, decide_eq_false_iff_not, beq_iff_eq, bne_iff_ne, beq_eq_false_iff_ne, bne_eq_false_iff_eq, ne_eq, Nat.blt_eq, Nat.ble_eq, Nat.beq_eq, Bool.and_eq_true, Bool.or_eq_true, IntKind.wrap_i64, IntKind.wrap_u64, IntKind.wrap_u8, IntKind.wrap_u32, Int.tdiv_eq_ediv_of_nonneg, Int.tmod_eq_emod_of_nonneg] <;> omega) | rfl | trivial
set_option maxRecDepth 100000 in
theorem ent18 : ∀ args w, (callFunc 18 args).run Try.prog w = .ok (.enter 18 args) w := ent_of (f := 18) (P := Try.prog) rfl rfl rfl
noncomputable def wbytesS : Spec Try.prog Empty 18 where
  X := Nat × (Nat → Int) × Nat × (Nat → Int)
  us x := [bytesU x.2.2.1 x.2.2.2]
  bls0 x := w0 x.1 x.2.1
  args x := [.ptr (.own 0) 0 [], .vec (.inp 0 0) x.2.2.1]
  v x := .tup []
  bls1 x := w1 (x.1 + x.2.2.1) (catF x.1 x.2.1 x.2.2.2)
  c x := x.1 + x.2.2.1 ≤ 2 ^ 46
  told x h := wbytes_told _ _ _ _ h
  ov _ := trivial
  ob x := w1_ob _ _
noncomputable def conWBytes : ConC Try.prog Empty := wbytesS.con ent18 fun I vs mem => match vs with
  | [p, q] => match pickW mem p, pickBy I mem q with
    | some (r, d, N, f), some (k, m, g) => some ((N, f, m, g), [r, d], [k])
    | _, _ => none
  | _ => none

/-! ## Uint -/
--@gen wui (N : Nat) (f : Nat → Int) (x : Int) := runG Try.prog (SW noI [conChunk] []) 50 15 [] (startS Try.f15 [.ptr (.own 0) 0 [], .int .u64 x] ((w0 N f).map some)) .normal 2 [some (.own 0), some (.own 1), some (.own 3)] 10 [] ((w1 (N + 8) (catF N f (chunkN x))).map some)
--@[
def wui_G (N : Nat) (f : Nat → Int) (x : Int) : Prop := (true = true ∧     true = true ∧       (true = true ∧ (Nat.beq N N && Nat.ble ((N + 8) * 1) 140737488355328) = true) ∧         true = true) ∧   N + 8 = N + 8 ∧     (N + 8 = N + 8 ∧         ∀ (i : Nat),           i < N + 8 →             Same (A := Empty) [LV.int IntKind.u8 (bif Nat.blt i N then f i else chunkN x (i - N))]               [LV.int IntKind.u8 (catF N f (chunkN x) i)]) ∧       ∀ (i : Nat), plainL (A := Empty) [LV.int IntKind.u8 (catF N f (chunkN x) i)]
set_option maxRecDepth 100000 in
theorem wui (N : Nat) (f : Nat → Int) (x : Int) : runG Try.prog (SW noI [conChunk] []) 50 15 [] (startS Try.f15 [.ptr (.own 0) 0 [], .int .u64 x] ((w0 N f).map some)) .normal 2 [some (.own 0), some (.own 1), some (.own 3)] 10 [] ((w1 (N + 8) (catF N f (chunkN x))).map some) = some (some ((wui_G N f x))) := by kernel_rfl
--@]
theorem wuint_told (N : Nat) (f : Nat → Int) (x : Int) (h : N ≤ 2 ^ 46) : ToldW Try.prog 15 [] (w0 N f) [.ptr (.own 0) 0 [], .int .u64 x] (.tup []) (w1 (N + 8) (catF N f (chunkN x))) := by
  refine toldW_body (fn := Try.f15) rfl rfl (.inl rfl) (B := 2) (nn := 10) (l := []) (cs := []) ?_ rfl rfl
  refine ExB.auto (SW_ok noI_ok _ _) noI_ok rfl mixed 50 _ (wui N f x) ?_
  simp only [condOk, wui_G]
  and_intros <;> first | exact fun j _ => same_cat N f (chunkN x) j | exact True.intro | omega | exact fun _ => ⟨trivial, trivial⟩ | exact fun _ _ => Same.refl _ | exact fun _ _ => Like.refl _ | (simp (disch := omega) only [true_and, and_true, Nat.beq_refl, Bool.true_and, decide_eq_true_eq, decide_eq_false_iff_not, beq_iff_eq, bne_iff_ne, beq_eq_false_iff_ne, bne_eq_false_iff_eq, ne_eq, Nat.blt_eq, Nat.ble_eq, Nat.beq_eq, Bool.and_eq_true, Bool.or_eq_true, IntKind.wrap_i64, IntKind.wrap_u64, IntKind.wrap_u8, IntKind.wrap_u32, Int.tdiv_eq_ediv_of_nonneg, Int.tmod_eq_emod_of_nonneg] <;> omega) | rfl | trivial
set_option maxRecDepth 100000 in
theorem ent15 : ∀ args w, (callFunc 15 args).run Try.prog w = .ok (.enter 15 args) w := ent_of (f := 15) (P := Try.prog) rfl rfl rfl
noncomputable def wuintS : Spec Try.prog Empty 15 where
  X := Nat × (Nat → Int) × Int
  us x := []
  bls0 x := w0 x.1 x.2.1
  args x := [.ptr (.own 0) 0 [], .int .u64 x.2.2]
  v x := .tup []
  bls1 x := w1 (x.1 + 8) (catF x.1 x.2.1 (chunkN x.2.2))
  c x := x.1 ≤ 2 ^ 46
  told x h := wuint_told _ _ _ h
  ov _ := trivial
  ob x := w1_ob _ _
noncomputable def conWUint : ConC Try.prog Empty := wuintS.con ent15 fun I vs mem => match vs with
  | [p, .int _ x] => match pickW mem p with
    | some (r, d, N, f) => some ((N, f, x), [r, d], [])
    | _ => none
  | _ => none

/-! ## All -/
--@gen wal (N : Nat) (f : Nat → Int) := runG Try.prog (SW noI [] []) 50 22 [] (startS Try.f22 [.ptr (.own 0) 0 []] ((w0 N f).map some)) .ret 2 [some (.own 0), some (.own 1), some (.own 2)] 8 [(2, .vec (.own 2) N)] ((w0 N f ++ [rowB N f]).map some)
--@[
def wal_G (N : Nat) (f : Nat → Int) : Prop := (Nat.ble N N = true ∧ Nat.ble (N * 1) 140737488355328 = true) ∧   N = N ∧     N = N ∧       ((N = N ∧ ∀ (i : Nat), i < N → Same (A := Empty) [LV.int IntKind.u8 (f i)] [LV.int IntKind.u8 (f i)]) ∧           ∀ (i : Nat), plainL (A := Empty) [LV.int IntKind.u8 (f i)]) ∧         (N = N ∧ ∀ (i : Nat), i < N → Same (A := Empty) [LV.int IntKind.u8 (f i)] [LV.int IntKind.u8 (f i)]) ∧           ∀ (i : Nat), plainL (A := Empty) [LV.int IntKind.u8 (f i)]
set_option maxRecDepth 100000 in
theorem wal (N : Nat) (f : Nat → Int) : runG Try.prog (SW noI [] []) 50 22 [] (startS Try.f22 [.ptr (.own 0) 0 []] ((w0 N f).map some)) .ret 2 [some (.own 0), some (.own 1), some (.own 2)] 8 [(2, .vec (.own 2) N)] ((w0 N f ++ [rowB N f]).map some) = some (some ((wal_G N f))) := by kernel_rfl
--@]
theorem wall_told (N : Nat) (f : Nat → Int) (h : N ≤ 2 ^ 46) : ToldW Try.prog 22 [] (w0 N f) [.ptr (.own 0) 0 []] (.vec (.own 2) N) (w0 N f ++ [rowB N f]) := by
  refine toldW_body (fn := Try.f22) rfl rfl (.inr rfl) (B := 2) (nn := 8) (l := [(2, .vec (.own 2) N)]) (cs := []) ?_ rfl rfl
  refine ExB.auto (SW_ok noI_ok _ _) noI_ok rfl mixed 50 _ (wal N f) ?_
  simp only [condOk, wal_G]
  (and_intros <;> first | exact True.intro | omega | exact fun _ => ⟨trivial, trivial⟩ | exact fun _ _ => Same.refl _ | exact fun _ _ => Like.refl _ | (simp (disch := omega) only [true_and, and_true, Nat.beq_refl, Bool.true_and, decide_eq_true_eq, decide_eq_false_iff_not, beq_iff_eq, bne_iff_ne, beq_eq_false_iff_ne, bne_eq_false_iff_eq, ne_eq, Nat.blt_eq, Nat.ble_eq, Nat.beq_eq, Bool.and_eq_true, Bool.or_eq_true, IntKind.wrap_i64, IntKind.wrap_u64, IntKind.wrap_u8, IntKind.wrap_u32, Int.tdiv_eq_ediv_of_nonneg, Int.tmod_eq_emod_of_nonneg] <;> omega) | rfl | trivial)
set_option maxRecDepth 100000 in
theorem ent22 : ∀ args w, (callFunc 22 args).run Try.prog w = .ok (.enter 22 args) w := ent_of (f := 22) (P := Try.prog) rfl rfl rfl
noncomputable def wallS : Spec Try.prog Empty 22 where
  X := Nat × (Nat → Int)
  us x := []
  bls0 x := w0 x.1 x.2
  args x := [.ptr (.own 0) 0 []]
  v x := .vec (.own 2) x.1
  bls1 x := w0 x.1 x.2 ++ [rowB x.1 x.2]
  c x := x.1 ≤ 2 ^ 46
  told x h := wall_told _ _ h
  ov _ := ⟨2, rfl⟩
  ob x b hb := by
    simp only [w0, List.cons_append, List.nil_append, List.mem_cons, List.not_mem_nil, or_false] at hb
    rcases hb with rfl | rfl | rfl
    · exact w_ownly ..
    · exact row_ownly ..
    · exact row_ownly ..
noncomputable def conWAll : ConC Try.prog Empty := wallS.con ent22 fun I vs mem => match vs with
  | [p] => match pickW mem p with
    | some (r, d, N, f) => some ((N, f), [r, d], [])
    | _ => none
  | _ => none

/-! ## Copy -/
--@gen cpy (m : Nat) (g : Nat → Int) := runG Try.prog (SW (inB m g) [] []) 50 17 [] (startS Try.f17 [.vec (.inp 0 0) m] ([].map some)) .ret 0 [some (.own 0)] 5 [(2, .vec (.own 0) m)] ([rowB m g].map some)
--@[
def cpy_G (m : Nat) (g : Nat → Int) : Prop := (Nat.ble m m = true ∧ Nat.ble (m * 1) 140737488355328 = true) ∧   m = m ∧     (m = m ∧ ∀ (i : Nat), i < m → Same (A := Empty) [LV.int IntKind.u8 (g i)] [LV.int IntKind.u8 (g i)]) ∧       ∀ (i : Nat), plainL (A := Empty) [LV.int IntKind.u8 (g i)]
set_option maxRecDepth 100000 in
theorem cpy (m : Nat) (g : Nat → Int) : runG Try.prog (SW (inB m g) [] []) 50 17 [] (startS Try.f17 [.vec (.inp 0 0) m] ([].map some)) .ret 0 [some (.own 0)] 5 [(2, .vec (.own 0) m)] ([rowB m g].map some) = some (some ((cpy_G m g))) := by kernel_rfl
--@]
theorem copy_told (m : Nat) (g : Nat → Int) (h : m ≤ 2 ^ 46) : ToldW Try.prog 17 [bytesU m g] [] [.vec (.inp 0 0) m] (.vec (.own 0) m) [rowB m g] := by
  refine toldW_body (fn := Try.f17) rfl rfl (.inr rfl) (B := 0) (nn := 5) (l := [(2, .vec (.own 0) m)]) (cs := []) ?_ rfl rfl
  refine ExB.auto (SW_ok (inB_ok m g) _ _) (inB_ok m g) rfl mixed 50 _ (cpy m g) ?_
  simp only [condOk, cpy_G]
  (and_intros <;> first | exact True.intro | omega | exact fun _ => ⟨trivial, trivial⟩ | exact fun _ _ => Same.refl _ | exact fun _ _ => Like.refl _ | (simp (disch := omega) only [true_and, and_true, Nat.beq_refl, Bool.true_and, decide_eq_true_eq, decide_eq_false_iff_not, beq_iff_eq, bne_iff_ne, beq_eq_false_iff_ne, bne_eq_false_iff_eq, ne_eq, Nat.blt_eq, Nat.ble_eq, Nat.beq_eq, Bool.and_eq_true, Bool.or_eq_true, IntKind.wrap_i64, IntKind.wrap_u64, IntKind.wrap_u8, IntKind.wrap_u32, Int.tdiv_eq_ediv_of_nonneg, Int.tmod_eq_emod_of_nonneg] <;> omega) | rfl | trivial)
set_option maxRecDepth 100000 in
theorem ent17 : ∀ args w, (callFunc 17 args).run Try.prog w = .ok (.enter 17 args) w := ent_of (f := 17) (P := Try.prog) rfl rfl rfl
noncomputable def copyS : Spec Try.prog Empty 17 where
  X := Nat × (Nat → Int)
  us x := [bytesU x.1 x.2]
  bls0 x := []
  args x := [.vec (.inp 0 0) x.1]
  v x := .vec (.own 0) x.1
  bls1 x := [rowB x.1 x.2]
  c x := x.1 ≤ 2 ^ 46
  told x h := copy_told _ _ h
  ov _ := ⟨0, rfl⟩
  ob x b hb := by
    simp only [List.mem_cons, List.not_mem_nil, or_false] at hb
    subst hb
    exact row_ownly ..
noncomputable def conCopy : ConC Try.prog Empty := copyS.con ent17 fun I vs mem => match vs with
  | [q] => match pickBy I mem q with
    | some (k, m, g) => some ((m, g), [], [k])
    | _ => none
  | _ => none

/-! ## the document's Uint -/
--@gen rui (N : Nat) (f : Nat → Int) (x : Int) := runG Try.prog (SW noI [] []) 100 16 [] (startS Try.f16 [.vec (.own 0) N, .int .u64 x] ([rowB N f].map some)) .ret 1 [some (.own 0), some (.own 16)] 19 [(4, .vec (.own 1) (N + 8))] ([deadE, rowB (N + 8) (catF N f (chunkN x))].map some)
--@[
def rui_G (N : Nat) (f : Nat → Int) (x : Int) : Prop := ((true = true ∧ true = true ∧ (Nat.beq N N && Nat.ble ((N + 1) * 1) 140737488355328) = true) ∧     (true = true ∧         true = true ∧           (Nat.beq (N + 1) (N + 1) &&               Nat.ble ((N + 1 + 1) * 1) 140737488355328) =             true) ∧       (true = true ∧           true = true ∧             (Nat.beq (N + 1 + 1) (N + 1 + 1) &&                 Nat.ble ((N + 1 + 1 + 1) * 1) 140737488355328) =               true) ∧         (true = true ∧             true = true ∧               (Nat.beq (N + 1 + 1 + 1) (N + 1 + 1 + 1) &&                   Nat.ble ((N + 1 + 1 + 1 + 1) * 1) 140737488355328) =                 true) ∧           (true = true ∧               true = true ∧                 (Nat.beq (N + 1 + 1 + 1 + 1)                       (N + 1 + 1 + 1 + 1) &&                     Nat.ble ((N + 1 + 1 + 1 + 1 + 1) * 1)                       140737488355328) =                   true) ∧             (true = true ∧                 true = true ∧                   (Nat.beq (N + 1 + 1 + 1 + 1 + 1)                         (N + 1 + 1 + 1 + 1 + 1) &&                       Nat.ble ((N + 1 + 1 + 1 + 1 + 1 + 1) * 1)                         140737488355328) =                     true) ∧               (true = true ∧                   true = true ∧                     (Nat.beq (N + 1 + 1 + 1 + 1 + 1 + 1)                           (N + 1 + 1 + 1 + 1 + 1 + 1) &&                         Nat.ble                           ((N + 1 + 1 + 1 + 1 + 1 + 1 + 1) *                             1)                           140737488355328) =                       true) ∧                 true = true ∧                   true = true ∧                     (Nat.beq (N + 1 + 1 + 1 + 1 + 1 + 1 + 1)                           (N + 1 + 1 + 1 + 1 + 1 + 1 + 1) &&                         Nat.ble                           ((N + 1 + 1 + 1 + 1 + 1 + 1 + 1 +                               1) *                             1)                           140737488355328) =                       true) ∧   N + 1 + 1 + 1 + 1 + 1 + 1 + 1 + 1 = N + 8 ∧     (N + 1 + 1 + 1 + 1 + 1 + 1 + 1 + 1 = N + 8 ∧         ∀ (i : Nat),           i < N + 8 →             Same (A := Empty) (mrgR (Nat.blt i (N + 1 + 1 + 1 + 1 + 1 + 1 + 1))                 (mrgR (Nat.blt i (N + 1 + 1 + 1 + 1 + 1 + 1))                   (mrgR (Nat.blt i (N + 1 + 1 + 1 + 1 + 1))                     (mrgR (Nat.blt i (N + 1 + 1 + 1 + 1))                       (mrgR (Nat.blt i (N + 1 + 1 + 1))                         (mrgR (Nat.blt i (N + 1 + 1))                           (mrgR (Nat.blt i (N + 1))                             (mrgR (Nat.blt i N) [LV.int IntKind.u8 (f i)]                               (List.getD                                 (List.set                                   (List.replicate 1 (units (LV.int IntKind.u8 ((0 : Int)))))                                   0                                   (units                                     (LV.int IntKind.u8                                       (IntKind.wrap IntKind.u8 (Int.fdiv x ((2 : Int) ^ 0))))))                                 (i - N) []))                             (List.getD                               (List.set (List.replicate 1 (units (LV.int IntKind.u8 ((0 : Int)))))                                 0                                 (units                                   (LV.int IntKind.u8                                     (IntKind.wrap IntKind.u8 (Int.fdiv x ((2 : Int) ^ 8))))))                               (i - (N + 1)) []))                           (List.getD                             (List.set (List.replicate 1 (units (LV.int IntKind.u8 ((0 : Int)))))                               0                               (units                                 (LV.int IntKind.u8                                   (IntKind.wrap IntKind.u8 (Int.fdiv x ((2 : Int) ^ 16))))))                             (i - (N + 1 + 1)) []))                         (List.getD                           (List.set (List.replicate 1 (units (LV.int IntKind.u8 ((0 : Int)))))                             0                             (units                               (LV.int IntKind.u8                                 (IntKind.wrap IntKind.u8 (Int.fdiv x ((2 : Int) ^ 24))))))                           (i - (N + 1 + 1 + 1)) []))                       (List.getD                         (List.set (List.replicate 1 (units (LV.int IntKind.u8 ((0 : Int)))))                           0                           (units                             (LV.int IntKind.u8                               (IntKind.wrap IntKind.u8 (Int.fdiv x ((2 : Int) ^ 32))))))                         (i - (N + 1 + 1 + 1 + 1)) []))                     (List.getD                       (List.set (List.replicate 1 (units (LV.int IntKind.u8 ((0 : Int)))))                         0                         (units                           (LV.int IntKind.u8                             (IntKind.wrap IntKind.u8 (Int.fdiv x ((2 : Int) ^ 40))))))                       (i - (N + 1 + 1 + 1 + 1 + 1)) []))                   (List.getD                     (List.set (List.replicate 1 (units (LV.int IntKind.u8 ((0 : Int)))))                       0                       (units                         (LV.int IntKind.u8                           (IntKind.wrap IntKind.u8 (Int.fdiv x ((2 : Int) ^ 48))))))                     (i - (N + 1 + 1 + 1 + 1 + 1 + 1)) []))                 (List.getD                   (List.set (List.replicate 1 (units (LV.int IntKind.u8 ((0 : Int))))) 0                     (units                       (LV.int IntKind.u8 (IntKind.wrap IntKind.u8 (Int.fdiv x ((2 : Int) ^ 56))))))                   (i - (N + 1 + 1 + 1 + 1 + 1 + 1 + 1)) []))               [LV.int IntKind.u8 (catF N f (chunkN x) i)]) ∧       ∀ (i : Nat), plainL (A := Empty) [LV.int IntKind.u8 (catF N f (chunkN x) i)]
set_option maxRecDepth 100000 in
theorem rui (N : Nat) (f : Nat → Int) (x : Int) : runG Try.prog (SW noI [] []) 100 16 [] (startS Try.f16 [.vec (.own 0) N, .int .u64 x] ([rowB N f].map some)) .ret 1 [some (.own 0), some (.own 16)] 19 [(4, .vec (.own 1) (N + 8))] ([deadE, rowB (N + 8) (catF N f (chunkN x))].map some) = some (some ((rui_G N f x))) := by kernel_rfl
--@]
theorem lay1 {N k M i : Nat} {e x : Int} {f : Nat → Int} (hi : i = M) (hM : M = N + k) (hk : k < 8) (he : e = IntKind.u8.wrap (x.fdiv (2 ^ (8 * k)))) : Same (A := Empty) (List.getD (List.set (List.replicate 1 (units (LV.int .u8 0))) 0 (units (LV.int .u8 e))) (i - M) []) [.int .u8 (catF N f (chunkN x) i)] := by
  subst hi hM he
  rw [Nat.sub_self]
  refine Same.int ?_
  simp only [catF, chunkN, show ¬ N + k < N by omega, if_false, show N + k - N = k by omega, hk, if_true]
theorem ruint_told (N : Nat) (f : Nat → Int) (x : Int) (h : N ≤ 2 ^ 46) : ToldW Try.prog 16 [] [rowB N f] [.vec (.own 0) N, .int .u64 x] (.vec (.own 1) (N + 8)) [deadE, rowB (N + 8) (catF N f (chunkN x))] := by
  refine toldW_body (fn := Try.f16) rfl rfl (.inr rfl) (B := 1) (nn := 19) (l := [(4, .vec (.own 1) (N + 8))]) (cs := []) ?_ rfl rfl
  refine ExB.auto (SW_ok noI_ok _ _) noI_ok rfl mixed 100 _ (rui N f x) ?_
  simp only [condOk, rui_G]
  refine ⟨?_, ?_, ⟨?_, fun i hi => ?_⟩, ?_⟩
  rotate_left 3
  · refine Same.lt (fun _ => ?_) fun _ => lay1 (k := 7) (by omega) rfl (by omega) rfl
    refine Same.lt (fun _ => ?_) fun _ => lay1 (k := 6) (by omega) rfl (by omega) rfl
    refine Same.lt (fun _ => ?_) fun _ => lay1 (k := 5) (by omega) rfl (by omega) rfl
    refine Same.lt (fun _ => ?_) fun _ => lay1 (k := 4) (by omega) rfl (by omega) rfl
    refine Same.lt (fun _ => ?_) fun _ => lay1 (k := 3) (by omega) rfl (by omega) rfl
    refine Same.lt (fun _ => ?_) fun _ => lay1 (k := 2) (by omega) rfl (by omega) rfl
    refine Same.lt (fun _ => ?_) fun _ => lay1 (k := 1) (by omega) rfl (by omega) rfl
    refine Same.lt (fun hj => ?_) fun _ => lay1 (k := 0) (by omega) rfl (by omega) rfl
    exact Same.int (by simp [catF, hj])
  all_goals (and_intros <;> first | exact True.intro | omega | exact fun _ => ⟨trivial, trivial⟩ | exact fun _ _ => Same.refl _ | exact fun _ _ => Like.refl _ | (simp (disch := omega) only [true_and, and_true, Nat.beq_refl, Bool.true_and, decide_eq_true_eq, decide_eq_false_iff_not, beq_iff_eq, bne_iff_ne, beq_eq_false_iff_ne, bne_eq_false_iff_eq, ne_eq, Nat.blt_eq, Nat.ble_eq, Nat.beq_eq, Bool.and_eq_true, Bool.or_eq_true, IntKind.wrap_i64, IntKind.wrap_u64, IntKind.wrap_u8, IntKind.wrap_u32, Int.tdiv_eq_ediv_of_nonneg, Int.tmod_eq_emod_of_nonneg] <;> omega) | rfl | trivial)
set_option maxRecDepth 100000 in
theorem ent16 : ∀ args w, (callFunc 16 args).run Try.prog w = .ok (.enter 16 args) w := ent_of (f := 16) (P := Try.prog) rfl rfl rfl
/-- A row that a slice names. -/
def pickRow (mem : Mem Empty) : LV Empty → Option (Nat × Nat × (Nat → Int))
  | .vec (.own k) n => match mem[k]? with
    | some (some ⟨_, [.rows _ _ g]⟩) => some (k, n, fun j => byteOf (g j))
    | _ => none
  | _ => none
noncomputable def ruintS : Spec Try.prog Empty 16 where
  X := Nat × (Nat → Int) × Int
  us x := []
  bls0 x := [rowB x.1 x.2.1]
  args x := [.vec (.own 0) x.1, .int .u64 x.2.2]
  v x := .vec (.own 1) (x.1 + 8)
  bls1 x := [deadE, rowB (x.1 + 8) (catF x.1 x.2.1 (chunkN x.2.2))]
  c x := x.1 ≤ 2 ^ 46
  told x h := ruint_told _ _ _ h
  ov _ := ⟨1, rfl⟩
  ob x b hb := by
    simp only [List.mem_cons, List.not_mem_nil, or_false] at hb
    rcases hb with rfl | rfl
    · exact trivial
    · exact row_ownly ..
noncomputable def conUintR : ConC Try.prog Empty := ruintS.con ent16 fun I vs mem => match vs with
  | [q, .int _ x] => match pickRow mem q with
    | some (k, m, g) => some ((m, g, x), [k], [])
    | _ => none
  | _ => none

/-! ## Spoil -/
def advS (a b : Bool) : Adv where
  il _ := true
  dec f r i := match f, r, i with
    | 19, 1, 3 => some a
    | 20, 2, 0 => some a
    | 20, 3, 2 => some b
    | _, _, _ => none
  rc _ _ _ := true
  fz _ _ := false
  res _ _ := 20
noncomputable abbrev SS (a b : Bool) (I : Inp Empty) (ls : List (LoopF Try.prog I)) : Sig Empty := sigOf (P := Try.prog) [] [] [] (I := I) ls noMs (advS a b)
theorem SS_ok (a b : Bool) {I : Inp Empty} (hI : InpOk I) (ls : List (LoopF Try.prog I)) : SigOk Try.prog (SS a b I ls) := sigOf_ok [] [] [] ls (noMs_ok _) _ hI
def xorTo (k : Nat) (f : Nat → Int) (j : Nat) : Int := if j < k then bits .xor .u8 (f j) 165 else f j
noncomputable abbrev spT (n k : Nat) : List (Nat × LV Empty) := [(0, .vec (.own 0) n), (2, .int .i64 (k : Int))]
noncomputable def spJ (n : Nat) (f : Nat → Int) (k : Nat) : LS Empty := ⟨tm 17 (spT n k), [some (rowB n (xorTo k f))], []⟩
--@gen sp1 (n k : Nat) (f : Nat → Int) := runG Try.prog (SS true false noI []) 40 19 [0, 0, 1] (spJ n f k) .normal 1 [some (.own 0)] 17 (spT n (k + 1)) [some (rowB n (xorTo (k + 1) f))]
--@[
def sp1_G (n k : Nat) (f : Nat → Int) : Prop := (decide ((↑k : Int) < (↑n : Int)) = true ∧     decide ((0 : Int) ≤ (↑k : Int) ∧ (↑k : Int) < (↑n : Int)) = true ∧       Nat.blt (Int.toNat (↑k : Int)) n = true ∧         decide ((0 : Int) ≤ (↑k : Int) ∧ (↑k : Int) < (↑n : Int)) = true ∧           Nat.blt (Int.toNat (↑k : Int)) n = true ∧             rowOk (Kd.row (5 : TypeId)) (bytesU n (xorTo k f))                 (setRows (bytesU n (xorTo k f)) 0 fun (j : Nat) =>                   mrgR (Nat.beq j (Int.toNat (↑k : Int)))                     (units                         (LV.int IntKind.u8                           (bits BinOp.xor IntKind.u8 (xorTo k f (Int.toNat (↑k : Int))) ((165 : Int)))) ++                       [])                     [LV.int IntKind.u8 (xorTo k f j)]) =               true) ∧   (n = n ∧ IntKind.wrap IntKind.i64 ((↑k : Int) + (1 : Int)) = (↑(k + 1) : Int)) ∧     (n = n ∧         ∀ (i : Nat),           i < n →             Same (A := Empty) [LV.int IntKind.u8                   (bif Nat.beq i (Int.toNat (↑k : Int)) then                     bits BinOp.xor IntKind.u8 (xorTo k f (Int.toNat (↑k : Int))) ((165 : Int))                   else xorTo k f i)]               [LV.int IntKind.u8 (xorTo (k + 1) f i)]) ∧       ∀ (i : Nat), plainL (A := Empty) [LV.int IntKind.u8 (xorTo (k + 1) f i)]
set_option maxRecDepth 100000 in
theorem sp1 (n k : Nat) (f : Nat → Int) : runG Try.prog (SS true false noI []) 40 19 [0, 0, 1] (spJ n f k) .normal 1 [some (.own 0)] 17 (spT n (k + 1)) [some (rowB n (xorTo (k + 1) f))] = some (some ((sp1_G n k f))) := by kernel_rfl
--@]
--@gen sp0 (n : Nat) (f : Nat → Int) := runG Try.prog (SS false false noI []) 40 19 [0, 0, 1] (spJ n f n) (.exit 0) 1 [some (.own 0)] 17 [] [some (rowB n (xorTo n f))]
--@[
def sp0_G (n : Nat) (f : Nat → Int) : Prop := decide ((↑n : Int) < (↑n : Int)) = false ∧   (n = n ∧ ∀ (i : Nat), i < n → Same (A := Empty) [LV.int IntKind.u8 (xorTo n f i)] [LV.int IntKind.u8 (xorTo n f i)]) ∧     ∀ (i : Nat), plainL (A := Empty) [LV.int IntKind.u8 (xorTo n f i)]
set_option maxRecDepth 100000 in
theorem sp0 (n : Nat) (f : Nat → Int) : runG Try.prog (SS false false noI []) 40 19 [0, 0, 1] (spJ n f n) (.exit 0) 1 [some (.own 0)] 17 [] [some (rowB n (xorTo n f))] = some (some ((sp0_G n f))) := by kernel_rfl
--@]
noncomputable def spE (n : Nat) (f : Nat → Int) : LS Empty := entry Try.prog (SS true false noI []) 40 19 [0, 1] [.vec (.own 0) n] [some (rowB n f)]
--@gen spI (n : Nat) (f : Nat → Int) := mS noI [some (.own 0)] (spE n f) 17 (spT n 0) [some (rowB n (xorTo 0 f))]
--@[
def spI_G (n : Nat) (f : Nat → Int) : Prop := (n = n ∧ (0 : Int) = (↑0 : Int)) ∧   (n = n ∧ ∀ (i : Nat), i < n → Same (A := Empty) [LV.int IntKind.u8 (f i)] [LV.int IntKind.u8 (xorTo 0 f i)]) ∧     ∀ (i : Nat), plainL (A := Empty) [LV.int IntKind.u8 (xorTo 0 f i)]
set_option maxRecDepth 100000 in
theorem spI (n : Nat) (f : Nat → Int) : mS noI [some (.own 0)] (spE n f) 17 (spT n 0) [some (rowB n (xorTo 0 f))] = some (some ((spI_G n f))) := by kernel_rfl
--@]

/-! ## a writer's Bits -/
noncomputable abbrev wbM (N m : Nat) (f g : Nat → Int) : Mem Empty := [wB 1 N, rowB N f, rowB m g].map some
noncomputable abbrev wbT (n m k : Nat) : List (Nat × LV Empty) := [(0, .ptr (.own 0) 0 []), (4, .vec (.own 2) m), (12, .vec (.inp 0 0) n), (13, .int .i64 (n : Int)), (14, .int .i64 (k : Int))]
noncomputable def wbJ (N m n : Nat) (f : Nat → Int) (l : Nat → Bool) (k : Nat) : LS Empty := ⟨tm 35 (wbT n m k), wbM N m f (packB l k), []⟩
--@gen wb1 (N m n k : Nat) (f : Nat → Int) (l : Nat → Bool) := runG Try.prog (SS true true (inL n l) []) 40 20 [0, 0, 1, 0, 1] (wbJ N m n f l k) .normal 3 [some (.own 0), some (.own 1), some (.own 2)] 35 (wbT n m (k + 1)) (wbM N m f (packB l (k + 1)))
--@[
def wb1_G (N m n k : Nat) (f : Nat → Int) (l : Nat → Bool) : Prop := (decide ((↑k : Int) < (↑n : Int)) = true ∧     (decide ((0 : Int) ≤ (↑k : Int) ∧ (↑k : Int) < (↑n : Int)) = true ∧         Nat.blt (Int.toNat (↑k : Int)) n = true ∧ l (Int.toNat (↑k : Int)) = true) ∧       true = true ∧         decide               ((0 : Int) ≤ IntKind.wrap IntKind.i64 (Int.tdiv (↑k : Int) ((8 : Int))) ∧                 IntKind.wrap IntKind.i64 (Int.tdiv (↑k : Int) ((8 : Int))) < (↑m : Int)) =             true ∧           Nat.blt (Int.toNat (IntKind.wrap IntKind.i64 (Int.tdiv (↑k : Int) ((8 : Int))))) m = true ∧             true = true ∧               true = true ∧                 decide                       ((0 : Int) ≤ IntKind.wrap IntKind.i64 (Int.tdiv (↑k : Int) ((8 : Int))) ∧                         IntKind.wrap IntKind.i64 (Int.tdiv (↑k : Int) ((8 : Int))) < (↑m : Int)) =                     true ∧                   Nat.blt (Int.toNat (IntKind.wrap IntKind.i64 (Int.tdiv (↑k : Int) ((8 : Int))))) m =                       true ∧                     rowOk (Kd.row (5 : TypeId)) (bytesU m (packB l k))                         (setRows (bytesU m (packB l k)) 0 fun (j : Nat) =>                           mrgR                             (Nat.beq j                               (Int.toNat (IntKind.wrap IntKind.i64 (Int.tdiv (↑k : Int) ((8 : Int))))))                             (units                                 (LV.int IntKind.u8                                   (bits BinOp.or IntKind.u8                                     (packB l k                                       (Int.toNat                                         (IntKind.wrap IntKind.i64 (Int.tdiv (↑k : Int) ((8 : Int))))))                                     (IntKind.wrap IntKind.u8                                       ((1 : Int) *                                         (2 : Int) ^                                           min                                             (Int.toNat                                               (IntKind.wrap IntKind.u64 (Int.tmod (↑k : Int) ((8 : Int)))))                                             8)))) ++                               [])                             [LV.int IntKind.u8 (packB l k j)]) =                       true) ∧   (m = m ∧       (0 = 0 ∧ n = n) ∧         (↑n : Int) = (↑n : Int) ∧           IntKind.wrap IntKind.i64 ((↑k : Int) + (1 : Int)) = (↑(k + 1) : Int)) ∧     N = N ∧       ((N = N ∧ ∀ (i : Nat), i < N → Same (A := Empty) [LV.int IntKind.u8 (f i)] [LV.int IntKind.u8 (f i)]) ∧           ∀ (i : Nat), plainL (A := Empty) [LV.int IntKind.u8 (f i)]) ∧         (m = m ∧             ∀ (i : Nat),               i < m →                 Same (A := Empty) [LV.int IntKind.u8                       (bif                           Nat.beq i                             (Int.toNat (IntKind.wrap IntKind.i64 (Int.tdiv (↑k : Int) ((8 : Int))))) then                         bits BinOp.or IntKind.u8                           (packB l k                             (Int.toNat (IntKind.wrap IntKind.i64 (Int.tdiv (↑k : Int) ((8 : Int))))))                           (IntKind.wrap IntKind.u8                             ((1 : Int) *                               (2 : Int) ^                                 min (Int.toNat (IntKind.wrap IntKind.u64 (Int.tmod (↑k : Int) ((8 : Int)))))                                   8))                       else packB l k i)]                   [LV.int IntKind.u8 (packB l (k + 1) i)]) ∧           ∀ (i : Nat), plainL (A := Empty) [LV.int IntKind.u8 (packB l (k + 1) i)]
set_option maxRecDepth 100000 in
theorem wb1 (N m n k : Nat) (f : Nat → Int) (l : Nat → Bool) : runG Try.prog (SS true true (inL n l) []) 40 20 [0, 0, 1, 0, 1] (wbJ N m n f l k) .normal 3 [some (.own 0), some (.own 1), some (.own 2)] 35 (wbT n m (k + 1)) (wbM N m f (packB l (k + 1))) = some (some ((wb1_G N m n k f l))) := by kernel_rfl
--@]
--@gen wb2 (N m n k : Nat) (f : Nat → Int) (l : Nat → Bool) := runG Try.prog (SS true false (inL n l) []) 40 20 [0, 0, 1, 0, 1] (wbJ N m n f l k) .normal 3 [some (.own 0), some (.own 1), some (.own 2)] 35 (wbT n m (k + 1)) (wbM N m f (packB l (k + 1)))
--@[
def wb2_G (N m n k : Nat) (f : Nat → Int) (l : Nat → Bool) : Prop := (decide ((↑k : Int) < (↑n : Int)) = true ∧     decide ((0 : Int) ≤ (↑k : Int) ∧ (↑k : Int) < (↑n : Int)) = true ∧       Nat.blt (Int.toNat (↑k : Int)) n = true ∧ l (Int.toNat (↑k : Int)) = false) ∧   (m = m ∧       (0 = 0 ∧ n = n) ∧         (↑n : Int) = (↑n : Int) ∧           IntKind.wrap IntKind.i64 ((↑k : Int) + (1 : Int)) = (↑(k + 1) : Int)) ∧     N = N ∧       ((N = N ∧ ∀ (i : Nat), i < N → Same (A := Empty) [LV.int IntKind.u8 (f i)] [LV.int IntKind.u8 (f i)]) ∧           ∀ (i : Nat), plainL (A := Empty) [LV.int IntKind.u8 (f i)]) ∧         (m = m ∧             ∀ (i : Nat),               i < m → Same (A := Empty) [LV.int IntKind.u8 (packB l k i)] [LV.int IntKind.u8 (packB l (k + 1) i)]) ∧           ∀ (i : Nat), plainL (A := Empty) [LV.int IntKind.u8 (packB l (k + 1) i)]
set_option maxRecDepth 100000 in
theorem wb2 (N m n k : Nat) (f : Nat → Int) (l : Nat → Bool) : runG Try.prog (SS true false (inL n l) []) 40 20 [0, 0, 1, 0, 1] (wbJ N m n f l k) .normal 3 [some (.own 0), some (.own 1), some (.own 2)] 35 (wbT n m (k + 1)) (wbM N m f (packB l (k + 1))) = some (some ((wb2_G N m n k f l))) := by kernel_rfl
--@]
--@gen wb3 (N m n : Nat) (f : Nat → Int) (l : Nat → Bool) := runG Try.prog (SS false false (inL n l) []) 40 20 [0, 0, 1, 0, 1] (wbJ N m n f l n) (.exit 0) 3 [some (.own 0), some (.own 1), some (.own 2)] 35 [(0, .ptr (.own 0) 0 []), (4, .vec (.own 2) m)] (wbM N m f (packB l n))
--@[
def wb3_G (N m n : Nat) (f : Nat → Int) (l : Nat → Bool) : Prop := decide ((↑n : Int) < (↑n : Int)) = false ∧   m = m ∧     N = N ∧       ((N = N ∧ ∀ (i : Nat), i < N → Same (A := Empty) [LV.int IntKind.u8 (f i)] [LV.int IntKind.u8 (f i)]) ∧           ∀ (i : Nat), plainL (A := Empty) [LV.int IntKind.u8 (f i)]) ∧         (m = m ∧ ∀ (i : Nat), i < m → Same (A := Empty) [LV.int IntKind.u8 (packB l n i)] [LV.int IntKind.u8 (packB l n i)]) ∧           ∀ (i : Nat), plainL (A := Empty) [LV.int IntKind.u8 (packB l n i)]
set_option maxRecDepth 100000 in
theorem wb3 (N m n : Nat) (f : Nat → Int) (l : Nat → Bool) : runG Try.prog (SS false false (inL n l) []) 40 20 [0, 0, 1, 0, 1] (wbJ N m n f l n) (.exit 0) 3 [some (.own 0), some (.own 1), some (.own 2)] 35 [(0, .ptr (.own 0) 0 []), (4, .vec (.own 2) m)] (wbM N m f (packB l n)) = some (some ((wb3_G N m n f l))) := by kernel_rfl
--@]
noncomputable def wbE (N n : Nat) (f : Nat → Int) (l : Nat → Bool) : LS Empty := entry Try.prog (SS true false (inL n l) []) 40 20 [0, 1, 0, 1] [.ptr (.own 0) 0 [], .vec (.inp 0 0) n] ((w0 N f).map some)
--@gen wbI (N n : Nat) (f : Nat → Int) (l : Nat → Bool) := mS (inL n l) [some (.own 0), some (.own 1), some (.own 2)] (wbE N n f l) 35 (wbT n (bytesN n) 0) (wbM N (bytesN n) f (packB l 0))
--@[
def wbI_G (N n : Nat) (f : Nat → Int) (l : Nat → Bool) : Prop := (Int.toNat         (IntKind.wrap IntKind.i64           (Int.tdiv (IntKind.wrap IntKind.i64 ((↑n : Int) + (7 : Int))) ((8 : Int)))) =       bytesN n ∧     (0 = 0 ∧ n = n) ∧ (↑n : Int) = (↑n : Int) ∧ (0 : Int) = (↑0 : Int)) ∧   N = N ∧     ((N = N ∧ ∀ (i : Nat), i < N → Same (A := Empty) [LV.int IntKind.u8 (f i)] [LV.int IntKind.u8 (f i)]) ∧         ∀ (i : Nat), plainL (A := Empty) [LV.int IntKind.u8 (f i)]) ∧       (Int.toNat               (IntKind.wrap IntKind.i64                 (Int.tdiv (IntKind.wrap IntKind.i64 ((↑n : Int) + (7 : Int))) ((8 : Int)))) =             bytesN n ∧           ∀ (i : Nat),             i < bytesN n →               Same (A := Empty) [LV.int IntKind.u8 ((0 : Int))] [LV.int IntKind.u8 ((0 : Int))]) ∧         ∀ (i : Nat), plainL (A := Empty) [LV.int IntKind.u8 ((0 : Int))]
set_option maxRecDepth 100000 in
theorem wbI (N n : Nat) (f : Nat → Int) (l : Nat → Bool) : mS (inL n l) [some (.own 0), some (.own 1), some (.own 2)] (wbE N n f l) 35 (wbT n (bytesN n) 0) (wbM N (bytesN n) f (packB l 0)) = some (some ((wbI_G N n f l))) := by kernel_rfl
--@]

theorem xorTo_zero (f : Nat → Int) : xorTo 0 f = f := funext fun j => by simp [xorTo]
set_option maxRecDepth 100000 in
theorem sp_code : codeAt Try.prog 19 [0, 1] = .loop (codeAt Try.prog 19 [0, 0, 1]) := by kernel_rfl
theorem sp_loop (n : Nat) (f : Nat → Int) (h : n ≤ 2 ^ 46) : ExB 1 Try.prog noI (codeAt Try.prog 19 [0, 1]) (spE n f) (.exit 0) ⟨tm 17 [], [some (rowB n (xorTo n f))], []⟩ := by
  refine ExB.enter (cs := []) noI_ok _ ?_ (spI n f) ?_ rfl
  · rw [sp_code]
    refine ExB.loop (by simp) (spJ n f) n (fun k hk => ExB.auto (SS_ok _ _ noI_ok _) noI_ok rfl mixed 40 _ (sp1 n k f) ?_) (ExB.auto (SS_ok _ _ noI_ok _) noI_ok rfl mixed 40 _ (sp0 n f) ?_)
    · simp only [condOk, sp1_G, Int.toNat_natCast]
      and_intros <;> first | exact rowOk_rows _ _ _ _ _ | (intro j hj; refine Same.int ?_; simp only [xorTo]; rcases Nat.lt_trichotomy j k with h1 | h1 | h1 <;> (try subst h1) <;> simp [Nat.beq_refl, Nat.beq_eq, *] <;> omega) | exact True.intro | omega | exact fun _ => ⟨trivial, trivial⟩ | exact fun _ _ => Same.refl _ | exact fun _ _ => Like.refl _ | (simp (disch := omega) only [true_and, and_true, Nat.beq_refl, Bool.true_and, decide_eq_true_eq, decide_eq_false_iff_not, beq_iff_eq, bne_iff_ne, beq_eq_false_iff_ne, bne_eq_false_iff_eq, ne_eq, Nat.blt_eq, Nat.ble_eq, Nat.beq_eq, Bool.and_eq_true, Bool.or_eq_true, IntKind.wrap_i64, IntKind.wrap_u64, IntKind.wrap_u8, IntKind.wrap_u32, Int.tdiv_eq_ediv_of_nonneg, Int.tmod_eq_emod_of_nonneg] <;> omega) | rfl | trivial
    · simp only [condOk, sp0_G]
      (and_intros <;> first | exact True.intro | omega | exact fun _ => ⟨trivial, trivial⟩ | exact fun _ _ => Same.refl _ | exact fun _ _ => Like.refl _ | (simp (disch := omega) only [true_and, and_true, Nat.beq_refl, Bool.true_and, decide_eq_true_eq, decide_eq_false_iff_not, beq_iff_eq, bne_iff_ne, beq_eq_false_iff_ne, bne_eq_false_iff_eq, ne_eq, Nat.blt_eq, Nat.ble_eq, Nat.beq_eq, Bool.and_eq_true, Bool.or_eq_true, IntKind.wrap_i64, IntKind.wrap_u64, IntKind.wrap_u8, IntKind.wrap_u32, Int.tdiv_eq_ediv_of_nonneg, Int.tmod_eq_emod_of_nonneg] <;> omega) | rfl | trivial)
  · simp only [condOk, spI_G, xorTo_zero]
    (and_intros <;> first | exact True.intro | omega | exact fun _ => ⟨trivial, trivial⟩ | exact fun _ _ => Same.refl _ | exact fun _ _ => Like.refl _ | (simp (disch := omega) only [true_and, and_true, Nat.beq_refl, Bool.true_and, decide_eq_true_eq, decide_eq_false_iff_not, beq_iff_eq, bne_iff_ne, beq_eq_false_iff_ne, bne_eq_false_iff_eq, ne_eq, Nat.blt_eq, Nat.ble_eq, Nat.beq_eq, Bool.and_eq_true, Bool.or_eq_true, IntKind.wrap_i64, IntKind.wrap_u64, IntKind.wrap_u8, IntKind.wrap_u32, Int.tdiv_eq_ediv_of_nonneg, Int.tmod_eq_emod_of_nonneg] <;> omega) | rfl | trivial)
set_option maxRecDepth 100000 in
theorem sp_grow (n : Nat) (f : Nat → Int) : growB (spE n f) ⟨tm 17 [], [some (rowB n (xorTo n f))], []⟩ = true := by kernel_rfl
set_option maxRecDepth 100000 in
theorem sp_one (n : Nat) (f : Nat → Int) : Nat.ble (spE n f).mem.length 1 = true := by kernel_rfl
noncomputable def spL (n : Nat) (f : Nat → Int) (h : n ≤ 2 ^ 46) : LoopF Try.prog noI := LoopF.of (sp_loop n f h) (sp_grow ..) (sp_one ..)
--@gen sp (n : Nat) (f : Nat → Int) (h : n ≤ 2 ^ 46) := runG Try.prog (SS false false noI [spL n f h]) 40 19 [] (startS Try.f19 [.vec (.own 0) n] ([rowB n f].map some)) .normal 1 [some (.own 0)] 17 [] ([rowB n (xorTo n f)].map some)
--@[
def sp_G (n : Nat) (f : Nat → Int) (h : n ≤ 2 ^ 46) : Prop := (LS.tmps (LoopF.s (spL n f h)) = LS.tmps (LoopF.s (spL n f h)) ∧     LS.mem (LoopF.s (spL n f h)) = LS.mem (LoopF.s (spL n f h))) ∧   (n = n ∧ ∀ (i : Nat), i < n → Same (A := Empty) [LV.int IntKind.u8 (xorTo n f i)] [LV.int IntKind.u8 (xorTo n f i)]) ∧     ∀ (i : Nat), plainL (A := Empty) [LV.int IntKind.u8 (xorTo n f i)]
set_option maxRecDepth 100000 in
theorem sp (n : Nat) (f : Nat → Int) (h : n ≤ 2 ^ 46) : runG Try.prog (SS false false noI [spL n f h]) 40 19 [] (startS Try.f19 [.vec (.own 0) n] ([rowB n f].map some)) .normal 1 [some (.own 0)] 17 [] ([rowB n (xorTo n f)].map some) = some (some ((sp_G n f h))) := by kernel_rfl
--@]
theorem spoil_told (n : Nat) (f : Nat → Int) (h : n ≤ 2 ^ 46) : ToldW Try.prog 19 [] [rowB n f] [.vec (.own 0) n] (.tup []) [rowB n (xorTo n f)] := by
  refine toldW_body (fn := Try.f19) rfl rfl (.inl rfl) (B := 1) (nn := 17) (l := []) (cs := []) ?_ rfl rfl
  refine ExB.auto (SS_ok _ _ noI_ok _) noI_ok rfl mixed 40 _ (sp n f h) ?_
  simp only [condOk, sp_G]
  (and_intros <;> first | exact True.intro | omega | exact fun _ => ⟨trivial, trivial⟩ | exact fun _ _ => Same.refl _ | exact fun _ _ => Like.refl _ | (simp (disch := omega) only [true_and, and_true, Nat.beq_refl, Bool.true_and, decide_eq_true_eq, decide_eq_false_iff_not, beq_iff_eq, bne_iff_ne, beq_eq_false_iff_ne, bne_eq_false_iff_eq, ne_eq, Nat.blt_eq, Nat.ble_eq, Nat.beq_eq, Bool.and_eq_true, Bool.or_eq_true, IntKind.wrap_i64, IntKind.wrap_u64, IntKind.wrap_u8, IntKind.wrap_u32, Int.tdiv_eq_ediv_of_nonneg, Int.tmod_eq_emod_of_nonneg] <;> omega) | rfl | trivial)
set_option maxRecDepth 100000 in
theorem ent19 : ∀ args w, (callFunc 19 args).run Try.prog w = .ok (.enter 19 args) w := ent_of (f := 19) (P := Try.prog) rfl rfl rfl
noncomputable def spoilS : Spec Try.prog Empty 19 where
  X := Nat × (Nat → Int)
  us x := []
  bls0 x := [rowB x.1 x.2]
  args x := [.vec (.own 0) x.1]
  v x := .tup []
  bls1 x := [rowB x.1 (xorTo x.1 x.2)]
  c x := x.1 ≤ 2 ^ 46
  told x h := spoil_told _ _ h
  ov _ := trivial
  ob x b hb := by
    simp only [List.mem_cons, List.not_mem_nil, or_false] at hb
    subst hb
    exact row_ownly ..
noncomputable def conSpoil : ConC Try.prog Empty := spoilS.con ent19 fun I vs mem => match vs with
  | [q] => match pickRow mem q with
    | some (k, m, g) => some ((m, g), [k], [])
    | _ => none
  | _ => none

/-! ## a writer's Bits: the call -/
theorem packB_step (l : Nat → Bool) (k j : Nat) (h : l k = true) : Same (A := Empty) [.int .u8 (bif Nat.beq j (k / 8) then bits .or .u8 (packB l k (k / 8)) (IntKind.u8.wrap (1 * 2 ^ min (k % 8) 8)) else packB l k j)] [.int .u8 (packB l (k + 1) j)] := by
  refine Same.int ?_
  by_cases hj : j = k / 8
  · subst hj
    simp [packB, h, bitW, Nat.beq_refl]
  · have : Nat.beq j (k / 8) = false := by
      cases hb : Nat.beq j (k / 8) with
      | true => exact absurd (beqN hb) hj
      | false => rfl
    simp [packB, h, hj, this]
set_option maxRecDepth 100000 in
theorem wb_code : codeAt Try.prog 20 [0, 1, 0, 1] = .loop (codeAt Try.prog 20 [0, 0, 1, 0, 1]) := by kernel_rfl
noncomputable abbrev wbZ (N m n : Nat) (f : Nat → Int) (l : Nat → Bool) : LS Empty := ⟨tm 35 [(0, .ptr (.own 0) 0 []), (4, .vec (.own 2) m)], wbM N m f (packB l n), []⟩
theorem wb_loop (N n : Nat) (f : Nat → Int) (l : Nat → Bool) (h : n ≤ 2 ^ 46) : ExB 3 Try.prog (inL n l) (codeAt Try.prog 20 [0, 1, 0, 1]) (wbE N n f l) (.exit 0) (wbZ N (bytesN n) n f l) := by
  have hm : n ≤ 8 * bytesN n := by unfold bytesN; omega
  refine ExB.enter (cs := []) (inL_ok n l) _ ?_ (wbI N n f l) ?_ rfl
  · rw [wb_code]
    refine ExB.loop (by simp) (wbJ N (bytesN n) n f l) n (fun k hk => ?_) (ExB.auto (SS_ok _ _ (inL_ok n l) _) (inL_ok n l) rfl mixed 40 _ (wb3 N (bytesN n) n f l) ?_)
    · have e1 := byteI_eq (k := k) (by omega)
      have e2 : byteI k = k / 8 := by unfold byteI; rw [e1]; omega
      have e3 := tmod8 k
      have e4 : IntKind.wrap IntKind.u64 ((k % 8 : Nat) : Int) = ((k % 8 : Nat) : Int) := IntWalk.u64_in _ (by omega)
      have e5 : IntKind.wrap IntKind.i64 ((k : Int) + 1) = ((k + 1 : Nat) : Int) := by rw [IntWalk.i64_in _ (by omega)]; rfl
      cases hl : l k with
      | true =>
        refine ExB.auto (SS_ok _ _ (inL_ok n l) _) (inL_ok n l) rfl mixed 40 _ (wb1 N (bytesN n) n k f l) ?_
        simp only [condOk, wb1_G, Int.toNat_natCast, e1, e3, e4, e5]
        and_intros <;> first | exact rowOk_rows _ _ _ _ _ | exact fun j _ => packB_step l k j hl | exact hl | exact True.intro | omega | exact fun _ => ⟨trivial, trivial⟩ | exact fun _ _ => Same.refl _ | exact fun _ _ => Like.refl _ | (simp (disch := omega) only [true_and, and_true, Nat.beq_refl, Bool.true_and, decide_eq_true_eq, decide_eq_false_iff_not, beq_iff_eq, bne_iff_ne, beq_eq_false_iff_ne, bne_eq_false_iff_eq, ne_eq, Nat.blt_eq, Nat.ble_eq, Nat.beq_eq, Bool.and_eq_true, Bool.or_eq_true, IntKind.wrap_i64, IntKind.wrap_u64, IntKind.wrap_u8, IntKind.wrap_u32, Int.tdiv_eq_ediv_of_nonneg, Int.tmod_eq_emod_of_nonneg] <;> omega) | rfl | trivial
      | false =>
        refine ExB.auto (SS_ok _ _ (inL_ok n l) _) (inL_ok n l) rfl mixed 40 _ (wb2 N (bytesN n) n k f l) ?_
        simp only [condOk, wb2_G, Int.toNat_natCast, e5]
        and_intros <;> first | exact hl | (intro j _; refine Same.int ?_; simp [packB, hl]; done) | exact True.intro | omega | exact fun _ => ⟨trivial, trivial⟩ | exact fun _ _ => Same.refl _ | exact fun _ _ => Like.refl _ | (simp (disch := omega) only [true_and, and_true, Nat.beq_refl, Bool.true_and, decide_eq_true_eq, decide_eq_false_iff_not, beq_iff_eq, bne_iff_ne, beq_eq_false_iff_ne, bne_eq_false_iff_eq, ne_eq, Nat.blt_eq, Nat.ble_eq, Nat.beq_eq, Bool.and_eq_true, Bool.or_eq_true, IntKind.wrap_i64, IntKind.wrap_u64, IntKind.wrap_u8, IntKind.wrap_u32, Int.tdiv_eq_ediv_of_nonneg, Int.tmod_eq_emod_of_nonneg] <;> omega) | rfl | trivial
    · simp only [condOk, wb3_G]
      (and_intros <;> first | exact True.intro | omega | exact fun _ => ⟨trivial, trivial⟩ | exact fun _ _ => Same.refl _ | exact fun _ _ => Like.refl _ | (simp (disch := omega) only [true_and, and_true, Nat.beq_refl, Bool.true_and, decide_eq_true_eq, decide_eq_false_iff_not, beq_iff_eq, bne_iff_ne, beq_eq_false_iff_ne, bne_eq_false_iff_eq, ne_eq, Nat.blt_eq, Nat.ble_eq, Nat.beq_eq, Bool.and_eq_true, Bool.or_eq_true, IntKind.wrap_i64, IntKind.wrap_u64, IntKind.wrap_u8, IntKind.wrap_u32, Int.tdiv_eq_ediv_of_nonneg, Int.tmod_eq_emod_of_nonneg] <;> omega) | rfl | trivial)
  · have h1 : IntKind.wrap IntKind.i64 (Int.tdiv (IntKind.wrap IntKind.i64 ((n : Int) + 7)) 8) = (bytesN n : Int) := lenB_eq (n := n) (by omega)
    simp only [condOk, wbI_G, h1, Int.toNat_natCast]
    (and_intros <;> first | exact True.intro | omega | exact fun _ => ⟨trivial, trivial⟩ | exact fun _ _ => Same.refl _ | exact fun _ _ => Like.refl _ | (simp (disch := omega) only [true_and, and_true, Nat.beq_refl, Bool.true_and, decide_eq_true_eq, decide_eq_false_iff_not, beq_iff_eq, bne_iff_ne, beq_eq_false_iff_ne, bne_eq_false_iff_eq, ne_eq, Nat.blt_eq, Nat.ble_eq, Nat.beq_eq, Bool.and_eq_true, Bool.or_eq_true, IntKind.wrap_i64, IntKind.wrap_u64, IntKind.wrap_u8, IntKind.wrap_u32, Int.tdiv_eq_ediv_of_nonneg, Int.tmod_eq_emod_of_nonneg] <;> omega) | rfl | trivial)
set_option maxRecDepth 100000 in
theorem wb_grow (N n : Nat) (f : Nat → Int) (l : Nat → Bool) (m : Nat) : growB (wbE N n f l) (wbZ N m n f l) = true := by kernel_rfl
set_option maxRecDepth 100000 in
theorem wb_three (N n : Nat) (f : Nat → Int) (l : Nat → Bool) : Nat.ble (wbE N n f l).mem.length 3 = true := by kernel_rfl
noncomputable def wbL (N n : Nat) (f : Nat → Int) (l : Nat → Bool) (h : n ≤ 2 ^ 46) : LoopF Try.prog (inL n l) := LoopF.of (wb_loop N n f l h) (wb_grow ..) (wb_three ..)
--@gen wb (N n : Nat) (f : Nat → Int) (l : Nat → Bool) (h : n ≤ 2 ^ 46) := runG Try.prog (SS false false (inL n l) [wbL N n f l h]) 60 20 [] (startS Try.f20 [.ptr (.own 0) 0 [], .vec (.inp 0 0) n] ((w0 N f).map some)) .normal 2 [some (.own 0), some (.own 1), some (.own 3)] 35 [] ((w1 (N + bytesN n) (catF N f (packB l n))).map some)
--@[
def wb_G (N n : Nat) (f : Nat → Int) (l : Nat → Bool) (h : n ≤ 2 ^ 46) : Prop := ((true = true ∧       decide           (IntKind.wrap IntKind.i64                 (Int.tdiv (IntKind.wrap IntKind.i64 ((↑n : Int) + (7 : Int))) ((8 : Int))) =               IntKind.wrap IntKind.i64                 (Int.tdiv (IntKind.wrap IntKind.i64 ((↑n : Int) + (7 : Int))) ((8 : Int))) ∧             (0 : Int) ≤                 IntKind.wrap IntKind.i64                   (Int.tdiv (IntKind.wrap IntKind.i64 ((↑n : Int) + (7 : Int))) ((8 : Int))) ∧               (↑1 : Int) *                   IntKind.wrap IntKind.i64                     (Int.tdiv (IntKind.wrap IntKind.i64 ((↑n : Int) + (7 : Int))) ((8 : Int))) ≤                 (2 : Int) ^ 48) =         true) ∧     (LS.tmps (LoopF.s (wbL N n f l h)) = LS.tmps (LoopF.s (wbL N n f l h)) ∧         LS.mem (LoopF.s (wbL N n f l h)) = LS.mem (LoopF.s (wbL N n f l h))) ∧       (Nat.ble (bytesN n) (bytesN n) = true ∧           (Nat.beq N N && Nat.ble ((N + bytesN n) * 1) 140737488355328) = true) ∧         true = true) ∧   N + bytesN n = N + bytesN n ∧     (N + bytesN n = N + bytesN n ∧         ∀ (i : Nat),           i < N + bytesN n →             Same (A := Empty) [LV.int IntKind.u8 (bif Nat.blt i N then f i else packB l n (i - N))]               [LV.int IntKind.u8 (catF N f (packB l n) i)]) ∧       ∀ (i : Nat), plainL (A := Empty) [LV.int IntKind.u8 (catF N f (packB l n) i)]
set_option maxRecDepth 100000 in
theorem wb (N n : Nat) (f : Nat → Int) (l : Nat → Bool) (h : n ≤ 2 ^ 46) : runG Try.prog (SS false false (inL n l) [wbL N n f l h]) 60 20 [] (startS Try.f20 [.ptr (.own 0) 0 [], .vec (.inp 0 0) n] ((w0 N f).map some)) .normal 2 [some (.own 0), some (.own 1), some (.own 3)] 35 [] ((w1 (N + bytesN n) (catF N f (packB l n))).map some) = some (some ((wb_G N n f l h))) := by kernel_rfl
--@]
theorem wbits_told (N n : Nat) (f : Nat → Int) (l : Nat → Bool) (h : n ≤ 2 ^ 46) (hN : N ≤ 2 ^ 45) : ToldW Try.prog 20 [boolsU n l] (w0 N f) [.ptr (.own 0) 0 [], .vec (.inp 0 0) n] (.tup []) (w1 (N + bytesN n) (catF N f (packB l n))) := by
  have h1 : IntKind.wrap IntKind.i64 (Int.tdiv (IntKind.wrap IntKind.i64 ((n : Int) + 7)) 8) = (bytesN n : Int) := lenB_eq (n := n) (by omega)
  have h2 : bytesN n ≤ 2 ^ 45 := by unfold bytesN; omega
  refine toldW_body (fn := Try.f20) rfl rfl (.inl rfl) (B := 2) (nn := 35) (l := []) (cs := []) ?_ rfl rfl
  refine ExB.auto (SS_ok _ _ (inL_ok n l) _) (inL_ok n l) rfl mixed 60 _ (wb N n f l h) ?_
  simp only [condOk, wb_G, h1]
  and_intros <;> first | exact fun j _ => same_cat N f (packB l n) j | exact True.intro | omega | exact fun _ => ⟨trivial, trivial⟩ | exact fun _ _ => Same.refl _ | exact fun _ _ => Like.refl _ | (simp (disch := omega) only [true_and, and_true, Nat.beq_refl, Bool.true_and, decide_eq_true_eq, decide_eq_false_iff_not, beq_iff_eq, bne_iff_ne, beq_eq_false_iff_ne, bne_eq_false_iff_eq, ne_eq, Nat.blt_eq, Nat.ble_eq, Nat.beq_eq, Bool.and_eq_true, Bool.or_eq_true, IntKind.wrap_i64, IntKind.wrap_u64, IntKind.wrap_u8, IntKind.wrap_u32, Int.tdiv_eq_ediv_of_nonneg, Int.tmod_eq_emod_of_nonneg] <;> omega) | rfl | trivial
set_option maxRecDepth 100000 in
theorem ent20 : ∀ args w, (callFunc 20 args).run Try.prog w = .ok (.enter 20 args) w := ent_of (f := 20) (P := Try.prog) rfl rfl rfl
/-- Bits that a slice names. -/
def pickBo (I : Inp Empty) (mem : Mem Empty) : LV Empty → Option (Key × Nat × (Nat → Bool))
  | .vec k n => match at? I mem k with
    | some ⟨_, [.rows _ _ g]⟩ => some (k, n, fun j => boolOf (g j))
    | _ => none
  | _ => none
noncomputable def wbitsS : Spec Try.prog Empty 20 where
  X := Nat × (Nat → Int) × Nat × (Nat → Bool)
  us x := [boolsU x.2.2.1 x.2.2.2]
  bls0 x := w0 x.1 x.2.1
  args x := [.ptr (.own 0) 0 [], .vec (.inp 0 0) x.2.2.1]
  v x := .tup []
  bls1 x := w1 (x.1 + bytesN x.2.2.1) (catF x.1 x.2.1 (packB x.2.2.2 x.2.2.1))
  c x := x.2.2.1 ≤ 2 ^ 46 ∧ x.1 ≤ 2 ^ 45
  told x h := wbits_told _ _ _ _ h.1 h.2
  ov _ := trivial
  ob x := w1_ob _ _
noncomputable def conWBits : ConC Try.prog Empty := wbitsS.con ent20 fun I vs mem => match vs with
  | [p, q] => match pickW mem p, pickBo I mem q with
    | some (r, d, N, f), some (k, m, g) => some ((N, f, m, g), [r, d], [k])
    | _, _ => none
  | _ => none
end Go.Proofs.Ytjhjockdkpgpeaa.En
