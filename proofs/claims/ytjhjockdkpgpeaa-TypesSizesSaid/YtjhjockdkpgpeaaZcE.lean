/- DERIVED. Texts laid together: TQ TJ TK TU TV TR TW VSW TL TM TX TY TZ U1 U2 U3 U4. -/
import Derived.Test.YtjhjockdkpgpeaaZcD
import Derived.SizedLaws
import Derived.DataReads
/- DERIVED. What is read, step by step. -/
set_option linter.all false
namespace Go.Proofs.Ytjhjockdkpgpeaa.En
open Go Go.RowKit

/-! ## a reader's error, where nothing else is told -/
def errFn (mem : Mem Empty) : List (LV Empty) → Option (LV Empty × Nat × Nat × Nat × Int)
  | [.ptr (.own r) o []] => match Nat.beq o 0, mem[r]? with
    | true, some (some ⟨kd, [.vec (.own d) N, .int .i64 e]⟩) => match mem[d]? with
      | some (some b) => match isDead kd || isDead b.kd with
        | false => some (.int .i64 e, r, d, N, e)
        | true => none
      | _ => none
    | _, _ => none
  | _ => none
theorem errFn_spec {mem : Mem Empty} {vs : List (LV Empty)} {v : LV Empty} {r d N : Nat} {e : Int} (h : errFn mem vs = some (v, r, d, N, e)) :
    vs = [.ptr (.own r) 0 []] ∧ v = .int .i64 e ∧ ∃ kd b, mem[r]? = some (some ⟨kd, [.vec (.own d) N, .int .i64 e]⟩) ∧ mem[d]? = some (some b) ∧ isDead kd = false ∧ isDead b.kd = false := by
  unfold errFn at h
  split at h
  · split at h
    · rename_i ho hm
      split at h
      · rename_i b hb
        split at h
        · rename_i hd
          cases h
          rw [Bool.or_eq_false_iff] at hd
          rw [beqN ho]
          exact ⟨rfl, rfl, _, b, hm, hb, hd.1, hd.2⟩
        · cases h
      · cases h
    · cases h
  · cases h
noncomputable abbrev inE (N : Nat) (e : Int) : Inp Empty := inOf [[.vec (.inp 0 1) N, .int .i64 e]]
theorem inE_ok (N : Nat) (e : Int) : InpOk (inE N e) := by
  intro x y
  match x, y with
  | 0, 0 => exact ⟨trivial, trivial, trivial⟩
  | 0, y + 1 => exact trivial
  | x + 1, y => exact trivial
noncomputable abbrev SEr (N : Nat) (e : Int) : Sig Empty := sigOf (P := Try.prog) [] [] [] (I := inE N e) [] noMs { advE false false with rc := fun _ _ _ => false }
set_option maxRecDepth 100000 in
theorem err_run (N : Nat) (e : Int) : (callF Try.prog (SEr N e) 40 39 [.ptr (.inp 0 0) 0 []] []).map (fun r => (r.1, r.2.2)) = some (.int .i64 e, none) := by kernel_rfl
def ρE (ρ : Key → Loc) (r d : Nat) : Key → Loc
  | .inp 0 0 => ρ (.own r)
  | .inp 0 1 => ρ (.own d)
  | _ => ⟨0, 0, 0, true, none⟩
noncomputable def conErrL : ConR Try.prog Empty where
  f := 39
  fn I vs mem := match errFn mem vs with
    | some (v, _) => some v
    | none => none
  ent := ent39
  kin I vs mem v h p := by
    split at h
    · rename_i v' q he
      obtain ⟨r, d, N, e⟩ := q
      cases h
      obtain ⟨_, rfl, _⟩ := errFn_spec he
      trivial
    · cases h
  call I hI vs mem v h ρ w hm hkv hkb := by
    split at h
    · rename_i v' q he
      obtain ⟨r, d, N, e⟩ := q
      cases h
      obtain ⟨rfl, rfl, kd, b, h1, h2, h3, h4⟩ := errFn_spec he
      have hcap : N ≤ (ρ (.own d)).cap := (hkb (.own r) _ (at_own h1)).1
      have := calls_top (sigOf_ok [] [] [] [] (noMs_ok _) _ (inE_ok N e) : SigOk Try.prog (SEr N e)) mixed (err_run N e) trivial (ρ := ρE ρ r d) (w := w) (memRel_nil _ _ _ (fun t i j u hu => ?_) (fun t i hn => ?_) (fun k hk => ?_) (fun t i hn => ?_)) ⟨Nat.zero_le _, trivial⟩ (fun t i => ?_) fun _ _ => rfl
      · exact this
      · match t, i with
        | 0, 0 => exact hm.cell (.own r) _ (at_own h1) j u hu
        | 0, i + 1 => exact absurd (show (([] : List Value))[j]? = some u from hu) (by simp)
        | t + 1, i => exact absurd (show (([] : List Value))[j]? = some u from hu) (by simp)
      · match t, i with
        | 0, 0 => exact hm.inb (.own r) _ (at_own h1) h3 hn
        | 0, 1 => exact hm.inb (.own d) _ (at_own h2) h4 hn
        | 0, i + 2 => cases hn
        | t + 1, i => cases hn
      · match k with
        | .own k => rfl
        | .inp 0 0 => exact hm.nilc _ hk
        | .inp 0 1 => exact hm.nilc _ hk
        | .inp 0 (i + 2) => rfl
        | .inp (t + 1) i => rfl
      · match t, i with
        | 0, 0 => have := hm.empt (.own r) _ (at_own h1) hn; simp [cszL, csz] at this
        | 0, i + 1 => rfl
        | t + 1, i => rfl
      · match t, i with
        | 0, 0 => exact ⟨hcap, trivial, trivial⟩
        | 0, i + 1 => trivial
        | t + 1, i => trivial
    · cases h

/-! ## the steps -/
structure RdS where
  N : Nat
  f : Nat → Int
  e : Int
def rdNext (s : Stps) (k : Nat) (r : RdS) : RdS :=
  ⟨if s.W k = 0 then tkN r.N r.e 8 else if s.W k = 1 then tkN r.N r.e (s.K k) else if s.W k = 2 then rdN r.N r.f r.e (s.K k) else r.N,
   if s.W k = 0 then tkF r.N r.f r.e 8 else if s.W k = 1 then tkF r.N r.f r.e (s.K k) else if s.W k = 2 then rdF r.N r.f r.e (s.K k) else r.f,
   if s.W k = 0 then tkE r.N r.e 8 else if s.W k = 1 then tkE r.N r.e (s.K k) else if s.W k = 2 then rdE r.N r.f r.e (s.K k) else r.e⟩
def rdSt (s : Stps) : Nat → RdS
  | 0 => ⟨s.m, s.g, 0⟩
  | k + 1 => rdNext s k (rdSt s k)
def advRd (a b c : Bool) : Adv where
  il f := Nat.beq f 14
  dec f r i := match f, r, i with
    | 6, 7, 3 => some true
    | 6, 11, 0 => some a
    | 6, 13, 0 => some b
    | 6, 15, 0 => some c
    | 6, 12, 4 => some true
    | 6, 17, 9 => some false
    | _, _, _ => none
  rc _ _ _ := true
  fz _ _ := false
  res _ _ := 8
  pl f r := match f, r with
    | 6, 14 => true
    | 6, 16 => true
    | _, _ => false
noncomputable abbrev SRd (a b c : Bool) (s : Stps) (ls : List (LoopF Try.prog (inS s))) : Sig Empty := sigOf (P := Try.prog) [conKnown] [conErrL] [conRUint, conQUint, conRBytes, conQBytes, conRBits, conQBits, conHBits, conBytes, conREnd, conNew] (I := inS s) ls noMs (advRd a b c)
theorem SRd_ok (a b c : Bool) (s : Stps) (ls : List (LoopF Try.prog (inS s))) : SigOk Try.prog (SRd a b c s ls) := sigOf_ok _ _ _ ls (noMs_ok _) _ (inS_ok s)
noncomputable abbrev rsM (s : Stps) (r : RdS) : Mem Empty := [rdB 3 r.N r.e, roB s.m s.g, rdB 4 r.N r.e, roB r.N r.f, roB r.N r.f].map some
noncomputable abbrev rsT (s : Stps) (k : Nat) : List (Nat × LV Empty) := [(0, .vec (.inp 0 1) s.m), (1, .vec (.inp 0 0) s.n), (5, .ptr (.own 0) 0 []), (6, .ptr (.own 2) 0 []), (7, .int .i64 (k : Int))]
noncomputable def rsJ (s : Stps) (k : Nat) : LS Empty := ⟨tm 106 (rsT s k), rsM s (rdSt s k), []⟩
abbrev pathRs : List Nat := [0, 0, 1, 0, 1, 1, 1, 1]
noncomputable abbrev rsRun (a b c : Bool) (s : Stps) (k : Nat) := exec Try.prog (SRd a b c s []) 60 6 pathRs (codeAt Try.prog 6 pathRs) (rsJ s k)
end Go.Proofs.Ytjhjockdkpgpeaa.En

/- DERIVED. What is written, step by step. -/
set_option linter.all false
namespace Go.Proofs.Ytjhjockdkpgpeaa.En
open Go Go.RowKit

/-- What is written. -/
def pieceN (s : Stps) (k : Nat) : Nat := if s.W k = 0 then 8 else if s.W k = 1 then s.lb k else if s.W k = 2 then bytesN (s.ll k) else 0
def pieceF (s : Stps) (k : Nat) : Nat → Int := if s.W k = 0 then chunkN (s.X k) else if s.W k = 1 then s.B k else packB (s.L k) (s.ll k)
def outN (s : Stps) : Nat → Nat
  | 0 => 0
  | k + 1 => outN s k + pieceN s k
def outF (s : Stps) : Nat → Nat → Int
  | 0 => fun _ => 0
  | k + 1 => catF (outN s k) (outF s k) (pieceF s k)
def advWr (a b c : Bool) : Adv where
  il f := Nat.beq f 14
  dec f r i := match f, r, i with
    | 3, 8, 3 => some true
    | 3, 11, 0 => some a
    | 3, 14, 0 => some b
    | 3, 19, 0 => some c
    | _, _, _ => none
  rc _ _ _ := true
  fz _ _ := false
  res _ _ := 8
noncomputable abbrev SWr (a b c : Bool) (s : Stps) (ls : List (LoopF Try.prog (inS s))) : Sig Empty := sigOf (P := Try.prog) [conKnown] [] [conWUint, conUintR, conCopy, conWBytes, conSpoil, conWBits, conBitsR, conWAll, conBytes] (I := inS s) ls noMs (advWr a b c)
theorem SWr_ok (a b c : Bool) (s : Stps) (ls : List (LoopF Try.prog (inS s))) : SigOk Try.prog (SWr a b c s ls) := sigOf_ok _ _ _ ls (noMs_ok _) _ (inS_ok s)
noncomputable abbrev wrM (N : Nat) (f : Nat → Int) : Mem Empty := [wB 1 N, rowB N f, rowB N f].map some
noncomputable abbrev wrT (s : Stps) (N k : Nat) : List (Nat × LV Empty) := [(0, .vec (.inp 0 0) s.n), (3, .ptr (.own 0) 0 []), (4, .vec (.own 2) N), (5, .int .i64 (k : Int))]
noncomputable def wrJ (s : Stps) (k : Nat) : LS Empty := ⟨tm 81 (wrT s (outN s k) k), wrM (outN s k) (outF s k), []⟩
noncomputable abbrev wrRun (a b c : Bool) (s : Stps) (k : Nat) := exec Try.prog (SWr a b c s []) 60 3 [0, 0, 1, 0, 1, 1, 1, 1, 1] (codeAt Try.prog 3 [0, 0, 1, 0, 1, 1, 1, 1, 1]) (wrJ s k)
abbrev pathWr : List Nat := [0, 0, 1, 0, 1, 1, 1, 1, 1]
--@gen wrg0 (s : Stps) (k : Nat) := runG Try.prog (SWr true false false s []) 60 3 pathWr (wrJ s k) .normal 1 [some (.own 0), some (.own 3), some (.own 4)] 81 (wrT s (outN s (k + 1)) (k + 1)) (wrM (outN s (k + 1)) (outF s (k + 1)))
--@[
def wrg0_G (s : Stps) (k : Nat) : Prop := (decide ((↑k : Int) < (↑(Stps.n s) : Int)) = true ∧     (decide ((0 : Int) ≤ (↑k : Int) ∧ (↑k : Int) < (↑(Stps.n s) : Int)) = true ∧         Nat.blt (Int.toNat (↑k : Int)) (Stps.n s) = true) ∧       (Stps.W s (Int.toNat (↑k : Int)) == (0 : Int)) = true ∧         (decide ((0 : Int) ≤ (↑k : Int) ∧ (↑k : Int) < (↑(Stps.n s) : Int)) = true ∧             Nat.blt (Int.toNat (↑k : Int)) (Stps.n s) = true ∧               Stps.X s (Int.toNat (↑k : Int)) = Stps.X s (Int.toNat (↑k : Int)) ∧                 (outN s k = outN s k ∧                     (outN s k = outN s k ∧                         ∀ (i : Nat),                           i < outN s k → Same (A := Empty) [LV.int IntKind.u8 (outF s k i)] [LV.int IntKind.u8 (outF s k i)]) ∧                       ∀ (i : Nat), plainL (A := Empty) [LV.int IntKind.u8 (outF s k i)]) ∧                   outN s k ≤ 70368744177664) ∧           (decide ((0 : Int) ≤ (↑k : Int) ∧ (↑k : Int) < (↑(Stps.n s) : Int)) = true ∧               Nat.blt (Int.toNat (↑k : Int)) (Stps.n s) = true ∧                 (outN s k = outN s k ∧ Stps.X s (Int.toNat (↑k : Int)) = Stps.X s (Int.toNat (↑k : Int))) ∧                   ((outN s k = outN s k ∧                         ∀ (i : Nat),                           i < outN s k → Same (A := Empty) [LV.int IntKind.u8 (outF s k i)] [LV.int IntKind.u8 (outF s k i)]) ∧                       ∀ (i : Nat), plainL (A := Empty) [LV.int IntKind.u8 (outF s k i)]) ∧                     outN s k ≤ 70368744177664) ∧             ((outN s k + 8 = outN s k + 8 ∧                   (outN s k + 8 = outN s k + 8 ∧                       ∀ (i : Nat),                         i < outN s k + 8 →                           Same (A := Empty) [LV.int IntKind.u8                                 (catF (outN s k) (outF s k) (chunkN (Stps.X s (Int.toNat (↑k : Int)))) i)]                             [LV.int IntKind.u8                                 (catF (outN s k) (outF s k) (chunkN (Stps.X s (Int.toNat (↑k : Int)))) i)]) ∧                     ∀ (i : Nat),                       plainL (A := Empty) [LV.int IntKind.u8 (catF (outN s k) (outF s k) (chunkN (Stps.X s (Int.toNat (↑k : Int)))) i)]) ∧                 outN s k + 8 ≤ 70368744177664) ∧               ((outN s k + 8 = outN s k + 8 ∧                     ∀ (j : Nat),                       j < outN s k + 8 →                         Like (A := Empty) [LV.int IntKind.u8 (catF (outN s k) (outF s k) (chunkN (Stps.X s (Int.toNat (↑k : Int)))) j)]                           [LV.int IntKind.u8                               (catF (outN s k) (outF s k) (chunkN (Stps.X s (Int.toNat (↑k : Int)))) j)]) ∧                   (outN s k + 8 = outN s k + 8 ∧                       ∀ (j : Nat),                         j < outN s k + 8 →                           Like (A := Empty) [LV.int IntKind.u8                                 (catF (outN s k) (outF s k) (chunkN (Stps.X s (Int.toNat (↑k : Int)))) j)]                             [LV.int IntKind.u8                                 (catF (outN s k) (outF s k) (chunkN (Stps.X s (Int.toNat (↑k : Int)))) j)]) ∧                     sameB (outN s k + 8) (catF (outN s k) (outF s k) (chunkN (Stps.X s (Int.toNat (↑k : Int)))))                       (outN s k + 8) (catF (outN s k) (outF s k) (chunkN (Stps.X s (Int.toNat (↑k : Int)))))) ∧                 outN s k + 8 = outN s k + 8 ∧                   ((outN s k + 8 = outN s k + 8 ∧                         ∀ (i : Nat),                           i < outN s k + 8 →                             Same (A := Empty) [LV.int IntKind.u8                                   (catF (outN s k) (outF s k) (chunkN (Stps.X s (Int.toNat (↑k : Int)))) i)]                               [LV.int IntKind.u8                                   (catF (outN s k) (outF s k) (chunkN (Stps.X s (Int.toNat (↑k : Int)))) i)]) ∧                       ∀ (i : Nat),                         plainL (A := Empty) [LV.int IntKind.u8                               (catF (outN s k) (outF s k) (chunkN (Stps.X s (Int.toNat (↑k : Int)))) i)]) ∧                     outN s k + 8 ≤ 70368744177664) ∧   ((0 = 0 ∧ Stps.n s = Stps.n s) ∧       outN s k + 8 = outN s (k + 1) ∧         IntKind.wrap IntKind.i64 ((↑k : Int) + (1 : Int)) = (↑(k + 1) : Int)) ∧     outN s k + 8 = outN s (k + 1) ∧       ((outN s k + 8 = outN s (k + 1) ∧             ∀ (i : Nat),               i < outN s (k + 1) →                 Same (A := Empty) [LV.int IntKind.u8 (catF (outN s k) (outF s k) (chunkN (Stps.X s (Int.toNat (↑k : Int)))) i)]                   [LV.int IntKind.u8 (outF s (k + 1) i)]) ∧           ∀ (i : Nat), plainL (A := Empty) [LV.int IntKind.u8 (outF s (k + 1) i)]) ∧         (outN s k + 8 = outN s (k + 1) ∧             ∀ (i : Nat),               i < outN s (k + 1) →                 Same (A := Empty) [LV.int IntKind.u8 (catF (outN s k) (outF s k) (chunkN (Stps.X s (Int.toNat (↑k : Int)))) i)]                   [LV.int IntKind.u8 (outF s (k + 1) i)]) ∧           ∀ (i : Nat), plainL (A := Empty) [LV.int IntKind.u8 (outF s (k + 1) i)]
set_option maxRecDepth 100000 in
theorem wrg0 (s : Stps) (k : Nat) : runG Try.prog (SWr true false false s []) 60 3 pathWr (wrJ s k) .normal 1 [some (.own 0), some (.own 3), some (.own 4)] 81 (wrT s (outN s (k + 1)) (k + 1)) (wrM (outN s (k + 1)) (outF s (k + 1))) = some (some ((wrg0_G s k))) := by kernel_rfl
--@]
--@gen wrg1 (s : Stps) (k : Nat) := runG Try.prog (SWr false true false s []) 60 3 pathWr (wrJ s k) .normal 1 [some (.own 0), some (.own 4), some (.own 5)] 81 (wrT s (outN s (k + 1)) (k + 1)) (wrM (outN s (k + 1)) (outF s (k + 1)))
--@[
def wrg1_G (s : Stps) (k : Nat) : Prop := (decide ((↑k : Int) < (↑(Stps.n s) : Int)) = true ∧     (decide ((0 : Int) ≤ (↑k : Int) ∧ (↑k : Int) < (↑(Stps.n s) : Int)) = true ∧         Nat.blt (Int.toNat (↑k : Int)) (Stps.n s) = true) ∧       (Stps.W s (Int.toNat (↑k : Int)) == (0 : Int)) = false ∧         (Stps.W s (Int.toNat (↑k : Int)) == (1 : Int)) = true ∧           (decide ((0 : Int) ≤ (↑k : Int) ∧ (↑k : Int) < (↑(Stps.n s) : Int)) = true ∧               Nat.blt (Int.toNat (↑k : Int)) (Stps.n s) = true ∧                 (Int.toNat (↑k : Int) = Int.toNat (↑k : Int) ∧                     Stps.lb s (Int.toNat (↑k : Int)) = Stps.lb s (Int.toNat (↑k : Int))) ∧                   ((Stps.lb s (Int.toNat (↑k : Int)) = Stps.lb s (Int.toNat (↑k : Int)) ∧                         ∀ (i : Nat),                           i < Stps.lb s (Int.toNat (↑k : Int)) →                             Same (A := Empty) [LV.int IntKind.u8 (Stps.B s (Int.toNat (↑k : Int)) i)]                               [LV.int IntKind.u8 (Stps.B s (Int.toNat (↑k : Int)) i)]) ∧                       ∀ (i : Nat), plainL (A := Empty) [LV.int IntKind.u8 (Stps.B s (Int.toNat (↑k : Int)) i)]) ∧                     Stps.lb s (Int.toNat (↑k : Int)) ≤ 70368744177664) ∧             (Stps.lb s (Int.toNat (↑k : Int)) = Stps.lb s (Int.toNat (↑k : Int)) ∧                 (outN s k = outN s k ∧                     (outN s k = outN s k ∧                         ∀ (i : Nat),                           i < outN s k → Same (A := Empty) [LV.int IntKind.u8 (outF s k i)] [LV.int IntKind.u8 (outF s k i)]) ∧                       ∀ (i : Nat), plainL (A := Empty) [LV.int IntKind.u8 (outF s k i)]) ∧                   ((Stps.lb s (Int.toNat (↑k : Int)) = Stps.lb s (Int.toNat (↑k : Int)) ∧                         ∀ (i : Nat),                           i < Stps.lb s (Int.toNat (↑k : Int)) →                             Same (A := Empty) [LV.int IntKind.u8 (Stps.B s (Int.toNat (↑k : Int)) i)]                               [LV.int IntKind.u8 (Stps.B s (Int.toNat (↑k : Int)) i)]) ∧                       ∀ (i : Nat), plainL (A := Empty) [LV.int IntKind.u8 (Stps.B s (Int.toNat (↑k : Int)) i)]) ∧                     outN s k + Stps.lb s (Int.toNat (↑k : Int)) ≤ 70368744177664) ∧               (Stps.lb s (Int.toNat (↑k : Int)) = Stps.lb s (Int.toNat (↑k : Int)) ∧                   ((Stps.lb s (Int.toNat (↑k : Int)) = Stps.lb s (Int.toNat (↑k : Int)) ∧                         ∀ (i : Nat),                           i < Stps.lb s (Int.toNat (↑k : Int)) →                             Same (A := Empty) [LV.int IntKind.u8 (Stps.B s (Int.toNat (↑k : Int)) i)]                               [LV.int IntKind.u8 (Stps.B s (Int.toNat (↑k : Int)) i)]) ∧                       ∀ (i : Nat), plainL (A := Empty) [LV.int IntKind.u8 (Stps.B s (Int.toNat (↑k : Int)) i)]) ∧                     Stps.lb s (Int.toNat (↑k : Int)) ≤ 70368744177664) ∧                 (decide ((0 : Int) ≤ (↑k : Int) ∧ (↑k : Int) < (↑(Stps.n s) : Int)) = true ∧                     Nat.blt (Int.toNat (↑k : Int)) (Stps.n s) = true ∧                       Nat.ble (Stps.lb s (Int.toNat (↑k : Int))) (Stps.lb s (Int.toNat (↑k : Int))) = true ∧                         (Nat.beq (outN s k) (outN s k) &&                             Nat.ble ((outN s k + Stps.lb s (Int.toNat (↑k : Int))) * 1)                               140737488355328) =                           true) ∧                   ((outN s k + Stps.lb s (Int.toNat (↑k : Int)) = outN s k + Stps.lb s (Int.toNat (↑k : Int)) ∧                         (outN s k + Stps.lb s (Int.toNat (↑k : Int)) = outN s k + Stps.lb s (Int.toNat (↑k : Int)) ∧                             ∀ (i : Nat),                               i < outN s k + Stps.lb s (Int.toNat (↑k : Int)) →                                 Same (A := Empty) [LV.int IntKind.u8 (catF (outN s k) (outF s k) (Stps.B s (Int.toNat (↑k : Int))) i)]                                   [LV.int IntKind.u8                                       (catF (outN s k) (outF s k) (Stps.B s (Int.toNat (↑k : Int))) i)]) ∧                           ∀ (i : Nat),                             plainL (A := Empty) [LV.int IntKind.u8 (catF (outN s k) (outF s k) (Stps.B s (Int.toNat (↑k : Int))) i)]) ∧                       outN s k + Stps.lb s (Int.toNat (↑k : Int)) ≤ 70368744177664) ∧                     ((outN s k + Stps.lb s (Int.toNat (↑k : Int)) = outN s k + Stps.lb s (Int.toNat (↑k : Int)) ∧                           ∀ (j : Nat),                             j < outN s k + Stps.lb s (Int.toNat (↑k : Int)) →                               Like (A := Empty) [LV.int IntKind.u8 (catF (outN s k) (outF s k) (Stps.B s (Int.toNat (↑k : Int))) j)]                                 [LV.int IntKind.u8 (catF (outN s k) (outF s k) (Stps.B s (Int.toNat (↑k : Int))) j)]) ∧                         (outN s k + Stps.lb s (Int.toNat (↑k : Int)) = outN s k + Stps.lb s (Int.toNat (↑k : Int)) ∧                             ∀ (j : Nat),                               j < outN s k + Stps.lb s (Int.toNat (↑k : Int)) →                                 Like (A := Empty) [LV.int IntKind.u8                                       (bif Nat.blt j (outN s k) then outF s k j                                       else Stps.B s (Int.toNat (↑k : Int)) (j - outN s k))]                                   [LV.int IntKind.u8                                       (bif Nat.blt j (outN s k) then outF s k j                                       else Stps.B s (Int.toNat (↑k : Int)) (j - outN s k))]) ∧                           sameB (outN s k + Stps.lb s (Int.toNat (↑k : Int)))                             (catF (outN s k) (outF s k) (Stps.B s (Int.toNat (↑k : Int))))                             (outN s k + Stps.lb s (Int.toNat (↑k : Int))) fun (j : Nat) =>                             bif Nat.blt j (outN s k) then outF s k j                             else Stps.B s (Int.toNat (↑k : Int)) (j - outN s k)) ∧                       outN s k + Stps.lb s (Int.toNat (↑k : Int)) = outN s k + Stps.lb s (Int.toNat (↑k : Int)) ∧                         ((outN s k + Stps.lb s (Int.toNat (↑k : Int)) = outN s k + Stps.lb s (Int.toNat (↑k : Int)) ∧                               ∀ (i : Nat),                                 i < outN s k + Stps.lb s (Int.toNat (↑k : Int)) →                                   Same (A := Empty) [LV.int IntKind.u8 (catF (outN s k) (outF s k) (Stps.B s (Int.toNat (↑k : Int))) i)]                                     [LV.int IntKind.u8                                         (catF (outN s k) (outF s k) (Stps.B s (Int.toNat (↑k : Int))) i)]) ∧                             ∀ (i : Nat),                               plainL (A := Empty) [LV.int IntKind.u8 (catF (outN s k) (outF s k) (Stps.B s (Int.toNat (↑k : Int))) i)]) ∧                           outN s k + Stps.lb s (Int.toNat (↑k : Int)) ≤ 70368744177664) ∧   ((0 = 0 ∧ Stps.n s = Stps.n s) ∧       outN s k + Stps.lb s (Int.toNat (↑k : Int)) = outN s (k + 1) ∧         IntKind.wrap IntKind.i64 ((↑k : Int) + (1 : Int)) = (↑(k + 1) : Int)) ∧     outN s k + Stps.lb s (Int.toNat (↑k : Int)) = outN s (k + 1) ∧       ((outN s k + Stps.lb s (Int.toNat (↑k : Int)) = outN s (k + 1) ∧             ∀ (i : Nat),               i < outN s (k + 1) →                 Same (A := Empty) [LV.int IntKind.u8 (catF (outN s k) (outF s k) (Stps.B s (Int.toNat (↑k : Int))) i)]                   [LV.int IntKind.u8 (outF s (k + 1) i)]) ∧           ∀ (i : Nat), plainL (A := Empty) [LV.int IntKind.u8 (outF s (k + 1) i)]) ∧         (outN s k + Stps.lb s (Int.toNat (↑k : Int)) = outN s (k + 1) ∧             ∀ (i : Nat),               i < outN s (k + 1) →                 Same (A := Empty) [LV.int IntKind.u8                       (bif Nat.blt i (outN s k) then outF s k i else Stps.B s (Int.toNat (↑k : Int)) (i - outN s k))]                   [LV.int IntKind.u8 (outF s (k + 1) i)]) ∧           ∀ (i : Nat), plainL (A := Empty) [LV.int IntKind.u8 (outF s (k + 1) i)]
set_option maxRecDepth 100000 in
theorem wrg1 (s : Stps) (k : Nat) : runG Try.prog (SWr false true false s []) 60 3 pathWr (wrJ s k) .normal 1 [some (.own 0), some (.own 4), some (.own 5)] 81 (wrT s (outN s (k + 1)) (k + 1)) (wrM (outN s (k + 1)) (outF s (k + 1))) = some (some ((wrg1_G s k))) := by kernel_rfl
--@]
--@gen wrg2 (s : Stps) (k : Nat) := runG Try.prog (SWr false false true s []) 60 3 pathWr (wrJ s k) .normal 1 [some (.own 0), some (.own 3), some (.own 5)] 81 (wrT s (outN s (k + 1)) (k + 1)) (wrM (outN s (k + 1)) (outF s (k + 1)))
--@[
def wrg2_G (s : Stps) (k : Nat) : Prop := (decide ((↑k : Int) < (↑(Stps.n s) : Int)) = true ∧     (decide ((0 : Int) ≤ (↑k : Int) ∧ (↑k : Int) < (↑(Stps.n s) : Int)) = true ∧         Nat.blt (Int.toNat (↑k : Int)) (Stps.n s) = true) ∧       (Stps.W s (Int.toNat (↑k : Int)) == (0 : Int)) = false ∧         (Stps.W s (Int.toNat (↑k : Int)) == (1 : Int)) = false ∧           (Stps.W s (Int.toNat (↑k : Int)) == (2 : Int)) = true ∧             (decide ((0 : Int) ≤ (↑k : Int) ∧ (↑k : Int) < (↑(Stps.n s) : Int)) = true ∧                 Nat.blt (Int.toNat (↑k : Int)) (Stps.n s) = true ∧                   (Int.toNat (↑k : Int) = Int.toNat (↑k : Int) ∧                       Stps.ll s (Int.toNat (↑k : Int)) = Stps.ll s (Int.toNat (↑k : Int))) ∧                     (outN s k = outN s k ∧                         (outN s k = outN s k ∧                             ∀ (i : Nat),                               i < outN s k → Same (A := Empty) [LV.int IntKind.u8 (outF s k i)] [LV.int IntKind.u8 (outF s k i)]) ∧                           ∀ (i : Nat), plainL (A := Empty) [LV.int IntKind.u8 (outF s k i)]) ∧                       ((Stps.ll s (Int.toNat (↑k : Int)) = Stps.ll s (Int.toNat (↑k : Int)) ∧                             ∀ (i : Nat),                               i < Stps.ll s (Int.toNat (↑k : Int)) →                                 Same (A := Empty) [LV.bool (Stps.L s (Int.toNat (↑k : Int)) i)]                                   [LV.bool (Stps.L s (Int.toNat (↑k : Int)) i)]) ∧                           ∀ (i : Nat), plainL (A := Empty) [LV.bool (Stps.L s (Int.toNat (↑k : Int)) i)]) ∧                         Stps.ll s (Int.toNat (↑k : Int)) ≤ 70368744177664 ∧ outN s k ≤ 35184372088832) ∧               (decide ((0 : Int) ≤ (↑k : Int) ∧ (↑k : Int) < (↑(Stps.n s) : Int)) = true ∧                   Nat.blt (Int.toNat (↑k : Int)) (Stps.n s) = true ∧                     ((Stps.ll s (Int.toNat (↑k : Int)) = Stps.ll s (Int.toNat (↑k : Int)) ∧                           ∀ (j : Nat),                             j < Stps.ll s (Int.toNat (↑k : Int)) →                               Like (A := Empty) [LV.bool (Stps.L s (Int.toNat (↑k : Int)) j)]                                 [LV.bool (Stps.L s (Int.toNat (↑k : Int)) j)]) ∧                         Stps.ll s (Int.toNat (↑k : Int)) ≤ 1125899906842624) ∧                       Nat.ble (bytesN (Stps.ll s (Int.toNat (↑k : Int)))) (bytesN (Stps.ll s (Int.toNat (↑k : Int)))) =                           true ∧                         (Nat.beq (outN s k) (outN s k) &&                             Nat.ble ((outN s k + bytesN (Stps.ll s (Int.toNat (↑k : Int)))) * 1)                               140737488355328) =                           true) ∧                 ((outN s k + bytesN (Stps.ll s (Int.toNat (↑k : Int))) =                         outN s k + bytesN (Stps.ll s (Int.toNat (↑k : Int))) ∧                       (outN s k + bytesN (Stps.ll s (Int.toNat (↑k : Int))) =                             outN s k + bytesN (Stps.ll s (Int.toNat (↑k : Int))) ∧                           ∀ (i : Nat),                             i < outN s k + bytesN (Stps.ll s (Int.toNat (↑k : Int))) →                               Same (A := Empty) [LV.int IntKind.u8                                     (catF (outN s k) (outF s k)                                       (packB (Stps.L s (Int.toNat (↑k : Int))) (Stps.ll s (Int.toNat (↑k : Int)))) i)]                                 [LV.int IntKind.u8                                     (catF (outN s k) (outF s k)                                       (packB (Stps.L s (Int.toNat (↑k : Int))) (Stps.ll s (Int.toNat (↑k : Int))))                                       i)]) ∧                         ∀ (i : Nat),                           plainL (A := Empty) [LV.int IntKind.u8                                 (catF (outN s k) (outF s k)                                   (packB (Stps.L s (Int.toNat (↑k : Int))) (Stps.ll s (Int.toNat (↑k : Int)))) i)]) ∧                     outN s k + bytesN (Stps.ll s (Int.toNat (↑k : Int))) ≤ 70368744177664) ∧                   ((outN s k + bytesN (Stps.ll s (Int.toNat (↑k : Int))) =                           outN s k + bytesN (Stps.ll s (Int.toNat (↑k : Int))) ∧                         ∀ (j : Nat),                           j < outN s k + bytesN (Stps.ll s (Int.toNat (↑k : Int))) →                             Like (A := Empty) [LV.int IntKind.u8                                   (catF (outN s k) (outF s k)                                     (packB (Stps.L s (Int.toNat (↑k : Int))) (Stps.ll s (Int.toNat (↑k : Int)))) j)]                               [LV.int IntKind.u8                                   (catF (outN s k) (outF s k)                                     (packB (Stps.L s (Int.toNat (↑k : Int))) (Stps.ll s (Int.toNat (↑k : Int)))) j)]) ∧                       (outN s k + bytesN (Stps.ll s (Int.toNat (↑k : Int))) =                             outN s k + bytesN (Stps.ll s (Int.toNat (↑k : Int))) ∧                           ∀ (j : Nat),                             j < outN s k + bytesN (Stps.ll s (Int.toNat (↑k : Int))) →                               Like (A := Empty) [LV.int IntKind.u8                                     (bif Nat.blt j (outN s k) then outF s k j                                     else                                       packB (Stps.L s (Int.toNat (↑k : Int))) (Stps.ll s (Int.toNat (↑k : Int)))                                         (j - outN s k))]                                 [LV.int IntKind.u8                                     (bif Nat.blt j (outN s k) then outF s k j                                     else                                       packB (Stps.L s (Int.toNat (↑k : Int))) (Stps.ll s (Int.toNat (↑k : Int)))                                         (j - outN s k))]) ∧                         sameB (outN s k + bytesN (Stps.ll s (Int.toNat (↑k : Int))))                           (catF (outN s k) (outF s k)                             (packB (Stps.L s (Int.toNat (↑k : Int))) (Stps.ll s (Int.toNat (↑k : Int)))))                           (outN s k + bytesN (Stps.ll s (Int.toNat (↑k : Int)))) fun (j : Nat) =>                           bif Nat.blt j (outN s k) then outF s k j                           else                             packB (Stps.L s (Int.toNat (↑k : Int))) (Stps.ll s (Int.toNat (↑k : Int))) (j - outN s k)) ∧                     outN s k + bytesN (Stps.ll s (Int.toNat (↑k : Int))) =                         outN s k + bytesN (Stps.ll s (Int.toNat (↑k : Int))) ∧                       ((outN s k + bytesN (Stps.ll s (Int.toNat (↑k : Int))) =                               outN s k + bytesN (Stps.ll s (Int.toNat (↑k : Int))) ∧                             ∀ (i : Nat),                               i < outN s k + bytesN (Stps.ll s (Int.toNat (↑k : Int))) →                                 Same (A := Empty) [LV.int IntKind.u8                                       (catF (outN s k) (outF s k)                                         (packB (Stps.L s (Int.toNat (↑k : Int))) (Stps.ll s (Int.toNat (↑k : Int)))) i)]                                   [LV.int IntKind.u8                                       (catF (outN s k) (outF s k)                                         (packB (Stps.L s (Int.toNat (↑k : Int))) (Stps.ll s (Int.toNat (↑k : Int))))                                         i)]) ∧                           ∀ (i : Nat),                             plainL (A := Empty) [LV.int IntKind.u8                                   (catF (outN s k) (outF s k)                                     (packB (Stps.L s (Int.toNat (↑k : Int))) (Stps.ll s (Int.toNat (↑k : Int)))) i)]) ∧                         outN s k + bytesN (Stps.ll s (Int.toNat (↑k : Int))) ≤ 70368744177664) ∧   ((0 = 0 ∧ Stps.n s = Stps.n s) ∧       outN s k + bytesN (Stps.ll s (Int.toNat (↑k : Int))) = outN s (k + 1) ∧         IntKind.wrap IntKind.i64 ((↑k : Int) + (1 : Int)) = (↑(k + 1) : Int)) ∧     outN s k + bytesN (Stps.ll s (Int.toNat (↑k : Int))) = outN s (k + 1) ∧       ((outN s k + bytesN (Stps.ll s (Int.toNat (↑k : Int))) = outN s (k + 1) ∧             ∀ (i : Nat),               i < outN s (k + 1) →                 Same (A := Empty) [LV.int IntKind.u8                       (catF (outN s k) (outF s k)                         (packB (Stps.L s (Int.toNat (↑k : Int))) (Stps.ll s (Int.toNat (↑k : Int)))) i)]                   [LV.int IntKind.u8 (outF s (k + 1) i)]) ∧           ∀ (i : Nat), plainL (A := Empty) [LV.int IntKind.u8 (outF s (k + 1) i)]) ∧         (outN s k + bytesN (Stps.ll s (Int.toNat (↑k : Int))) = outN s (k + 1) ∧             ∀ (i : Nat),               i < outN s (k + 1) →                 Same (A := Empty) [LV.int IntKind.u8                       (bif Nat.blt i (outN s k) then outF s k i                       else packB (Stps.L s (Int.toNat (↑k : Int))) (Stps.ll s (Int.toNat (↑k : Int))) (i - outN s k))]                   [LV.int IntKind.u8 (outF s (k + 1) i)]) ∧           ∀ (i : Nat), plainL (A := Empty) [LV.int IntKind.u8 (outF s (k + 1) i)]
set_option maxRecDepth 100000 in
theorem wrg2 (s : Stps) (k : Nat) : runG Try.prog (SWr false false true s []) 60 3 pathWr (wrJ s k) .normal 1 [some (.own 0), some (.own 3), some (.own 5)] 81 (wrT s (outN s (k + 1)) (k + 1)) (wrM (outN s (k + 1)) (outF s (k + 1))) = some (some ((wrg2_G s k))) := by kernel_rfl
--@]
--@gen wrg3 (s : Stps) (k : Nat) := runG Try.prog (SWr false false false s []) 60 3 pathWr (wrJ s k) .normal 1 [some (.own 0), some (.own 1), some (.own 2)] 81 (wrT s (outN s (k + 1)) (k + 1)) (wrM (outN s (k + 1)) (outF s (k + 1)))
--@[
def wrg3_G (s : Stps) (k : Nat) : Prop := (decide ((↑k : Int) < (↑(Stps.n s) : Int)) = true ∧     (decide ((0 : Int) ≤ (↑k : Int) ∧ (↑k : Int) < (↑(Stps.n s) : Int)) = true ∧         Nat.blt (Int.toNat (↑k : Int)) (Stps.n s) = true) ∧       (Stps.W s (Int.toNat (↑k : Int)) == (0 : Int)) = false ∧         (Stps.W s (Int.toNat (↑k : Int)) == (1 : Int)) = false ∧           (Stps.W s (Int.toNat (↑k : Int)) == (2 : Int)) = false ∧             ((outN s k = outN s k ∧                   (outN s k = outN s k ∧                       ∀ (i : Nat),                         i < outN s k → Same (A := Empty) [LV.int IntKind.u8 (outF s k i)] [LV.int IntKind.u8 (outF s k i)]) ∧                     ∀ (i : Nat), plainL (A := Empty) [LV.int IntKind.u8 (outF s k i)]) ∧                 outN s k ≤ 70368744177664) ∧               ((outN s k = outN s k ∧                     ∀ (j : Nat),                       j < outN s k → Like (A := Empty) [LV.int IntKind.u8 (outF s k j)] [LV.int IntKind.u8 (outF s k j)]) ∧                   (outN s k = outN s k ∧                       ∀ (j : Nat),                         j < outN s k → Like (A := Empty) [LV.int IntKind.u8 (outF s k j)] [LV.int IntKind.u8 (outF s k j)]) ∧                     sameB (outN s k) (outF s k) (outN s k) (outF s k)) ∧                 outN s k = outN s k ∧                   ((outN s k = outN s k ∧                         ∀ (i : Nat),                           i < outN s k → Same (A := Empty) [LV.int IntKind.u8 (outF s k i)] [LV.int IntKind.u8 (outF s k i)]) ∧                       ∀ (i : Nat), plainL (A := Empty) [LV.int IntKind.u8 (outF s k i)]) ∧                     outN s k ≤ 70368744177664) ∧   ((0 = 0 ∧ Stps.n s = Stps.n s) ∧       outN s k = outN s (k + 1) ∧         IntKind.wrap IntKind.i64 ((↑k : Int) + (1 : Int)) = (↑(k + 1) : Int)) ∧     outN s k = outN s (k + 1) ∧       ((outN s k = outN s (k + 1) ∧             ∀ (i : Nat),               i < outN s (k + 1) →                 Same (A := Empty) [LV.int IntKind.u8 (outF s k i)] [LV.int IntKind.u8 (outF s (k + 1) i)]) ∧           ∀ (i : Nat), plainL (A := Empty) [LV.int IntKind.u8 (outF s (k + 1) i)]) ∧         (outN s k = outN s (k + 1) ∧             ∀ (i : Nat),               i < outN s (k + 1) →                 Same (A := Empty) [LV.int IntKind.u8 (outF s k i)] [LV.int IntKind.u8 (outF s (k + 1) i)]) ∧           ∀ (i : Nat), plainL (A := Empty) [LV.int IntKind.u8 (outF s (k + 1) i)]
set_option maxRecDepth 100000 in
theorem wrg3 (s : Stps) (k : Nat) : runG Try.prog (SWr false false false s []) 60 3 pathWr (wrJ s k) .normal 1 [some (.own 0), some (.own 1), some (.own 2)] 81 (wrT s (outN s (k + 1)) (k + 1)) (wrM (outN s (k + 1)) (outF s (k + 1))) = some (some ((wrg3_G s k))) := by kernel_rfl
--@]
def advWrE : Adv := { advWr false false false with dec := fun f r i => match f, r, i with
    | 3, 8, 3 => some false
    | _, _, _ => none }
noncomputable abbrev SWrE (s : Stps) : Sig Empty := sigOf (P := Try.prog) [conKnown] [] [] (I := inS s) [] noMs advWrE
theorem SWrE_ok (s : Stps) : SigOk Try.prog (SWrE s) := sigOf_ok _ _ _ [] (noMs_ok _) _ (inS_ok s)
noncomputable abbrev wrZ (s : Stps) : LS Empty := ⟨tm 81 [(0, .vec (.inp 0 0) s.n)], [some (wB 1 (outN s s.n)), some (rowB (outN s s.n) (outF s s.n))], []⟩
--@gen wrg4 (s : Stps) := runG Try.prog (SWrE s) 60 3 pathWr (wrJ s s.n) (.exit 0) 1 [some (.own 0), some (.own 1)] 81 [(0, .vec (.inp 0 0) s.n)] [some (wB 1 (outN s s.n)), some (rowB (outN s s.n) (outF s s.n))]
--@[
def wrg4_G (s : Stps) : Prop := decide ((↑(Stps.n s) : Int) < (↑(Stps.n s) : Int)) = false ∧   (0 = 0 ∧ Stps.n s = Stps.n s) ∧     outN s (Stps.n s) = outN s (Stps.n s) ∧       (outN s (Stps.n s) = outN s (Stps.n s) ∧           ∀ (i : Nat),             i < outN s (Stps.n s) →               Same (A := Empty) [LV.int IntKind.u8 (outF s (Stps.n s) i)] [LV.int IntKind.u8 (outF s (Stps.n s) i)]) ∧         ∀ (i : Nat), plainL (A := Empty) [LV.int IntKind.u8 (outF s (Stps.n s) i)]
set_option maxRecDepth 100000 in
theorem wrg4 (s : Stps) : runG Try.prog (SWrE s) 60 3 pathWr (wrJ s s.n) (.exit 0) 1 [some (.own 0), some (.own 1)] 81 [(0, .vec (.inp 0 0) s.n)] [some (wB 1 (outN s s.n)), some (rowB (outN s s.n) (outF s s.n))] = some (some ((wrg4_G s))) := by kernel_rfl
--@]
/-- How light turns out, and the loop known. -/
def advWrL (c d : Bool) : Adv := { advLi true true c d with il := fun f => Nat.beq f 14 }
noncomputable abbrev SWrL (c d : Bool) (s : Stps) (ls : List (LoopF Try.prog (inS s))) : Sig Empty := sigOf (P := Try.prog) [conKnown] [] [] (I := inS s) ls noMs (advWrL c d)
theorem SWrL_ok (c d : Bool) (s : Stps) (ls : List (LoopF Try.prog (inS s))) : SigOk Try.prog (SWrL c d s ls) := sigOf_ok _ _ _ ls (noMs_ok _) _ (inS_ok s)
noncomputable def wrE (s : Stps) (q : Nat) (hs : okS s) (h : stopL s q) : LS Empty := entry Try.prog (SWrL true true s [liL s q hs h]) 60 3 [0, 1, 0, 1, 1, 1, 1, 1] [.vec (.inp 0 0) s.n] []
--@gen wrI (s : Stps) (q : Nat) (hs : okS s) (h : stopL s q) := mS (inS s) [some (.own 0), none, none] (wrE s q hs h) 81 (wrT s (outN s 0) 0) (wrM (outN s 0) (outF s 0))
--@[
def wrI_G (s : Stps) (q : Nat) (hs : okS s) (h : stopL s q) : Prop := ((0 = 0 ∧ Stps.n s = Stps.n s) ∧     outN s 0 = 0 ∧ (0 : Int) = (↑0 : Int)) ∧   outN s 0 = 0 ∧     (outN s 0 = 0 ∧ ∀ (i : Nat), plainL (A := Empty) [LV.int IntKind.u8 ((0 : Int))]) ∧       outN s 0 = 0 ∧ ∀ (i : Nat), plainL (A := Empty) [LV.int IntKind.u8 ((0 : Int))]
set_option maxRecDepth 100000 in
theorem wrI (s : Stps) (q : Nat) (hs : okS s) (h : stopL s q) : mS (inS s) [some (.own 0), none, none] (wrE s q hs h) 81 (wrT s (outN s 0) 0) (wrM (outN s 0) (outF s 0)) = some (some ((wrI_G s q hs h))) := by kernel_rfl
--@]
end Go.Proofs.Ytjhjockdkpgpeaa.En

/- DERIVED. What is written, step by step: the law's call answers true. -/
set_option linter.all false
namespace Go.Proofs.Ytjhjockdkpgpeaa.En
open Go Go.RowKit

theorem pieceN_le (s : Stps) (k : Nat) : pieceN s k ≤ 8 * (1 + s.lb k + s.ll k) := by
  unfold pieceN bytesN
  split
  · omega
  · split
    · omega
    · split <;> omega
theorem outN_le (s : Stps) : ∀ k, outN s k ≤ 8 * cost s k
  | 0 => Nat.le_refl _
  | k + 1 => by
    have h1 := outN_le s k
    have h2 := pieceN_le s k
    simp only [outN, cost]; omega
theorem wr_step (s : Stps) (hf : few s) (k : Nat) (hk : k < s.n) : ExB 1 Try.prog (inS s) (codeAt Try.prog 3 pathWr) (wrJ s k) .normal (wrJ s (k + 1)) := by
  obtain ⟨h1, h2, h3⟩ := cost_at hf.2 hk
  have h4 := outN_le s k
  have h5 : IntKind.wrap IntKind.i64 ((k : Int) + 1) = ((k + 1 : Nat) : Int) := by rw [IntWalk.i64_in _ (by have := hf.1; omega)]; rfl
  have h6 : bytesN (s.ll k) ≤ 5000 := by unfold bytesN; omega
  by_cases c0 : s.W k = 0
  · have e1 : outN s (k + 1) = outN s k + 8 := by simp [outN, pieceN, c0]
    have e2 : outF s (k + 1) = catF (outN s k) (outF s k) (chunkN (s.X k)) := by simp [outF, pieceF, c0]
    refine ExB.auto (SWr_ok _ _ _ s _) (inS_ok s) rfl mixed 60 _ (wrg0 s k) ?_
    simp only [condOk, wrg0_G, Int.toNat_natCast, h5, e1, e2]
    and_intros <;> first | exact beq_iff_eq.2 c0 | exact fun j _ => same_cat _ _ _ j | exact fun _ _ => rfl | exact True.intro | omega | exact fun _ => ⟨trivial, trivial⟩ | exact fun _ _ => Same.refl _ | exact fun _ _ => Like.refl _ | (simp (disch := omega) only [true_and, and_true, Nat.beq_refl, Bool.true_and, decide_eq_true_eq, decide_eq_false_iff_not, beq_iff_eq, bne_iff_ne, beq_eq_false_iff_ne, bne_eq_false_iff_eq, ne_eq, Nat.blt_eq, Nat.ble_eq, Nat.beq_eq, Bool.and_eq_true, Bool.or_eq_true, IntKind.wrap_i64, IntKind.wrap_u64, IntKind.wrap_u8, IntKind.wrap_u32, Int.tdiv_eq_ediv_of_nonneg, Int.tmod_eq_emod_of_nonneg] <;> omega) | rfl | trivial
  by_cases c1 : s.W k = 1
  · have e1 : outN s (k + 1) = outN s k + s.lb k := by simp [outN, pieceN, c1]
    have e2 : outF s (k + 1) = catF (outN s k) (outF s k) (s.B k) := by simp [outF, pieceF, c1]
    refine ExB.auto (SWr_ok _ _ _ s _) (inS_ok s) rfl mixed 60 _ (wrg1 s k) ?_
    simp only [condOk, wrg1_G, Int.toNat_natCast, h5, e1, e2]
    and_intros <;> first | exact beq_eq_false_iff_ne.2 c0 | exact beq_iff_eq.2 c1 | exact fun j _ => same_cat _ _ _ j | exact fun _ _ => rfl | exact fun j _ => (bif_lt ..).symm | exact True.intro | omega | exact fun _ => ⟨trivial, trivial⟩ | exact fun _ _ => Same.refl _ | exact fun _ _ => Like.refl _ | (simp (disch := omega) only [true_and, and_true, Nat.beq_refl, Bool.true_and, decide_eq_true_eq, decide_eq_false_iff_not, beq_iff_eq, bne_iff_ne, beq_eq_false_iff_ne, bne_eq_false_iff_eq, ne_eq, Nat.blt_eq, Nat.ble_eq, Nat.beq_eq, Bool.and_eq_true, Bool.or_eq_true, IntKind.wrap_i64, IntKind.wrap_u64, IntKind.wrap_u8, IntKind.wrap_u32, Int.tdiv_eq_ediv_of_nonneg, Int.tmod_eq_emod_of_nonneg] <;> omega) | rfl | trivial
  by_cases c2 : s.W k = 2
  · have e1 : outN s (k + 1) = outN s k + bytesN (s.ll k) := by simp [outN, pieceN, c2]
    have e2 : outF s (k + 1) = catF (outN s k) (outF s k) (packB (s.L k) (s.ll k)) := by simp [outF, pieceF, c2]
    refine ExB.auto (SWr_ok _ _ _ s _) (inS_ok s) rfl mixed 60 _ (wrg2 s k) ?_
    simp only [condOk, wrg2_G, Int.toNat_natCast, h5, e1, e2]
    and_intros <;> first | exact beq_eq_false_iff_ne.2 c0 | exact beq_eq_false_iff_ne.2 c1 | exact beq_iff_eq.2 c2 | exact fun j _ => same_cat _ _ _ j | exact fun _ _ => rfl | exact fun j _ => (bif_lt ..).symm | exact True.intro | omega | exact fun _ => ⟨trivial, trivial⟩ | exact fun _ _ => Same.refl _ | exact fun _ _ => Like.refl _ | (simp (disch := omega) only [true_and, and_true, Nat.beq_refl, Bool.true_and, decide_eq_true_eq, decide_eq_false_iff_not, beq_iff_eq, bne_iff_ne, beq_eq_false_iff_ne, bne_eq_false_iff_eq, ne_eq, Nat.blt_eq, Nat.ble_eq, Nat.beq_eq, Bool.and_eq_true, Bool.or_eq_true, IntKind.wrap_i64, IntKind.wrap_u64, IntKind.wrap_u8, IntKind.wrap_u32, Int.tdiv_eq_ediv_of_nonneg, Int.tmod_eq_emod_of_nonneg] <;> omega) | rfl | trivial
  · have e1 : outN s (k + 1) = outN s k := by simp [outN, pieceN, c0, c1, c2]
    have e2 : ∀ j, j < outN s k → outF s (k + 1) j = outF s k j := fun j hj => by simp [outF, catF, hj]
    refine ExB.auto (SWr_ok _ _ _ s _) (inS_ok s) rfl mixed 60 _ (wrg3 s k) ?_
    simp only [condOk, wrg3_G, Int.toNat_natCast, h5, e1]
    and_intros <;> first | exact beq_eq_false_iff_ne.2 c0 | exact beq_eq_false_iff_ne.2 c1 | exact beq_eq_false_iff_ne.2 c2 | exact fun j hj => Same.int (e2 j hj).symm | exact fun _ _ => rfl | exact True.intro | omega | exact fun _ => ⟨trivial, trivial⟩ | exact fun _ _ => Same.refl _ | exact fun _ _ => Like.refl _ | (simp (disch := omega) only [true_and, and_true, Nat.beq_refl, Bool.true_and, decide_eq_true_eq, decide_eq_false_iff_not, beq_iff_eq, bne_iff_ne, beq_eq_false_iff_ne, bne_eq_false_iff_eq, ne_eq, Nat.blt_eq, Nat.ble_eq, Nat.beq_eq, Bool.and_eq_true, Bool.or_eq_true, IntKind.wrap_i64, IntKind.wrap_u64, IntKind.wrap_u8, IntKind.wrap_u32, Int.tdiv_eq_ediv_of_nonneg, Int.tmod_eq_emod_of_nonneg] <;> omega) | rfl | trivial
set_option maxRecDepth 100000 in
theorem wr_code : codeAt Try.prog 3 [0, 1, 0, 1, 1, 1, 1, 1] = .loop (codeAt Try.prog 3 pathWr) := by kernel_rfl
theorem wr_loop (s : Stps) (hf : few s) (q : Nat) (hs : okS s) (h : stopL s q) : ExB 1 Try.prog (inS s) (codeAt Try.prog 3 [0, 1, 0, 1, 1, 1, 1, 1]) (wrE s q hs h) (.exit 0) (wrZ s) := by
  refine ExB.enter (cs := []) (inS_ok s) _ ?_ (wrI s q hs h) ?_ rfl
  · rw [wr_code]
    refine ExB.loop (by simp) (wrJ s) s.n (fun k hk => wr_step s hf k hk) (ExB.auto (SWrE_ok s) (inS_ok s) rfl mixed 60 _ (wrg4 s) ?_)
    simp only [condOk, wrg4_G]
    (and_intros <;> first | exact True.intro | omega | exact fun _ => ⟨trivial, trivial⟩ | exact fun _ _ => Same.refl _ | exact fun _ _ => Like.refl _ | (simp (disch := omega) only [true_and, and_true, Nat.beq_refl, Bool.true_and, decide_eq_true_eq, decide_eq_false_iff_not, beq_iff_eq, bne_iff_ne, beq_eq_false_iff_ne, bne_eq_false_iff_eq, ne_eq, Nat.blt_eq, Nat.ble_eq, Nat.beq_eq, Bool.and_eq_true, Bool.or_eq_true, IntKind.wrap_i64, IntKind.wrap_u64, IntKind.wrap_u8, IntKind.wrap_u32, Int.tdiv_eq_ediv_of_nonneg, Int.tmod_eq_emod_of_nonneg] <;> omega) | rfl | trivial)
  · simp only [condOk, wrI_G, outN]
    (and_intros <;> first | exact True.intro | omega | exact fun _ => ⟨trivial, trivial⟩ | exact fun _ _ => Same.refl _ | exact fun _ _ => Like.refl _ | (simp (disch := omega) only [true_and, and_true, Nat.beq_refl, Bool.true_and, decide_eq_true_eq, decide_eq_false_iff_not, beq_iff_eq, bne_iff_ne, beq_eq_false_iff_ne, bne_eq_false_iff_eq, ne_eq, Nat.blt_eq, Nat.ble_eq, Nat.beq_eq, Bool.and_eq_true, Bool.or_eq_true, IntKind.wrap_i64, IntKind.wrap_u64, IntKind.wrap_u8, IntKind.wrap_u32, Int.tdiv_eq_ediv_of_nonneg, Int.tmod_eq_emod_of_nonneg] <;> omega) | rfl | trivial)
set_option maxRecDepth 100000 in
theorem wr_grow (s : Stps) (q : Nat) (hs : okS s) (h : stopL s q) : growB (wrE s q hs h) (wrZ s) = true := by kernel_rfl
set_option maxRecDepth 100000 in
theorem wr_one (s : Stps) (q : Nat) (hs : okS s) (h : stopL s q) : Nat.ble (wrE s q hs h).mem.length 1 = true := by kernel_rfl
noncomputable def wrL (s : Stps) (hf : few s) (q : Nat) (hs : okS s) (h : stopL s q) : LoopF Try.prog (inS s) := LoopF.of (wr_loop s hf q hs h) (wr_grow ..) (wr_one ..)
end Go.Proofs.Ytjhjockdkpgpeaa.En

/- DERIVED. What is written is read back: the loops' rounds. -/
set_option linter.all false
namespace Go.Proofs.Ytjhjockdkpgpeaa.En
open Go Go.RowKit

def advBk (a b c : Bool) : Adv where
  il f := Nat.beq f 14
  dec f r i := match f, r, i with
    | 7, 7, 3 => some true
    | 7, 10, 0 => some a
    | 7, 12, 0 => some b
    | 7, 14, 0 => some c
    | 7, 18, 3 => some true
    | 7, 22, 0 => some a
    | 7, 24, 0 => some b
    | 7, 26, 0 => some c
    | 7, 23, 7 => some true
    | 7, 28, 5 => some false
    | _, _, _ => none
  rc _ _ _ := true
  fz _ _ := false
  res _ _ := 8
  pl f r := match f, r with
    | 7, 23 => true
    | 7, 25 => true
    | 7, 27 => true
    | _, _ => false
noncomputable abbrev SBk (a b c : Bool) (s : Stps) (ls : List (LoopF Try.prog (inS s))) : Sig Empty := sigOf (P := Try.prog) [conKnown] [conErrL] [conWUint, conWBytes, conWBits, conWAll, conNew, conRUint, conRBytes, conRBits, conHBits, conBytes, conREnd] (I := inS s) ls noMs (advBk a b c)
theorem SBk_ok (a b c : Bool) (s : Stps) (ls : List (LoopF Try.prog (inS s))) : SigOk Try.prog (SBk a b c s ls) := sigOf_ok _ _ _ ls (noMs_ok _) _ (inS_ok s)
noncomputable abbrev bkM (N : Nat) (f : Nat → Int) : Mem Empty := [wB 1 N, rowB N f].map some
noncomputable abbrev bkT (s : Stps) (k : Nat) : List (Nat × LV Empty) := [(0, .vec (.inp 0 0) s.n), (1, .vec (.inp 0 1) s.m), (5, .ptr (.own 0) 0 []), (6, .int .i64 (k : Int))]
noncomputable def bkJ (s : Stps) (k : Nat) : LS Empty := ⟨tm 126 (bkT s k), bkM (outN s k) (outF s k), []⟩
abbrev pathBk : List Nat := [0, 0, 1, 0, 1, 1, 1, 1]
--@gen bk0 (s : Stps) (k : Nat) := runG Try.prog (SBk true false false s []) 60 7 pathBk (bkJ s k) .normal 1 [some (.own 0), some (.own 2)] 126 (bkT s (k + 1)) (bkM (outN s (k + 1)) (outF s (k + 1)))
--@[
def bk0_G (s : Stps) (k : Nat) : Prop := (decide ((↑k : Int) < (↑(Stps.n s) : Int)) = true ∧     (decide ((0 : Int) ≤ (↑k : Int) ∧ (↑k : Int) < (↑(Stps.n s) : Int)) = true ∧         Nat.blt (Int.toNat (↑k : Int)) (Stps.n s) = true) ∧       (Stps.W s (Int.toNat (↑k : Int)) == (0 : Int)) = true ∧         decide ((0 : Int) ≤ (↑k : Int) ∧ (↑k : Int) < (↑(Stps.n s) : Int)) = true ∧           Nat.blt (Int.toNat (↑k : Int)) (Stps.n s) = true ∧             Stps.X s (Int.toNat (↑k : Int)) = Stps.X s (Int.toNat (↑k : Int)) ∧               (outN s k = outN s k ∧                   (outN s k = outN s k ∧                       ∀ (i : Nat),                         i < outN s k → Same (A := Empty) [LV.int IntKind.u8 (outF s k i)] [LV.int IntKind.u8 (outF s k i)]) ∧                     ∀ (i : Nat), plainL (A := Empty) [LV.int IntKind.u8 (outF s k i)]) ∧                 outN s k ≤ 70368744177664) ∧   ((0 = 0 ∧ Stps.n s = Stps.n s) ∧       (1 = 1 ∧ Stps.m s = Stps.m s) ∧         IntKind.wrap IntKind.i64 ((↑k : Int) + (1 : Int)) = (↑(k + 1) : Int)) ∧     outN s k + 8 = outN s (k + 1) ∧       (outN s k + 8 = outN s (k + 1) ∧           ∀ (i : Nat),             i < outN s (k + 1) →               Same (A := Empty) [LV.int IntKind.u8 (catF (outN s k) (outF s k) (chunkN (Stps.X s (Int.toNat (↑k : Int)))) i)]                 [LV.int IntKind.u8 (outF s (k + 1) i)]) ∧         ∀ (i : Nat), plainL (A := Empty) [LV.int IntKind.u8 (outF s (k + 1) i)]
set_option maxRecDepth 100000 in
theorem bk0 (s : Stps) (k : Nat) : runG Try.prog (SBk true false false s []) 60 7 pathBk (bkJ s k) .normal 1 [some (.own 0), some (.own 2)] 126 (bkT s (k + 1)) (bkM (outN s (k + 1)) (outF s (k + 1))) = some (some ((bk0_G s k))) := by kernel_rfl
--@]
--@gen bk1 (s : Stps) (k : Nat) := runG Try.prog (SBk false true false s []) 60 7 pathBk (bkJ s k) .normal 1 [some (.own 0), some (.own 2)] 126 (bkT s (k + 1)) (bkM (outN s (k + 1)) (outF s (k + 1)))
--@[
def bk1_G (s : Stps) (k : Nat) : Prop := (decide ((↑k : Int) < (↑(Stps.n s) : Int)) = true ∧     (decide ((0 : Int) ≤ (↑k : Int) ∧ (↑k : Int) < (↑(Stps.n s) : Int)) = true ∧         Nat.blt (Int.toNat (↑k : Int)) (Stps.n s) = true) ∧       (Stps.W s (Int.toNat (↑k : Int)) == (0 : Int)) = false ∧         (Stps.W s (Int.toNat (↑k : Int)) == (1 : Int)) = true ∧           decide ((0 : Int) ≤ (↑k : Int) ∧ (↑k : Int) < (↑(Stps.n s) : Int)) = true ∧             Nat.blt (Int.toNat (↑k : Int)) (Stps.n s) = true ∧               (Int.toNat (↑k : Int) = Int.toNat (↑k : Int) ∧                   Stps.lb s (Int.toNat (↑k : Int)) = Stps.lb s (Int.toNat (↑k : Int))) ∧                 (outN s k = outN s k ∧                     (outN s k = outN s k ∧                         ∀ (i : Nat),                           i < outN s k → Same (A := Empty) [LV.int IntKind.u8 (outF s k i)] [LV.int IntKind.u8 (outF s k i)]) ∧                       ∀ (i : Nat), plainL (A := Empty) [LV.int IntKind.u8 (outF s k i)]) ∧                   ((Stps.lb s (Int.toNat (↑k : Int)) = Stps.lb s (Int.toNat (↑k : Int)) ∧                         ∀ (i : Nat),                           i < Stps.lb s (Int.toNat (↑k : Int)) →                             Same (A := Empty) [LV.int IntKind.u8 (Stps.B s (Int.toNat (↑k : Int)) i)]                               [LV.int IntKind.u8 (Stps.B s (Int.toNat (↑k : Int)) i)]) ∧                       ∀ (i : Nat), plainL (A := Empty) [LV.int IntKind.u8 (Stps.B s (Int.toNat (↑k : Int)) i)]) ∧                     outN s k + Stps.lb s (Int.toNat (↑k : Int)) ≤ 70368744177664) ∧   ((0 = 0 ∧ Stps.n s = Stps.n s) ∧       (1 = 1 ∧ Stps.m s = Stps.m s) ∧         IntKind.wrap IntKind.i64 ((↑k : Int) + (1 : Int)) = (↑(k + 1) : Int)) ∧     outN s k + Stps.lb s (Int.toNat (↑k : Int)) = outN s (k + 1) ∧       (outN s k + Stps.lb s (Int.toNat (↑k : Int)) = outN s (k + 1) ∧           ∀ (i : Nat),             i < outN s (k + 1) →               Same (A := Empty) [LV.int IntKind.u8 (catF (outN s k) (outF s k) (Stps.B s (Int.toNat (↑k : Int))) i)]                 [LV.int IntKind.u8 (outF s (k + 1) i)]) ∧         ∀ (i : Nat), plainL (A := Empty) [LV.int IntKind.u8 (outF s (k + 1) i)]
set_option maxRecDepth 100000 in
theorem bk1 (s : Stps) (k : Nat) : runG Try.prog (SBk false true false s []) 60 7 pathBk (bkJ s k) .normal 1 [some (.own 0), some (.own 2)] 126 (bkT s (k + 1)) (bkM (outN s (k + 1)) (outF s (k + 1))) = some (some ((bk1_G s k))) := by kernel_rfl
--@]
--@gen bk2 (s : Stps) (k : Nat) := runG Try.prog (SBk false false true s []) 60 7 pathBk (bkJ s k) .normal 1 [some (.own 0), some (.own 2)] 126 (bkT s (k + 1)) (bkM (outN s (k + 1)) (outF s (k + 1)))
--@[
def bk2_G (s : Stps) (k : Nat) : Prop := (decide ((↑k : Int) < (↑(Stps.n s) : Int)) = true ∧     (decide ((0 : Int) ≤ (↑k : Int) ∧ (↑k : Int) < (↑(Stps.n s) : Int)) = true ∧         Nat.blt (Int.toNat (↑k : Int)) (Stps.n s) = true) ∧       (Stps.W s (Int.toNat (↑k : Int)) == (0 : Int)) = false ∧         (Stps.W s (Int.toNat (↑k : Int)) == (1 : Int)) = false ∧           (Stps.W s (Int.toNat (↑k : Int)) == (2 : Int)) = true ∧             decide ((0 : Int) ≤ (↑k : Int) ∧ (↑k : Int) < (↑(Stps.n s) : Int)) = true ∧               Nat.blt (Int.toNat (↑k : Int)) (Stps.n s) = true ∧                 (Int.toNat (↑k : Int) = Int.toNat (↑k : Int) ∧                     Stps.ll s (Int.toNat (↑k : Int)) = Stps.ll s (Int.toNat (↑k : Int))) ∧                   (outN s k = outN s k ∧                       (outN s k = outN s k ∧                           ∀ (i : Nat),                             i < outN s k → Same (A := Empty) [LV.int IntKind.u8 (outF s k i)] [LV.int IntKind.u8 (outF s k i)]) ∧                         ∀ (i : Nat), plainL (A := Empty) [LV.int IntKind.u8 (outF s k i)]) ∧                     ((Stps.ll s (Int.toNat (↑k : Int)) = Stps.ll s (Int.toNat (↑k : Int)) ∧                           ∀ (i : Nat),                             i < Stps.ll s (Int.toNat (↑k : Int)) →                               Same (A := Empty) [LV.bool (Stps.L s (Int.toNat (↑k : Int)) i)]                                 [LV.bool (Stps.L s (Int.toNat (↑k : Int)) i)]) ∧                         ∀ (i : Nat), plainL (A := Empty) [LV.bool (Stps.L s (Int.toNat (↑k : Int)) i)]) ∧                       Stps.ll s (Int.toNat (↑k : Int)) ≤ 70368744177664 ∧ outN s k ≤ 35184372088832) ∧   ((0 = 0 ∧ Stps.n s = Stps.n s) ∧       (1 = 1 ∧ Stps.m s = Stps.m s) ∧         IntKind.wrap IntKind.i64 ((↑k : Int) + (1 : Int)) = (↑(k + 1) : Int)) ∧     outN s k + bytesN (Stps.ll s (Int.toNat (↑k : Int))) = outN s (k + 1) ∧       (outN s k + bytesN (Stps.ll s (Int.toNat (↑k : Int))) = outN s (k + 1) ∧           ∀ (i : Nat),             i < outN s (k + 1) →               Same (A := Empty) [LV.int IntKind.u8                     (catF (outN s k) (outF s k)                       (packB (Stps.L s (Int.toNat (↑k : Int))) (Stps.ll s (Int.toNat (↑k : Int)))) i)]                 [LV.int IntKind.u8 (outF s (k + 1) i)]) ∧         ∀ (i : Nat), plainL (A := Empty) [LV.int IntKind.u8 (outF s (k + 1) i)]
set_option maxRecDepth 100000 in
theorem bk2 (s : Stps) (k : Nat) : runG Try.prog (SBk false false true s []) 60 7 pathBk (bkJ s k) .normal 1 [some (.own 0), some (.own 2)] 126 (bkT s (k + 1)) (bkM (outN s (k + 1)) (outF s (k + 1))) = some (some ((bk2_G s k))) := by kernel_rfl
--@]
--@gen bk3 (s : Stps) (k : Nat) := runG Try.prog (SBk false false false s []) 60 7 pathBk (bkJ s k) .normal 1 [some (.own 0), some (.own 1)] 126 (bkT s (k + 1)) (bkM (outN s (k + 1)) (outF s (k + 1)))
--@[
def bk3_G (s : Stps) (k : Nat) : Prop := (decide ((↑k : Int) < (↑(Stps.n s) : Int)) = true ∧     (decide ((0 : Int) ≤ (↑k : Int) ∧ (↑k : Int) < (↑(Stps.n s) : Int)) = true ∧         Nat.blt (Int.toNat (↑k : Int)) (Stps.n s) = true) ∧       (Stps.W s (Int.toNat (↑k : Int)) == (0 : Int)) = false ∧         (Stps.W s (Int.toNat (↑k : Int)) == (1 : Int)) = false ∧           (Stps.W s (Int.toNat (↑k : Int)) == (2 : Int)) = false) ∧   ((0 = 0 ∧ Stps.n s = Stps.n s) ∧       (1 = 1 ∧ Stps.m s = Stps.m s) ∧         IntKind.wrap IntKind.i64 ((↑k : Int) + (1 : Int)) = (↑(k + 1) : Int)) ∧     outN s k = outN s (k + 1) ∧       (outN s k = outN s (k + 1) ∧           ∀ (i : Nat),             i < outN s (k + 1) →               Same (A := Empty) [LV.int IntKind.u8 (outF s k i)] [LV.int IntKind.u8 (outF s (k + 1) i)]) ∧         ∀ (i : Nat), plainL (A := Empty) [LV.int IntKind.u8 (outF s (k + 1) i)]
set_option maxRecDepth 100000 in
theorem bk3 (s : Stps) (k : Nat) : runG Try.prog (SBk false false false s []) 60 7 pathBk (bkJ s k) .normal 1 [some (.own 0), some (.own 1)] 126 (bkT s (k + 1)) (bkM (outN s (k + 1)) (outF s (k + 1))) = some (some ((bk3_G s k))) := by kernel_rfl
--@]
def advBe (c d g : Bool) (a : Option Bool) : Adv := { advBk true true true with
  dec := fun f r i => match f, r, i with
    | 7, 3, 6 => some g
    | 7, 7, 3 => some false
    | 7, 18, 3 => some false
    | 7, 30, 2 => a
    | 7, 30, 5 => a
    | 14, 3, 3 => some true
    | 14, 3, 6 => some true
    | 14, 6, 2 => some c
    | 14, 6, 5 => some d
    | _, _, _ => none }
noncomputable abbrev SBe (c d g : Bool) (a : Option Bool) (s : Stps) (ls : List (LoopF Try.prog (inS s))) : Sig Empty := sigOf (P := Try.prog) [conKnown] [] [conWAll, conNew, conREnd] (I := inS s) ls noMs (advBe c d g a)
theorem SBe_ok (c d g : Bool) (a : Option Bool) (s : Stps) (ls : List (LoopF Try.prog (inS s))) : SigOk Try.prog (SBe c d g a s ls) := sigOf_ok _ _ _ ls (noMs_ok _) _ (inS_ok s)
noncomputable abbrev bkZ (s : Stps) : LS Empty := ⟨tm 126 [(0, .vec (.inp 0 0) s.n), (1, .vec (.inp 0 1) s.m), (5, .ptr (.own 0) 0 [])], bkM (outN s s.n) (outF s s.n), []⟩
--@gen bkE (s : Stps) := runG Try.prog (SBe true true false none s []) 60 7 pathBk (bkJ s s.n) (.exit 0) 1 [some (.own 0), some (.own 1)] 126 [(0, .vec (.inp 0 0) s.n), (1, .vec (.inp 0 1) s.m), (5, .ptr (.own 0) 0 [])] (bkM (outN s s.n) (outF s s.n))
--@[
def bkE_G (s : Stps) : Prop := decide ((↑(Stps.n s) : Int) < (↑(Stps.n s) : Int)) = false ∧   ((0 = 0 ∧ Stps.n s = Stps.n s) ∧ 1 = 1 ∧ Stps.m s = Stps.m s) ∧     outN s (Stps.n s) = outN s (Stps.n s) ∧       (outN s (Stps.n s) = outN s (Stps.n s) ∧           ∀ (i : Nat),             i < outN s (Stps.n s) →               Same (A := Empty) [LV.int IntKind.u8 (outF s (Stps.n s) i)] [LV.int IntKind.u8 (outF s (Stps.n s) i)]) ∧         ∀ (i : Nat), plainL (A := Empty) [LV.int IntKind.u8 (outF s (Stps.n s) i)]
set_option maxRecDepth 100000 in
theorem bkE (s : Stps) : runG Try.prog (SBe true true false none s []) 60 7 pathBk (bkJ s s.n) (.exit 0) 1 [some (.own 0), some (.own 1)] 126 [(0, .vec (.inp 0 0) s.n), (1, .vec (.inp 0 1) s.m), (5, .ptr (.own 0) 0 [])] (bkM (outN s s.n) (outF s s.n)) = some (some ((bkE_G s))) := by kernel_rfl
--@]
noncomputable def bkB (s : Stps) (q : Nat) (hs : okS s) (h : stopL s q) : LS Empty := entry Try.prog (SBe true true false none s [liL s q hs h]) 60 7 [0, 1, 0, 1, 1, 1, 1] [.vec (.inp 0 0) s.n, .vec (.inp 0 1) s.m] []
--@gen bkI (s : Stps) (q : Nat) (hs : okS s) (h : stopL s q) := mS (inS s) [some (.own 0), none] (bkB s q hs h) 126 (bkT s 0) (bkM (outN s 0) (outF s 0))
--@[
def bkI_G (s : Stps) (q : Nat) (hs : okS s) (h : stopL s q) : Prop := ((0 = 0 ∧ Stps.n s = Stps.n s) ∧     (1 = 1 ∧ Stps.m s = Stps.m s) ∧ (0 : Int) = (↑0 : Int)) ∧   outN s 0 = 0 ∧     outN s 0 = 0 ∧ ∀ (i : Nat), plainL (A := Empty) [LV.int IntKind.u8 ((0 : Int))]
set_option maxRecDepth 100000 in
theorem bkI (s : Stps) (q : Nat) (hs : okS s) (h : stopL s q) : mS (inS s) [some (.own 0), none] (bkB s q hs h) 126 (bkT s 0) (bkM (outN s 0) (outF s 0)) = some (some ((bkI_G s q hs h))) := by kernel_rfl
--@]
theorem bk_step (s : Stps) (hf : few s) (k : Nat) (hk : k < s.n) : ExB 1 Try.prog (inS s) (codeAt Try.prog 7 pathBk) (bkJ s k) .normal (bkJ s (k + 1)) := by
  obtain ⟨h1, h2, h3⟩ := cost_at hf.2 hk
  have h4 := outN_le s k
  have h5 : IntKind.wrap IntKind.i64 ((k : Int) + 1) = ((k + 1 : Nat) : Int) := by rw [IntWalk.i64_in _ (by have := hf.1; omega)]; rfl
  have h6 : bytesN (s.ll k) ≤ 5000 := by unfold bytesN; omega
  by_cases c0 : s.W k = 0
  · have e1 : outN s (k + 1) = outN s k + 8 := by simp [outN, pieceN, c0]
    have e2 : outF s (k + 1) = catF (outN s k) (outF s k) (chunkN (s.X k)) := by simp [outF, pieceF, c0]
    refine ExB.auto (SBk_ok _ _ _ s _) (inS_ok s) rfl mixed 60 _ (bk0 s k) ?_
    simp only [condOk, bk0_G, Int.toNat_natCast, h5, e1, e2]
    and_intros <;> first | exact beq_iff_eq.2 c0 | exact fun j _ => same_cat _ _ _ j | exact fun _ _ => rfl | exact True.intro | omega | exact fun _ => ⟨trivial, trivial⟩ | exact fun _ _ => Same.refl _ | exact fun _ _ => Like.refl _ | (simp (disch := omega) only [true_and, and_true, Nat.beq_refl, Bool.true_and, decide_eq_true_eq, decide_eq_false_iff_not, beq_iff_eq, bne_iff_ne, beq_eq_false_iff_ne, bne_eq_false_iff_eq, ne_eq, Nat.blt_eq, Nat.ble_eq, Nat.beq_eq, Bool.and_eq_true, Bool.or_eq_true, IntKind.wrap_i64, IntKind.wrap_u64, IntKind.wrap_u8, IntKind.wrap_u32, Int.tdiv_eq_ediv_of_nonneg, Int.tmod_eq_emod_of_nonneg] <;> omega) | rfl | trivial
  by_cases c1 : s.W k = 1
  · have e1 : outN s (k + 1) = outN s k + s.lb k := by simp [outN, pieceN, c1]
    have e2 : outF s (k + 1) = catF (outN s k) (outF s k) (s.B k) := by simp [outF, pieceF, c1]
    refine ExB.auto (SBk_ok _ _ _ s _) (inS_ok s) rfl mixed 60 _ (bk1 s k) ?_
    simp only [condOk, bk1_G, Int.toNat_natCast, h5, e1, e2]
    and_intros <;> first | exact beq_eq_false_iff_ne.2 c0 | exact beq_iff_eq.2 c1 | exact fun j _ => same_cat _ _ _ j | exact fun _ _ => rfl | exact fun j _ => (bif_lt ..).symm | exact True.intro | omega | exact fun _ => ⟨trivial, trivial⟩ | exact fun _ _ => Same.refl _ | exact fun _ _ => Like.refl _ | (simp (disch := omega) only [true_and, and_true, Nat.beq_refl, Bool.true_and, decide_eq_true_eq, decide_eq_false_iff_not, beq_iff_eq, bne_iff_ne, beq_eq_false_iff_ne, bne_eq_false_iff_eq, ne_eq, Nat.blt_eq, Nat.ble_eq, Nat.beq_eq, Bool.and_eq_true, Bool.or_eq_true, IntKind.wrap_i64, IntKind.wrap_u64, IntKind.wrap_u8, IntKind.wrap_u32, Int.tdiv_eq_ediv_of_nonneg, Int.tmod_eq_emod_of_nonneg] <;> omega) | rfl | trivial
  by_cases c2 : s.W k = 2
  · have e1 : outN s (k + 1) = outN s k + bytesN (s.ll k) := by simp [outN, pieceN, c2]
    have e2 : outF s (k + 1) = catF (outN s k) (outF s k) (packB (s.L k) (s.ll k)) := by simp [outF, pieceF, c2]
    refine ExB.auto (SBk_ok _ _ _ s _) (inS_ok s) rfl mixed 60 _ (bk2 s k) ?_
    simp only [condOk, bk2_G, Int.toNat_natCast, h5, e1, e2]
    and_intros <;> first | exact beq_eq_false_iff_ne.2 c0 | exact beq_eq_false_iff_ne.2 c1 | exact beq_iff_eq.2 c2 | exact fun j _ => same_cat _ _ _ j | exact fun _ _ => rfl | exact fun j _ => (bif_lt ..).symm | exact True.intro | omega | exact fun _ => ⟨trivial, trivial⟩ | exact fun _ _ => Same.refl _ | exact fun _ _ => Like.refl _ | (simp (disch := omega) only [true_and, and_true, Nat.beq_refl, Bool.true_and, decide_eq_true_eq, decide_eq_false_iff_not, beq_iff_eq, bne_iff_ne, beq_eq_false_iff_ne, bne_eq_false_iff_eq, ne_eq, Nat.blt_eq, Nat.ble_eq, Nat.beq_eq, Bool.and_eq_true, Bool.or_eq_true, IntKind.wrap_i64, IntKind.wrap_u64, IntKind.wrap_u8, IntKind.wrap_u32, Int.tdiv_eq_ediv_of_nonneg, Int.tmod_eq_emod_of_nonneg] <;> omega) | rfl | trivial
  · have e1 : outN s (k + 1) = outN s k := by simp [outN, pieceN, c0, c1, c2]
    have e2 : ∀ j, j < outN s k → outF s (k + 1) j = outF s k j := fun j hj => by simp [outF, catF, hj]
    refine ExB.auto (SBk_ok _ _ _ s _) (inS_ok s) rfl mixed 60 _ (bk3 s k) ?_
    simp only [condOk, bk3_G, Int.toNat_natCast, h5, e1]
    and_intros <;> first | exact beq_eq_false_iff_ne.2 c0 | exact beq_eq_false_iff_ne.2 c1 | exact beq_eq_false_iff_ne.2 c2 | exact fun j hj => Same.int (e2 j hj).symm | exact fun _ _ => rfl | exact True.intro | omega | exact fun _ => ⟨trivial, trivial⟩ | exact fun _ _ => Same.refl _ | exact fun _ _ => Like.refl _ | (simp (disch := omega) only [true_and, and_true, Nat.beq_refl, Bool.true_and, decide_eq_true_eq, decide_eq_false_iff_not, beq_iff_eq, bne_iff_ne, beq_eq_false_iff_ne, bne_eq_false_iff_eq, ne_eq, Nat.blt_eq, Nat.ble_eq, Nat.beq_eq, Bool.and_eq_true, Bool.or_eq_true, IntKind.wrap_i64, IntKind.wrap_u64, IntKind.wrap_u8, IntKind.wrap_u32, Int.tdiv_eq_ediv_of_nonneg, Int.tmod_eq_emod_of_nonneg] <;> omega) | rfl | trivial
set_option maxRecDepth 100000 in
theorem bk_code : codeAt Try.prog 7 [0, 1, 0, 1, 1, 1, 1] = .loop (codeAt Try.prog 7 pathBk) := by kernel_rfl
theorem bk_loop (s : Stps) (hf : few s) (q : Nat) (hs : okS s) (h : stopL s q) : ExB 1 Try.prog (inS s) (codeAt Try.prog 7 [0, 1, 0, 1, 1, 1, 1]) (bkB s q hs h) (.exit 0) (bkZ s) := by
  refine ExB.enter (cs := []) (inS_ok s) _ ?_ (bkI s q hs h) ?_ rfl
  · rw [bk_code]
    refine ExB.loop (by simp) (bkJ s) s.n (fun k hk => bk_step s hf k hk) (ExB.auto (SBe_ok _ _ _ _ s _) (inS_ok s) rfl mixed 60 _ (bkE s) ?_)
    simp only [condOk, bkE_G]
    (and_intros <;> first | exact True.intro | omega | exact fun _ => ⟨trivial, trivial⟩ | exact fun _ _ => Same.refl _ | exact fun _ _ => Like.refl _ | (simp (disch := omega) only [true_and, and_true, Nat.beq_refl, Bool.true_and, decide_eq_true_eq, decide_eq_false_iff_not, beq_iff_eq, bne_iff_ne, beq_eq_false_iff_ne, bne_eq_false_iff_eq, ne_eq, Nat.blt_eq, Nat.ble_eq, Nat.beq_eq, Bool.and_eq_true, Bool.or_eq_true, IntKind.wrap_i64, IntKind.wrap_u64, IntKind.wrap_u8, IntKind.wrap_u32, Int.tdiv_eq_ediv_of_nonneg, Int.tmod_eq_emod_of_nonneg] <;> omega) | rfl | trivial)
  · simp only [condOk, bkI_G, outN]
    (and_intros <;> first | exact True.intro | omega | exact fun _ => ⟨trivial, trivial⟩ | exact fun _ _ => Same.refl _ | exact fun _ _ => Like.refl _ | (simp (disch := omega) only [true_and, and_true, Nat.beq_refl, Bool.true_and, decide_eq_true_eq, decide_eq_false_iff_not, beq_iff_eq, bne_iff_ne, beq_eq_false_iff_ne, bne_eq_false_iff_eq, ne_eq, Nat.blt_eq, Nat.ble_eq, Nat.beq_eq, Bool.and_eq_true, Bool.or_eq_true, IntKind.wrap_i64, IntKind.wrap_u64, IntKind.wrap_u8, IntKind.wrap_u32, Int.tdiv_eq_ediv_of_nonneg, Int.tmod_eq_emod_of_nonneg] <;> omega) | rfl | trivial)
set_option maxRecDepth 100000 in
theorem bk_grow (s : Stps) (q : Nat) (hs : okS s) (h : stopL s q) : growB (bkB s q hs h) (bkZ s) = true := by kernel_rfl
set_option maxRecDepth 100000 in
theorem bk_one (s : Stps) (q : Nat) (hs : okS s) (h : stopL s q) : Nat.ble (bkB s q hs h).mem.length 1 = true := by kernel_rfl
noncomputable def bkL (s : Stps) (hf : few s) (q : Nat) (hs : okS s) (h : stopL s q) : LoopF Try.prog (inS s) := LoopF.of (bk_loop s hf q hs h) (bk_grow ..) (bk_one ..)
noncomputable def bkC (s : Stps) (hf : few s) (q : Nat) (hs : okS s) (h : stopL s q) : LS Empty := entry Try.prog (SBe true true false none s [liL s q hs h, bkL s hf q hs h]) 60 7 [0, 1, 0, 1, 1, 1, 1, 1, 1] [.vec (.inp 0 0) s.n, .vec (.inp 0 1) s.m] []
end Go.Proofs.Ytjhjockdkpgpeaa.En

/- DERIVED. What is written is read back: the second loop. -/
set_option linter.all false
namespace Go.Proofs.Ytjhjockdkpgpeaa.En
open Go Go.RowKit

/-- All that was written, and what stands behind it. -/
def allN (s : Stps) : Nat := outN s s.n + s.m
def allF (s : Stps) : Nat → Int := catF (outN s s.n) (outF s s.n) s.g
def restN (s : Stps) (k : Nat) : Nat := allN s - outN s k
def restF (s : Stps) (k : Nat) (j : Nat) : Int := allF s (outN s k + j)
noncomputable abbrev b2M (s : Stps) (k : Nat) : Mem Empty := [wB 1 (outN s s.n), roB (outN s s.n) (outF s s.n), deadE, roB (allN s) (allF s), rdB 6 (restN s k) 0, roB (allN s) (allF s), roB (restN s k) (restF s k)].map some
noncomputable abbrev b2T (s : Stps) (k : Nat) : List (Nat × LV Empty) := [(0, .vec (.inp 0 0) s.n), (1, .vec (.inp 0 1) s.m), (7, .ptr (.own 4) 0 []), (8, .int .i64 (k : Int))]
noncomputable def b2J (s : Stps) (k : Nat) : LS Empty := ⟨tm 126 (b2T s k), b2M s k, []⟩
abbrev pathB2 : List Nat := [0, 0, 1, 0, 1, 1, 1, 1, 1, 1]
noncomputable abbrev b2Run (a b c : Bool) (s : Stps) (k : Nat) := exec Try.prog (SBk a b c s []) 60 7 pathB2 (codeAt Try.prog 7 pathB2) (b2J s k)
--@gen b2I (s : Stps) (hf : few s) (q : Nat) (hs : okS s) (h : stopL s q) := mS (inS s) [some (.own 0), some (.own 1), some (.own 2), some (.own 3), some (.own 4), some (.own 5), some (.own 5)] (bkC s hf q hs h) 126 (b2T s 0) (b2M s 0)
--@[
def b2I_G (s : Stps) (hf : few s) (q : Nat) (hs : okS s) (h : stopL s q) : Prop := ((0 = 0 ∧ Stps.n s = Stps.n s) ∧     (1 = 1 ∧ Stps.m s = Stps.m s) ∧ (0 : Int) = (↑0 : Int)) ∧   outN s (Stps.n s) = outN s (Stps.n s) ∧     ((outN s (Stps.n s) = outN s (Stps.n s) ∧           ∀ (i : Nat),             i < outN s (Stps.n s) →               Same (A := Empty) [LV.int IntKind.u8 (outF s (Stps.n s) i)] [LV.int IntKind.u8 (outF s (Stps.n s) i)]) ∧         ∀ (i : Nat), plainL (A := Empty) [LV.int IntKind.u8 (outF s (Stps.n s) i)]) ∧       ((outN s (Stps.n s) + Stps.m s = allN s ∧             ∀ (i : Nat),               i < allN s →                 Same (A := Empty) [LV.int IntKind.u8                       (bif Nat.blt i (outN s (Stps.n s)) then outF s (Stps.n s) i                       else Stps.g s (i - outN s (Stps.n s)))]                   [LV.int IntKind.u8 (allF s i)]) ∧           ∀ (i : Nat), plainL (A := Empty) [LV.int IntKind.u8 (allF s i)]) ∧         (outN s (Stps.n s) + Stps.m s = restN s 0 ∧ (0 : Int) = (0 : Int)) ∧           ((outN s (Stps.n s) + Stps.m s = allN s ∧                 ∀ (i : Nat),                   i < allN s →                     Same (A := Empty) [LV.int IntKind.u8                           (bif Nat.blt i (outN s (Stps.n s)) then outF s (Stps.n s) i                           else Stps.g s (i - outN s (Stps.n s)))]                       [LV.int IntKind.u8 (allF s i)]) ∧               ∀ (i : Nat), plainL (A := Empty) [LV.int IntKind.u8 (allF s i)]) ∧             (outN s (Stps.n s) + Stps.m s = restN s 0 ∧                 ∀ (i : Nat),                   i < restN s 0 →                     Same (A := Empty) [LV.int IntKind.u8                           (bif Nat.blt i (outN s (Stps.n s)) then outF s (Stps.n s) i                           else Stps.g s (i - outN s (Stps.n s)))]                       [LV.int IntKind.u8 (restF s 0 i)]) ∧               ∀ (i : Nat), plainL (A := Empty) [LV.int IntKind.u8 (restF s 0 i)]
set_option maxRecDepth 100000 in
theorem b2I (s : Stps) (hf : few s) (q : Nat) (hs : okS s) (h : stopL s q) : mS (inS s) [some (.own 0), some (.own 1), some (.own 2), some (.own 3), some (.own 4), some (.own 5), some (.own 5)] (bkC s hf q hs h) 126 (b2T s 0) (b2M s 0) = some (some ((b2I_G s hf q hs h))) := by kernel_rfl
--@]
end Go.Proofs.Ytjhjockdkpgpeaa.En

/- DERIVED. What is read, step by step: the loop. -/
set_option linter.all false
namespace Go.Proofs.Ytjhjockdkpgpeaa.En
open Go Go.RowKit

--@gen rs0 (s : Stps) (k : Nat) := runG Try.prog (SRd true false false s []) 60 6 pathRs (rsJ s k) .normal 3 [some (.own 0), some (.own 1), some (.own 2), some (.own 5), some (.own 6)] 106 (rsT s (k + 1)) (rsM s (rdSt s (k + 1)))
--@[
def rs0_G (s : Stps) (k : Nat) : Prop := (decide ((↑k : Int) < (↑(Stps.n s) : Int)) = true ∧     (decide ((0 : Int) ≤ (↑k : Int) ∧ (↑k : Int) < (↑(Stps.n s) : Int)) = true ∧         Nat.blt (Int.toNat (↑k : Int)) (Stps.n s) = true) ∧       (Stps.W s (Int.toNat (↑k : Int)) == (0 : Int)) = true ∧         ((((RdS.N (rdSt s k) = RdS.N (rdSt s k) ∧ RdS.e (rdSt s k) = RdS.e (rdSt s k)) ∧                 (RdS.N (rdSt s k) = RdS.N (rdSt s k) ∧                     ∀ (i : Nat),                       i < RdS.N (rdSt s k) →                         Same (A := Empty) [LV.int IntKind.u8 (RdS.f (rdSt s k) i)] [LV.int IntKind.u8 (RdS.f (rdSt s k) i)]) ∧                   ∀ (i : Nat), plainL (A := Empty) [LV.int IntKind.u8 (RdS.f (rdSt s k) i)]) ∧               ∀ (j : Nat),                 j < RdS.N (rdSt s k) →                   (0 : Int) ≤ RdS.f (rdSt s k) j ∧ RdS.f (rdSt s k) j < (256 : Int)) ∧             (((RdS.N (rdSt s k) = RdS.N (rdSt s k) ∧ RdS.e (rdSt s k) = RdS.e (rdSt s k)) ∧                   (RdS.N (rdSt s k) = RdS.N (rdSt s k) ∧                       ∀ (i : Nat),                         i < RdS.N (rdSt s k) →                           Same (A := Empty) [LV.int IntKind.u8 (RdS.f (rdSt s k) i)] [LV.int IntKind.u8 (RdS.f (rdSt s k) i)]) ∧                     ∀ (i : Nat), plainL (A := Empty) [LV.int IntKind.u8 (RdS.f (rdSt s k) i)]) ∧                 ∀ (j : Nat),                   j < RdS.N (rdSt s k) →                     (0 : Int) ≤ RdS.f (rdSt s k) j ∧ RdS.f (rdSt s k) j < (256 : Int)) ∧               (uintV (RdS.N (rdSt s k)) (RdS.f (rdSt s k)) (RdS.e (rdSt s k)) ==                   uintV (RdS.N (rdSt s k)) (RdS.f (rdSt s k)) (RdS.e (rdSt s k))) =                 true) ∧           (tkE (RdS.N (rdSt s k)) (RdS.e (rdSt s k)) ((8 : Int)) !=               tkE (RdS.N (rdSt s k)) (RdS.e (rdSt s k)) ((8 : Int))) =             false) ∧   ((1 = 1 ∧ Stps.m s = Stps.m s) ∧       (0 = 0 ∧ Stps.n s = Stps.n s) ∧         IntKind.wrap IntKind.i64 ((↑k : Int) + (1 : Int)) = (↑(k + 1) : Int)) ∧     (tkN (RdS.N (rdSt s k)) (RdS.e (rdSt s k)) ((8 : Int)) = RdS.N (rdSt s (k + 1)) ∧         tkE (RdS.N (rdSt s k)) (RdS.e (rdSt s k)) ((8 : Int)) = RdS.e (rdSt s (k + 1))) ∧       ((Stps.m s = Stps.m s ∧             ∀ (i : Nat), i < Stps.m s → Same (A := Empty) [LV.int IntKind.u8 (Stps.g s i)] [LV.int IntKind.u8 (Stps.g s i)]) ∧           ∀ (i : Nat), plainL (A := Empty) [LV.int IntKind.u8 (Stps.g s i)]) ∧         (tkN (RdS.N (rdSt s k)) (RdS.e (rdSt s k)) ((8 : Int)) = RdS.N (rdSt s (k + 1)) ∧             tkE (RdS.N (rdSt s k)) (RdS.e (rdSt s k)) ((8 : Int)) = RdS.e (rdSt s (k + 1))) ∧           ((tkN (RdS.N (rdSt s k)) (RdS.e (rdSt s k)) ((8 : Int)) = RdS.N (rdSt s (k + 1)) ∧                 ∀ (i : Nat),                   i < RdS.N (rdSt s (k + 1)) →                     Same (A := Empty) [LV.int IntKind.u8                           (tkF (RdS.N (rdSt s k)) (RdS.f (rdSt s k)) (RdS.e (rdSt s k)) ((8 : Int)) i)]                       [LV.int IntKind.u8 (RdS.f (rdSt s (k + 1)) i)]) ∧               ∀ (i : Nat), plainL (A := Empty) [LV.int IntKind.u8 (RdS.f (rdSt s (k + 1)) i)]) ∧             (tkN (RdS.N (rdSt s k)) (RdS.e (rdSt s k)) ((8 : Int)) = RdS.N (rdSt s (k + 1)) ∧                 ∀ (i : Nat),                   i < RdS.N (rdSt s (k + 1)) →                     Same (A := Empty) [LV.int IntKind.u8                           (tkF (RdS.N (rdSt s k)) (RdS.f (rdSt s k)) (RdS.e (rdSt s k)) ((8 : Int)) i)]                       [LV.int IntKind.u8 (RdS.f (rdSt s (k + 1)) i)]) ∧               ∀ (i : Nat), plainL (A := Empty) [LV.int IntKind.u8 (RdS.f (rdSt s (k + 1)) i)]
set_option maxRecDepth 100000 in
theorem rs0 (s : Stps) (k : Nat) : runG Try.prog (SRd true false false s []) 60 6 pathRs (rsJ s k) .normal 3 [some (.own 0), some (.own 1), some (.own 2), some (.own 5), some (.own 6)] 106 (rsT s (k + 1)) (rsM s (rdSt s (k + 1))) = some (some ((rs0_G s k))) := by kernel_rfl
--@]
--@gen rs1 (s : Stps) (k : Nat) := runG Try.prog (SRd false true false s []) 60 6 pathRs (rsJ s k) .normal 3 [some (.own 0), some (.own 1), some (.own 2), some (.own 53), some (.own 109)] 106 (rsT s (k + 1)) (rsM s (rdSt s (k + 1)))
--@[
def rs1_G (s : Stps) (k : Nat) : Prop := (decide ((↑k : Int) < (↑(Stps.n s) : Int)) = true ∧     (decide ((0 : Int) ≤ (↑k : Int) ∧ (↑k : Int) < (↑(Stps.n s) : Int)) = true ∧         Nat.blt (Int.toNat (↑k : Int)) (Stps.n s) = true) ∧       (Stps.W s (Int.toNat (↑k : Int)) == (0 : Int)) = false ∧         (Stps.W s (Int.toNat (↑k : Int)) == (1 : Int)) = true ∧           (decide ((0 : Int) ≤ (↑k : Int) ∧ (↑k : Int) < (↑(Stps.n s) : Int)) = true ∧               Nat.blt (Int.toNat (↑k : Int)) (Stps.n s) = true ∧                 (Stps.K s (Int.toNat (↑k : Int)) = Stps.K s (Int.toNat (↑k : Int)) ∧                     ((RdS.N (rdSt s k) = RdS.N (rdSt s k) ∧ RdS.e (rdSt s k) = RdS.e (rdSt s k)) ∧                         (RdS.N (rdSt s k) = RdS.N (rdSt s k) ∧                             ∀ (i : Nat),                               i < RdS.N (rdSt s k) →                                 Same (A := Empty) [LV.int IntKind.u8 (RdS.f (rdSt s k) i)]                                   [LV.int IntKind.u8 (RdS.f (rdSt s k) i)]) ∧                           ∀ (i : Nat), plainL (A := Empty) [LV.int IntKind.u8 (RdS.f (rdSt s k) i)]) ∧                       RdS.N (rdSt s k) ≤ 8796093022208) ∧                   decide ((0 : Int) ≤ (↑k : Int) ∧ (↑k : Int) < (↑(Stps.n s) : Int)) = true ∧                     Nat.blt (Int.toNat (↑k : Int)) (Stps.n s) = true ∧                       (Stps.K s (Int.toNat (↑k : Int)) = Stps.K s (Int.toNat (↑k : Int)) ∧                           ((RdS.N (rdSt s k) = RdS.N (rdSt s k) ∧ RdS.e (rdSt s k) = RdS.e (rdSt s k)) ∧                               (RdS.N (rdSt s k) = RdS.N (rdSt s k) ∧                                   ∀ (i : Nat),                                     i < RdS.N (rdSt s k) →                                       Same (A := Empty) [LV.int IntKind.u8 (RdS.f (rdSt s k) i)]                                         [LV.int IntKind.u8 (RdS.f (rdSt s k) i)]) ∧                                 ∀ (i : Nat), plainL (A := Empty) [LV.int IntKind.u8 (RdS.f (rdSt s k) i)]) ∧                             RdS.N (rdSt s k) ≤ 8796093022208) ∧                         (tkL (RdS.N (rdSt s k)) (RdS.e (rdSt s k)) (Stps.K s (Int.toNat (↑k : Int))) =                               tkL (RdS.N (rdSt s k)) (RdS.e (rdSt s k)) (Stps.K s (Int.toNat (↑k : Int))) ∧                             ∀ (j : Nat),                               j < tkL (RdS.N (rdSt s k)) (RdS.e (rdSt s k)) (Stps.K s (Int.toNat (↑k : Int))) →                                 Like (A := Empty) [LV.int IntKind.u8 (RdS.f (rdSt s k) j)]                                   [LV.int IntKind.u8 (RdS.f (rdSt s k) j)]) ∧                           (tkL (RdS.N (rdSt s k)) (RdS.e (rdSt s k)) (Stps.K s (Int.toNat (↑k : Int))) =                                 tkL (RdS.N (rdSt s k)) (RdS.e (rdSt s k)) (Stps.K s (Int.toNat (↑k : Int))) ∧                               ∀ (j : Nat),                                 j < tkL (RdS.N (rdSt s k)) (RdS.e (rdSt s k)) (Stps.K s (Int.toNat (↑k : Int))) →                                   Like (A := Empty) [LV.int IntKind.u8 (RdS.f (rdSt s k) j)]                                     [LV.int IntKind.u8 (RdS.f (rdSt s k) j)]) ∧                             sameB (tkL (RdS.N (rdSt s k)) (RdS.e (rdSt s k)) (Stps.K s (Int.toNat (↑k : Int))))                               (RdS.f (rdSt s k))                               (tkL (RdS.N (rdSt s k)) (RdS.e (rdSt s k)) (Stps.K s (Int.toNat (↑k : Int))))                               (RdS.f (rdSt s k))) ∧             (tkE (RdS.N (rdSt s k)) (RdS.e (rdSt s k)) (Stps.K s (Int.toNat (↑k : Int))) !=                 tkE (RdS.N (rdSt s k)) (RdS.e (rdSt s k)) (Stps.K s (Int.toNat (↑k : Int)))) =               false) ∧   ((1 = 1 ∧ Stps.m s = Stps.m s) ∧       (0 = 0 ∧ Stps.n s = Stps.n s) ∧         IntKind.wrap IntKind.i64 ((↑k : Int) + (1 : Int)) = (↑(k + 1) : Int)) ∧     (tkN (RdS.N (rdSt s k)) (RdS.e (rdSt s k)) (Stps.K s (Int.toNat (↑k : Int))) = RdS.N (rdSt s (k + 1)) ∧         tkE (RdS.N (rdSt s k)) (RdS.e (rdSt s k)) (Stps.K s (Int.toNat (↑k : Int))) = RdS.e (rdSt s (k + 1))) ∧       ((Stps.m s = Stps.m s ∧             ∀ (i : Nat), i < Stps.m s → Same (A := Empty) [LV.int IntKind.u8 (Stps.g s i)] [LV.int IntKind.u8 (Stps.g s i)]) ∧           ∀ (i : Nat), plainL (A := Empty) [LV.int IntKind.u8 (Stps.g s i)]) ∧         (tkN (RdS.N (rdSt s k)) (RdS.e (rdSt s k)) (Stps.K s (Int.toNat (↑k : Int))) = RdS.N (rdSt s (k + 1)) ∧             tkE (RdS.N (rdSt s k)) (RdS.e (rdSt s k)) (Stps.K s (Int.toNat (↑k : Int))) =               RdS.e (rdSt s (k + 1))) ∧           ((tkN (RdS.N (rdSt s k)) (RdS.e (rdSt s k)) (Stps.K s (Int.toNat (↑k : Int))) =                   RdS.N (rdSt s (k + 1)) ∧                 ∀ (i : Nat),                   i < RdS.N (rdSt s (k + 1)) →                     Same (A := Empty) [LV.int IntKind.u8                           (tkF (RdS.N (rdSt s k)) (RdS.f (rdSt s k)) (RdS.e (rdSt s k))                             (Stps.K s (Int.toNat (↑k : Int))) i)]                       [LV.int IntKind.u8 (RdS.f (rdSt s (k + 1)) i)]) ∧               ∀ (i : Nat), plainL (A := Empty) [LV.int IntKind.u8 (RdS.f (rdSt s (k + 1)) i)]) ∧             (tkN (RdS.N (rdSt s k)) (RdS.e (rdSt s k)) (Stps.K s (Int.toNat (↑k : Int))) =                   RdS.N (rdSt s (k + 1)) ∧                 ∀ (i : Nat),                   i < RdS.N (rdSt s (k + 1)) →                     Same (A := Empty) [LV.int IntKind.u8                           (tkF (RdS.N (rdSt s k)) (RdS.f (rdSt s k)) (RdS.e (rdSt s k))                             (Stps.K s (Int.toNat (↑k : Int))) i)]                       [LV.int IntKind.u8 (RdS.f (rdSt s (k + 1)) i)]) ∧               ∀ (i : Nat), plainL (A := Empty) [LV.int IntKind.u8 (RdS.f (rdSt s (k + 1)) i)]
set_option maxRecDepth 100000 in
theorem rs1 (s : Stps) (k : Nat) : runG Try.prog (SRd false true false s []) 60 6 pathRs (rsJ s k) .normal 3 [some (.own 0), some (.own 1), some (.own 2), some (.own 53), some (.own 109)] 106 (rsT s (k + 1)) (rsM s (rdSt s (k + 1))) = some (some ((rs1_G s k))) := by kernel_rfl
--@]
--@gen rs2 (s : Stps) (k : Nat) := runG Try.prog (SRd false false true s []) 60 6 pathRs (rsJ s k) .normal 3 [some (.own 0), some (.own 1), some (.own 2), some (.own 53), some (.own 109)] 106 (rsT s (k + 1)) (rsM s (rdSt s (k + 1)))
--@[
def rs2_G (s : Stps) (k : Nat) : Prop := (decide ((↑k : Int) < (↑(Stps.n s) : Int)) = true ∧     (decide ((0 : Int) ≤ (↑k : Int) ∧ (↑k : Int) < (↑(Stps.n s) : Int)) = true ∧         Nat.blt (Int.toNat (↑k : Int)) (Stps.n s) = true) ∧       (Stps.W s (Int.toNat (↑k : Int)) == (0 : Int)) = false ∧         (Stps.W s (Int.toNat (↑k : Int)) == (1 : Int)) = false ∧           (Stps.W s (Int.toNat (↑k : Int)) == (2 : Int)) = true ∧             (decide ((0 : Int) ≤ (↑k : Int) ∧ (↑k : Int) < (↑(Stps.n s) : Int)) = true ∧                 Nat.blt (Int.toNat (↑k : Int)) (Stps.n s) = true ∧                   (Stps.K s (Int.toNat (↑k : Int)) = Stps.K s (Int.toNat (↑k : Int)) ∧                       ((RdS.N (rdSt s k) = RdS.N (rdSt s k) ∧ RdS.e (rdSt s k) = RdS.e (rdSt s k)) ∧                           (RdS.N (rdSt s k) = RdS.N (rdSt s k) ∧                               ∀ (i : Nat),                                 i < RdS.N (rdSt s k) →                                   Same (A := Empty) [LV.int IntKind.u8 (RdS.f (rdSt s k) i)]                                     [LV.int IntKind.u8 (RdS.f (rdSt s k) i)]) ∧                             ∀ (i : Nat), plainL (A := Empty) [LV.int IntKind.u8 (RdS.f (rdSt s k) i)]) ∧                         RdS.N (rdSt s k) ≤ 8796093022208) ∧                     decide ((0 : Int) ≤ (↑k : Int) ∧ (↑k : Int) < (↑(Stps.n s) : Int)) = true ∧                       Nat.blt (Int.toNat (↑k : Int)) (Stps.n s) = true ∧                         (Stps.K s (Int.toNat (↑k : Int)) = Stps.K s (Int.toNat (↑k : Int)) ∧                             ((RdS.N (rdSt s k) = RdS.N (rdSt s k) ∧ RdS.e (rdSt s k) = RdS.e (rdSt s k)) ∧                                 (RdS.N (rdSt s k) = RdS.N (rdSt s k) ∧                                     ∀ (i : Nat),                                       i < RdS.N (rdSt s k) →                                         Same (A := Empty) [LV.int IntKind.u8 (RdS.f (rdSt s k) i)]                                           [LV.int IntKind.u8 (RdS.f (rdSt s k) i)]) ∧                                   ∀ (i : Nat), plainL (A := Empty) [LV.int IntKind.u8 (RdS.f (rdSt s k) i)]) ∧                               RdS.N (rdSt s k) ≤ 8796093022208 ∧                                 Stps.K s (Int.toNat (↑k : Int)) ≤                                     (2 : Int) ^ 63 - (1 : Int) ∧                                   ∀ (j : Nat),                                     j < RdS.N (rdSt s k) →                                       (0 : Int) ≤ RdS.f (rdSt s k) j ∧                                         RdS.f (rdSt s k) j < (256 : Int)) ∧                           (rdL (RdS.N (rdSt s k)) (RdS.f (rdSt s k)) (RdS.e (rdSt s k))                                   (Stps.K s (Int.toNat (↑k : Int))) =                                 rdL (RdS.N (rdSt s k)) (RdS.f (rdSt s k)) (RdS.e (rdSt s k))                                   (Stps.K s (Int.toNat (↑k : Int))) ∧                               rdL (RdS.N (rdSt s k)) (RdS.f (rdSt s k)) (RdS.e (rdSt s k))                                   (Stps.K s (Int.toNat (↑k : Int))) =                                 rdL (RdS.N (rdSt s k)) (RdS.f (rdSt s k)) (RdS.e (rdSt s k))                                   (Stps.K s (Int.toNat (↑k : Int)))) ∧                             (((rdL (RdS.N (rdSt s k)) (RdS.f (rdSt s k)) (RdS.e (rdSt s k))                                         (Stps.K s (Int.toNat (↑k : Int))) =                                       rdL (RdS.N (rdSt s k)) (RdS.f (rdSt s k)) (RdS.e (rdSt s k))                                         (Stps.K s (Int.toNat (↑k : Int))) ∧                                     ∀ (i : Nat),                                       i <                                           rdL (RdS.N (rdSt s k)) (RdS.f (rdSt s k)) (RdS.e (rdSt s k))                                             (Stps.K s (Int.toNat (↑k : Int))) →                                         Same (A := Empty) [LV.bool (bitB (RdS.f (rdSt s k)) i)]                                           [LV.bool (bitB (RdS.f (rdSt s k)) i)]) ∧                                   ∀ (i : Nat), plainL (A := Empty) [LV.bool (bitB (RdS.f (rdSt s k)) i)]) ∧                                 (rdL (RdS.N (rdSt s k)) (RdS.f (rdSt s k)) (RdS.e (rdSt s k))                                         (Stps.K s (Int.toNat (↑k : Int))) =                                       rdL (RdS.N (rdSt s k)) (RdS.f (rdSt s k)) (RdS.e (rdSt s k))                                         (Stps.K s (Int.toNat (↑k : Int))) ∧                                     ∀ (i : Nat),                                       i <                                           rdL (RdS.N (rdSt s k)) (RdS.f (rdSt s k)) (RdS.e (rdSt s k))                                             (Stps.K s (Int.toNat (↑k : Int))) →                                         Same (A := Empty) [LV.bool (bitB (RdS.f (rdSt s k)) i)]                                           [LV.bool (bitB (RdS.f (rdSt s k)) i)]) ∧                                   ∀ (i : Nat), plainL (A := Empty) [LV.bool (bitB (RdS.f (rdSt s k)) i)]) ∧                               sameL                                 (rdL (RdS.N (rdSt s k)) (RdS.f (rdSt s k)) (RdS.e (rdSt s k))                                   (Stps.K s (Int.toNat (↑k : Int))))                                 (bitB (RdS.f (rdSt s k)))                                 (rdL (RdS.N (rdSt s k)) (RdS.f (rdSt s k)) (RdS.e (rdSt s k))                                   (Stps.K s (Int.toNat (↑k : Int))))                                 (bitB (RdS.f (rdSt s k)))) ∧               (rdE (RdS.N (rdSt s k)) (RdS.f (rdSt s k)) (RdS.e (rdSt s k)) (Stps.K s (Int.toNat (↑k : Int))) !=                   rdE (RdS.N (rdSt s k)) (RdS.f (rdSt s k)) (RdS.e (rdSt s k)) (Stps.K s (Int.toNat (↑k : Int)))) =                 false) ∧   ((1 = 1 ∧ Stps.m s = Stps.m s) ∧       (0 = 0 ∧ Stps.n s = Stps.n s) ∧         IntKind.wrap IntKind.i64 ((↑k : Int) + (1 : Int)) = (↑(k + 1) : Int)) ∧     (rdN (RdS.N (rdSt s k)) (RdS.f (rdSt s k)) (RdS.e (rdSt s k)) (Stps.K s (Int.toNat (↑k : Int))) =           RdS.N (rdSt s (k + 1)) ∧         rdE (RdS.N (rdSt s k)) (RdS.f (rdSt s k)) (RdS.e (rdSt s k)) (Stps.K s (Int.toNat (↑k : Int))) =           RdS.e (rdSt s (k + 1))) ∧       ((Stps.m s = Stps.m s ∧             ∀ (i : Nat), i < Stps.m s → Same (A := Empty) [LV.int IntKind.u8 (Stps.g s i)] [LV.int IntKind.u8 (Stps.g s i)]) ∧           ∀ (i : Nat), plainL (A := Empty) [LV.int IntKind.u8 (Stps.g s i)]) ∧         (rdN (RdS.N (rdSt s k)) (RdS.f (rdSt s k)) (RdS.e (rdSt s k)) (Stps.K s (Int.toNat (↑k : Int))) =               RdS.N (rdSt s (k + 1)) ∧             rdE (RdS.N (rdSt s k)) (RdS.f (rdSt s k)) (RdS.e (rdSt s k)) (Stps.K s (Int.toNat (↑k : Int))) =               RdS.e (rdSt s (k + 1))) ∧           ((rdN (RdS.N (rdSt s k)) (RdS.f (rdSt s k)) (RdS.e (rdSt s k)) (Stps.K s (Int.toNat (↑k : Int))) =                   RdS.N (rdSt s (k + 1)) ∧                 ∀ (i : Nat),                   i < RdS.N (rdSt s (k + 1)) →                     Same (A := Empty) [LV.int IntKind.u8                           (rdF (RdS.N (rdSt s k)) (RdS.f (rdSt s k)) (RdS.e (rdSt s k))                             (Stps.K s (Int.toNat (↑k : Int))) i)]                       [LV.int IntKind.u8 (RdS.f (rdSt s (k + 1)) i)]) ∧               ∀ (i : Nat), plainL (A := Empty) [LV.int IntKind.u8 (RdS.f (rdSt s (k + 1)) i)]) ∧             (rdN (RdS.N (rdSt s k)) (RdS.f (rdSt s k)) (RdS.e (rdSt s k)) (Stps.K s (Int.toNat (↑k : Int))) =                   RdS.N (rdSt s (k + 1)) ∧                 ∀ (i : Nat),                   i < RdS.N (rdSt s (k + 1)) →                     Same (A := Empty) [LV.int IntKind.u8                           (rdF (RdS.N (rdSt s k)) (RdS.f (rdSt s k)) (RdS.e (rdSt s k))                             (Stps.K s (Int.toNat (↑k : Int))) i)]                       [LV.int IntKind.u8 (RdS.f (rdSt s (k + 1)) i)]) ∧               ∀ (i : Nat), plainL (A := Empty) [LV.int IntKind.u8 (RdS.f (rdSt s (k + 1)) i)]
set_option maxRecDepth 100000 in
theorem rs2 (s : Stps) (k : Nat) : runG Try.prog (SRd false false true s []) 60 6 pathRs (rsJ s k) .normal 3 [some (.own 0), some (.own 1), some (.own 2), some (.own 53), some (.own 109)] 106 (rsT s (k + 1)) (rsM s (rdSt s (k + 1))) = some (some ((rs2_G s k))) := by kernel_rfl
--@]
--@gen rs3 (s : Stps) (k : Nat) := runG Try.prog (SRd false false false s []) 60 6 pathRs (rsJ s k) .normal 3 [some (.own 0), some (.own 1), some (.own 2), some (.own 3), some (.own 4)] 106 (rsT s (k + 1)) (rsM s (rdSt s (k + 1)))
--@[
def rs3_G (s : Stps) (k : Nat) : Prop := (decide ((↑k : Int) < (↑(Stps.n s) : Int)) = true ∧     (decide ((0 : Int) ≤ (↑k : Int) ∧ (↑k : Int) < (↑(Stps.n s) : Int)) = true ∧         Nat.blt (Int.toNat (↑k : Int)) (Stps.n s) = true) ∧       (Stps.W s (Int.toNat (↑k : Int)) == (0 : Int)) = false ∧         (Stps.W s (Int.toNat (↑k : Int)) == (1 : Int)) = false ∧           (Stps.W s (Int.toNat (↑k : Int)) == (2 : Int)) = false ∧             (RdS.e (rdSt s k) != RdS.e (rdSt s k)) = false) ∧   ((1 = 1 ∧ Stps.m s = Stps.m s) ∧       (0 = 0 ∧ Stps.n s = Stps.n s) ∧         IntKind.wrap IntKind.i64 ((↑k : Int) + (1 : Int)) = (↑(k + 1) : Int)) ∧     (RdS.N (rdSt s k) = RdS.N (rdSt s (k + 1)) ∧ RdS.e (rdSt s k) = RdS.e (rdSt s (k + 1))) ∧       ((Stps.m s = Stps.m s ∧             ∀ (i : Nat), i < Stps.m s → Same (A := Empty) [LV.int IntKind.u8 (Stps.g s i)] [LV.int IntKind.u8 (Stps.g s i)]) ∧           ∀ (i : Nat), plainL (A := Empty) [LV.int IntKind.u8 (Stps.g s i)]) ∧         (RdS.N (rdSt s k) = RdS.N (rdSt s (k + 1)) ∧ RdS.e (rdSt s k) = RdS.e (rdSt s (k + 1))) ∧           ((RdS.N (rdSt s k) = RdS.N (rdSt s (k + 1)) ∧                 ∀ (i : Nat),                   i < RdS.N (rdSt s (k + 1)) →                     Same (A := Empty) [LV.int IntKind.u8 (RdS.f (rdSt s k) i)]                       [LV.int IntKind.u8 (RdS.f (rdSt s (k + 1)) i)]) ∧               ∀ (i : Nat), plainL (A := Empty) [LV.int IntKind.u8 (RdS.f (rdSt s (k + 1)) i)]) ∧             (RdS.N (rdSt s k) = RdS.N (rdSt s (k + 1)) ∧                 ∀ (i : Nat),                   i < RdS.N (rdSt s (k + 1)) →                     Same (A := Empty) [LV.int IntKind.u8 (RdS.f (rdSt s k) i)]                       [LV.int IntKind.u8 (RdS.f (rdSt s (k + 1)) i)]) ∧               ∀ (i : Nat), plainL (A := Empty) [LV.int IntKind.u8 (RdS.f (rdSt s (k + 1)) i)]
set_option maxRecDepth 100000 in
theorem rs3 (s : Stps) (k : Nat) : runG Try.prog (SRd false false false s []) 60 6 pathRs (rsJ s k) .normal 3 [some (.own 0), some (.own 1), some (.own 2), some (.own 3), some (.own 4)] 106 (rsT s (k + 1)) (rsM s (rdSt s (k + 1))) = some (some ((rs3_G s k))) := by kernel_rfl
--@]
def advRe (c d g : Bool) (a b : Option Bool) : Adv := { advLi true true c d with
  il := fun f => Nat.beq f 14
  dec := fun f r i => match f, r, i with
    | 6, 3, 6 => some g
    | 6, 7, 3 => some false
    | 6, 20, 1 => a
    | 6, 20, 8 => b
    | 6, 22, 3 => some true
    | 14, 3, 3 => some true
    | 14, 3, 6 => some true
    | 14, 6, 2 => some c
    | 14, 6, 5 => some d
    | _, _, _ => none }
noncomputable abbrev SRe (c d g : Bool) (a b : Option Bool) (s : Stps) (ls : List (LoopF Try.prog (inS s))) : Sig Empty := sigOf (P := Try.prog) [conKnown] [] [conREnd, conNew] (I := inS s) ls noMs (advRe c d g a b)
theorem SRe_ok (c d g : Bool) (a b : Option Bool) (s : Stps) (ls : List (LoopF Try.prog (inS s))) : SigOk Try.prog (SRe c d g a b s ls) := sigOf_ok _ _ _ ls (noMs_ok _) _ (inS_ok s)
noncomputable abbrev rsZ (s : Stps) : LS Empty := ⟨tm 106 [(5, .ptr (.own 0) 0 []), (6, .ptr (.own 2) 0 [])], rsM s (rdSt s s.n), []⟩
--@gen rsE (s : Stps) := runG Try.prog (SRe true true false none none s []) 60 6 pathRs (rsJ s s.n) (.exit 0) 3 [some (.own 0), some (.own 1), some (.own 2), some (.own 3), some (.own 4)] 106 [(5, .ptr (.own 0) 0 []), (6, .ptr (.own 2) 0 [])] (rsM s (rdSt s s.n))
--@[
def rsE_G (s : Stps) : Prop := decide ((↑(Stps.n s) : Int) < (↑(Stps.n s) : Int)) = false ∧   (RdS.N (rdSt s (Stps.n s)) = RdS.N (rdSt s (Stps.n s)) ∧ RdS.e (rdSt s (Stps.n s)) = RdS.e (rdSt s (Stps.n s))) ∧     ((Stps.m s = Stps.m s ∧           ∀ (i : Nat), i < Stps.m s → Same (A := Empty) [LV.int IntKind.u8 (Stps.g s i)] [LV.int IntKind.u8 (Stps.g s i)]) ∧         ∀ (i : Nat), plainL (A := Empty) [LV.int IntKind.u8 (Stps.g s i)]) ∧       (RdS.N (rdSt s (Stps.n s)) = RdS.N (rdSt s (Stps.n s)) ∧ RdS.e (rdSt s (Stps.n s)) = RdS.e (rdSt s (Stps.n s))) ∧         ((RdS.N (rdSt s (Stps.n s)) = RdS.N (rdSt s (Stps.n s)) ∧               ∀ (i : Nat),                 i < RdS.N (rdSt s (Stps.n s)) →                   Same (A := Empty) [LV.int IntKind.u8 (RdS.f (rdSt s (Stps.n s)) i)]                     [LV.int IntKind.u8 (RdS.f (rdSt s (Stps.n s)) i)]) ∧             ∀ (i : Nat), plainL (A := Empty) [LV.int IntKind.u8 (RdS.f (rdSt s (Stps.n s)) i)]) ∧           (RdS.N (rdSt s (Stps.n s)) = RdS.N (rdSt s (Stps.n s)) ∧               ∀ (i : Nat),                 i < RdS.N (rdSt s (Stps.n s)) →                   Same (A := Empty) [LV.int IntKind.u8 (RdS.f (rdSt s (Stps.n s)) i)]                     [LV.int IntKind.u8 (RdS.f (rdSt s (Stps.n s)) i)]) ∧             ∀ (i : Nat), plainL (A := Empty) [LV.int IntKind.u8 (RdS.f (rdSt s (Stps.n s)) i)]
set_option maxRecDepth 100000 in
theorem rsE (s : Stps) : runG Try.prog (SRe true true false none none s []) 60 6 pathRs (rsJ s s.n) (.exit 0) 3 [some (.own 0), some (.own 1), some (.own 2), some (.own 3), some (.own 4)] 106 [(5, .ptr (.own 0) 0 []), (6, .ptr (.own 2) 0 [])] (rsM s (rdSt s s.n)) = some (some ((rsE_G s))) := by kernel_rfl
--@]
noncomputable def rsB (s : Stps) (q : Nat) (hs : okS s) (h : stopL s q) : LS Empty := entry Try.prog (SRe true true false none none s [liL s q hs h]) 60 6 [0, 1, 0, 1, 1, 1, 1] [.vec (.inp 0 1) s.m, .vec (.inp 0 0) s.n] []
--@gen rsI (s : Stps) (q : Nat) (hs : okS s) (h : stopL s q) := mS (inS s) [some (.own 0), some (.own 1), some (.own 2), some (.own 1), some (.inp 0 1)] (rsB s q hs h) 106 (rsT s 0) (rsM s (rdSt s 0))
--@[
def rsI_G (s : Stps) (q : Nat) (hs : okS s) (h : stopL s q) : Prop := ((1 = 1 ∧ Stps.m s = Stps.m s) ∧     (0 = 0 ∧ Stps.n s = Stps.n s) ∧ (0 : Int) = (↑0 : Int)) ∧   (Stps.m s = RdS.N (rdSt s 0) ∧ (0 : Int) = RdS.e (rdSt s 0)) ∧     ((Stps.m s = Stps.m s ∧           ∀ (i : Nat), i < Stps.m s → Same (A := Empty) [LV.int IntKind.u8 (Stps.g s i)] [LV.int IntKind.u8 (Stps.g s i)]) ∧         ∀ (i : Nat), plainL (A := Empty) [LV.int IntKind.u8 (Stps.g s i)]) ∧       ((1 = 1 ∧ Stps.m s = RdS.N (rdSt s 0)) ∧           (0 : Int) = RdS.e (rdSt s 0)) ∧         ((Stps.m s = RdS.N (rdSt s 0) ∧               ∀ (i : Nat),                 i < RdS.N (rdSt s 0) →                   Same (A := Empty) [LV.int IntKind.u8 (Stps.g s i)] [LV.int IntKind.u8 (RdS.f (rdSt s 0) i)]) ∧             ∀ (i : Nat), plainL (A := Empty) [LV.int IntKind.u8 (RdS.f (rdSt s 0) i)]) ∧           (Stps.m s = RdS.N (rdSt s 0) ∧               ∀ (i : Nat),                 i < RdS.N (rdSt s 0) →                   Same (A := Empty) [LV.int IntKind.u8 (Stps.g s i)] [LV.int IntKind.u8 (RdS.f (rdSt s 0) i)]) ∧             ∀ (i : Nat), plainL (A := Empty) [LV.int IntKind.u8 (RdS.f (rdSt s 0) i)]
set_option maxRecDepth 100000 in
theorem rsI (s : Stps) (q : Nat) (hs : okS s) (h : stopL s q) : mS (inS s) [some (.own 0), some (.own 1), some (.own 2), some (.own 1), some (.inp 0 1)] (rsB s q hs h) 106 (rsT s 0) (rsM s (rdSt s 0)) = some (some ((rsI_G s q hs h))) := by kernel_rfl
--@]
/-- The bytes are bytes. -/
def okG (s : Stps) : Prop := ∀ j, j < s.m → 0 ≤ s.g j ∧ s.g j < 256
def okR (r : RdS) : Prop := r.N ≤ 2000 ∧ ∀ j, j < r.N → 0 ≤ r.f j ∧ r.f j < 256
theorem rdNext_ok {s : Stps} {k : Nat} {r : RdS} (h : okR r) : okR (rdNext s k r) := by
  obtain ⟨h1, h2⟩ := h
  unfold rdNext
  by_cases c0 : s.W k = 0
  · simp only [c0, if_true, okR, tkN, tkF]
    cases hk : tkOk r.N r.e 8 with
    | true => simp only [if_true]; exact ⟨by omega, fun j hj => h2 _ (by omega)⟩
    | false => simp only [Bool.false_eq_true, if_false]; exact ⟨h1, h2⟩
  by_cases c1 : s.W k = 1
  · simp only [c1, if_true, if_false, okR, tkN, tkF, show ¬ (1 : Int) = 0 by omega]
    cases hk : tkOk r.N r.e (s.K k) with
    | true => simp only [if_true]; exact ⟨by omega, fun j hj => h2 _ (by omega)⟩
    | false => simp only [Bool.false_eq_true, if_false]; exact ⟨h1, h2⟩
  by_cases c2 : s.W k = 2
  · simp only [c2, if_true, if_false, okR, rdN, rdF, show ¬ (2 : Int) = 0 by omega, show ¬ (2 : Int) = 1 by omega]
    cases hk : rdOk r.N r.f r.e (s.K k) with
    | true => simp only [if_true]; exact ⟨by omega, fun j hj => h2 _ (by omega)⟩
    | false => simp only [Bool.false_eq_true, if_false]; exact ⟨h1, h2⟩
  · simp only [c0, c1, c2, if_false]; exact ⟨h1, h2⟩
theorem rdSt_ok {s : Stps} (hm : s.m ≤ 2000) (hg : okG s) : ∀ k, okR (rdSt s k)
  | 0 => ⟨hm, hg⟩
  | k + 1 => rdNext_ok (rdSt_ok hm hg k)
/-- So many bits are no more than there may be. -/
theorem rdL_le (N : Nat) (f : Nat → Int) (e n : Int) : rdL N f e n ≤ 8 * N := by
  unfold rdL
  split
  · rename_i h
    simp only [rdOk, Bool.and_eq_true, decide_eq_true_eq] at h
    exact h.1.2
  · exact Nat.zero_le _
theorem rs_step (s : Stps) (hf : few s) (hm : s.m ≤ 2000) (hg : okG s) (hK : ∀ k, k < s.n → s.K k ≤ 2 ^ 63 - 1) (k : Nat) (hk : k < s.n) : ExB 3 Try.prog (inS s) (codeAt Try.prog 6 pathRs) (rsJ s k) .normal (rsJ s (k + 1)) := by
  obtain ⟨h1, h2⟩ := rdSt_ok hm hg k
  have h3 := hK k hk
  have h5 : IntKind.wrap IntKind.i64 ((k : Int) + 1) = ((k + 1 : Nat) : Int) := by rw [IntWalk.i64_in _ (by have := hf.1; omega)]; rfl
  have h6 := rdL_le (rdSt s k).N (rdSt s k).f (rdSt s k).e (s.K k)
  by_cases c0 : s.W k = 0
  · have e1 : (rdSt s (k + 1)).N = tkN (rdSt s k).N (rdSt s k).e 8 := by simp [rdSt, rdNext, c0]
    have e2 : (rdSt s (k + 1)).f = tkF (rdSt s k).N (rdSt s k).f (rdSt s k).e 8 := by simp [rdSt, rdNext, c0]
    have e3 : (rdSt s (k + 1)).e = tkE (rdSt s k).N (rdSt s k).e 8 := by simp [rdSt, rdNext, c0]
    refine ExB.auto (SRd_ok _ _ _ s _) (inS_ok s) rfl mixed 60 _ (rs0 s k) ?_
    simp only [condOk, rs0_G, Int.toNat_natCast, h5, e1, e2, e3]
    and_intros <;> first | exact h2 | exact beq_iff_eq.2 c0 | exact fun _ _ => rfl | exact True.intro | omega | exact fun _ => ⟨trivial, trivial⟩ | exact fun _ _ => Same.refl _ | exact fun _ _ => Like.refl _ | (simp (disch := omega) only [true_and, and_true, Nat.beq_refl, Bool.true_and, decide_eq_true_eq, decide_eq_false_iff_not, beq_iff_eq, bne_iff_ne, beq_eq_false_iff_ne, bne_eq_false_iff_eq, ne_eq, Nat.blt_eq, Nat.ble_eq, Nat.beq_eq, Bool.and_eq_true, Bool.or_eq_true, IntKind.wrap_i64, IntKind.wrap_u64, IntKind.wrap_u8, IntKind.wrap_u32, Int.tdiv_eq_ediv_of_nonneg, Int.tmod_eq_emod_of_nonneg] <;> omega) | rfl | trivial
  by_cases c1 : s.W k = 1
  · have e1 : (rdSt s (k + 1)).N = tkN (rdSt s k).N (rdSt s k).e (s.K k) := by simp [rdSt, rdNext, c1]
    have e2 : (rdSt s (k + 1)).f = tkF (rdSt s k).N (rdSt s k).f (rdSt s k).e (s.K k) := by simp [rdSt, rdNext, c1]
    have e3 : (rdSt s (k + 1)).e = tkE (rdSt s k).N (rdSt s k).e (s.K k) := by simp [rdSt, rdNext, c1]
    refine ExB.auto (SRd_ok _ _ _ s _) (inS_ok s) rfl mixed 60 _ (rs1 s k) ?_
    simp only [condOk, rs1_G, Int.toNat_natCast, h5, e1, e2, e3]
    and_intros <;> first | exact h2 | exact beq_eq_false_iff_ne.2 c0 | exact beq_iff_eq.2 c1 | exact fun _ _ => rfl | exact True.intro | omega | exact fun _ => ⟨trivial, trivial⟩ | exact fun _ _ => Same.refl _ | exact fun _ _ => Like.refl _ | (simp (disch := omega) only [true_and, and_true, Nat.beq_refl, Bool.true_and, decide_eq_true_eq, decide_eq_false_iff_not, beq_iff_eq, bne_iff_ne, beq_eq_false_iff_ne, bne_eq_false_iff_eq, ne_eq, Nat.blt_eq, Nat.ble_eq, Nat.beq_eq, Bool.and_eq_true, Bool.or_eq_true, IntKind.wrap_i64, IntKind.wrap_u64, IntKind.wrap_u8, IntKind.wrap_u32, Int.tdiv_eq_ediv_of_nonneg, Int.tmod_eq_emod_of_nonneg] <;> omega) | rfl | trivial
  by_cases c2 : s.W k = 2
  · have e1 : (rdSt s (k + 1)).N = rdN (rdSt s k).N (rdSt s k).f (rdSt s k).e (s.K k) := by simp [rdSt, rdNext, c2]
    have e2 : (rdSt s (k + 1)).f = rdF (rdSt s k).N (rdSt s k).f (rdSt s k).e (s.K k) := by simp [rdSt, rdNext, c2]
    have e3 : (rdSt s (k + 1)).e = rdE (rdSt s k).N (rdSt s k).f (rdSt s k).e (s.K k) := by simp [rdSt, rdNext, c2]
    refine ExB.auto (SRd_ok _ _ _ s _) (inS_ok s) rfl mixed 60 _ (rs2 s k) ?_
    simp only [condOk, rs2_G, Int.toNat_natCast, h5, e1, e2, e3]
    and_intros <;> first | exact h2 | exact beq_eq_false_iff_ne.2 c0 | exact beq_eq_false_iff_ne.2 c1 | exact beq_iff_eq.2 c2 | exact fun _ _ => rfl | exact True.intro | omega | exact fun _ => ⟨trivial, trivial⟩ | exact fun _ _ => Same.refl _ | exact fun _ _ => Like.refl _ | (simp (disch := omega) only [true_and, and_true, Nat.beq_refl, Bool.true_and, decide_eq_true_eq, decide_eq_false_iff_not, beq_iff_eq, bne_iff_ne, beq_eq_false_iff_ne, bne_eq_false_iff_eq, ne_eq, Nat.blt_eq, Nat.ble_eq, Nat.beq_eq, Bool.and_eq_true, Bool.or_eq_true, IntKind.wrap_i64, IntKind.wrap_u64, IntKind.wrap_u8, IntKind.wrap_u32, Int.tdiv_eq_ediv_of_nonneg, Int.tmod_eq_emod_of_nonneg] <;> omega) | rfl | trivial
  · have e1 : (rdSt s (k + 1)).N = (rdSt s k).N := by simp [rdSt, rdNext, c0, c1, c2]
    have e2 : (rdSt s (k + 1)).f = (rdSt s k).f := by simp [rdSt, rdNext, c0, c1, c2]
    have e3 : (rdSt s (k + 1)).e = (rdSt s k).e := by simp [rdSt, rdNext, c0, c1, c2]
    refine ExB.auto (SRd_ok _ _ _ s _) (inS_ok s) rfl mixed 60 _ (rs3 s k) ?_
    simp only [condOk, rs3_G, Int.toNat_natCast, h5, e1, e2, e3]
    and_intros <;> first | exact beq_eq_false_iff_ne.2 c0 | exact beq_eq_false_iff_ne.2 c1 | exact beq_eq_false_iff_ne.2 c2 | exact fun _ _ => rfl | exact True.intro | omega | exact fun _ => ⟨trivial, trivial⟩ | exact fun _ _ => Same.refl _ | exact fun _ _ => Like.refl _ | (simp (disch := omega) only [true_and, and_true, Nat.beq_refl, Bool.true_and, decide_eq_true_eq, decide_eq_false_iff_not, beq_iff_eq, bne_iff_ne, beq_eq_false_iff_ne, bne_eq_false_iff_eq, ne_eq, Nat.blt_eq, Nat.ble_eq, Nat.beq_eq, Bool.and_eq_true, Bool.or_eq_true, IntKind.wrap_i64, IntKind.wrap_u64, IntKind.wrap_u8, IntKind.wrap_u32, Int.tdiv_eq_ediv_of_nonneg, Int.tmod_eq_emod_of_nonneg] <;> omega) | rfl | trivial
end Go.Proofs.Ytjhjockdkpgpeaa.En

/- DERIVED. What is written is read back: the plain law. -/
set_option linter.all false
namespace Go.Proofs.Ytjhjockdkpgpeaa.En
open Go Go.RowKit

set_option maxRecDepth 100000 in
theorem bit_or_fin : ∀ (v : Fin 256) (i t : Fin 8), bitAt (bits .or .u8 (v.val : Int) (IntKind.u8.wrap (1 * 2 ^ min i.val 8))) t.val = (bitAt (v.val : Int) t.val || decide (t = i)) := by decide +kernel
set_option maxRecDepth 100000 in
theorem bit_none_fin : ∀ (t : Fin 8), bitAt 0 t.val = false := by decide +kernel
theorem bits_u8 (a b : Int) : 0 ≤ bits .or .u8 a b ∧ bits .or .u8 a b < 256 := by
  have h : bits .or .u8 a b = IntKind.u8.wrap ((BitVec.ofInt 8 a ||| BitVec.ofInt 8 b).toNat : Int) := rfl
  rw [h, IntKind.wrap_u8]
  omega
theorem packB_u8 (l : Nat → Bool) (q : Nat) : ∀ n, 0 ≤ packB l n q ∧ packB l n q < 256
  | 0 => by simp [packB]
  | n + 1 => by
    simp only [packB]
    split
    · exact bits_u8 _ _
    · exact packB_u8 l q n
/-- The bits of packed bits are these bits. -/
theorem bit_packB (l : Nat → Bool) (q : Nat) {t : Nat} (ht : t < 8) : ∀ n, bitAt (packB l n q) t = (decide (8 * q + t < n) && l (8 * q + t))
  | 0 => by
    simp only [packB, Nat.not_lt_zero, decide_false, Bool.false_and]
    exact bit_none_fin ⟨t, ht⟩
  | n + 1 => by
    have ih := bit_packB l q ht n
    obtain ⟨h0, h1⟩ := packB_u8 l q n
    simp only [packB]
    by_cases hc : l n = true ∧ q = n / 8
    · rw [if_pos hc]
      have := bit_or_fin ⟨(packB l n q).toNat, by omega⟩ ⟨n % 8, by omega⟩ ⟨t, ht⟩
      simp only [Fin.mk.injEq] at this
      rw [show (((packB l n q).toNat : Nat) : Int) = packB l n q by omega] at this
      unfold bitW
      rw [this, ih]
      by_cases e : t = n % 8
      · have e2 : 8 * q + t = n := by omega
        rw [e2]
        simp [hc.1, e]
      · have : (decide (8 * q + t < n + 1)) = decide (8 * q + t < n) := by
          have : 8 * q + t ≠ n := by omega
          simp only [decide_eq_decide]; omega
        rw [this]
        simp [e]
    · rw [if_neg hc, ih]
      by_cases e : 8 * q + t = n
      · have hq : q = n / 8 := by omega
        have hl : l n = false := by
          cases h : l n with
          | false => rfl
          | true => exact absurd ⟨h, hq⟩ hc
        rw [e, hl]
        simp
      · have : (decide (8 * q + t < n + 1)) = decide (8 * q + t < n) := by
          simp only [decide_eq_decide]; omega
        rw [this]
theorem bitB_at (f : Nat → Int) (i : Nat) : bitB f i = bitAt (f (i / 8)) (i % 8) := rfl
/-! ## what stands where -/
theorem outN_mono (s : Stps) {a b : Nat} (h : a ≤ b) : outN s a ≤ outN s b := by
  induction b with
  | zero => have : a = 0 := by omega
            subst this; exact Nat.le_refl _
  | succ b ih =>
    rcases Nat.lt_or_ge a (b + 1) with hl | hl
    · have := ih (by omega); simp only [outN]; omega
    · have : a = b + 1 := by omega
      subst this; exact Nat.le_refl _
theorem outF_pre (s : Stps) {a b j : Nat} (h : a ≤ b) (hj : j < outN s a) : outF s b j = outF s a j := by
  induction b with
  | zero => have : a = 0 := by omega
            subst this; rfl
  | succ b ih =>
    rcases Nat.lt_or_ge a (b + 1) with hl | hl
    · have h1 := outN_mono s (show a ≤ b by omega)
      simp only [outF, catF, show j < outN s b by omega, if_true]
      exact ih (by omega)
    · have : a = b + 1 := by omega
      subst this; rfl
theorem out_piece (s : Stps) {k j : Nat} (hk : k < s.n) (hj : j < pieceN s k) : restF s k j = pieceF s k j := by
  have h1 : outN s (k + 1) = outN s k + pieceN s k := rfl
  have h2 := outN_mono s (show k + 1 ≤ s.n by omega)
  unfold restF allF
  simp only [catF, show outN s k + j < outN s s.n by omega, if_true]
  rw [outF_pre s (show k + 1 ≤ s.n by omega) (by omega)]
  simp only [outF, catF, show ¬ outN s k + j < outN s k by omega, if_false]
  rw [show outN s k + j - outN s k = j by omega]
theorem rest_next (s : Stps) (k : Nat) : restN s (k + 1) = restN s k - pieceN s k := by
  unfold restN
  simp only [outN]
  omega
theorem restF_next (s : Stps) (k j : Nat) : restF s (k + 1) j = restF s k (pieceN s k + j) := by
  unfold restF
  simp only [outN]
  rw [Nat.add_assoc]
theorem piece_le (s : Stps) {k : Nat} (hk : k < s.n) : pieceN s k ≤ restN s k := by
  have h1 : outN s (k + 1) = outN s k + pieceN s k := rfl
  have h2 := outN_mono s (show k + 1 ≤ s.n by omega)
  unfold restN allN
  omega
def okBs (s : Stps) : Prop := ∀ k, k < s.n → ∀ j, j < s.lb k → 0 ≤ s.B k j ∧ s.B k j < 256
theorem chunkN_u8 (x : Int) (j : Nat) : 0 ≤ chunkN x j ∧ chunkN x j < 256 := by
  unfold chunkN
  split
  · rw [IntKind.wrap_u8]; omega
  · omega
theorem piece_u8 (s : Stps) (hB : okBs s) {k j : Nat} (hk : k < s.n) (hj : j < pieceN s k) : 0 ≤ pieceF s k j ∧ pieceF s k j < 256 := by
  unfold pieceN at hj
  unfold pieceF
  split
  · exact chunkN_u8 _ _
  · rename_i h0
    split
    · rename_i h1
      rw [if_neg h0, if_pos h1] at hj
      exact hB k hk j hj
    · exact packB_u8 _ _ _
theorem out_u8 (s : Stps) (hB : okBs s) : ∀ k, k ≤ s.n → ∀ j, j < outN s k → 0 ≤ outF s k j ∧ outF s k j < 256
  | 0, _, j, hj => absurd hj (Nat.not_lt_zero j)
  | k + 1, hk, j, hj => by
    simp only [outF, catF]
    split
    · rename_i h; exact out_u8 s hB k (by omega) j h
    · simp only [outN] at hj
      exact piece_u8 s hB (by omega) (by omega)
theorem all_u8 (s : Stps) (hB : okBs s) (hg : okG s) {j : Nat} (hj : j < allN s) : 0 ≤ allF s j ∧ allF s j < 256 := by
  unfold allN at hj
  simp only [allF, catF]
  split
  · rename_i h; exact out_u8 s hB s.n (Nat.le_refl _) j h
  · exact hg _ (by omega)
theorem rest_u8 (s : Stps) (hB : okBs s) (hg : okG s) {k : Nat} : ∀ j, j < restN s k → 0 ≤ restF s k j ∧ restF s k j < 256 := fun j hj => by
  unfold restN at hj
  exact all_u8 s hB hg (by omega)
/-- A number, out of its bytes. -/
theorem chunk_sum {x : Int} (h0 : 0 ≤ x) (h1 : x < 2 ^ 64) : chunkN x 0 + chunkN x 1 * 2 ^ 8 + chunkN x 2 * 2 ^ 16 + chunkN x 3 * 2 ^ 24 + chunkN x 4 * 2 ^ 32 + chunkN x 5 * 2 ^ 40 + chunkN x 6 * 2 ^ 48 + chunkN x 7 * 2 ^ 56 = x := by
  have e : ∀ j, j < 8 → chunkN x j = x / 2 ^ (8 * j) % 256 := fun j hj => by
    unfold chunkN
    rw [if_pos hj, IntKind.wrap_u8, Int.fdiv_eq_ediv_of_nonneg _ (Int.pow_nonneg (by omega))]
  rw [e 0 (by omega), e 1 (by omega), e 2 (by omega), e 3 (by omega), e 4 (by omega), e 5 (by omega), e 6 (by omega), e 7 (by omega)]
  simp only [Nat.mul_zero, Nat.reduceMul, Int.reducePow, Int.ediv_one]
  omega
end Go.Proofs.Ytjhjockdkpgpeaa.En

/- DERIVED. Slices and structs that came in, opened. -/
set_option linter.all false
namespace Go.Proofs.Ytjhjockdkpgpeaa.En
open Go Go.RowKit Go.ChangeShapes Go.WideShapes Go.ChangeAt Go.WideElems

section
variable {P : Program} {H : Type} {enc : TypeId × Value → H} {W : World} {held : Bool}

theorem weightsAll_mem {e : TypeId} : ∀ {l : List (DataW H)} {d : DataW H}, d ∈ l → ∀ n ∈ d.weights P e, n ∈ DataW.weightsAll P e l
  | [], _, h, _, _ => by cases h
  | x :: l, d, h, n, hn => by
    simp only [DataW.weightsAll, List.mem_append]
    rcases List.mem_cons.1 h with rfl | h
    · exact .inl hn
    · exact .inr (weightsAll_mem h n hn)
/-- A slice's cell. -/
theorem open_vec {t e : TypeId} {fuel : Nat} {cs : List Value} {x : DataW H × List MemPlace} (ht : P.underlying t = some (.slice e)) (hz : 0 < P.cellsOf e) (h : DataW.trod enc P W 0 (fun _ => true) held fuel t cs = some x) (hw : ∀ n ∈ x.1.weights P t, n ≤ reachBytes) :
    ∃ (n : Nat) (l : Loc) (m : Nat), cs = [vecV l n] ∧ Came W l n ∧ n * P.bytesOf e ≤ reachBytes ∧
      ∀ i, i < n → ∃ cs' y, W.cells? 0 ((l.at 0).add (i * P.cellsOf e)) (P.cellsOf e) = some cs' ∧ DataW.trod enc P W 0 (fun _ => true) held m e cs' = some y ∧ ∀ n ∈ y.1.weights P e, n ≤ reachBytes := by
  rcases Deep.open_slice ht h with ⟨rfl, rfl⟩ | ⟨a, len, cap, m, k, D, Pl, rfl, _, hl, hm, hmm, rfl, hx⟩
  · exact ⟨0, ⟨0, 0, 0, true, none⟩, 0, rfl, ⟨Nat.le_refl _, Nat.zero_le _, fun _ => rfl, fun h => by cases h⟩, by simp, fun i hi => absurd hi (Nat.not_lt_zero i)⟩
  · rw [if_pos rfl] at hmm
    subst hmm
    have hwt : ∀ i, i < len → ∀ n ∈ (D i).weights P e, n ≤ reachBytes := fun i hi n hn => by
      refine hw n ?_
      simp only [DataW.weights, ht, List.mem_cons, List.mem_append]
      exact .inr (.inl (weightsAll_mem (List.mem_map.2 ⟨i, List.mem_range.2 hi, rfl⟩) n hn))
    have hsz : len * P.bytesOf e ≤ reachBytes := by
      have := hw _ (by simp only [DataW.weights, ht]; exact List.mem_cons_self ..)
      simp only [List.length_map, List.length_range] at this
      refine Nat.le_trans (Nat.mul_le_mul_right _ ?_) this
      omega
    by_cases hc : m = 0
    · subst hc
      have : len = 0 := by omega
      subst this
      exact ⟨0, ⟨0, 0, 0, true, some a⟩, 0, rfl, ⟨Nat.le_refl _, Nat.zero_le _, fun _ => rfl, fun h => by cases h⟩, by simp, fun i hi => absurd hi (Nat.not_lt_zero i)⟩
    · obtain ⟨cs0, h0, _⟩ := hx 0 (by omega)
      obtain ⟨h1, h2, h3⟩ := World.cells?_some h0
      have hh : a.spot = none ∧ a.block < W.heap.size := by
        have := h3 0 hz
        rw [List.getElem?_eq_getElem (show 0 < cs0.length by omega)] at this
        obtain ⟨b, o, sp⟩ := a
        have e : ((Addr.mk b o sp).add (0 * P.cellsOf e)).add 0 = ⟨b, o, sp⟩ := by simp [Addr.add]
        rw [e] at this
        unfold World.cell? at this
        split at this
        · rename_i c tt fr hh
          refine ⟨?_, ?_⟩
          · show sp = none
            cases sp with
            | none => rfl
            | some q => simp at this
          · rcases Nat.lt_or_ge b W.heap.size with h | h
            · exact h
            · simp only [Array.getElem?_eq_none h] at hh; cases hh
        · cases this
      obtain ⟨b, o, sp⟩ := a
      obtain ⟨h4, h5⟩ := hh
      have h4 : sp = none := h4
      subst h4
      exact ⟨len, ⟨b, o, m, false, none⟩, k, rfl, ⟨hl, Nat.le_trans hl hm, (fun h => by cases h), fun _ => h5⟩, hsz, fun i hi => by
        obtain ⟨cs', h6, h7⟩ := hx i (by omega)
        exact ⟨cs', _, h6, h7, hwt i hi⟩⟩
/-- A struct's cells. -/
theorem open_struct {t : TypeId} {fs : Array Field} {fuel : Nat} {cs : List Value} {x : DataW H × List MemPlace} {base : Nat} {spare : Nat → Bool} (ht : P.underlying t = some (.struct fs)) (h : DataW.trod enc P W base spare held fuel t cs = some x) (hw : ∀ n ∈ x.1.weights P t, n ≤ reachBytes) :
    cs.length = P.cellsOf t ∧ ∃ m, ∀ (i : Nat) (f : Field), fs[i]? = some f → ∃ y, DataW.trod enc P W base spare held m f.type ((cs.drop f.offset).take (P.cellsOf f.type)) = some y ∧ ∀ n ∈ y.1.weights P f.type, n ≤ reachBytes := by
  obtain ⟨xs, m, _, rfl, hl, hlen, hf⟩ := DataW.trod_struct ht h
  refine ⟨hl, m, fun i f hi => ?_⟩
  have hlt : i < fs.size := by
    rcases Nat.lt_or_ge i fs.size with h | h
    · exact h
    · rw [Array.getElem?_eq_none h] at hi; cases hi
  have hxi : xs[i]? = some (xs[i]'(by omega)) := List.getElem?_eq_getElem (by omega)
  refine ⟨_, (hf i f hi).trans hxi, fun n hn => hw n ?_⟩
  simp only [DataW.weights, ht]
  exact DataW.weights_mem_each (j := i) (t := f.type) (by simp [hi]) (by simp [hxi]) n hn
end
end Go.Proofs.Ytjhjockdkpgpeaa.En

/- DERIVED. What is written: the law's call. -/
set_option linter.all false
namespace Go.Proofs.Ytjhjockdkpgpeaa.En
open Go Go.RowKit

noncomputable abbrev runW (c d : Bool) (s : Stps) (ls : List (LoopF Try.prog (inS s))) := callF Try.prog (SWrL c d s ls) 60 3 [.vec (.inp 0 0) s.n] []
--@gen lw1 (s : Stps) (hf : few s) (q : Nat) (hs : okS s) (h : stopL s q) := (runW true true s [liL s q hs h, wrL s hf q hs h]).map (fun r => r.2.2)
--@[
def lw1_G (s : Stps) (hf : few s) (q : Nat) (hs : okS s) (h : stopL s q) : Prop := ((LS.tmps (LoopF.s (liL s q hs h)) = LS.tmps (LoopF.s (liL s q hs h)) ∧       LS.mem (LoopF.s (liL s q hs h)) = LS.mem (LoopF.s (liL s q hs h))) ∧     decide ((↑(Stps.n s) : Int) ≤ (100 : Int)) = true ∧       decide ((↑(cost s q) : Int) ≤ (5000 : Int)) = true) ∧   LS.tmps (LoopF.s (wrL s hf q hs h)) = LS.tmps (LoopF.s (wrL s hf q hs h)) ∧     LS.mem (LoopF.s (wrL s hf q hs h)) = LS.mem (LoopF.s (wrL s hf q hs h))
set_option maxRecDepth 100000 in
theorem lw1 (s : Stps) (hf : few s) (q : Nat) (hs : okS s) (h : stopL s q) : (runW true true s [liL s q hs h, wrL s hf q hs h]).map (fun r => r.2.2) = some (some ((lw1_G s hf q hs h))) := by kernel_rfl
--@]
--@gen lw2 (s : Stps) (q : Nat) (hs : okS s) (h : stopL s q) := (runW false true s [liL s q hs h]).map (fun r => r.2.2)
--@[
def lw2_G (s : Stps) (q : Nat) (hs : okS s) (h : stopL s q) : Prop := (LS.tmps (LoopF.s (liL s q hs h)) = LS.tmps (LoopF.s (liL s q hs h)) ∧     LS.mem (LoopF.s (liL s q hs h)) = LS.mem (LoopF.s (liL s q hs h))) ∧   decide ((↑(Stps.n s) : Int) ≤ (100 : Int)) = false
set_option maxRecDepth 100000 in
theorem lw2 (s : Stps) (q : Nat) (hs : okS s) (h : stopL s q) : (runW false true s [liL s q hs h]).map (fun r => r.2.2) = some (some ((lw2_G s q hs h))) := by kernel_rfl
--@]
--@gen lw3 (s : Stps) (q : Nat) (hs : okS s) (h : stopL s q) := (runW true false s [liL s q hs h]).map (fun r => r.2.2)
--@[
def lw3_G (s : Stps) (q : Nat) (hs : okS s) (h : stopL s q) : Prop := (LS.tmps (LoopF.s (liL s q hs h)) = LS.tmps (LoopF.s (liL s q hs h)) ∧     LS.mem (LoopF.s (liL s q hs h)) = LS.mem (LoopF.s (liL s q hs h))) ∧   decide ((↑(Stps.n s) : Int) ≤ (100 : Int)) = true ∧     decide ((↑(cost s q) : Int) ≤ (5000 : Int)) = false
set_option maxRecDepth 100000 in
theorem lw3 (s : Stps) (q : Nat) (hs : okS s) (h : stopL s q) : (runW true false s [liL s q hs h]).map (fun r => r.2.2) = some (some ((lw3_G s q hs h))) := by kernel_rfl
--@]
set_option maxRecDepth 100000 in
theorem lw1_v (s : Stps) (hf : few s) (q : Nat) (hs : okS s) (h : stopL s q) : (runW true true s [liL s q hs h, wrL s hf q hs h]).map (fun r => r.1) = some (.bool true) := by kernel_rfl
set_option maxRecDepth 100000 in
theorem lw2_v (s : Stps) (q : Nat) (hs : okS s) (h : stopL s q) : (runW false true s [liL s q hs h]).map (fun r => r.1) = some (.bool true) := by kernel_rfl
set_option maxRecDepth 100000 in
theorem lw3_v (s : Stps) (q : Nat) (hs : okS s) (h : stopL s q) : (runW true false s [liL s q hs h]).map (fun r => r.1) = some (.bool true) := by kernel_rfl
end Go.Proofs.Ytjhjockdkpgpeaa.En

/- DERIVED. Steps that came in, as the executor has them. -/
set_option linter.all false
namespace Go.Proofs.Ytjhjockdkpgpeaa.En
open Go Go.RowKit Go.ChangeShapes Go.WideShapes Go.ChangeAt Go.WideElems

section
variable {H : Type} {enc : TypeId × Value → H} {W : World}
/-- Whole numbers in a slice. -/
theorem open_numsT {t e : TypeId} {k : IntKind} {fuel : Nat} {cs : List Value} {x : DataW H × List MemPlace} (ht : Try.prog.underlying t = some (.slice e)) (he : Try.prog.underlying e = some (.int k)) (hc : Try.prog.cellsOf e = 1) (hb : Try.prog.bytesOf e = 1)
    (h : DataW.trod enc Try.prog W 0 (fun _ => true) true fuel t cs = some x) (hw : ∀ n ∈ x.1.weights Try.prog t, n ≤ reachBytes) : ∃ (n : Nat) (f : Nat → Int) (l : Loc), cs = [vecV l n] ∧ Came W l n ∧ n ≤ 2 ^ 47 ∧ ∀ j, j < n → W.cell? (l.at j) = some (.int k (f j)) ∧ (Lit.int k (f j)).wf = true := by
  obtain ⟨n, l, m, h1, h2, h3, h4⟩ := open_vec ht (by omega) h hw
  rw [hb, Nat.mul_one] at h3
  obtain ⟨f, hf⟩ := Deep.choose_lt (α := Int) (p := fun i v => W.cell? (l.at i) = some (.int k v) ∧ (Lit.int k v).wf = true) fun i hi => by
    obtain ⟨cs', y, h5, h6, _⟩ := h4 i hi
    obtain ⟨z, rfl, _, h7⟩ := DataW.trod_int he h6
    rw [hc, Nat.mul_one] at h5
    refine ⟨z, ?_, h7⟩
    have := cell_of_cells?_one h5
    rwa [loc_add, Nat.zero_add] at this
  exact ⟨n, f, l, h1, h2, Nat.le_trans h3 (by decide), hf⟩
theorem open_boolsT {t e : TypeId} {fuel : Nat} {cs : List Value} {x : DataW H × List MemPlace} (ht : Try.prog.underlying t = some (.slice e)) (he : Try.prog.underlying e = some .bool) (hc : Try.prog.cellsOf e = 1) (hb : Try.prog.bytesOf e = 1)
    (h : DataW.trod enc Try.prog W 0 (fun _ => true) true fuel t cs = some x) (hw : ∀ n ∈ x.1.weights Try.prog t, n ≤ reachBytes) : ∃ (n : Nat) (f : Nat → Bool) (l : Loc), cs = [vecV l n] ∧ Came W l n ∧ n ≤ 2 ^ 47 ∧ ∀ j, j < n → W.cell? (l.at j) = some (.bool (f j)) := by
  obtain ⟨n, l, m, h1, h2, h3, h4⟩ := open_vec ht (by omega) h hw
  rw [hb, Nat.mul_one] at h3
  obtain ⟨f, hf⟩ := Deep.choose_lt (α := Bool) (p := fun i v => W.cell? (l.at i) = some (.bool v)) fun i hi => by
    obtain ⟨cs', y, h5, h6, _⟩ := h4 i hi
    obtain ⟨z, rfl, _⟩ := DataW.trod_bool he h6
    rw [hc, Nat.mul_one] at h5
    refine ⟨z, ?_⟩
    have := cell_of_cells?_one h5
    rwa [loc_add, Nat.zero_add] at this
  exact ⟨n, f, l, h1, h2, Nat.le_trans h3 (by decide), hf⟩
/-- One step. -/
structure StepV where
  w : Int
  k : Int
  x : Int
  lb : Nat
  B : Nat → Int
  bl : Loc
  ll : Nat
  L : Nat → Bool
  le : Loc
instance : Inhabited StepV := ⟨⟨0, 0, 0, 0, fun _ => 0, ⟨0, 0, 0, true, none⟩, 0, fun _ => false, ⟨0, 0, 0, true, none⟩⟩⟩
/-- .. lies there. -/
structure StepAt (W : World) (l : Loc) (i : Nat) (v : StepV) : Prop where
  cw : W.cell? (l.at (i * 5)) = some (.int .i64 v.w)
  ck : W.cell? (l.at (i * 5 + 1)) = some (.int .i64 v.k)
  cx : W.cell? (l.at (i * 5 + 2)) = some (.int .u64 v.x)
  cb : W.cell? (l.at (i * 5 + 3)) = some (vecV v.bl v.lb)
  cl : W.cell? (l.at (i * 5 + 4)) = some (vecV v.le v.ll)
  kw : (Lit.int .i64 v.k).wf = true
  xw : (Lit.int .u64 v.x).wf = true
  bc : Came W v.bl v.lb
  bn : v.lb ≤ 2 ^ 47
  bw : ∀ j, j < v.lb → W.cell? (v.bl.at j) = some (.int .u8 (v.B j)) ∧ (Lit.int .u8 (v.B j)).wf = true
  lc : Came W v.le v.ll
  ln : v.ll ≤ 2 ^ 47
  lw : ∀ j, j < v.ll → W.cell? (v.le.at j) = some (.bool (v.L j))
theorem cells31 : Try.prog.cellsOf 31 = 5 := by kernel_rfl
theorem cells4 : Try.prog.cellsOf 4 = 1 := by kernel_rfl
theorem cells5' : Try.prog.cellsOf 5 = 1 := by kernel_rfl
theorem cells3 : Try.prog.cellsOf 3 = 1 := by kernel_rfl
theorem cells28 : Try.prog.cellsOf 28 = 1 := by kernel_rfl
theorem cells25 : Try.prog.cellsOf 25 = 1 := by kernel_rfl
theorem cells29 : Try.prog.cellsOf 29 = 1 := by kernel_rfl
theorem bytes4 : Try.prog.bytesOf 4 = 1 := by kernel_rfl
theorem bytes5 : Try.prog.bytesOf 5 = 1 := by kernel_rfl
theorem bytes31 : Try.prog.bytesOf 31 = 72 := by kernel_rfl
set_option maxRecDepth 100000 in
theorem open_steps {fuel : Nat} {cs : List Value} {x : DataW H × List MemPlace} (h : DataW.trod enc Try.prog W 0 (fun _ => true) true fuel 22 cs = some x) (hw : ∀ n ∈ x.1.weights Try.prog 22, n ≤ reachBytes) :
    ∃ (n : Nat) (l : Loc) (V : Nat → StepV), cs = [vecV l n] ∧ Came W l n ∧ n ≤ 2 ^ 47 ∧ ∀ i, i < n → StepAt W l i (V i) := by
  obtain ⟨n, l, m, h1, h2, h3, h4⟩ := open_vec Try.underlying22 (by rw [cells31]; omega) h hw
  rw [bytes31] at h3
  have hn : n ≤ 2 ^ 47 := Nat.le_trans (show n ≤ n * 72 by omega) (Nat.le_trans h3 (by decide))
  obtain ⟨V, hV⟩ := Deep.choose_lt (α := StepV) (p := fun i v => StepAt W l i v) fun i hi => by
    obtain ⟨cs', y, h5, h6, h7⟩ := h4 i hi
    obtain ⟨h8, q, h9⟩ := open_struct Try.underlying31 h6 h7
    rw [cells31] at h5 h8
    obtain ⟨_, _, h10⟩ := World.cells?_some h5
    match cs', h8 with
    | [c0, c1, c2, c3, c4], _ =>
      obtain ⟨y0, a0, _⟩ := h9 0 _ rfl
      obtain ⟨y1, a1, _⟩ := h9 1 _ rfl
      obtain ⟨y2, a2, _⟩ := h9 2 _ rfl
      obtain ⟨y3, a3, w3⟩ := h9 3 _ rfl
      obtain ⟨y4, a4, w4⟩ := h9 4 _ rfl
      have a0 : DataW.trod enc Try.prog W 0 (fun _ => true) true q 3 ([c0, c1, c2, c3, c4].take (Try.prog.cellsOf 3)) = some y0 := a0
      have a1 : DataW.trod enc Try.prog W 0 (fun _ => true) true q 3 ([c1, c2, c3, c4].take (Try.prog.cellsOf 3)) = some y1 := a1
      have a2 : DataW.trod enc Try.prog W 0 (fun _ => true) true q 28 ([c2, c3, c4].take (Try.prog.cellsOf 28)) = some y2 := a2
      have a3 : DataW.trod enc Try.prog W 0 (fun _ => true) true q 25 ([c3, c4].take (Try.prog.cellsOf 25)) = some y3 := a3
      have a4 : DataW.trod enc Try.prog W 0 (fun _ => true) true q 29 ([c4].take (Try.prog.cellsOf 29)) = some y4 := a4
      rw [cells3] at a0 a1
      rw [cells28] at a2
      rw [cells25] at a3
      rw [cells29] at a4
      obtain ⟨z0, e0, _, _⟩ := DataW.trod_int Try.underlying3 a0
      obtain ⟨z1, e1, _, g1⟩ := DataW.trod_int Try.underlying3 a1
      obtain ⟨z2, e2, _, g2⟩ := DataW.trod_int Try.underlying28 a2
      obtain ⟨lb, B, bl, e3, b1, b2, b3⟩ := open_numsT Try.underlying25 Try.underlying5 cells5' bytes5 a3 w3
      obtain ⟨ll, L, le, e4, l1, l2, l3⟩ := open_boolsT Try.underlying29 Try.underlying4 cells4 bytes4 a4 w4
      have e0 := (List.cons.inj (show [c0] = _ from e0)).1
      have e1 := (List.cons.inj (show [c1] = _ from e1)).1
      have e2 := (List.cons.inj (show [c2] = _ from e2)).1
      have e3 := (List.cons.inj (show [c3] = _ from e3)).1
      have e4 := (List.cons.inj (show [c4] = _ from e4)).1
      have at' : ∀ j v, j < 5 → [c0, c1, c2, c3, c4][j]? = some v → W.cell? (l.at (i * 5 + j)) = some v := by
        intro j v hj hv
        have := h10 j hj
        rw [loc_add, loc_add, Nat.zero_add, hv] at this
        exact this
      refine ⟨⟨z0, z1, z2, lb, B, bl, ll, L, le⟩, ?_, ?_, ?_, ?_, ?_, g1, g2, b1, b2, b3, l1, l2, l3⟩
      · exact at' 0 _ (by omega) (by rw [e0]; rfl)
      · exact at' 1 _ (by omega) (by rw [e1]; rfl)
      · exact at' 2 _ (by omega) (by rw [e2]; rfl)
      · exact at' 3 _ (by omega) (by rw [e3]; rfl)
      · exact at' 4 _ (by omega) (by rw [e4]; rfl)
  exact ⟨n, l, V, h1, h2, hn, hV⟩
/-- .. put together: and bytes beside them. -/
noncomputable def stpsOf (n : Nat) (V : Nat → StepV) (m : Nat) (g : Nat → Int) : Stps where
  n := n
  W i := (V i).w
  K i := (V i).k
  X i := (V i).x
  lb i := if i < n then (V i).lb else 0
  B i := (V i).B
  ll i := if i < n then (V i).ll else 0
  L i := (V i).L
  m := m
  g := g
noncomputable def locOf (n : Nat) (l : Loc) (V : Nat → StepV) (lm : Loc) : Key → Loc
  | .inp 0 0 => l
  | .inp 0 1 => lm
  | .inp 1 i => if i < n then (V i).bl else ⟨0, 0, 0, true, none⟩
  | .inp 2 i => if i < n then (V i).le else ⟨0, 0, 0, true, none⟩
  | _ => ⟨0, 0, 0, true, none⟩
theorem stps_ok {n : Nat} {l : Loc} {V : Nat → StepV} {m : Nat} {g : Nat → Int} (hn : n ≤ 2 ^ 47) (hm : m ≤ 2 ^ 47) (hV : ∀ i, i < n → StepAt W l i (V i)) : okS (stpsOf n V m g) := by
  refine ⟨by show n ≤ _; omega, by show m ≤ _; omega, fun k hk => ?_⟩
  have hk : k < n := hk
  have := hV k hk
  simp only [stpsOf, hk, if_true]
  exact ⟨by have := this.bn; omega, by have := this.ln; omega⟩
theorem cells_bools (ρ : Key → Loc) {n : Nat} {f : Nat → Bool} {j : Nat} {v : Value} (h : (cellsL ρ (boolsU n f))[j]? = some v) : j < n ∧ v = .bool (f j) := by
  have h : (rowCells ρ n 1 fun j => [(LV.bool (f j) : LV Empty)])[j]? = some v := by rw [← cellsL_rows]; exact h
  have hlt : j < n * 1 := by
    rcases Nat.lt_or_ge j (n * 1) with h' | h'
    · exact h'
    · rw [List.getElem?_eq_none (by rw [len_rowCells]; exact h')] at h; cases h
  rw [Nat.mul_one] at hlt
  have e := get_rowCells ρ (fun j => [(LV.bool (f j) : LV Empty)]) hlt (show 0 < 1 by omega)
  rw [Nat.mul_one, Nat.add_zero] at e
  rw [e] at h
  simp [cellsL, LV.cells, fitTo] at h
  exact ⟨hlt, h.symm⟩
theorem steps_mem {n : Nat} {l : Loc} {V : Nat → StepV} {m : Nat} {g : Nat → Int} {lm : Loc} (hl : Came W l n) (hV : ∀ i, i < n → StepAt W l i (V i)) (hlm : Came W lm m) (hg : ∀ j, j < m → W.cell? (lm.at j) = some (.int .u8 (g j))) :
    MemRel (inS (stpsOf n V m g)) (locOf n l V lm) [] W := by
  refine memRel_nil _ _ _ (fun t i j v hv => ?_) (fun t i hn => ?_) (fun k hk => ?_) (fun t i hn => ?_)
  · match t, i with
    | 0, 0 =>
      have hv : (rowCells (locOf n l V lm) n 5 (stepU (stpsOf n V m g)))[j]? = some v := by rw [← cellsL_rows]; exact hv
      have hlt : j < n * 5 := by
        rcases Nat.lt_or_ge j (n * 5) with h' | h'
        · exact h'
        · rw [List.getElem?_eq_none (by rw [len_rowCells]; exact h')] at hv; cases hv
      obtain ⟨q, r, rfl, hr, hq⟩ := row_split' hlt
      rw [get_rowCells _ _ hq hr] at hv
      have hs := hV q hq
      show W.cell? (l.at (q * 5 + r)) = some v
      match r, hr with
      | 0, _ => cases (show some _ = some v from hv); exact hs.cw
      | 1, _ => cases (show some _ = some v from hv); exact hs.ck
      | 2, _ => cases (show some _ = some v from hv); exact hs.cx
      | 3, _ =>
        cases (show some _ = some v from hv)
        have := hs.cb
        simp only [stpsOf, locOf, hq, if_true]
        exact this
      | 4, _ =>
        cases (show some _ = some v from hv)
        have := hs.cl
        simp only [stpsOf, locOf, hq, if_true]
        exact this
    | 0, 1 =>
      obtain ⟨h1, rfl⟩ := cells_ints _ hv
      exact hg j h1
    | 0, i + 2 => simp [inS, cellsL] at hv
    | 1, i =>
      obtain ⟨h1, rfl⟩ := cells_ints _ hv
      by_cases hi : i < n
      · simp only [stpsOf, hi, if_true] at h1
        simp only [stpsOf, locOf, hi, if_true]
        exact ((hV i hi).bw j h1).1
      · simp only [stpsOf, hi, if_false] at h1; omega
    | 2, i =>
      obtain ⟨h1, rfl⟩ := cells_bools _ hv
      by_cases hi : i < n
      · simp only [stpsOf, hi, if_true] at h1
        simp only [stpsOf, locOf, hi, if_true]
        exact (hV i hi).lw j h1
      · simp only [stpsOf, hi, if_false] at h1; omega
    | t + 3, i => simp [inS, cellsL] at hv
  · match t, i with
    | 0, 0 => exact hl.blk hn
    | 0, 1 => exact hlm.blk hn
    | 0, i + 2 => cases hn
    | 1, i =>
      by_cases hi : i < n
      · simp only [locOf, hi, if_true] at hn ⊢; exact (hV i hi).bc.blk hn
      · simp only [locOf, hi, if_false] at hn; cases hn
    | 2, i =>
      by_cases hi : i < n
      · simp only [locOf, hi, if_true] at hn ⊢; exact (hV i hi).lc.blk hn
      · simp only [locOf, hi, if_false] at hn; cases hn
    | t + 3, i => cases hn
  · match k with
    | .own k => rfl
    | .inp 0 0 => exact hl.nil hk
    | .inp 0 1 => exact hlm.nil hk
    | .inp 0 (i + 2) => rfl
    | .inp 1 i =>
      by_cases hi : i < n
      · simp only [locOf, hi, if_true] at hk ⊢; exact (hV i hi).bc.nil hk
      · simp only [locOf, hi, if_false]
    | .inp 2 i =>
      by_cases hi : i < n
      · simp only [locOf, hi, if_true] at hk ⊢; exact (hV i hi).lc.nil hk
      · simp only [locOf, hi, if_false]
    | .inp (t + 3) i => rfl
  · have hc : ∀ {l : Loc} {n : Nat}, Came W l n → l.none = true → n = 0 := fun h hn => by have := h.nil hn; have := h.cap; omega
    match t, i with
    | 0, 0 => have := hc hl hn; simp [inS, stpsOf, cszL, csz, this]
    | 0, 1 => have := hc hlm hn; simp [inS, stpsOf, cszL, csz, this]
    | 0, i + 2 => rfl
    | 1, i =>
      by_cases hi : i < n
      · simp only [locOf, hi, if_true] at hn
        have := hc (hV i hi).bc hn
        simp [inS, stpsOf, cszL, csz, this]
      · simp [inS, stpsOf, cszL, csz, hi]
    | 2, i =>
      by_cases hi : i < n
      · simp only [locOf, hi, if_true] at hn
        have := hc (hV i hi).lc hn
        simp [inS, stpsOf, cszL, csz, this]
      · simp [inS, stpsOf, cszL, csz, hi]
    | t + 3, i => rfl
theorem steps_kin {n : Nat} {l : Loc} {V : Nat → StepV} {m : Nat} {g : Nat → Int} {lm : Loc} (hV : ∀ i, i < n → StepAt W l i (V i)) : ∀ t i, kinL (okKey ([] : Mem Empty) (locOf n l V lm)) (inS (stpsOf n V m g) t i) := by
  intro t i
  match t, i with
  | 0, 0 =>
    refine ⟨fun q => ?_, trivial⟩
    by_cases hq : q < n
    · refine ⟨trivial, trivial, trivial, ?_, ?_, trivial⟩
      · show (if q < n then (V q).lb else 0) ≤ (locOf n l V lm (.inp 1 q)).cap
        simp only [locOf, hq, if_true]; exact (hV q hq).bc.cap
      · show (if q < n then (V q).ll else 0) ≤ (locOf n l V lm (.inp 2 q)).cap
        simp only [locOf, hq, if_true]; exact (hV q hq).lc.cap
    · refine ⟨trivial, trivial, trivial, ?_, ?_, trivial⟩
      · show (if q < n then (V q).lb else 0) ≤ _
        simp only [hq, if_false]; exact Nat.zero_le _
      · show (if q < n then (V q).ll else 0) ≤ _
        simp only [hq, if_false]; exact Nat.zero_le _
  | 0, 1 => exact ⟨fun _ => ⟨trivial, trivial⟩, trivial⟩
  | 0, i + 2 => trivial
  | 1, i => exact ⟨fun _ => ⟨trivial, trivial⟩, trivial⟩
  | 2, i => exact ⟨fun _ => ⟨trivial, trivial⟩, trivial⟩
  | t + 3, i => trivial
end
/-- The law's call answers true. -/
theorem szWrites_call (s : Stps) (hs : okS s) {ρ : Key → Loc} {w : World} (hm : MemRel (inS s) ρ [] w) (hk : s.n ≤ (ρ (.inp 0 0)).cap) (hkI : ∀ t i, kinL (okKey ([] : Mem Empty) ρ) (inS s t i)) :
    Calls Try.prog 3 (trs ρ [(.vec (.inp 0 0) s.n : LV Empty)]).toArray w fun e w' => e = .returned (.bool true) ∧ Below w.heap.size w w' := by
  obtain ⟨q, hq⟩ := stopL_ex s
  have hfs := few_stop hq
  by_cases hf : few s
  · obtain ⟨h1, h2⟩ := hfs.1 hf
    refine calls_top (SWrL_ok _ _ s _) mixed (call_both (lw1_v s hf q hs hq) (lw1 s hf q hs hq)) ?_ hm ⟨hk, trivial⟩ hkI fun _ _ => rfl
    simp only [condOk, lw1_G]
    (and_intros <;> first | exact True.intro | omega | exact fun _ => ⟨trivial, trivial⟩ | exact fun _ _ => Same.refl _ | exact fun _ _ => Like.refl _ | (simp (disch := omega) only [true_and, and_true, Nat.beq_refl, Bool.true_and, decide_eq_true_eq, decide_eq_false_iff_not, beq_iff_eq, bne_iff_ne, beq_eq_false_iff_ne, bne_eq_false_iff_eq, ne_eq, Nat.blt_eq, Nat.ble_eq, Nat.beq_eq, Bool.and_eq_true, Bool.or_eq_true, IntKind.wrap_i64, IntKind.wrap_u64, IntKind.wrap_u8, IntKind.wrap_u32, Int.tdiv_eq_ediv_of_nonneg, Int.tmod_eq_emod_of_nonneg] <;> omega) | rfl | trivial)
  · by_cases hn : s.n ≤ 100
    · have : 5000 < cost s q := by
        rcases Nat.lt_or_ge 5000 (cost s q) with h | h
        · exact h
        · exact absurd (hfs.2 ⟨hn, h⟩) hf
      refine calls_top (SWrL_ok _ _ s _) mixed (call_both (lw3_v s q hs hq) (lw3 s q hs hq)) ?_ hm ⟨hk, trivial⟩ hkI fun _ _ => rfl
      simp only [condOk, lw3_G]
      (and_intros <;> first | exact True.intro | omega | exact fun _ => ⟨trivial, trivial⟩ | exact fun _ _ => Same.refl _ | exact fun _ _ => Like.refl _ | (simp (disch := omega) only [true_and, and_true, Nat.beq_refl, Bool.true_and, decide_eq_true_eq, decide_eq_false_iff_not, beq_iff_eq, bne_iff_ne, beq_eq_false_iff_ne, bne_eq_false_iff_eq, ne_eq, Nat.blt_eq, Nat.ble_eq, Nat.beq_eq, Bool.and_eq_true, Bool.or_eq_true, IntKind.wrap_i64, IntKind.wrap_u64, IntKind.wrap_u8, IntKind.wrap_u32, Int.tdiv_eq_ediv_of_nonneg, Int.tmod_eq_emod_of_nonneg] <;> omega) | rfl | trivial)
    · refine calls_top (SWrL_ok _ _ s _) mixed (call_both (lw2_v s q hs hq) (lw2 s q hs hq)) ?_ hm ⟨hk, trivial⟩ hkI fun _ _ => rfl
      simp only [condOk, lw2_G]
      (and_intros <;> first | exact True.intro | omega | exact fun _ => ⟨trivial, trivial⟩ | exact fun _ _ => Same.refl _ | exact fun _ _ => Like.refl _ | (simp (disch := omega) only [true_and, and_true, Nat.beq_refl, Bool.true_and, decide_eq_true_eq, decide_eq_false_iff_not, beq_iff_eq, bne_iff_ne, beq_eq_false_iff_ne, bne_eq_false_iff_eq, ne_eq, Nat.blt_eq, Nat.ble_eq, Nat.beq_eq, Bool.and_eq_true, Bool.or_eq_true, IntKind.wrap_i64, IntKind.wrap_u64, IntKind.wrap_u8, IntKind.wrap_u32, Int.tdiv_eq_ediv_of_nonneg, Int.tmod_eq_emod_of_nonneg] <;> omega) | rfl | trivial)
end Go.Proofs.Ytjhjockdkpgpeaa.En

/- DERIVED. What is written is read back: the law's call. -/
set_option linter.all false
namespace Go.Proofs.Ytjhjockdkpgpeaa.En
open Go Go.RowKit

--@gen b20 (s : Stps) (k : Nat) := runG Try.prog (SBk true false false s []) 60 7 pathB2 (b2J s k) .normal 6 [some (.own 0), some (.own 1), some (.own 2), some (.own 3), some (.own 4), some (.own 5), some (.own 15)] 126 (b2T s (k + 1)) (b2M s (k + 1))
--@[
def b20_G (s : Stps) (k : Nat) : Prop := (decide ((↑k : Int) < (↑(Stps.n s) : Int)) = true ∧     (decide ((0 : Int) ≤ (↑k : Int) ∧ (↑k : Int) < (↑(Stps.n s) : Int)) = true ∧         Nat.blt (Int.toNat (↑k : Int)) (Stps.n s) = true) ∧       (Stps.W s (Int.toNat (↑k : Int)) == (0 : Int)) = true ∧         ((((restN s k = restN s k ∧ (0 : Int) = (0 : Int)) ∧                 (restN s k = restN s k ∧                     ∀ (i : Nat),                       i < restN s k → Same (A := Empty) [LV.int IntKind.u8 (restF s k i)] [LV.int IntKind.u8 (restF s k i)]) ∧                   ∀ (i : Nat), plainL (A := Empty) [LV.int IntKind.u8 (restF s k i)]) ∧               ∀ (j : Nat),                 j < restN s k → (0 : Int) ≤ restF s k j ∧ restF s k j < (256 : Int)) ∧             decide ((0 : Int) ≤ (↑k : Int) ∧ (↑k : Int) < (↑(Stps.n s) : Int)) = true ∧               Nat.blt (Int.toNat (↑k : Int)) (Stps.n s) = true ∧                 (uintV (restN s k) (restF s k) ((0 : Int)) == Stps.X s (Int.toNat (↑k : Int))) = true) ∧           (tkE (restN s k) ((0 : Int)) ((8 : Int)) != (0 : Int)) = false) ∧   ((0 = 0 ∧ Stps.n s = Stps.n s) ∧       (1 = 1 ∧ Stps.m s = Stps.m s) ∧         IntKind.wrap IntKind.i64 ((↑k : Int) + (1 : Int)) = (↑(k + 1) : Int)) ∧     outN s (Stps.n s) = outN s (Stps.n s) ∧       ((outN s (Stps.n s) = outN s (Stps.n s) ∧             ∀ (i : Nat),               i < outN s (Stps.n s) →                 Same (A := Empty) [LV.int IntKind.u8 (outF s (Stps.n s) i)] [LV.int IntKind.u8 (outF s (Stps.n s) i)]) ∧           ∀ (i : Nat), plainL (A := Empty) [LV.int IntKind.u8 (outF s (Stps.n s) i)]) ∧         ((allN s = allN s ∧               ∀ (i : Nat), i < allN s → Same (A := Empty) [LV.int IntKind.u8 (allF s i)] [LV.int IntKind.u8 (allF s i)]) ∧             ∀ (i : Nat), plainL (A := Empty) [LV.int IntKind.u8 (allF s i)]) ∧           (tkN (restN s k) ((0 : Int)) ((8 : Int)) = restN s (k + 1) ∧               tkE (restN s k) ((0 : Int)) ((8 : Int)) = (0 : Int)) ∧             ((allN s = allN s ∧                   ∀ (i : Nat), i < allN s → Same (A := Empty) [LV.int IntKind.u8 (allF s i)] [LV.int IntKind.u8 (allF s i)]) ∧                 ∀ (i : Nat), plainL (A := Empty) [LV.int IntKind.u8 (allF s i)]) ∧               (tkN (restN s k) ((0 : Int)) ((8 : Int)) = restN s (k + 1) ∧                   ∀ (i : Nat),                     i < restN s (k + 1) →                       Same (A := Empty) [LV.int IntKind.u8                             (tkF (restN s k) (restF s k) ((0 : Int)) ((8 : Int)) i)]                         [LV.int IntKind.u8 (restF s (k + 1) i)]) ∧                 ∀ (i : Nat), plainL (A := Empty) [LV.int IntKind.u8 (restF s (k + 1) i)]
set_option maxRecDepth 100000 in
theorem b20 (s : Stps) (k : Nat) : runG Try.prog (SBk true false false s []) 60 7 pathB2 (b2J s k) .normal 6 [some (.own 0), some (.own 1), some (.own 2), some (.own 3), some (.own 4), some (.own 5), some (.own 15)] 126 (b2T s (k + 1)) (b2M s (k + 1)) = some (some ((b20_G s k))) := by kernel_rfl
--@]
--@gen b21 (s : Stps) (k : Nat) := runG Try.prog (SBk false true false s []) 60 7 pathB2 (b2J s k) .normal 6 [some (.own 0), some (.own 1), some (.own 2), some (.own 3), some (.own 4), some (.own 5), some (.own 63)] 126 (b2T s (k + 1)) (b2M s (k + 1))
--@[
def b21_G (s : Stps) (k : Nat) : Prop := (decide ((↑k : Int) < (↑(Stps.n s) : Int)) = true ∧     (decide ((0 : Int) ≤ (↑k : Int) ∧ (↑k : Int) < (↑(Stps.n s) : Int)) = true ∧         Nat.blt (Int.toNat (↑k : Int)) (Stps.n s) = true) ∧       (Stps.W s (Int.toNat (↑k : Int)) == (0 : Int)) = false ∧         (Stps.W s (Int.toNat (↑k : Int)) == (1 : Int)) = true ∧           (decide ((0 : Int) ≤ (↑k : Int) ∧ (↑k : Int) < (↑(Stps.n s) : Int)) = true ∧               Nat.blt (Int.toNat (↑k : Int)) (Stps.n s) = true ∧                 ((↑(Stps.lb s (Int.toNat (↑k : Int))) : Int) = (↑(Stps.lb s (Int.toNat (↑k : Int))) : Int) ∧                     ((restN s k = restN s k ∧ (0 : Int) = (0 : Int)) ∧                         (restN s k = restN s k ∧                             ∀ (i : Nat),                               i < restN s k →                                 Same (A := Empty) [LV.int IntKind.u8 (restF s k i)] [LV.int IntKind.u8 (restF s k i)]) ∧                           ∀ (i : Nat), plainL (A := Empty) [LV.int IntKind.u8 (restF s k i)]) ∧                       restN s k ≤ 8796093022208) ∧                   decide ((0 : Int) ≤ (↑k : Int) ∧ (↑k : Int) < (↑(Stps.n s) : Int)) = true ∧                     Nat.blt (Int.toNat (↑k : Int)) (Stps.n s) = true ∧                       (tkL (restN s k) ((0 : Int)) (↑(Stps.lb s (Int.toNat (↑k : Int))) : Int) =                             tkL (restN s k) ((0 : Int)) (↑(Stps.lb s (Int.toNat (↑k : Int))) : Int) ∧                           ∀ (j : Nat),                             j < tkL (restN s k) ((0 : Int)) (↑(Stps.lb s (Int.toNat (↑k : Int))) : Int) →                               Like (A := Empty) [LV.int IntKind.u8 (restF s k j)] [LV.int IntKind.u8 (restF s k j)]) ∧                         (Stps.lb s (Int.toNat (↑k : Int)) = Stps.lb s (Int.toNat (↑k : Int)) ∧                             ∀ (j : Nat),                               j < Stps.lb s (Int.toNat (↑k : Int)) →                                 Like (A := Empty) [LV.int IntKind.u8 (Stps.B s (Int.toNat (↑k : Int)) j)]                                   [LV.int IntKind.u8 (Stps.B s (Int.toNat (↑k : Int)) j)]) ∧                           sameB (tkL (restN s k) ((0 : Int)) (↑(Stps.lb s (Int.toNat (↑k : Int))) : Int))                             (restF s k) (Stps.lb s (Int.toNat (↑k : Int))) (Stps.B s (Int.toNat (↑k : Int)))) ∧             (tkE (restN s k) ((0 : Int)) (↑(Stps.lb s (Int.toNat (↑k : Int))) : Int) !=                 (0 : Int)) =               false) ∧   ((0 = 0 ∧ Stps.n s = Stps.n s) ∧       (1 = 1 ∧ Stps.m s = Stps.m s) ∧         IntKind.wrap IntKind.i64 ((↑k : Int) + (1 : Int)) = (↑(k + 1) : Int)) ∧     outN s (Stps.n s) = outN s (Stps.n s) ∧       ((outN s (Stps.n s) = outN s (Stps.n s) ∧             ∀ (i : Nat),               i < outN s (Stps.n s) →                 Same (A := Empty) [LV.int IntKind.u8 (outF s (Stps.n s) i)] [LV.int IntKind.u8 (outF s (Stps.n s) i)]) ∧           ∀ (i : Nat), plainL (A := Empty) [LV.int IntKind.u8 (outF s (Stps.n s) i)]) ∧         ((allN s = allN s ∧               ∀ (i : Nat), i < allN s → Same (A := Empty) [LV.int IntKind.u8 (allF s i)] [LV.int IntKind.u8 (allF s i)]) ∧             ∀ (i : Nat), plainL (A := Empty) [LV.int IntKind.u8 (allF s i)]) ∧           (tkN (restN s k) ((0 : Int)) (↑(Stps.lb s (Int.toNat (↑k : Int))) : Int) =                 restN s (k + 1) ∧               tkE (restN s k) ((0 : Int)) (↑(Stps.lb s (Int.toNat (↑k : Int))) : Int) =                 (0 : Int)) ∧             ((allN s = allN s ∧                   ∀ (i : Nat), i < allN s → Same (A := Empty) [LV.int IntKind.u8 (allF s i)] [LV.int IntKind.u8 (allF s i)]) ∧                 ∀ (i : Nat), plainL (A := Empty) [LV.int IntKind.u8 (allF s i)]) ∧               (tkN (restN s k) ((0 : Int)) (↑(Stps.lb s (Int.toNat (↑k : Int))) : Int) =                     restN s (k + 1) ∧                   ∀ (i : Nat),                     i < restN s (k + 1) →                       Same (A := Empty) [LV.int IntKind.u8                             (tkF (restN s k) (restF s k) ((0 : Int))                               (↑(Stps.lb s (Int.toNat (↑k : Int))) : Int) i)]                         [LV.int IntKind.u8 (restF s (k + 1) i)]) ∧                 ∀ (i : Nat), plainL (A := Empty) [LV.int IntKind.u8 (restF s (k + 1) i)]
set_option maxRecDepth 100000 in
theorem b21 (s : Stps) (k : Nat) : runG Try.prog (SBk false true false s []) 60 7 pathB2 (b2J s k) .normal 6 [some (.own 0), some (.own 1), some (.own 2), some (.own 3), some (.own 4), some (.own 5), some (.own 63)] 126 (b2T s (k + 1)) (b2M s (k + 1)) = some (some ((b21_G s k))) := by kernel_rfl
--@]
--@gen b22 (s : Stps) (k : Nat) := runG Try.prog (SBk false false true s []) 60 7 pathB2 (b2J s k) .normal 6 [some (.own 0), some (.own 1), some (.own 2), some (.own 3), some (.own 4), some (.own 5), some (.own 63)] 126 (b2T s (k + 1)) (b2M s (k + 1))
--@[
def b22_G (s : Stps) (k : Nat) : Prop := (decide ((↑k : Int) < (↑(Stps.n s) : Int)) = true ∧     (decide ((0 : Int) ≤ (↑k : Int) ∧ (↑k : Int) < (↑(Stps.n s) : Int)) = true ∧         Nat.blt (Int.toNat (↑k : Int)) (Stps.n s) = true) ∧       (Stps.W s (Int.toNat (↑k : Int)) == (0 : Int)) = false ∧         (Stps.W s (Int.toNat (↑k : Int)) == (1 : Int)) = false ∧           (Stps.W s (Int.toNat (↑k : Int)) == (2 : Int)) = true ∧             (decide ((0 : Int) ≤ (↑k : Int) ∧ (↑k : Int) < (↑(Stps.n s) : Int)) = true ∧                 Nat.blt (Int.toNat (↑k : Int)) (Stps.n s) = true ∧                   ((↑(Stps.ll s (Int.toNat (↑k : Int))) : Int) = (↑(Stps.ll s (Int.toNat (↑k : Int))) : Int) ∧                       ((restN s k = restN s k ∧ (0 : Int) = (0 : Int)) ∧                           (restN s k = restN s k ∧                               ∀ (i : Nat),                                 i < restN s k →                                   Same (A := Empty) [LV.int IntKind.u8 (restF s k i)] [LV.int IntKind.u8 (restF s k i)]) ∧                             ∀ (i : Nat), plainL (A := Empty) [LV.int IntKind.u8 (restF s k i)]) ∧                         restN s k ≤ 8796093022208) ∧                     decide ((0 : Int) ≤ (↑k : Int) ∧ (↑k : Int) < (↑(Stps.n s) : Int)) = true ∧                       Nat.blt (Int.toNat (↑k : Int)) (Stps.n s) = true ∧                         (rdL (restN s k) (restF s k) ((0 : Int))                                 (↑(Stps.ll s (Int.toNat (↑k : Int))) : Int) =                               rdL (restN s k) (restF s k) ((0 : Int))                                 (↑(Stps.ll s (Int.toNat (↑k : Int))) : Int) ∧                             Int.toNat (↑k : Int) = Int.toNat (↑k : Int) ∧                               Stps.ll s (Int.toNat (↑k : Int)) = Stps.ll s (Int.toNat (↑k : Int))) ∧                           (((rdL (restN s k) (restF s k) ((0 : Int))                                       (↑(Stps.ll s (Int.toNat (↑k : Int))) : Int) =                                     rdL (restN s k) (restF s k) ((0 : Int))                                       (↑(Stps.ll s (Int.toNat (↑k : Int))) : Int) ∧                                   ∀ (i : Nat),                                     i <                                         rdL (restN s k) (restF s k) ((0 : Int))                                           (↑(Stps.ll s (Int.toNat (↑k : Int))) : Int) →                                       Same (A := Empty) [LV.bool (bitB (restF s k) i)] [LV.bool (bitB (restF s k) i)]) ∧                                 ∀ (i : Nat), plainL (A := Empty) [LV.bool (bitB (restF s k) i)]) ∧                               (Stps.ll s (Int.toNat (↑k : Int)) = Stps.ll s (Int.toNat (↑k : Int)) ∧                                   ∀ (i : Nat),                                     i < Stps.ll s (Int.toNat (↑k : Int)) →                                       Same (A := Empty) [LV.bool (Stps.L s (Int.toNat (↑k : Int)) i)]                                         [LV.bool (Stps.L s (Int.toNat (↑k : Int)) i)]) ∧                                 ∀ (i : Nat), plainL (A := Empty) [LV.bool (Stps.L s (Int.toNat (↑k : Int)) i)]) ∧                             sameL                               (rdL (restN s k) (restF s k) ((0 : Int))                                 (↑(Stps.ll s (Int.toNat (↑k : Int))) : Int))                               (bitB (restF s k)) (Stps.ll s (Int.toNat (↑k : Int))) (Stps.L s (Int.toNat (↑k : Int)))) ∧               (rdE (restN s k) (restF s k) ((0 : Int)) (↑(Stps.ll s (Int.toNat (↑k : Int))) : Int) !=                   (0 : Int)) =                 false) ∧   ((0 = 0 ∧ Stps.n s = Stps.n s) ∧       (1 = 1 ∧ Stps.m s = Stps.m s) ∧         IntKind.wrap IntKind.i64 ((↑k : Int) + (1 : Int)) = (↑(k + 1) : Int)) ∧     outN s (Stps.n s) = outN s (Stps.n s) ∧       ((outN s (Stps.n s) = outN s (Stps.n s) ∧             ∀ (i : Nat),               i < outN s (Stps.n s) →                 Same (A := Empty) [LV.int IntKind.u8 (outF s (Stps.n s) i)] [LV.int IntKind.u8 (outF s (Stps.n s) i)]) ∧           ∀ (i : Nat), plainL (A := Empty) [LV.int IntKind.u8 (outF s (Stps.n s) i)]) ∧         ((allN s = allN s ∧               ∀ (i : Nat), i < allN s → Same (A := Empty) [LV.int IntKind.u8 (allF s i)] [LV.int IntKind.u8 (allF s i)]) ∧             ∀ (i : Nat), plainL (A := Empty) [LV.int IntKind.u8 (allF s i)]) ∧           (rdN (restN s k) (restF s k) ((0 : Int)) (↑(Stps.ll s (Int.toNat (↑k : Int))) : Int) =                 restN s (k + 1) ∧               rdE (restN s k) (restF s k) ((0 : Int)) (↑(Stps.ll s (Int.toNat (↑k : Int))) : Int) =                 (0 : Int)) ∧             ((allN s = allN s ∧                   ∀ (i : Nat), i < allN s → Same (A := Empty) [LV.int IntKind.u8 (allF s i)] [LV.int IntKind.u8 (allF s i)]) ∧                 ∀ (i : Nat), plainL (A := Empty) [LV.int IntKind.u8 (allF s i)]) ∧               (rdN (restN s k) (restF s k) ((0 : Int)) (↑(Stps.ll s (Int.toNat (↑k : Int))) : Int) =                     restN s (k + 1) ∧                   ∀ (i : Nat),                     i < restN s (k + 1) →                       Same (A := Empty) [LV.int IntKind.u8                             (rdF (restN s k) (restF s k) ((0 : Int))                               (↑(Stps.ll s (Int.toNat (↑k : Int))) : Int) i)]                         [LV.int IntKind.u8 (restF s (k + 1) i)]) ∧                 ∀ (i : Nat), plainL (A := Empty) [LV.int IntKind.u8 (restF s (k + 1) i)]
set_option maxRecDepth 100000 in
theorem b22 (s : Stps) (k : Nat) : runG Try.prog (SBk false false true s []) 60 7 pathB2 (b2J s k) .normal 6 [some (.own 0), some (.own 1), some (.own 2), some (.own 3), some (.own 4), some (.own 5), some (.own 63)] 126 (b2T s (k + 1)) (b2M s (k + 1)) = some (some ((b22_G s k))) := by kernel_rfl
--@]
--@gen b23 (s : Stps) (k : Nat) := runG Try.prog (SBk false false false s []) 60 7 pathB2 (b2J s k) .normal 6 [some (.own 0), some (.own 1), some (.own 2), some (.own 3), some (.own 4), some (.own 5), some (.own 6)] 126 (b2T s (k + 1)) (b2M s (k + 1))
--@[
def b23_G (s : Stps) (k : Nat) : Prop := (decide ((↑k : Int) < (↑(Stps.n s) : Int)) = true ∧     (decide ((0 : Int) ≤ (↑k : Int) ∧ (↑k : Int) < (↑(Stps.n s) : Int)) = true ∧         Nat.blt (Int.toNat (↑k : Int)) (Stps.n s) = true) ∧       (Stps.W s (Int.toNat (↑k : Int)) == (0 : Int)) = false ∧         (Stps.W s (Int.toNat (↑k : Int)) == (1 : Int)) = false ∧           (Stps.W s (Int.toNat (↑k : Int)) == (2 : Int)) = false ∧ false = false) ∧   ((0 = 0 ∧ Stps.n s = Stps.n s) ∧       (1 = 1 ∧ Stps.m s = Stps.m s) ∧         IntKind.wrap IntKind.i64 ((↑k : Int) + (1 : Int)) = (↑(k + 1) : Int)) ∧     outN s (Stps.n s) = outN s (Stps.n s) ∧       ((outN s (Stps.n s) = outN s (Stps.n s) ∧             ∀ (i : Nat),               i < outN s (Stps.n s) →                 Same (A := Empty) [LV.int IntKind.u8 (outF s (Stps.n s) i)] [LV.int IntKind.u8 (outF s (Stps.n s) i)]) ∧           ∀ (i : Nat), plainL (A := Empty) [LV.int IntKind.u8 (outF s (Stps.n s) i)]) ∧         ((allN s = allN s ∧               ∀ (i : Nat), i < allN s → Same (A := Empty) [LV.int IntKind.u8 (allF s i)] [LV.int IntKind.u8 (allF s i)]) ∧             ∀ (i : Nat), plainL (A := Empty) [LV.int IntKind.u8 (allF s i)]) ∧           (restN s k = restN s (k + 1) ∧ (0 : Int) = (0 : Int)) ∧             ((allN s = allN s ∧                   ∀ (i : Nat), i < allN s → Same (A := Empty) [LV.int IntKind.u8 (allF s i)] [LV.int IntKind.u8 (allF s i)]) ∧                 ∀ (i : Nat), plainL (A := Empty) [LV.int IntKind.u8 (allF s i)]) ∧               (restN s k = restN s (k + 1) ∧                   ∀ (i : Nat),                     i < restN s (k + 1) →                       Same (A := Empty) [LV.int IntKind.u8 (restF s k i)] [LV.int IntKind.u8 (restF s (k + 1) i)]) ∧                 ∀ (i : Nat), plainL (A := Empty) [LV.int IntKind.u8 (restF s (k + 1) i)]
set_option maxRecDepth 100000 in
theorem b23 (s : Stps) (k : Nat) : runG Try.prog (SBk false false false s []) 60 7 pathB2 (b2J s k) .normal 6 [some (.own 0), some (.own 1), some (.own 2), some (.own 3), some (.own 4), some (.own 5), some (.own 6)] 126 (b2T s (k + 1)) (b2M s (k + 1)) = some (some ((b23_G s k))) := by kernel_rfl
--@]
noncomputable abbrev b2Z (s : Stps) : LS Empty := ⟨tm 126 [(1, .vec (.inp 0 1) s.m), (7, .ptr (.own 4) 0 [])], b2M s s.n, []⟩
--@gen b2E (s : Stps) := runG Try.prog (SBe true true false none s []) 60 7 pathB2 (b2J s s.n) (.exit 3) 6 [some (.own 0), some (.own 1), some (.own 2), some (.own 3), some (.own 4), some (.own 5), some (.own 6)] 126 [(1, .vec (.inp 0 1) s.m), (7, .ptr (.own 4) 0 [])] (b2M s s.n)
--@[
def b2E_G (s : Stps) : Prop := decide ((↑(Stps.n s) : Int) < (↑(Stps.n s) : Int)) = false ∧   (1 = 1 ∧ Stps.m s = Stps.m s) ∧     outN s (Stps.n s) = outN s (Stps.n s) ∧       ((outN s (Stps.n s) = outN s (Stps.n s) ∧             ∀ (i : Nat),               i < outN s (Stps.n s) →                 Same (A := Empty) [LV.int IntKind.u8 (outF s (Stps.n s) i)] [LV.int IntKind.u8 (outF s (Stps.n s) i)]) ∧           ∀ (i : Nat), plainL (A := Empty) [LV.int IntKind.u8 (outF s (Stps.n s) i)]) ∧         ((allN s = allN s ∧               ∀ (i : Nat), i < allN s → Same (A := Empty) [LV.int IntKind.u8 (allF s i)] [LV.int IntKind.u8 (allF s i)]) ∧             ∀ (i : Nat), plainL (A := Empty) [LV.int IntKind.u8 (allF s i)]) ∧           (restN s (Stps.n s) = restN s (Stps.n s) ∧ (0 : Int) = (0 : Int)) ∧             ((allN s = allN s ∧                   ∀ (i : Nat), i < allN s → Same (A := Empty) [LV.int IntKind.u8 (allF s i)] [LV.int IntKind.u8 (allF s i)]) ∧                 ∀ (i : Nat), plainL (A := Empty) [LV.int IntKind.u8 (allF s i)]) ∧               (restN s (Stps.n s) = restN s (Stps.n s) ∧                   ∀ (i : Nat),                     i < restN s (Stps.n s) →                       Same (A := Empty) [LV.int IntKind.u8 (restF s (Stps.n s) i)] [LV.int IntKind.u8 (restF s (Stps.n s) i)]) ∧                 ∀ (i : Nat), plainL (A := Empty) [LV.int IntKind.u8 (restF s (Stps.n s) i)]
set_option maxRecDepth 100000 in
theorem b2E (s : Stps) : runG Try.prog (SBe true true false none s []) 60 7 pathB2 (b2J s s.n) (.exit 3) 6 [some (.own 0), some (.own 1), some (.own 2), some (.own 3), some (.own 4), some (.own 5), some (.own 6)] 126 [(1, .vec (.inp 0 1) s.m), (7, .ptr (.own 4) 0 [])] (b2M s s.n) = some (some ((b2E_G s))) := by kernel_rfl
--@]
structure BkOk (s : Stps) : Prop where
  few : few s
  m : s.m ≤ 100
  g : okG s
  B : okBs s
  X : ∀ k, k < s.n → 0 ≤ s.X k ∧ s.X k < 2 ^ 64
theorem b2_step (s : Stps) (hs : BkOk s) (k : Nat) (hk : k < s.n) : ExB 6 Try.prog (inS s) (codeAt Try.prog 7 pathB2) (b2J s k) .normal (b2J s (k + 1)) := by
  obtain ⟨h1, h2, h3⟩ := cost_at hs.few.2 hk
  have hrest := piece_le s hk
  have hall : restN s k ≤ 50000 := by
    have := outN_le s s.n
    have := hs.few.2
    have := hs.m
    unfold restN allN; omega
  have hu := rest_u8 s hs.B hs.g (k := k)
  have h5 : IntKind.wrap IntKind.i64 ((k : Int) + 1) = ((k + 1 : Nat) : Int) := by rw [IntWalk.i64_in _ (by have := hs.few.1; omega)]; rfl
  have hn := rest_next s k
  have hf := restF_next s k
  have hp := fun j => out_piece s (j := j) hk
  by_cases c0 : s.W k = 0
  · have e0 : pieceN s k = 8 := by simp [pieceN, c0]
    have e1 : pieceF s k = chunkN (s.X k) := by simp [pieceF, c0]
    rw [e0] at hn hf hp hrest
    have ht : tkOk (restN s k) 0 8 = true := by simp [tkOk, hrest]
    have hx : uintV (restN s k) (restF s k) 0 = s.X k := by
      unfold uintV
      rw [if_pos ht, hp 0 (by omega), hp 1 (by omega), hp 2 (by omega), hp 3 (by omega), hp 4 (by omega), hp 5 (by omega), hp 6 (by omega), hp 7 (by omega), e1]
      exact chunk_sum (hs.X k hk).1 (hs.X k hk).2
    refine ExB.auto (SBk_ok _ _ _ s _) (inS_ok s) rfl mixed 60 _ (b20 s k) ?_
    simp only [condOk, b20_G, Int.toNat_natCast, h5, hx, hn, hf, tkN, tkF, tkE, ht, if_true, show (8 : Int).toNat = 8 from rfl, hrest]
    and_intros <;> first | exact hu | exact beq_iff_eq.2 c0 | exact fun _ _ => rfl | exact True.intro | omega | exact fun _ => ⟨trivial, trivial⟩ | exact fun _ _ => Same.refl _ | exact fun _ _ => Like.refl _ | (simp (disch := omega) only [true_and, and_true, Nat.beq_refl, Bool.true_and, decide_eq_true_eq, decide_eq_false_iff_not, beq_iff_eq, bne_iff_ne, beq_eq_false_iff_ne, bne_eq_false_iff_eq, ne_eq, Nat.blt_eq, Nat.ble_eq, Nat.beq_eq, Bool.and_eq_true, Bool.or_eq_true, IntKind.wrap_i64, IntKind.wrap_u64, IntKind.wrap_u8, IntKind.wrap_u32, Int.tdiv_eq_ediv_of_nonneg, Int.tmod_eq_emod_of_nonneg] <;> omega) | rfl | trivial
  by_cases c1 : s.W k = 1
  · have e0 : pieceN s k = s.lb k := by simp [pieceN, c1]
    have e1 : pieceF s k = s.B k := by simp [pieceF, c1]
    rw [e0] at hn hf hp hrest
    have ht : tkOk (restN s k) 0 ((s.lb k : Nat) : Int) = true := by simp [tkOk, hrest]
    refine ExB.auto (SBk_ok _ _ _ s _) (inS_ok s) rfl mixed 60 _ (b21 s k) ?_
    simp only [condOk, b21_G, Int.toNat_natCast, h5, hn, hf, tkN, tkF, tkE, tkL, ht, if_true, hrest]
    and_intros <;> first | exact hu | exact beq_eq_false_iff_ne.2 c0 | exact beq_iff_eq.2 c1 | exact fun j hj => (hp j hj).trans (by rw [e1]) | exact fun _ _ => rfl | exact True.intro | omega | exact fun _ => ⟨trivial, trivial⟩ | exact fun _ _ => Same.refl _ | exact fun _ _ => Like.refl _ | (simp (disch := omega) only [true_and, and_true, Nat.beq_refl, Bool.true_and, decide_eq_true_eq, decide_eq_false_iff_not, beq_iff_eq, bne_iff_ne, beq_eq_false_iff_ne, bne_eq_false_iff_eq, ne_eq, Nat.blt_eq, Nat.ble_eq, Nat.beq_eq, Bool.and_eq_true, Bool.or_eq_true, IntKind.wrap_i64, IntKind.wrap_u64, IntKind.wrap_u8, IntKind.wrap_u32, Int.tdiv_eq_ediv_of_nonneg, Int.tmod_eq_emod_of_nonneg] <;> omega) | rfl | trivial
  by_cases c2 : s.W k = 2
  · have e0 : pieceN s k = bytesN (s.ll k) := by simp [pieceN, c2]
    have e1 : pieceF s k = packB (s.L k) (s.ll k) := by simp [pieceF, c2]
    rw [e0] at hn hf hp hrest
    have hb8 : s.ll k ≤ 8 * bytesN (s.ll k) := by unfold bytesN; omega
    have hbit : ∀ i, i < 8 * bytesN (s.ll k) → bitB (restF s k) i = (decide (i < s.ll k) && s.L k i) := fun i hi => by
      rw [bitB_at, hp (i / 8) (by omega), e1, bit_packB _ _ (by omega), show 8 * (i / 8) + i % 8 = i by omega]
    have hd : dirty (restF s k) (s.ll k) = false := by
      unfold dirty
      rw [List.any_eq_false]
      intro i hi
      have hi := List.mem_range.1 hi
      rw [hbit i hi]
      simp
      omega
    have ht : rdOk (restN s k) (restF s k) 0 ((s.ll k : Nat) : Int) = true := by
      simp only [rdOk, Int.toNat_natCast, hd]
      simp
      omega
    have hle : s.ll k ≤ 8 * restN s k := by omega
    refine ExB.auto (SBk_ok _ _ _ s _) (inS_ok s) rfl mixed 60 _ (b22 s k) ?_
    simp only [condOk, b22_G, Int.toNat_natCast, h5, hn, hf, rdN, rdF, rdE, rdL, ht, hd, if_true, hle, Bool.false_eq_true, if_false]
    and_intros <;> first | exact hu | exact beq_eq_false_iff_ne.2 c0 | exact beq_eq_false_iff_ne.2 c1 | exact beq_iff_eq.2 c2 | (intro j hj; rw [hbit j (by omega)]; simp [hj]; done) | exact fun _ _ => rfl | exact True.intro | omega | exact fun _ => ⟨trivial, trivial⟩ | exact fun _ _ => Same.refl _ | exact fun _ _ => Like.refl _ | (simp (disch := omega) only [true_and, and_true, Nat.beq_refl, Bool.true_and, decide_eq_true_eq, decide_eq_false_iff_not, beq_iff_eq, bne_iff_ne, beq_eq_false_iff_ne, bne_eq_false_iff_eq, ne_eq, Nat.blt_eq, Nat.ble_eq, Nat.beq_eq, Bool.and_eq_true, Bool.or_eq_true, IntKind.wrap_i64, IntKind.wrap_u64, IntKind.wrap_u8, IntKind.wrap_u32, Int.tdiv_eq_ediv_of_nonneg, Int.tmod_eq_emod_of_nonneg] <;> omega) | rfl | trivial
  · have e0 : pieceN s k = 0 := by simp [pieceN, c0, c1, c2]
    rw [e0] at hn hf
    simp only [Nat.sub_zero, Nat.zero_add] at hn hf
    refine ExB.auto (SBk_ok _ _ _ s _) (inS_ok s) rfl mixed 60 _ (b23 s k) ?_
    simp only [condOk, b23_G, Int.toNat_natCast, h5, hn, hf]
    and_intros <;> first | exact beq_eq_false_iff_ne.2 c0 | exact beq_eq_false_iff_ne.2 c1 | exact beq_eq_false_iff_ne.2 c2 | exact fun _ _ => rfl | exact True.intro | omega | exact fun _ => ⟨trivial, trivial⟩ | exact fun _ _ => Same.refl _ | exact fun _ _ => Like.refl _ | (simp (disch := omega) only [true_and, and_true, Nat.beq_refl, Bool.true_and, decide_eq_true_eq, decide_eq_false_iff_not, beq_iff_eq, bne_iff_ne, beq_eq_false_iff_ne, bne_eq_false_iff_eq, ne_eq, Nat.blt_eq, Nat.ble_eq, Nat.beq_eq, Bool.and_eq_true, Bool.or_eq_true, IntKind.wrap_i64, IntKind.wrap_u64, IntKind.wrap_u8, IntKind.wrap_u32, Int.tdiv_eq_ediv_of_nonneg, Int.tmod_eq_emod_of_nonneg] <;> omega) | rfl | trivial
end Go.Proofs.Ytjhjockdkpgpeaa.En

/- DERIVED. What is written is read back: the law's call answers true. -/
set_option linter.all false
namespace Go.Proofs.Ytjhjockdkpgpeaa.En
open Go Go.RowKit

set_option maxRecDepth 100000 in
theorem b2_code : codeAt Try.prog 7 [0, 1, 0, 1, 1, 1, 1, 1, 1] = .loop (codeAt Try.prog 7 pathB2) := by kernel_rfl
theorem b2_loop (s : Stps) (hr : BkOk s) (q : Nat) (hs : okS s) (h : stopL s q) : ExB 6 Try.prog (inS s) (codeAt Try.prog 7 [0, 1, 0, 1, 1, 1, 1, 1, 1]) (bkC s hr.few q hs h) (.exit 3) (b2Z s) := by
  refine ExB.enter (cs := []) (inS_ok s) _ ?_ (b2I s hr.few q hs h) ?_ rfl
  · rw [b2_code]
    refine ExB.loop (by simp) (b2J s) s.n (fun k hk => b2_step s hr k hk) (ExB.auto (SBe_ok _ _ _ _ s _) (inS_ok s) rfl mixed 60 _ (b2E s) ?_)
    simp only [condOk, b2E_G]
    (and_intros <;> first | exact True.intro | omega | exact fun _ => ⟨trivial, trivial⟩ | exact fun _ _ => Same.refl _ | exact fun _ _ => Like.refl _ | (simp (disch := omega) only [true_and, and_true, Nat.beq_refl, Bool.true_and, decide_eq_true_eq, decide_eq_false_iff_not, beq_iff_eq, bne_iff_ne, beq_eq_false_iff_ne, bne_eq_false_iff_eq, ne_eq, Nat.blt_eq, Nat.ble_eq, Nat.beq_eq, Bool.and_eq_true, Bool.or_eq_true, IntKind.wrap_i64, IntKind.wrap_u64, IntKind.wrap_u8, IntKind.wrap_u32, Int.tdiv_eq_ediv_of_nonneg, Int.tmod_eq_emod_of_nonneg] <;> omega) | rfl | trivial)
  · have e1 : restN s 0 = allN s := rfl
    have e2 : ∀ j, restF s 0 j = allF s j := fun j => by unfold restF; simp [outN]
    have e3 : ∀ i, (bif Nat.blt i (outN s s.n) then outF s s.n i else s.g (i - outN s s.n)) = allF s i := fun i => bif_lt ..
    simp only [condOk, b2I_G, e1, e2, e3, show outN s s.n + s.m = allN s from rfl]
    (and_intros <;> first | exact True.intro | omega | exact fun _ => ⟨trivial, trivial⟩ | exact fun _ _ => Same.refl _ | exact fun _ _ => Like.refl _ | (simp (disch := omega) only [true_and, and_true, Nat.beq_refl, Bool.true_and, decide_eq_true_eq, decide_eq_false_iff_not, beq_iff_eq, bne_iff_ne, beq_eq_false_iff_ne, bne_eq_false_iff_eq, ne_eq, Nat.blt_eq, Nat.ble_eq, Nat.beq_eq, Bool.and_eq_true, Bool.or_eq_true, IntKind.wrap_i64, IntKind.wrap_u64, IntKind.wrap_u8, IntKind.wrap_u32, Int.tdiv_eq_ediv_of_nonneg, Int.tmod_eq_emod_of_nonneg] <;> omega) | rfl | trivial)
set_option maxRecDepth 100000 in
theorem b2_grow (s : Stps) (hf : few s) (q : Nat) (hs : okS s) (h : stopL s q) : growB (bkC s hf q hs h) (b2Z s) = true := by kernel_rfl
set_option maxRecDepth 100000 in
theorem b2_six (s : Stps) (hf : few s) (q : Nat) (hs : okS s) (h : stopL s q) : Nat.ble (bkC s hf q hs h).mem.length 6 = true := by kernel_rfl
noncomputable def b2L (s : Stps) (hr : BkOk s) (q : Nat) (hs : okS s) (h : stopL s q) : LoopF Try.prog (inS s) := LoopF.of (b2_loop s hr q hs h) (b2_grow ..) (b2_six ..)
noncomputable abbrev runB (c d g : Bool) (a : Option Bool) (s : Stps) (ls : List (LoopF Try.prog (inS s))) := callF Try.prog (SBe c d g a s ls) 60 7 [.vec (.inp 0 0) s.n, .vec (.inp 0 1) s.m] []
--@gen lb1 (s : Stps) (hr : BkOk s) (q : Nat) (hs : okS s) (h : stopL s q) := (runB true true false (some true) s [liL s q hs h, bkL s hr.few q hs h, b2L s hr q hs h]).map (fun r => r.2.2)
--@[
def lb1_G (s : Stps) (hr : BkOk s) (q : Nat) (hs : okS s) (h : stopL s q) : Prop := (((LS.tmps (LoopF.s (liL s q hs h)) = LS.tmps (LoopF.s (liL s q hs h)) ∧         LS.mem (LoopF.s (liL s q hs h)) = LS.mem (LoopF.s (liL s q hs h))) ∧       decide ((↑(Stps.n s) : Int) ≤ (100 : Int)) = true ∧         decide ((↑(cost s q) : Int) ≤ (5000 : Int)) = true) ∧     decide ((100 : Int) < (↑(Stps.m s) : Int)) = false) ∧   (LS.tmps (LoopF.s (bkL s (BkOk.few hr) q hs h)) = LS.tmps (LoopF.s (bkL s (BkOk.few hr) q hs h)) ∧       LS.mem (LoopF.s (bkL s (BkOk.few hr) q hs h)) = LS.mem (LoopF.s (bkL s (BkOk.few hr) q hs h))) ∧     (((outN s (Stps.n s) = outN s (Stps.n s) ∧             (outN s (Stps.n s) = outN s (Stps.n s) ∧                 ∀ (i : Nat),                   i < outN s (Stps.n s) →                     Same (A := Empty) [LV.int IntKind.u8 (outF s (Stps.n s) i)] [LV.int IntKind.u8 (outF s (Stps.n s) i)]) ∧               ∀ (i : Nat), plainL (A := Empty) [LV.int IntKind.u8 (outF s (Stps.n s) i)]) ∧           outN s (Stps.n s) ≤ 70368744177664) ∧         (Nat.ble (Stps.m s) (Stps.m s) = true ∧             (Nat.beq (outN s (Stps.n s)) (outN s (Stps.n s)) &&                 Nat.ble ((outN s (Stps.n s) + Stps.m s) * 1) 140737488355328) =               true) ∧           outN s (Stps.n s) + Stps.m s = outN s (Stps.n s) + Stps.m s ∧             ((outN s (Stps.n s) + Stps.m s = outN s (Stps.n s) + Stps.m s ∧                   ∀ (i : Nat),                     i < outN s (Stps.n s) + Stps.m s →                       Same (A := Empty) [LV.int IntKind.u8                             (bif Nat.blt i (outN s (Stps.n s)) then outF s (Stps.n s) i                             else Stps.g s (i - outN s (Stps.n s)))]                         [LV.int IntKind.u8                             (bif Nat.blt i (outN s (Stps.n s)) then outF s (Stps.n s) i                             else Stps.g s (i - outN s (Stps.n s)))]) ∧                 ∀ (i : Nat),                   plainL (A := Empty) [LV.int IntKind.u8                         (bif Nat.blt i (outN s (Stps.n s)) then outF s (Stps.n s) i                         else Stps.g s (i - outN s (Stps.n s)))]) ∧               outN s (Stps.n s) + Stps.m s ≤ 70368744177664) ∧       (LS.tmps (LoopF.s (b2L s hr q hs h)) = LS.tmps (LoopF.s (b2L s hr q hs h)) ∧           LS.mem (LoopF.s (b2L s hr q hs h)) = LS.mem (LoopF.s (b2L s hr q hs h))) ∧         (((restN s (Stps.n s) = restN s (Stps.n s) ∧ (0 : Int) = (0 : Int)) ∧               (restN s (Stps.n s) = restN s (Stps.n s) ∧                   ∀ (i : Nat),                     i < restN s (Stps.n s) →                       Same (A := Empty) [LV.int IntKind.u8 (restF s (Stps.n s) i)] [LV.int IntKind.u8 (restF s (Stps.n s) i)]) ∧                 ∀ (i : Nat), plainL (A := Empty) [LV.int IntKind.u8 (restF s (Stps.n s) i)]) ∧             True) ∧           (endV (restN s (Stps.n s)) ((0 : Int)) == (170 : Int)) = true ∧             decide ((0 : Int) < (↑(Stps.m s) : Int)) = true
set_option maxRecDepth 100000 in
theorem lb1 (s : Stps) (hr : BkOk s) (q : Nat) (hs : okS s) (h : stopL s q) : (runB true true false (some true) s [liL s q hs h, bkL s hr.few q hs h, b2L s hr q hs h]).map (fun r => r.2.2) = some (some ((lb1_G s hr q hs h))) := by kernel_rfl
--@]
--@gen lb2 (s : Stps) (hr : BkOk s) (q : Nat) (hs : okS s) (h : stopL s q) := (runB true true false (some false) s [liL s q hs h, bkL s hr.few q hs h, b2L s hr q hs h]).map (fun r => r.2.2)
--@[
def lb2_G (s : Stps) (hr : BkOk s) (q : Nat) (hs : okS s) (h : stopL s q) : Prop := (((LS.tmps (LoopF.s (liL s q hs h)) = LS.tmps (LoopF.s (liL s q hs h)) ∧         LS.mem (LoopF.s (liL s q hs h)) = LS.mem (LoopF.s (liL s q hs h))) ∧       decide ((↑(Stps.n s) : Int) ≤ (100 : Int)) = true ∧         decide ((↑(cost s q) : Int) ≤ (5000 : Int)) = true) ∧     decide ((100 : Int) < (↑(Stps.m s) : Int)) = false) ∧   (LS.tmps (LoopF.s (bkL s (BkOk.few hr) q hs h)) = LS.tmps (LoopF.s (bkL s (BkOk.few hr) q hs h)) ∧       LS.mem (LoopF.s (bkL s (BkOk.few hr) q hs h)) = LS.mem (LoopF.s (bkL s (BkOk.few hr) q hs h))) ∧     (((outN s (Stps.n s) = outN s (Stps.n s) ∧             (outN s (Stps.n s) = outN s (Stps.n s) ∧                 ∀ (i : Nat),                   i < outN s (Stps.n s) →                     Same (A := Empty) [LV.int IntKind.u8 (outF s (Stps.n s) i)] [LV.int IntKind.u8 (outF s (Stps.n s) i)]) ∧               ∀ (i : Nat), plainL (A := Empty) [LV.int IntKind.u8 (outF s (Stps.n s) i)]) ∧           outN s (Stps.n s) ≤ 70368744177664) ∧         (Nat.ble (Stps.m s) (Stps.m s) = true ∧             (Nat.beq (outN s (Stps.n s)) (outN s (Stps.n s)) &&                 Nat.ble ((outN s (Stps.n s) + Stps.m s) * 1) 140737488355328) =               true) ∧           outN s (Stps.n s) + Stps.m s = outN s (Stps.n s) + Stps.m s ∧             ((outN s (Stps.n s) + Stps.m s = outN s (Stps.n s) + Stps.m s ∧                   ∀ (i : Nat),                     i < outN s (Stps.n s) + Stps.m s →                       Same (A := Empty) [LV.int IntKind.u8                             (bif Nat.blt i (outN s (Stps.n s)) then outF s (Stps.n s) i                             else Stps.g s (i - outN s (Stps.n s)))]                         [LV.int IntKind.u8                             (bif Nat.blt i (outN s (Stps.n s)) then outF s (Stps.n s) i                             else Stps.g s (i - outN s (Stps.n s)))]) ∧                 ∀ (i : Nat),                   plainL (A := Empty) [LV.int IntKind.u8                         (bif Nat.blt i (outN s (Stps.n s)) then outF s (Stps.n s) i                         else Stps.g s (i - outN s (Stps.n s)))]) ∧               outN s (Stps.n s) + Stps.m s ≤ 70368744177664) ∧       (LS.tmps (LoopF.s (b2L s hr q hs h)) = LS.tmps (LoopF.s (b2L s hr q hs h)) ∧           LS.mem (LoopF.s (b2L s hr q hs h)) = LS.mem (LoopF.s (b2L s hr q hs h))) ∧         (((restN s (Stps.n s) = restN s (Stps.n s) ∧ (0 : Int) = (0 : Int)) ∧               (restN s (Stps.n s) = restN s (Stps.n s) ∧                   ∀ (i : Nat),                     i < restN s (Stps.n s) →                       Same (A := Empty) [LV.int IntKind.u8 (restF s (Stps.n s) i)] [LV.int IntKind.u8 (restF s (Stps.n s) i)]) ∧                 ∀ (i : Nat), plainL (A := Empty) [LV.int IntKind.u8 (restF s (Stps.n s) i)]) ∧             True) ∧           (endV (restN s (Stps.n s)) ((0 : Int)) == (170 : Int)) = false ∧             decide ((0 : Int) < (↑(Stps.m s) : Int)) = false
set_option maxRecDepth 100000 in
theorem lb2 (s : Stps) (hr : BkOk s) (q : Nat) (hs : okS s) (h : stopL s q) : (runB true true false (some false) s [liL s q hs h, bkL s hr.few q hs h, b2L s hr q hs h]).map (fun r => r.2.2) = some (some ((lb2_G s hr q hs h))) := by kernel_rfl
--@]
--@gen lb4 (s : Stps) (q : Nat) (hs : okS s) (h : stopL s q) := (runB true true true none s [liL s q hs h]).map (fun r => r.2.2)
--@[
def lb4_G (s : Stps) (q : Nat) (hs : okS s) (h : stopL s q) : Prop := ((LS.tmps (LoopF.s (liL s q hs h)) = LS.tmps (LoopF.s (liL s q hs h)) ∧       LS.mem (LoopF.s (liL s q hs h)) = LS.mem (LoopF.s (liL s q hs h))) ∧     decide ((↑(Stps.n s) : Int) ≤ (100 : Int)) = true ∧       decide ((↑(cost s q) : Int) ≤ (5000 : Int)) = true) ∧   decide ((100 : Int) < (↑(Stps.m s) : Int)) = true
set_option maxRecDepth 100000 in
theorem lb4 (s : Stps) (q : Nat) (hs : okS s) (h : stopL s q) : (runB true true true none s [liL s q hs h]).map (fun r => r.2.2) = some (some ((lb4_G s q hs h))) := by kernel_rfl
--@]
--@gen lb5 (s : Stps) (q : Nat) (hs : okS s) (h : stopL s q) := (runB false true true none s [liL s q hs h]).map (fun r => r.2.2)
--@[
def lb5_G (s : Stps) (q : Nat) (hs : okS s) (h : stopL s q) : Prop := (LS.tmps (LoopF.s (liL s q hs h)) = LS.tmps (LoopF.s (liL s q hs h)) ∧     LS.mem (LoopF.s (liL s q hs h)) = LS.mem (LoopF.s (liL s q hs h))) ∧   decide ((↑(Stps.n s) : Int) ≤ (100 : Int)) = false
set_option maxRecDepth 100000 in
theorem lb5 (s : Stps) (q : Nat) (hs : okS s) (h : stopL s q) : (runB false true true none s [liL s q hs h]).map (fun r => r.2.2) = some (some ((lb5_G s q hs h))) := by kernel_rfl
--@]
--@gen lb6 (s : Stps) (q : Nat) (hs : okS s) (h : stopL s q) := (runB true false true none s [liL s q hs h]).map (fun r => r.2.2)
--@[
def lb6_G (s : Stps) (q : Nat) (hs : okS s) (h : stopL s q) : Prop := (LS.tmps (LoopF.s (liL s q hs h)) = LS.tmps (LoopF.s (liL s q hs h)) ∧     LS.mem (LoopF.s (liL s q hs h)) = LS.mem (LoopF.s (liL s q hs h))) ∧   decide ((↑(Stps.n s) : Int) ≤ (100 : Int)) = true ∧     decide ((↑(cost s q) : Int) ≤ (5000 : Int)) = false
set_option maxRecDepth 100000 in
theorem lb6 (s : Stps) (q : Nat) (hs : okS s) (h : stopL s q) : (runB true false true none s [liL s q hs h]).map (fun r => r.2.2) = some (some ((lb6_G s q hs h))) := by kernel_rfl
--@]
set_option maxRecDepth 100000 in
theorem lb1_v (s : Stps) (hr : BkOk s) (q : Nat) (hs : okS s) (h : stopL s q) : (runB true true false (some true) s [liL s q hs h, bkL s hr.few q hs h, b2L s hr q hs h]).map (fun r => r.1) = some (.bool true) := by kernel_rfl
set_option maxRecDepth 100000 in
theorem lb2_v (s : Stps) (hr : BkOk s) (q : Nat) (hs : okS s) (h : stopL s q) : (runB true true false (some false) s [liL s q hs h, bkL s hr.few q hs h, b2L s hr q hs h]).map (fun r => r.1) = some (.bool true) := by kernel_rfl
set_option maxRecDepth 100000 in
theorem lb4_v (s : Stps) (q : Nat) (hs : okS s) (h : stopL s q) : (runB true true true none s [liL s q hs h]).map (fun r => r.1) = some (.bool true) := by kernel_rfl
set_option maxRecDepth 100000 in
theorem lb5_v (s : Stps) (q : Nat) (hs : okS s) (h : stopL s q) : (runB false true true none s [liL s q hs h]).map (fun r => r.1) = some (.bool true) := by kernel_rfl
set_option maxRecDepth 100000 in
theorem lb6_v (s : Stps) (q : Nat) (hs : okS s) (h : stopL s q) : (runB true false true none s [liL s q hs h]).map (fun r => r.1) = some (.bool true) := by kernel_rfl
/-- The law's call answers true. -/
theorem szBack_call (s : Stps) (hs : okS s) (hg : okG s) (hB : okBs s) (hX : ∀ k, k < s.n → 0 ≤ s.X k ∧ s.X k < 2 ^ 64) {ρ : Key → Loc} {w : World} (hm : MemRel (inS s) ρ [] w) (hk : s.n ≤ (ρ (.inp 0 0)).cap) (hk' : s.m ≤ (ρ (.inp 0 1)).cap) (hkI : ∀ t i, kinL (okKey ([] : Mem Empty) ρ) (inS s t i)) :
    Calls Try.prog 7 (trs ρ [(.vec (.inp 0 0) s.n : LV Empty), .vec (.inp 0 1) s.m]).toArray w fun e w' => e = .returned (.bool true) ∧ Below w.heap.size w w' := by
  obtain ⟨q, hq⟩ := stopL_ex s
  have hfs := few_stop hq
  by_cases hf : few s
  · obtain ⟨h1, h2⟩ := hfs.1 hf
    by_cases hm2 : s.m ≤ 100
    · have hr : BkOk s := ⟨hf, hm2, hg, hB, hX⟩
      have e1 : restN s s.n = s.m := by unfold restN allN; omega
      have e2 : outN s s.n ≤ 40000 := by have := outN_le s s.n; have := hf.2; omega
      by_cases hz : 0 < s.m
      · refine calls_top (SBe_ok _ _ _ _ s _) mixed (call_both (lb1_v s hr q hs hq) (lb1 s hr q hs hq)) ?_ hm ⟨hk, hk', trivial⟩ hkI fun _ _ => rfl
        simp only [condOk, lb1_G, endV, e1, hz, and_self, if_true]
        (and_intros <;> first | exact True.intro | omega | exact fun _ => ⟨trivial, trivial⟩ | exact fun _ _ => Same.refl _ | exact fun _ _ => Like.refl _ | (simp (disch := omega) only [true_and, and_true, Nat.beq_refl, Bool.true_and, decide_eq_true_eq, decide_eq_false_iff_not, beq_iff_eq, bne_iff_ne, beq_eq_false_iff_ne, bne_eq_false_iff_eq, ne_eq, Nat.blt_eq, Nat.ble_eq, Nat.beq_eq, Bool.and_eq_true, Bool.or_eq_true, IntKind.wrap_i64, IntKind.wrap_u64, IntKind.wrap_u8, IntKind.wrap_u32, Int.tdiv_eq_ediv_of_nonneg, Int.tmod_eq_emod_of_nonneg] <;> omega) | rfl | trivial)
      · refine calls_top (SBe_ok _ _ _ _ s _) mixed (call_both (lb2_v s hr q hs hq) (lb2 s hr q hs hq)) ?_ hm ⟨hk, hk', trivial⟩ hkI fun _ _ => rfl
        simp only [condOk, lb2_G, endV, e1, hz, and_false, if_false]
        (and_intros <;> first | exact True.intro | omega | exact fun _ => ⟨trivial, trivial⟩ | exact fun _ _ => Same.refl _ | exact fun _ _ => Like.refl _ | (simp (disch := omega) only [true_and, and_true, Nat.beq_refl, Bool.true_and, decide_eq_true_eq, decide_eq_false_iff_not, beq_iff_eq, bne_iff_ne, beq_eq_false_iff_ne, bne_eq_false_iff_eq, ne_eq, Nat.blt_eq, Nat.ble_eq, Nat.beq_eq, Bool.and_eq_true, Bool.or_eq_true, IntKind.wrap_i64, IntKind.wrap_u64, IntKind.wrap_u8, IntKind.wrap_u32, Int.tdiv_eq_ediv_of_nonneg, Int.tmod_eq_emod_of_nonneg] <;> omega) | rfl | trivial)
    · refine calls_top (SBe_ok _ _ _ _ s _) mixed (call_both (lb4_v s q hs hq) (lb4 s q hs hq)) ?_ hm ⟨hk, hk', trivial⟩ hkI fun _ _ => rfl
      simp only [condOk, lb4_G]
      (and_intros <;> first | exact True.intro | omega | exact fun _ => ⟨trivial, trivial⟩ | exact fun _ _ => Same.refl _ | exact fun _ _ => Like.refl _ | (simp (disch := omega) only [true_and, and_true, Nat.beq_refl, Bool.true_and, decide_eq_true_eq, decide_eq_false_iff_not, beq_iff_eq, bne_iff_ne, beq_eq_false_iff_ne, bne_eq_false_iff_eq, ne_eq, Nat.blt_eq, Nat.ble_eq, Nat.beq_eq, Bool.and_eq_true, Bool.or_eq_true, IntKind.wrap_i64, IntKind.wrap_u64, IntKind.wrap_u8, IntKind.wrap_u32, Int.tdiv_eq_ediv_of_nonneg, Int.tmod_eq_emod_of_nonneg] <;> omega) | rfl | trivial)
  · by_cases hn : s.n ≤ 100
    · have : 5000 < cost s q := by
        rcases Nat.lt_or_ge 5000 (cost s q) with h | h
        · exact h
        · exact absurd (hfs.2 ⟨hn, h⟩) hf
      refine calls_top (SBe_ok _ _ _ _ s _) mixed (call_both (lb6_v s q hs hq) (lb6 s q hs hq)) ?_ hm ⟨hk, hk', trivial⟩ hkI fun _ _ => rfl
      simp only [condOk, lb6_G]
      (and_intros <;> first | exact True.intro | omega | exact fun _ => ⟨trivial, trivial⟩ | exact fun _ _ => Same.refl _ | exact fun _ _ => Like.refl _ | (simp (disch := omega) only [true_and, and_true, Nat.beq_refl, Bool.true_and, decide_eq_true_eq, decide_eq_false_iff_not, beq_iff_eq, bne_iff_ne, beq_eq_false_iff_ne, bne_eq_false_iff_eq, ne_eq, Nat.blt_eq, Nat.ble_eq, Nat.beq_eq, Bool.and_eq_true, Bool.or_eq_true, IntKind.wrap_i64, IntKind.wrap_u64, IntKind.wrap_u8, IntKind.wrap_u32, Int.tdiv_eq_ediv_of_nonneg, Int.tmod_eq_emod_of_nonneg] <;> omega) | rfl | trivial)
    · refine calls_top (SBe_ok _ _ _ _ s _) mixed (call_both (lb5_v s q hs hq) (lb5 s q hs hq)) ?_ hm ⟨hk, hk', trivial⟩ hkI fun _ _ => rfl
      simp only [condOk, lb5_G]
      (and_intros <;> first | exact True.intro | omega | exact fun _ => ⟨trivial, trivial⟩ | exact fun _ _ => Same.refl _ | exact fun _ _ => Like.refl _ | (simp (disch := omega) only [true_and, and_true, Nat.beq_refl, Bool.true_and, decide_eq_true_eq, decide_eq_false_iff_not, beq_iff_eq, bne_iff_ne, beq_eq_false_iff_ne, bne_eq_false_iff_eq, ne_eq, Nat.blt_eq, Nat.ble_eq, Nat.beq_eq, Bool.and_eq_true, Bool.or_eq_true, IntKind.wrap_i64, IntKind.wrap_u64, IntKind.wrap_u8, IntKind.wrap_u32, Int.tdiv_eq_ediv_of_nonneg, Int.tmod_eq_emod_of_nonneg] <;> omega) | rfl | trivial)
end Go.Proofs.Ytjhjockdkpgpeaa.En

/- DERIVED. The law SszBack answers true whatever the input, and the input reads as it did: the given statement 'Rows.SszBackSaid'. -/
set_option linter.all false
namespace Go.Proofs.Ytjhjockdkpgpeaa.szBack
open Go Go.ChangeShapes Go.WideShapes Go.ChangeAt Go.RowKit Go.Proofs.Ytjhjockdkpgpeaa.En

theorem u8_wf {x : Int} (h : (Lit.int .u8 x).wf = true) : 0 ≤ x ∧ x < 256 := by
  simp [Lit.wf, IntKind.min, IntKind.max, IntKind.bits, IntKind.signed] at h
  omega
theorem own : ownKnob Try.prog.godebug = none := by kernel_rfl
theorem laidOut : laidOutB Try.prog = true := by kernel_rfl
theorem cells5 : Try.prog.cellsOf 5 = 1 := by kernel_rfl

set_option maxRecDepth 100000 in
theorem lifted (os : Os) (started : os.Started) (H : Type) (enc : TypeId × Value → H) :
    ReturnsInHanded {} Try.checked os 7 .any (Rows.sszBackSpec.pre6 enc Try.prog Try.f7 Rows.sszBackRow.domain false) (Rows.sszBackSpec.post enc Try.prog Try.f7 false true false false) := by
  refine returnsInHanded_of_change_sized (C := Try.checked) own started (by kernel_rfl) Try.func7
    (ChangeSpec.witness6 (enc := enc) (C := Try.checked) false ⟨#[], #[.slice none 0 0, .slice none 0 0], []⟩ 8 (by kernel_rfl) (by kernel_rfl) (by kernel_rfl) (by kernel_rfl)) ?_
  intro W base args ds gs before hval0 hW hcnd hwt _
  have hval : ∀ (j : Nat) t v, Try.f7.params[j]? = some t → args[j]? = some v → Value.okWide Try.prog W .any base t v := hval0
  have hW' := hW
  obtain ⟨p, q, hA0, hV, rfl, hfz, hnd⟩ := hW
  have hA : DataW.TrodAll enc Try.prog W 0 (fun _ => true) true Try.f7.params.toList args.toList ds p := hA0
  rw [Try.params7] at hA hval
  obtain ⟨v0, vs0, d0, ds0, p0, q0, hargs, rfl, rfl, h0, r0⟩ := trodAll_cons hA
  obtain ⟨v1, vs1, d1, ds1, p1, q1, rfl, rfl, rfl, h1, r1⟩ := trodAll_cons r0
  obtain ⟨rfl, rfl, rfl⟩ := trodAll_nil r1
  obtain rfl : args = #[v0, v1] := by cases args; simp_all
  obtain ⟨rfl, rfl⟩ := trodVars_none hV
  have hw0 : ∀ n ∈ d0.weights Try.prog 22, n ≤ reachBytes := fun n hn => by
    have := List.all_eq_true.1 hwt n (DataW.weights_mem_each (P := Try.prog) (j := 0) (t := 22) (d := d0) (by rw [Try.params7]; rfl) rfl n hn)
    simpa using this
  have hw1 : ∀ n ∈ d1.weights Try.prog 25, n ≤ reachBytes := fun n hn => by
    have := List.all_eq_true.1 hwt n (DataW.weights_mem_each (P := Try.prog) (j := 1) (t := 25) (d := d1) (by rw [Try.params7]; rfl) rfl n hn)
    simpa using this
  obtain ⟨a, len, cap, hv0⟩ := okWide_slice Try.underlying22 (hval 0 22 v0 rfl rfl)
  obtain ⟨a', len', cap', hv1⟩ := okWide_slice Try.underlying25 (hval 1 25 v1 rfl rfl)
  obtain ⟨fuel, hfu⟩ := h0
  obtain ⟨fuel', hfu'⟩ := h1
  obtain ⟨m, g, lm, hcs0, hlm, hm47, hg⟩ := open_numsT Try.underlying25 Try.underlying5 cells5' bytes5 (x := (d1, p1)) (cs := [v1]) (by rw [hv1] at hfu' ⊢; exact hfu') hw1
  obtain ⟨n, l, V, hcs1, hl, hn, hV'⟩ := open_steps (x := (d0, p0)) (cs := [v0]) (by rw [hv0] at hfu ⊢; exact hfu) hw0
  obtain rfl := (List.cons.inj hcs0).1
  obtain rfl := (List.cons.inj hcs1).1
  clear hA0 hval0 hA hwt
  have hm := steps_mem hl hV' hlm (fun j hj => (hg j hj).1)
  refine (szBack_call _ (stps_ok hn hm47 hV') (fun j hj => u8_wf (hg j hj).2) (fun k hk j hj => ?_) (fun k hk => ?_) hm hl.cap hlm.cap (steps_kin hV')).mono fun e W' ⟨he, hB⟩ => ⟨_, he, ?_⟩
  · have hk : k < n := hk
    have hj : j < (if k < n then (V k).lb else 0) := hj
    rw [if_pos hk] at hj
    exact u8_wf ((hV' k hk).bw j hj).2
  · have := (hV' k hk).xw
    simp [Lit.wf, IntKind.min, IntKind.max, IntKind.bits, IntKind.signed] at this
    show 0 ≤ (V k).x ∧ (V k).x < _
    omega
  exact law_post laidOut hW' rfl rfl (fun t ht => by
    rw [show Try.f7.params.toList = [22, 25] from congrArg Array.toList Try.params7] at ht
    rcases List.mem_cons.1 ht with rfl | ht
    · exact ⟨by kernel_rfl, of_decide_eq_true (by kernel_rfl)⟩
    · rw [List.mem_singleton] at ht
      subst ht
      exact ⟨by kernel_rfl, of_decide_eq_true (by kernel_rfl)⟩) (tb := 4) (by kernel_rfl) Try.underlying4 hB

theorem over : Rows.sszBackRow.holds Try.pinned (OpenSpec.ofChange Rows.sszBackSpec) :=
  OpenClaim.holds_of_wide 7 Try.f7 rfl rfl rfl rfl rfl rfl rfl ⟨rfl, rfl, rfl, rfl, rfl⟩ rfl rfl rfl rfl rfl (by kernel_rfl) Try.func7 (by kernel_rfl)
    (of_decide_eq_true (by kernel_rfl)) (by unfold Func.isWrapper; first | (rw [if_pos (by decide +kernel)]; kernel_rfl) | (rw [if_neg (by decide +kernel)]; exact ⟨rfl, rfl⟩))
    (fun os started H enc _ => lifted os started H enc)

theorem proved : Rows.SszBackSaid :=
  over
end Go.Proofs.Ytjhjockdkpgpeaa.szBack

/- DERIVED. The known run of layer 19: first write of a writer. -/
set_option linter.all false
namespace Go.Proofs.Ytjhjockdkpgpeaa.En
open Go Go.RowKit

/-- Either of two contracts. -/
def ConC.or {P : Program} {A : Type} [Ab A] (a b : ConC P A) (h : b.f = a.f) : ConC P A where
  f := a.f
  fn I vs mem := match a.fn I vs mem with
    | some r => some r
    | none => b.fn I vs mem
  ent := a.ent
  grow I vs mem v mem' c e := by
    split at e
    · rename_i r hr; cases e; exact a.grow I vs mem v mem' c hr
    · exact b.grow I vs mem v mem' c e
  call I hI vs mem v mem' c e hc Own ρ w ha := by
    split at e
    · rename_i r hr; cases e; exact a.call I hI vs mem v mem' c hr hc Own ρ w ha
    · have := b.call I hI vs mem v mem' c e hc Own ρ w ha
      rw [h] at this; exact this
  tc I vs mem := match a.fn I vs mem with
    | some _ => a.tc I vs mem
    | none => b.tc I vs mem
  keep I vs mem v mem' c l e ht := by
    split at e
    · rename_i r hr; cases e
      rw [hr] at ht
      exact a.keep I vs mem v mem' c l hr ht
    · rename_i hr
      rw [hr] at ht
      exact b.keep I vs mem v mem' c l e ht
noncomputable abbrev n0B : List (Blk Empty) := [⟨.rw, [.nils]⟩]
noncomputable abbrev n1B (N : Nat) (f : Nat → Int) : List (Blk Empty) := [wB 1 N, rowB N f]
--@gen wu0 (x : Int) := runG Try.prog (SW noI [conChunk] []) 50 15 [] (startS Try.f15 [.ptr (.own 0) 0 [], .int .u64 x] (n0B.map some)) .normal 1 [some (.own 0), some (.own 2)] 10 [] ((n1B 8 (chunkN x)).map some)
--@[
def wu0_G (x : Int) : Prop := (true = true ∧ true = true ∧ (true = true ∧ true = true) ∧ true = true) ∧   8 = 8 ∧     (8 = 8 ∧         ∀ (i : Nat), i < 8 → Same (A := Empty) [LV.int IntKind.u8 (chunkN x i)] [LV.int IntKind.u8 (chunkN x i)]) ∧       ∀ (i : Nat), plainL (A := Empty) [LV.int IntKind.u8 (chunkN x i)]
set_option maxRecDepth 100000 in
theorem wu0 (x : Int) : runG Try.prog (SW noI [conChunk] []) 50 15 [] (startS Try.f15 [.ptr (.own 0) 0 [], .int .u64 x] (n0B.map some)) .normal 1 [some (.own 0), some (.own 2)] 10 [] ((n1B 8 (chunkN x)).map some) = some (some ((wu0_G x))) := by kernel_rfl
--@]
theorem wu0_told (x : Int) : ToldW Try.prog 15 [] n0B [.ptr (.own 0) 0 [], .int .u64 x] (.tup []) (n1B 8 (chunkN x)) := by
  refine toldW_body (fn := Try.f15) rfl rfl (.inl rfl) (B := 1) (nn := 10) (l := []) (cs := []) ?_ rfl rfl
  refine ExB.auto (SW_ok noI_ok _ _) noI_ok rfl mixed 50 _ (wu0 x) ?_
  simp only [condOk, wu0_G]
  and_intros <;> first | exact fun j _ => Same.int rfl | exact True.intro | omega | exact fun _ => ⟨trivial, trivial⟩ | exact fun _ _ => Same.refl _ | exact fun _ _ => Like.refl _ | (simp (disch := omega) only [true_and, and_true, Nat.beq_refl, Bool.true_and, decide_eq_true_eq, decide_eq_false_iff_not, beq_iff_eq, bne_iff_ne, beq_eq_false_iff_ne, bne_eq_false_iff_eq, ne_eq, Nat.blt_eq, Nat.ble_eq, Nat.beq_eq, Bool.and_eq_true, Bool.or_eq_true, IntKind.wrap_i64, IntKind.wrap_u64, IntKind.wrap_u8, IntKind.wrap_u32, Int.tdiv_eq_ediv_of_nonneg, Int.tmod_eq_emod_of_nonneg] <;> omega) | rfl | trivial
noncomputable def wu0S : Spec Try.prog Empty 15 where
  X := Int
  us x := []
  bls0 x := n0B
  args x := [.ptr (.own 0) 0 [], .int .u64 x]
  v x := .tup []
  bls1 x := n1B 8 (chunkN x)
  c x := True
  told x h := wu0_told x
  ov _ := trivial
  ob x b hb := by
    simp only [n1B, List.mem_cons, List.not_mem_nil, or_false] at hb
    rcases hb with rfl | rfl
    · exact w_ownly ..
    · exact row_ownly ..
noncomputable def conWUint0 : ConC Try.prog Empty := wu0S.con ent15 fun I vs mem => match vs with
  | [.ptr (.own r) _ _, .int _ x] => match mem[r]? with
    | some (some ⟨_, [.nils]⟩) => some (x, [r], [])
    | _ => none
  | _ => none
noncomputable def conWUintA : ConC Try.prog Empty := conWUint.or conWUint0 rfl
def adv19 : Adv where
  il f := !(Nat.beq f 15 || Nat.beq f 20 || Nat.beq f 22 || Nat.beq f 25 || Nat.beq f 26 || Nat.beq f 27 || Nat.beq f 33 || Nat.beq f 35)
  dec _ _ _ := none
  rc _ _ _ := true
  fz f r := match f with
    | 55 => true
    | 29 => true
    | _ => false
  res f r := match f, r with
    | 71, 1 => 3
    | 70, 6 => 4
    | 79, 2 => 12
    | 80, 2 => 12
    | 81, 2 => 12
    | 70, 1 => 80
    | 58, 2 => 200
    | 59, 5 => 600
    | 60, 7 => 70
    | 69, 5 => 70
    | 43, 1 => 300
    | 44, 2 => 700
    | 40, _ => 900
    | _, _ => 12
  pl f r := match f, r with
    | 79, 2 => true
    | 80, 2 => true
    | 81, 2 => true
    | _, _ => false
noncomputable abbrev S19 : Sig Empty := sigOf (P := Try.prog) [] [] [conWUintA, conWBits, conWAll, conNew, conRUint, conRBytes, conRBits, conREnd] (I := inOf []) [] noMs adv19
end Go.Proofs.Ytjhjockdkpgpeaa.En

/- DERIVED. Struct values told in groups: a flat list of cells as rows; contracts that want them so. -/
set_option linter.all false
namespace Go.Proofs.Ytjhjockdkpgpeaa.En
open Go Go.RowKit

section
variable {A : Type} [Ab A] {P : Program}
/-- Rows of one nought each. -/
def zRow : List (LV A) → Bool
  | [.int .u8 (.ofNat 0)] => true
  | _ => false
def allZ : List (List (LV A)) → Bool
  | [] => true
  | r :: l => match zRow r with
    | true => allZ l
    | false => false
def rowsF (l : List (List (LV A))) : Nat → List (LV A) := match allZ l with
  | true => fun _ => [.int .u8 0]
  | false => fun j => l.getD j (l.headD [])
theorem allZ_get : ∀ (l : List (List (LV A))), allZ l = true → ∀ i, i < l.length → l.getD i [] = [.int .u8 0]
  | [], _, i, hi => by simp at hi
  | r :: l, h, i, hi => by
    simp only [allZ] at h
    split at h
    · rename_i hz
      cases i with
      | zero =>
        unfold zRow at hz
        split at hz
        · rfl
        · cases hz
      | succ i => simpa using allZ_get l h i (by simpa using hi)
    · cases h
/-- Units put together as a pattern tells: none: one as it is; (n, z): n rows of z cells. -/
def rgU : List (Option (Nat × Nat)) → List (LV A) → Option (List (LV A))
  | [], us => match us with
    | [] => some []
    | _ => none
  | none :: t, us => match us with
    | u :: us' => match rgU t us' with
      | some r => some (u :: r)
      | none => none
    | [] => none
  | some (n, z) :: t, us => match rowsAt us 0 with
    | some _ => match us with
      | u :: us' => match rgU t us' with
        | some r => some (u :: r)
        | none => none
      | [] => none
    | none => match cutRows us 0 z n, skipU us (n * z) with
      | some l, some us' => match rgU t us' with
        | some r => match allZ l with
          | true => some (.rows n z (fun _ => [.int .u8 0]) :: r)
          | false => some (.rows n z (fun j => l.getD j (l.headD [])) :: r)
        | none => none
      | _, _ => none
theorem cutRows_len {us : List (LV A)} {z : Nat} : ∀ (n o : Nat) (l : List (List (LV A))), cutRows us o z n = some l → l.length = n
  | 0, _, l, h => by cases h; rfl
  | n + 1, o, l, h => by
    simp only [cutRows] at h
    split at h
    · split at h
      · rename_i rs hrs
        cases h
        simp [cutRows_len n _ rs hrs]
      · cases h
    · cases h
theorem getD_any {α : Type} {l : List α} {i : Nat} (h : i < l.length) (a b : α) : l.getD i a = l.getD i b := by simp [List.getD_eq_getElem?_getD, List.getElem?_eq_getElem h]
theorem rowsF_eq {l : List (List (LV A))} {i : Nat} (h : i < l.length) : rowsF l i = l.getD i [] := by
  unfold rowsF
  cases hz : allZ l with
  | true => exact (allZ_get l hz i h).symm
  | false => exact getD_any h _ _
theorem rgRows (n z : Nat) (l : List (List (LV A))) (r : List (LV A)) : (match allZ l with
    | true => some (.rows n z (fun _ => [.int .u8 0]) :: r)
    | false => some (.rows n z (fun j => l.getD j (l.headD [])) :: r)) = some (LV.rows n z (rowsF l) :: r) := by
  unfold rowsF
  cases allZ l <;> rfl
theorem rgU_cells [LawAb A] (ρ : Key → Loc) : ∀ (t : List (Option (Nat × Nat))) (us r : List (LV A)), rgU t us = some r → cellsL ρ r = cellsL ρ us
  | [], us, r, h => by
    simp only [rgU] at h
    split at h
    · cases h; rfl
    · cases h
  | none :: t, us, r, h => by
    simp only [rgU] at h
    split at h
    · split at h
      · rename_i r' hr
        cases h
        simp only [cellsL, rgU_cells ρ t _ _ hr]
      · cases h
    · cases h
  | some (n, z) :: t, us, r, h => by
    simp only [rgU] at h
    split at h
    · split at h
      · split at h
        · rename_i r' hr
          cases h
          simp only [cellsL, rgU_cells ρ t _ _ hr]
        · cases h
      · cases h
    · split at h
      · rename_i l us' hl hs
        split at h
        · rename_i r' hr
          rw [rgRows] at h
          cases h
          obtain ⟨e1, e2⟩ := skipU_sound ρ us _ _ hs
          have hL := len_cellsL ρ us
          have key : rowCells ρ n z (rowsF l) = (cellsL ρ us).take (n * z) := by
            apply List.ext_getElem?
            intro j
            by_cases hj : j < n * z
            · obtain ⟨i, q, rfl, hq, hi⟩ := row_split' hj
              rw [get_rowCells ρ _ hi hq, rowsF_eq (by rw [cutRows_len _ _ _ hl]; exact hi), cut_get ρ hl hi hq, List.getElem?_take_of_lt hj, Nat.zero_add]
            · rw [List.getElem?_eq_none (by rw [len_rowCells]; omega), List.getElem?_eq_none (by simp; omega)]
          have : cellsL ρ (LV.rows n z (rowsF l) :: r') = rowCells ρ n z (rowsF l) ++ cellsL ρ r' := by simp [cellsL, LV.cells, rowCells]
          rw [this, key, rgU_cells ρ t _ _ hr, e1, List.take_append_drop]
        · cases h
      · cases h
theorem kin_getDd {p : Key → Nat → Prop} {l : List (List (LV A))} (h : ∀ us ∈ l, kinL p us) (i : Nat) : kinL p (l.getD i (l.headD [])) := by
  rw [List.getD_eq_getElem?_getD]
  cases hi : l[i]? with
  | some x => exact h x (List.mem_of_getElem? hi)
  | none => cases l with
    | nil => exact trivial
    | cons x l => exact h x (List.mem_cons_self ..)
theorem rgU_kin {p : Key → Nat → Prop} : ∀ (t : List (Option (Nat × Nat))) (us r : List (LV A)), rgU t us = some r → kinL p us → kinL p r
  | [], us, r, h, hk => by
    simp only [rgU] at h
    split at h
    · cases h; exact hk
    · cases h
  | none :: t, us, r, h, hk => by
    simp only [rgU] at h
    split at h
    · split at h
      · rename_i r' hr
        cases h
        exact ⟨hk.1, rgU_kin t _ _ hr hk.2⟩
      · cases h
    · cases h
  | some (n, z) :: t, us, r, h, hk => by
    simp only [rgU] at h
    split at h
    · split at h
      · split at h
        · rename_i r' hr
          cases h
          exact ⟨hk.1, rgU_kin t _ _ hr hk.2⟩
        · cases h
      · cases h
    · split at h
      · rename_i l us' hl hs
        split at h
        · rename_i r' hr
          rw [rgRows] at h
          cases h
          exact ⟨fun i => by
            unfold rowsF
            cases allZ l with
            | true => exact ⟨trivial, trivial⟩
            | false => exact kin_getDd (kin_cutRows hk _ _ _ hl) i, rgU_kin t _ _ hr (kin_skipU _ _ _ hs hk)⟩
        · cases h
      · cases h
/-- The first argument in groups. -/
def rgA (t : List (Option (Nat × Nat))) : List (LV A) → Option (List (LV A))
  | .agg us :: vs => match rgU t us with
    | some r => some (.agg r :: vs)
    | none => none
  | _ => none
theorem rgA_tr [LawAb A] {t : List (Option (Nat × Nat))} {vs vs' : List (LV A)} (h : rgA t vs = some vs') : (∀ ρ, trs ρ vs' = trs ρ vs) ∧ ∀ p, kinL p vs → kinL p vs' := by
  unfold rgA at h
  split at h
  · split at h
    · rename_i us vs r hr
      cases h
      refine ⟨fun ρ => ?_, fun p hk => ⟨rgU_kin _ _ _ hr hk.1, hk.2⟩⟩
      simp only [trs, LV.tr, rgU_cells ρ _ _ _ hr]
    · cases h
  · cases h
/-- A contract, its first argument put in groups ahead. -/
def ConC.grp [LawAb A] (a : ConC P A) (t : List (Option (Nat × Nat))) : ConC P A where
  f := a.f
  fn I vs mem := match rgA t vs with
    | some vs' => a.fn I vs' mem
    | none => none
  ent := a.ent
  grow I vs mem v mem' c e := by
    split at e
    · exact a.grow I _ mem v mem' c e
    · cases e
  call I hI vs mem v mem' c e hc Own ρ w ha := by
    split at e
    · rename_i vs' hv
      obtain ⟨h1, h2⟩ := rgA_tr hv
      rw [← h1 ρ]
      exact a.call I hI vs' mem v mem' c e hc Own ρ w ⟨ha.mem, ha.mine, ha.new, h2 _ ha.kinV, ha.kinM⟩
    · cases e
end
end Go.Proofs.Ytjhjockdkpgpeaa.En

/- DERIVED. An optimistic update as bytes, with any header, bits, signature, slot. -/
set_option linter.all false
namespace Go.Proofs.Ytjhjockdkpgpeaa.En
open Go Go.RowKit

/-- What an optimistic update's bytes hang on; and what else stands in its value. -/
structure Opt where
  sl : Int
  pr : Int
  pa : Nat → Int
  st : Nat → Int
  bo : Nat → Int
  m : Nat
  bf : Nat → Bool
  sg : Nat → Int
  s : Int
  su : Nat → Int
  br : Nat → Int
  fs : Int
  fp : Int
  fa : Nat → Int
  ft : Nat → Int
  fb : Nat → Int
  fi : Nat → Int
noncomputable abbrev byF (n : Nat) (f : Nat → Int) : LV Empty := .rows n 1 fun j => [.int .u8 (f j)]
noncomputable abbrev uG (x : Opt) (b : LV Empty) : List (LV Empty) := [.int .u64 x.sl, .int .u64 x.pr, byF 32 x.pa, byF 32 x.st, byF 32 x.bo, .nils, byF 48 x.su, byF 160 x.br, .int .u64 x.fs, .int .u64 x.fp, byF 32 x.fa, byF 32 x.ft, byF 32 x.fb, byF 192 x.fi, b, byF 96 x.sg, .int .u64 x.s]
def hdrF (x : Opt) : Nat → Int := catF (8 + 8 + 32 + 32) (catF (8 + 8 + 32) (catF (8 + 8) (catF 8 (chunkN x.sl) (chunkN x.pr)) x.pa) x.st) x.bo
def optN (m : Nat) : Nat := 8 + 8 + 32 + 32 + 32 + bytesN m + 96 + 8
def optF (x : Opt) : Nat → Int := catF (8 + 8 + 32 + 32 + 32 + bytesN x.m + 96) (catF (8 + 8 + 32 + 32 + 32 + bytesN x.m) (catF (8 + 8 + 32 + 32 + 32) (hdrF x) (packB x.bf x.m)) x.sg) (chunkN x.s)
noncomputable def inO (m : Nat) (bf : Nat → Bool) : Inp Empty := inOf [boolsU m bf]
noncomputable abbrev SOp (m : Nat) (bf : Nat → Bool) : Sig Empty := sigOf (P := Try.prog) [] [] [conWUintA, conWBits, conWAll] (I := inO m bf) [] noMs adv19
theorem inO_ok (m : Nat) (bf : Nat → Bool) : InpOk (inO m bf) := inL_ok m bf
theorem SOp_ok (m : Nat) (bf : Nat → Bool) : SigOk Try.prog (SOp m bf) := sigOf_ok [] [] [conWUintA, conWBits, conWAll] [] (noMs_ok _) _ (inO_ok m bf)
--@gen enO (x : Opt) := runG Try.prog (SOp x.m x.bf) 200 43 [] (startS Try.f43 [.agg (uG x (.vec (.inp 0 0) x.m))] []) .ret 0 [some (.own 155)] 5 [(2, .vec (.own 0) (optN x.m))] [some (rowB (optN x.m) (optF x))]
--@[
def enO_G (x : Opt) : Prop := (((decide             ((↑(Opt.m x) : Int) = (↑(Opt.m x) : Int) ∧               (0 : Int) ≤ (↑(Opt.m x) : Int) ∧                 (↑48 : Int) * (↑(Opt.m x) : Int) ≤ (2 : Int) ^ 48) =           true ∧         true = true ∧           rowOk (A := Empty) (Kd.row 69)               [LV.rows (Int.toNat (↑(Opt.m x) : Int)) 48 fun (x : Nat) =>                   units                     (LV.agg                       [LV.int IntKind.u8 ((0 : Int)), LV.int IntKind.u8 ((0 : Int)),                         LV.int IntKind.u8 ((0 : Int)), LV.int IntKind.u8 ((0 : Int)),                         LV.int IntKind.u8 ((0 : Int)), LV.int IntKind.u8 ((0 : Int)),                         LV.int IntKind.u8 ((0 : Int)), LV.int IntKind.u8 ((0 : Int)),                         LV.int IntKind.u8 ((0 : Int)), LV.int IntKind.u8 ((0 : Int)),                         LV.int IntKind.u8 ((0 : Int)), LV.int IntKind.u8 ((0 : Int)),                         LV.int IntKind.u8 ((0 : Int)), LV.int IntKind.u8 ((0 : Int)),                         LV.int IntKind.u8 ((0 : Int)), LV.int IntKind.u8 ((0 : Int)),                         LV.int IntKind.u8 ((0 : Int)), LV.int IntKind.u8 ((0 : Int)),                         LV.int IntKind.u8 ((0 : Int)), LV.int IntKind.u8 ((0 : Int)),                         LV.int IntKind.u8 ((0 : Int)), LV.int IntKind.u8 ((0 : Int)),                         LV.int IntKind.u8 ((0 : Int)), LV.int IntKind.u8 ((0 : Int)),                         LV.int IntKind.u8 ((0 : Int)), LV.int IntKind.u8 ((0 : Int)),                         LV.int IntKind.u8 ((0 : Int)), LV.int IntKind.u8 ((0 : Int)),                         LV.int IntKind.u8 ((0 : Int)), LV.int IntKind.u8 ((0 : Int)),                         LV.int IntKind.u8 ((0 : Int)), LV.int IntKind.u8 ((0 : Int)),                         LV.int IntKind.u8 ((0 : Int)), LV.int IntKind.u8 ((0 : Int)),                         LV.int IntKind.u8 ((0 : Int)), LV.int IntKind.u8 ((0 : Int)),                         LV.int IntKind.u8 ((0 : Int)), LV.int IntKind.u8 ((0 : Int)),                         LV.int IntKind.u8 ((0 : Int)), LV.int IntKind.u8 ((0 : Int)),                         LV.int IntKind.u8 ((0 : Int)), LV.int IntKind.u8 ((0 : Int)),                         LV.int IntKind.u8 ((0 : Int)), LV.int IntKind.u8 ((0 : Int)),                         LV.int IntKind.u8 ((0 : Int)), LV.int IntKind.u8 ((0 : Int)),                         LV.int IntKind.u8 ((0 : Int)), LV.int IntKind.u8 ((0 : Int))])]               (setRows                 [LV.rows (Int.toNat (↑(Opt.m x) : Int)) 48 fun (x : Nat) =>                     units                       (LV.agg                         [LV.int IntKind.u8 ((0 : Int)), LV.int IntKind.u8 ((0 : Int)),                           LV.int IntKind.u8 ((0 : Int)), LV.int IntKind.u8 ((0 : Int)),                           LV.int IntKind.u8 ((0 : Int)), LV.int IntKind.u8 ((0 : Int)),                           LV.int IntKind.u8 ((0 : Int)), LV.int IntKind.u8 ((0 : Int)),                           LV.int IntKind.u8 ((0 : Int)), LV.int IntKind.u8 ((0 : Int)),                           LV.int IntKind.u8 ((0 : Int)), LV.int IntKind.u8 ((0 : Int)),                           LV.int IntKind.u8 ((0 : Int)), LV.int IntKind.u8 ((0 : Int)),                           LV.int IntKind.u8 ((0 : Int)), LV.int IntKind.u8 ((0 : Int)),                           LV.int IntKind.u8 ((0 : Int)), LV.int IntKind.u8 ((0 : Int)),                           LV.int IntKind.u8 ((0 : Int)), LV.int IntKind.u8 ((0 : Int)),                           LV.int IntKind.u8 ((0 : Int)), LV.int IntKind.u8 ((0 : Int)),                           LV.int IntKind.u8 ((0 : Int)), LV.int IntKind.u8 ((0 : Int)),                           LV.int IntKind.u8 ((0 : Int)), LV.int IntKind.u8 ((0 : Int)),                           LV.int IntKind.u8 ((0 : Int)), LV.int IntKind.u8 ((0 : Int)),                           LV.int IntKind.u8 ((0 : Int)), LV.int IntKind.u8 ((0 : Int)),                           LV.int IntKind.u8 ((0 : Int)), LV.int IntKind.u8 ((0 : Int)),                           LV.int IntKind.u8 ((0 : Int)), LV.int IntKind.u8 ((0 : Int)),                           LV.int IntKind.u8 ((0 : Int)), LV.int IntKind.u8 ((0 : Int)),                           LV.int IntKind.u8 ((0 : Int)), LV.int IntKind.u8 ((0 : Int)),                           LV.int IntKind.u8 ((0 : Int)), LV.int IntKind.u8 ((0 : Int)),                           LV.int IntKind.u8 ((0 : Int)), LV.int IntKind.u8 ((0 : Int)),                           LV.int IntKind.u8 ((0 : Int)), LV.int IntKind.u8 ((0 : Int)),                           LV.int IntKind.u8 ((0 : Int)), LV.int IntKind.u8 ((0 : Int)),                           LV.int IntKind.u8 ((0 : Int)), LV.int IntKind.u8 ((0 : Int))])]                 0 fun (j : Nat) =>                 mrgR (Nat.blt j (Nat.min 0 (Int.toNat (↑(Opt.m x) : Int)))) []                   (units                     (LV.agg                       [LV.int IntKind.u8 ((0 : Int)), LV.int IntKind.u8 ((0 : Int)),                         LV.int IntKind.u8 ((0 : Int)), LV.int IntKind.u8 ((0 : Int)),                         LV.int IntKind.u8 ((0 : Int)), LV.int IntKind.u8 ((0 : Int)),                         LV.int IntKind.u8 ((0 : Int)), LV.int IntKind.u8 ((0 : Int)),                         LV.int IntKind.u8 ((0 : Int)), LV.int IntKind.u8 ((0 : Int)),                         LV.int IntKind.u8 ((0 : Int)), LV.int IntKind.u8 ((0 : Int)),                         LV.int IntKind.u8 ((0 : Int)), LV.int IntKind.u8 ((0 : Int)),                         LV.int IntKind.u8 ((0 : Int)), LV.int IntKind.u8 ((0 : Int)),                         LV.int IntKind.u8 ((0 : Int)), LV.int IntKind.u8 ((0 : Int)),                         LV.int IntKind.u8 ((0 : Int)), LV.int IntKind.u8 ((0 : Int)),                         LV.int IntKind.u8 ((0 : Int)), LV.int IntKind.u8 ((0 : Int)),                         LV.int IntKind.u8 ((0 : Int)), LV.int IntKind.u8 ((0 : Int)),                         LV.int IntKind.u8 ((0 : Int)), LV.int IntKind.u8 ((0 : Int)),                         LV.int IntKind.u8 ((0 : Int)), LV.int IntKind.u8 ((0 : Int)),                         LV.int IntKind.u8 ((0 : Int)), LV.int IntKind.u8 ((0 : Int)),                         LV.int IntKind.u8 ((0 : Int)), LV.int IntKind.u8 ((0 : Int)),                         LV.int IntKind.u8 ((0 : Int)), LV.int IntKind.u8 ((0 : Int)),                         LV.int IntKind.u8 ((0 : Int)), LV.int IntKind.u8 ((0 : Int)),                         LV.int IntKind.u8 ((0 : Int)), LV.int IntKind.u8 ((0 : Int)),                         LV.int IntKind.u8 ((0 : Int)), LV.int IntKind.u8 ((0 : Int)),                         LV.int IntKind.u8 ((0 : Int)), LV.int IntKind.u8 ((0 : Int)),                         LV.int IntKind.u8 ((0 : Int)), LV.int IntKind.u8 ((0 : Int)),                         LV.int IntKind.u8 ((0 : Int)), LV.int IntKind.u8 ((0 : Int)),                         LV.int IntKind.u8 ((0 : Int)), LV.int IntKind.u8 ((0 : Int))]))) =             true) ∧       true = true) ∧     ((true = true ∧ true = true ∧ true = true) ∧ true = true ∧ true = true ∧ true = true) ∧       (true = true ∧ true = true) ∧         (Opt.sl x = Opt.sl x ∧ True) ∧           (true = true ∧ true = true) ∧             (Opt.pr x = Opt.pr x ∧                 (8 = 8 ∧                     (8 = 8 ∧                         ∀ (i : Nat),                           i < 8 →                             Same (A := Empty) [LV.int IntKind.u8 (chunkN (Opt.sl x) i)] [LV.int IntKind.u8 (chunkN (Opt.sl x) i)]) ∧                       ∀ (i : Nat), plainL (A := Empty) [LV.int IntKind.u8 (chunkN (Opt.sl x) i)]) ∧                   8 ≤ 70368744177664) ∧               (true = true ∧ true = true) ∧                 ((true = true ∧ true = true) ∧ true = true) ∧                   (true = true ∧ true = true) ∧                     ((true = true ∧ true = true) ∧ true = true) ∧                       (true = true ∧ true = true) ∧                         ((true = true ∧ true = true) ∧ true = true) ∧                           (true = true ∧ true = true) ∧                             ((0 = 0 ∧ Opt.m x = Opt.m x) ∧                                 (8 + 8 + 32 + 32 + 32 =                                       8 + 8 + 32 + 32 + 32 ∧                                     (8 + 8 + 32 + 32 + 32 =                                           8 + 8 + 32 + 32 + 32 ∧                                         ∀ (i : Nat),                                           i < 8 + 8 + 32 + 32 + 32 →                                             Same (A := Empty) [LV.int IntKind.u8                                                   (bif Nat.blt i (8 + 8 + 32 + 32) then                                                     bif Nat.blt i (8 + 8 + 32) then                                                       bif Nat.blt i (8 + 8) then                                                         catF 8 (chunkN (Opt.sl x)) (chunkN (Opt.pr x)) i                                                       else Opt.pa x (i - (8 + 8))                                                     else Opt.st x (i - (8 + 8 + 32))                                                   else                                                     Opt.bo x (i - (8 + 8 + 32 + 32)))]                                               [LV.int IntKind.u8                                                   (bif Nat.blt i (8 + 8 + 32 + 32) then                                                     bif Nat.blt i (8 + 8 + 32) then                                                       bif Nat.blt i (8 + 8) then                                                         catF 8 (chunkN (Opt.sl x)) (chunkN (Opt.pr x)) i                                                       else Opt.pa x (i - (8 + 8))                                                     else Opt.st x (i - (8 + 8 + 32))                                                   else                                                     Opt.bo x                                                       (i - (8 + 8 + 32 + 32)))]) ∧                                       ∀ (i : Nat),                                         plainL (A := Empty) [LV.int IntKind.u8                                               (bif Nat.blt i (8 + 8 + 32 + 32) then                                                 bif Nat.blt i (8 + 8 + 32) then                                                   bif Nat.blt i (8 + 8) then                                                     catF 8 (chunkN (Opt.sl x)) (chunkN (Opt.pr x)) i                                                   else Opt.pa x (i - (8 + 8))                                                 else Opt.st x (i - (8 + 8 + 32))                                               else Opt.bo x (i - (8 + 8 + 32 + 32)))]) ∧                                   ((Opt.m x = Opt.m x ∧                                         ∀ (i : Nat), i < Opt.m x → Same (A := Empty) [LV.bool (Opt.bf x i)] [LV.bool (Opt.bf x i)]) ∧                                       ∀ (i : Nat), plainL (A := Empty) [LV.bool (Opt.bf x i)]) ∧                                     Opt.m x ≤ 70368744177664 ∧                                       8 + 8 + 32 + 32 + 32 ≤                                         35184372088832) ∧                               (true = true ∧ true = true) ∧                                 ((true = true ∧                                       (Nat.beq                                             (8 + 8 + 32 + 32 + 32 +                                               bytesN (Opt.m x))                                             (8 + 8 + 32 + 32 + 32 +                                               bytesN (Opt.m x)) &&                                           Nat.ble                                             ((8 + 8 + 32 + 32 + 32 +                                                   bytesN (Opt.m x) +                                                 96) *                                               1)                                             140737488355328) =                                         true) ∧                                     true = true) ∧                                   (true = true ∧ true = true) ∧                                     (Opt.s x = Opt.s x ∧                                         (8 + 8 + 32 + 32 + 32 +                                                   bytesN (Opt.m x) +                                                 96 =                                               8 + 8 + 32 + 32 + 32 +                                                   bytesN (Opt.m x) +                                                 96 ∧                                             (8 + 8 + 32 + 32 + 32 +                                                       bytesN (Opt.m x) +                                                     96 =                                                   8 + 8 + 32 + 32 + 32 +                                                       bytesN (Opt.m x) +                                                     96 ∧                                                 ∀ (i : Nat),                                                   i <                                                       8 + 8 + 32 + 32 + 32 +                                                           bytesN (Opt.m x) +                                                         96 →                                                     Same (A := Empty) [LV.int IntKind.u8                                                           (bif                                                               Nat.blt i                                                                 (8 + 8 + 32 + 32 +                                                                     32 +                                                                   bytesN (Opt.m x)) then                                                             catF                                                               (8 + 8 + 32 + 32 +                                                                 32)                                                               (fun (j : Nat) =>                                                                 bif                                                                     Nat.blt j                                                                       (8 + 8 + 32 +                                                                         32) then                                                                   bif                                                                       Nat.blt j                                                                         (8 + 8 + 32) then                                                                     bif Nat.blt j (8 + 8) then                                                                       catF 8 (chunkN (Opt.sl x))                                                                         (chunkN (Opt.pr x)) j                                                                     else Opt.pa x (j - (8 + 8))                                                                   else                                                                     Opt.st x (j - (8 + 8 + 32))                                                                 else                                                                   Opt.bo x                                                                     (j -                                                                       (8 + 8 + 32 +                                                                         32)))                                                               (packB (Opt.bf x) (Opt.m x)) i                                                           else                                                             Opt.sg x                                                               (i -                                                                 (8 + 8 + 32 + 32 +                                                                     32 +                                                                   bytesN (Opt.m x))))]                                                       [LV.int IntKind.u8                                                           (bif                                                               Nat.blt i                                                                 (8 + 8 + 32 + 32 +                                                                     32 +                                                                   bytesN (Opt.m x)) then                                                             catF                                                               (8 + 8 + 32 + 32 +                                                                 32)                                                               (fun (j : Nat) =>                                                                 bif                                                                     Nat.blt j                                                                       (8 + 8 + 32 +                                                                         32) then                                                                   bif                                                                       Nat.blt j                                                                         (8 + 8 + 32) then                                                                     bif Nat.blt j (8 + 8) then                                                                       catF 8 (chunkN (Opt.sl x))                                                                         (chunkN (Opt.pr x)) j                                                                     else Opt.pa x (j - (8 + 8))                                                                   else                                                                     Opt.st x (j - (8 + 8 + 32))                                                                 else                                                                   Opt.bo x                                                                     (j -                                                                       (8 + 8 + 32 +                                                                         32)))                                                               (packB (Opt.bf x) (Opt.m x)) i                                                           else                                                             Opt.sg x                                                               (i -                                                                 (8 + 8 + 32 + 32 +                                                                     32 +                                                                   bytesN (Opt.m x))))]) ∧                                               ∀ (i : Nat),                                                 plainL (A := Empty) [LV.int IntKind.u8                                                       (bif                                                           Nat.blt i                                                             (8 + 8 + 32 + 32 +                                                                 32 +                                                               bytesN (Opt.m x)) then                                                         catF                                                           (8 + 8 + 32 + 32 + 32)                                                           (fun (j : Nat) =>                                                             bif                                                                 Nat.blt j                                                                   (8 + 8 + 32 + 32) then                                                               bif Nat.blt j (8 + 8 + 32) then                                                                 bif Nat.blt j (8 + 8) then                                                                   catF 8 (chunkN (Opt.sl x))                                                                     (chunkN (Opt.pr x)) j                                                                 else Opt.pa x (j - (8 + 8))                                                               else Opt.st x (j - (8 + 8 + 32))                                                             else                                                               Opt.bo x                                                                 (j - (8 + 8 + 32 + 32)))                                                           (packB (Opt.bf x) (Opt.m x)) i                                                       else                                                         Opt.sg x                                                           (i -                                                             (8 + 8 + 32 + 32 +                                                                 32 +                                                               bytesN (Opt.m x))))]) ∧                                           8 + 8 + 32 + 32 + 32 +                                                 bytesN (Opt.m x) +                                               96 ≤                                             70368744177664) ∧                                       (8 + 8 + 32 + 32 + 32 + bytesN (Opt.m x) +                                                 96 +                                               8 =                                             8 + 8 + 32 + 32 + 32 +                                                   bytesN (Opt.m x) +                                                 96 +                                               8 ∧                                           (8 + 8 + 32 + 32 + 32 +                                                       bytesN (Opt.m x) +                                                     96 +                                                   8 =                                                 8 + 8 + 32 + 32 + 32 +                                                       bytesN (Opt.m x) +                                                     96 +                                                   8 ∧                                               ∀ (i : Nat),                                                 i <                                                     8 + 8 + 32 + 32 + 32 +                                                           bytesN (Opt.m x) +                                                         96 +                                                       8 →                                                   Same (A := Empty) [LV.int IntKind.u8                                                         (catF                                                           (8 + 8 + 32 + 32 +                                                                 32 +                                                               bytesN (Opt.m x) +                                                             96)                                                           (fun (j : Nat) =>                                                             bif                                                                 Nat.blt j                                                                   (8 + 8 + 32 + 32 +                                                                       32 +                                                                     bytesN (Opt.m x)) then                                                               catF                                                                 (8 + 8 + 32 + 32 +                                                                   32)                                                                 (fun (j : Nat) =>                                                                   bif                                                                       Nat.blt j                                                                         (8 + 8 + 32 +                                                                           32) then                                                                     bif                                                                         Nat.blt j                                                                           (8 + 8 + 32) then                                                                       bif Nat.blt j (8 + 8) then                                                                         catF 8 (chunkN (Opt.sl x))                                                                           (chunkN (Opt.pr x)) j                                                                       else Opt.pa x (j - (8 + 8))                                                                     else                                                                       Opt.st x                                                                         (j - (8 + 8 + 32))                                                                   else                                                                     Opt.bo x                                                                       (j -                                                                         (8 + 8 + 32 +                                                                           32)))                                                                 (packB (Opt.bf x) (Opt.m x)) j                                                             else                                                               Opt.sg x                                                                 (j -                                                                   (8 + 8 + 32 + 32 +                                                                       32 +                                                                     bytesN (Opt.m x))))                                                           (chunkN (Opt.s x)) i)]                                                     [LV.int IntKind.u8                                                         (catF                                                           (8 + 8 + 32 + 32 +                                                                 32 +                                                               bytesN (Opt.m x) +                                                             96)                                                           (fun (j : Nat) =>                                                             bif                                                                 Nat.blt j                                                                   (8 + 8 + 32 + 32 +                                                                       32 +                                                                     bytesN (Opt.m x)) then                                                               catF                                                                 (8 + 8 + 32 + 32 +                                                                   32)                                                                 (fun (j : Nat) =>                                                                   bif                                                                       Nat.blt j                                                                         (8 + 8 + 32 +                                                                           32) then                                                                     bif                                                                         Nat.blt j                                                                           (8 + 8 + 32) then                                                                       bif Nat.blt j (8 + 8) then                                                                         catF 8 (chunkN (Opt.sl x))                                                                           (chunkN (Opt.pr x)) j                                                                       else Opt.pa x (j - (8 + 8))                                                                     else                                                                       Opt.st x                                                                         (j - (8 + 8 + 32))                                                                   else                                                                     Opt.bo x                                                                       (j -                                                                         (8 + 8 + 32 +                                                                           32)))                                                                 (packB (Opt.bf x) (Opt.m x)) j                                                             else                                                               Opt.sg x                                                                 (j -                                                                   (8 + 8 + 32 + 32 +                                                                       32 +                                                                     bytesN (Opt.m x))))                                                           (chunkN (Opt.s x)) i)]) ∧                                             ∀ (i : Nat),                                               plainL (A := Empty) [LV.int IntKind.u8                                                     (catF                                                       (8 + 8 + 32 + 32 + 32 +                                                           bytesN (Opt.m x) +                                                         96)                                                       (fun (j : Nat) =>                                                         bif                                                             Nat.blt j                                                               (8 + 8 + 32 + 32 +                                                                   32 +                                                                 bytesN (Opt.m x)) then                                                           catF                                                             (8 + 8 + 32 + 32 +                                                               32)                                                             (fun (j : Nat) =>                                                               bif                                                                   Nat.blt j                                                                     (8 + 8 + 32 +                                                                       32) then                                                                 bif Nat.blt j (8 + 8 + 32) then                                                                   bif Nat.blt j (8 + 8) then                                                                     catF 8 (chunkN (Opt.sl x))                                                                       (chunkN (Opt.pr x)) j                                                                   else Opt.pa x (j - (8 + 8))                                                                 else Opt.st x (j - (8 + 8 + 32))                                                               else                                                                 Opt.bo x                                                                   (j -                                                                     (8 + 8 + 32 + 32)))                                                             (packB (Opt.bf x) (Opt.m x)) j                                                         else                                                           Opt.sg x                                                             (j -                                                               (8 + 8 + 32 + 32 +                                                                   32 +                                                                 bytesN (Opt.m x))))                                                       (chunkN (Opt.s x)) i)]) ∧                                         8 + 8 + 32 + 32 + 32 +                                                 bytesN (Opt.m x) +                                               96 +                                             8 ≤                                           70368744177664) ∧   8 + 8 + 32 + 32 + 32 + bytesN (Opt.m x) + 96 + 8 =       optN (Opt.m x) ∧     (8 + 8 + 32 + 32 + 32 + bytesN (Opt.m x) + 96 + 8 =           optN (Opt.m x) ∧         ∀ (i : Nat),           i < optN (Opt.m x) →             Same (A := Empty) [LV.int IntKind.u8                   (catF (8 + 8 + 32 + 32 + 32 + bytesN (Opt.m x) + 96)                     (fun (j : Nat) =>                       bif                           Nat.blt j                             (8 + 8 + 32 + 32 + 32 + bytesN (Opt.m x)) then                         catF (8 + 8 + 32 + 32 + 32)                           (fun (j : Nat) =>                             bif Nat.blt j (8 + 8 + 32 + 32) then                               bif Nat.blt j (8 + 8 + 32) then                                 bif Nat.blt j (8 + 8) then                                   catF 8 (chunkN (Opt.sl x)) (chunkN (Opt.pr x)) j                                 else Opt.pa x (j - (8 + 8))                               else Opt.st x (j - (8 + 8 + 32))                             else Opt.bo x (j - (8 + 8 + 32 + 32)))                           (packB (Opt.bf x) (Opt.m x)) j                       else                         Opt.sg x                           (j - (8 + 8 + 32 + 32 + 32 + bytesN (Opt.m x))))                     (chunkN (Opt.s x)) i)]               [LV.int IntKind.u8 (optF x i)]) ∧       ∀ (i : Nat), plainL (A := Empty) [LV.int IntKind.u8 (optF x i)]
set_option maxRecDepth 100000 in
theorem enO (x : Opt) : runG Try.prog (SOp x.m x.bf) 200 43 [] (startS Try.f43 [.agg (uG x (.vec (.inp 0 0) x.m))] []) .ret 0 [some (.own 155)] 5 [(2, .vec (.own 0) (optN x.m))] [some (rowB (optN x.m) (optF x))] = some (some ((enO_G x))) := by kernel_rfl
--@]
theorem blt_if {α : Type} (i n : Nat) (a b : α) : (bif Nat.blt i n then a else b) = if i < n then a else b := by
  by_cases h : i < n
  · rw [if_pos h, show Nat.blt i n = true from by rw [Nat.blt_eq]; exact h]; rfl
  · rw [if_neg h, blt_false h]; rfl
theorem encO_told (x : Opt) (h : x.m ≤ 2 ^ 40) : ToldW Try.prog 43 [boolsU x.m x.bf] [] [.agg (uG x (.vec (.inp 0 0) x.m))] (.vec (.own 0) (optN x.m)) [rowB (optN x.m) (optF x)] := by
  have h2 : bytesN x.m ≤ 2 ^ 40 := by unfold bytesN; omega
  refine toldW_body (fn := Try.f43) rfl rfl (.inr rfl) (B := 0) (nn := 5) (l := [(2, .vec (.own 0) (optN x.m))]) (cs := []) ?_ rfl rfl
  refine ExB.auto (SOp_ok x.m x.bf) (inO_ok x.m x.bf) rfl mixed 200 _ (enO x) ?_
  simp only [condOk, enO_G]
  and_intros <;> first
    | exact rfl
    | exact rowOk_rows _ _ _ _ _
    | exact fun i _ => Same.int (by simp only [optF, hdrF, catF, blt_if])
    | exact True.intro | omega | exact fun _ => ⟨trivial, trivial⟩ | exact fun _ _ => Same.refl _ | exact fun _ _ => Like.refl _ | (simp (disch := omega) only [true_and, and_true, Nat.beq_refl, Bool.true_and, decide_eq_true_eq, decide_eq_false_iff_not, beq_iff_eq, bne_iff_ne, beq_eq_false_iff_ne, bne_eq_false_iff_eq, ne_eq, Nat.blt_eq, Nat.ble_eq, Nat.beq_eq, Bool.and_eq_true, Bool.or_eq_true, IntKind.wrap_i64, IntKind.wrap_u64, IntKind.wrap_u8, IntKind.wrap_u32, Int.tdiv_eq_ediv_of_nonneg, Int.tmod_eq_emod_of_nonneg] <;> omega) | rfl | trivial
    | (rw [decide_eq_true_eq]; omega)
set_option maxRecDepth 100000 in
theorem ent43 : ∀ args w, (callFunc 43 args).run Try.prog w = .ok (.enter 43 args) w := ent_of (f := 43) (P := Try.prog) rfl rfl rfl
noncomputable def encOS : Spec Try.prog Empty 43 where
  X := Opt
  us x := [boolsU x.m x.bf]
  bls0 x := []
  args x := [.agg (uG x (.vec (.inp 0 0) x.m))]
  v x := .vec (.own 0) (optN x.m)
  bls1 x := [rowB (optN x.m) (optF x)]
  c x := x.m ≤ 2 ^ 40
  told x h := encO_told x h
  ov _ := ⟨0, rfl⟩
  ob x b hb := by
    simp only [List.mem_cons, List.not_mem_nil, or_false] at hb
    subst hb
    exact row_ownly ..
noncomputable def conEncO : ConC Try.prog Empty := encOS.con ent43 fun I vs mem => match vs with
  | [.agg [.int _ sl, .int _ pr, .rows _ _ pa, .rows _ _ st, .rows _ _ bo, _, .rows _ _ su, .rows _ _ br, .int _ fs, .int _ fp, .rows _ _ fa, .rows _ _ ft, .rows _ _ fb, .rows _ _ fi, b, .rows _ _ sg, .int _ s]] => match pickBo I mem b with
    | some (k, m, bf) => some ({ sl, pr, pa := fun i => byteOf (pa i), st := fun i => byteOf (st i), bo := fun i => byteOf (bo i), m, bf, sg := fun i => byteOf (sg i), s, su := fun i => byteOf (su i), br := fun i => byteOf (br i), fs, fp, fa := fun i => byteOf (fa i), ft := fun i => byteOf (ft i), fb := fun i => byteOf (fb i), fi := fun i => byteOf (fi i) }, [], [k])
    | none => none
  | _ => none
/-- How an update's flat cells are put together. -/
def grpU : List (Option (Nat × Nat)) := [none, none, some (32, 1), some (32, 1), some (32, 1), none, some (48, 1), some (160, 1), none, none, some (32, 1), some (32, 1), some (32, 1), some (192, 1), none, some (96, 1), none]
noncomputable def conEncU : ConC Try.prog Empty := conEncO.grp grpU
end Go.Proofs.Ytjhjockdkpgpeaa.En

/- DERIVED. A reader's calls where nothing fails, and where the bits are not clean; a committee's size within its bounds. -/
set_option linter.all false
namespace Go.Proofs.Ytjhjockdkpgpeaa.En
open Go Go.RowKit

noncomputable abbrev xbB (N : Nat) (f : Nat → Int) (n : Nat) : List (Blk Empty) := [rdB 2 (N - n) 0, roB N f, roB (N - n) (fun j => f (n + j)), ⟨.row 5, bytesU n f⟩]
noncomputable def xbS : Spec Try.prog Empty 35 where
  X := Nat × (Nat → Int) × Int
  us _ := []
  bls0 x := rd0 x.1 x.2.1 0
  args x := argA x.2.2
  v x := .vec (.own 3) x.2.2.toNat
  bls1 x := xbB x.1 x.2.1 x.2.2.toNat
  c x := x.1 ≤ 2 ^ 43 ∧ x.2.2.toNat ≤ x.1
  told x h := by
    have := rbytes_told x.1 x.2.1 0 x.2.2 h.1
    have hk : tkOk x.1 0 x.2.2 = true := by simp [tkOk, h.2]
    have e2 : tkF x.1 x.2.1 0 x.2.2 = fun j => x.2.1 (x.2.2.toNat + j) := by funext j; simp only [tkF, hk, if_true]
    simp only [tkB, tkN, tkL, tkE, e2, hk, h.2, if_true] at this
    exact this
  ov _ := ⟨3, rfl⟩
  ob x b hb := by
    simp only [xbB, List.mem_cons, List.not_mem_nil, or_false] at hb
    rcases hb with rfl | rfl | rfl | rfl
    · exact rd_ownly ..
    · exact ro_ownly ..
    · exact ro_ownly ..
    · exact by_ownly ..
noncomputable def conXB0 : ConC Try.prog Empty := xbS.con ent35 fun I vs mem => match vs with
  | [p, .int _ n] => match pickRd mem p with
    | some (r, d, N, f, .ofNat 0) => some ((N, f, n), [r, d], [])
    | _ => none
  | _ => none
noncomputable def conXBytes : ConC Try.prog Empty := conXB0.or conRBytes rfl
/-- The number that eight bytes say. -/
def wordF (f : Nat → Int) : Int := uintV 8 f 0
noncomputable def xuS : Spec Try.prog Empty 33 where
  X := Nat × (Nat → Int)
  us _ := []
  bls0 x := rd0 x.1 x.2 0
  args x := [.ptr (.own 0) 0 []]
  v x := .int .u64 (wordF x.2)
  bls1 x := [rdB 2 (x.1 - 8) 0, roB x.1 x.2, roB (x.1 - 8) (fun j => x.2 (8 + j))]
  c x := 8 ≤ x.1 ∧ ∀ j, j < x.1 → 0 ≤ x.2 j ∧ x.2 j < 256
  told x h := by
    have := ruint2_told x.1 x.2 0 h.2
    have hk : tkOk x.1 0 8 = true := by simp only [tkOk, decide_true, Bool.true_and, decide_eq_true_eq]; exact h.1
    have hk8 : tkOk 8 0 8 = true := rfl
    have e2 : tkF x.1 x.2 0 8 = fun j => x.2 (8 + j) := by funext j; simp only [tkF, hk, if_true]; rfl
    have e3 : uintV x.1 x.2 0 = wordF x.2 := by simp only [uintV, wordF, hk, hk8, if_true]
    have e4 : (8 : Int).toNat = 8 := rfl
    simp only [uiB, tkN, tkE, e2, e3, hk, if_true, e4, h.1] at this
    exact this
  ov _ := trivial
  ob x b hb := by
    simp only [List.mem_cons, List.not_mem_nil, or_false] at hb
    rcases hb with rfl | rfl | rfl
    · exact rd_ownly ..
    · exact ro_ownly ..
    · exact ro_ownly ..
noncomputable def conXU0 : ConC Try.prog Empty := xuS.con ent33 fun I vs mem => match vs with
  | [p] => match pickRd mem p with
    | some (r, d, N, f, .ofNat 0) => some ((N, f), [r, d], [])
    | _ => none
  | _ => none
noncomputable def conXUint : ConC Try.prog Empty := conXU0.or conRUint rfl
noncomputable abbrev xtB (N : Nat) (f : Nat → Int) (n : Nat) : List (Blk Empty) := [rdB 2 (N - bytesN n) 0, roB N f, roB (N - bytesN n) (fun j => f (bytesN n + j)), ⟨.row 4, boolsU n (bitB f)⟩]
noncomputable def xtS : Spec Try.prog Empty 26 where
  X := Nat × (Nat → Int) × Int
  us _ := []
  bls0 x := rd0 x.1 x.2.1 0
  args x := argA x.2.2
  v x := .vec (.own 3) x.2.2.toNat
  bls1 x := xtB x.1 x.2.1 x.2.2.toNat
  c x := x.1 ≤ 2 ^ 43 ∧ x.2.2.toNat ≤ 8 * x.1 ∧ dirty x.2.1 x.2.2.toNat = false
  told x h := by
    have := bits_toldW x.1 x.2.1 0 x.2.2 h.1
    have hk : rdOk x.1 x.2.1 0 x.2.2 = true := by simp [rdOk, h.2.1, h.2.2]
    have e2 : rdF x.1 x.2.1 0 x.2.2 = fun j => x.2.1 (bytesN x.2.2.toNat + j) := by funext j; simp only [rdF, hk, if_true]
    simp only [rd1b, rdN, rdL, rdE, e2, hk, h.2.1, h.2.2, if_true, Bool.false_eq_true, if_false] at this
    exact this
  ov _ := ⟨3, rfl⟩
  ob x b hb := by
    simp only [xtB, List.mem_cons, List.not_mem_nil, or_false] at hb
    rcases hb with rfl | rfl | rfl | rfl
    · exact rd_ownly ..
    · exact ro_ownly ..
    · exact ro_ownly ..
    · exact bo_ownly ..
/-- Clean bits. -/
noncomputable def conXBits : ConC Try.prog Empty := xtS.con ent26 fun I vs mem => match vs with
  | [p, .int _ n] => match pickRd mem p with
    | some (r, d, N, f, .ofNat 0) => some ((N, f, n), [r, d], [])
    | _ => none
  | _ => none
noncomputable abbrev xeB (N : Nat) (f : Nat → Int) : List (Blk Empty) := [rdB 2 N 171, roB N f, roB N f, ⟨.row 4, boolsU 0 (bitB f)⟩]
noncomputable def xeS : Spec Try.prog Empty 26 where
  X := Nat × (Nat → Int) × Int
  us _ := []
  bls0 x := rd0 x.1 x.2.1 0
  args x := argA x.2.2
  v x := .vec (.own 3) 0
  bls1 x := xeB x.1 x.2.1
  c x := x.1 ≤ 2 ^ 43 ∧ x.2.2.toNat ≤ 8 * x.1 ∧ dirty x.2.1 x.2.2.toNat = true
  told x h := by
    have := bits_toldW x.1 x.2.1 0 x.2.2 h.1
    have hk : rdOk x.1 x.2.1 0 x.2.2 = false := by simp [rdOk, h.2.2]
    have e2 : rdF x.1 x.2.1 0 x.2.2 = x.2.1 := by funext j; simp only [rdF, hk, Bool.false_eq_true, if_false]
    simp only [rd1b, rdN, rdL, rdE, e2, hk, h.2.1, h.2.2, if_true, Bool.false_eq_true, if_false] at this
    exact this
  ov _ := ⟨3, rfl⟩
  ob x b hb := by
    simp only [xeB, List.mem_cons, List.not_mem_nil, or_false] at hb
    rcases hb with rfl | rfl | rfl | rfl
    · exact rd_ownly ..
    · exact ro_ownly ..
    · exact ro_ownly ..
    · exact bo_ownly ..
/-- Bits that are not clean. -/
noncomputable def conXDirty : ConC Try.prog Empty := xeS.con ent26 fun I vs mem => match vs with
  | [p, .int _ n] => match pickRd mem p with
    | some (r, d, N, f, .ofNat 0) => some ((N, f, n), [r, d], [])
    | _ => none
  | _ => none
/-! ## behind an error -/
noncomputable abbrev xfB (N : Nat) (f : Nat → Int) (e : Int) : List (Blk Empty) := [rdB 2 N e, roB N f, roB N f, ⟨.row 5, bytesU 0 f⟩]
noncomputable def xfS : Spec Try.prog Empty 35 where
  X := Nat × (Nat → Int) × Int × Int
  us _ := []
  bls0 x := rd0 x.1 x.2.1 x.2.2.1
  args x := argA x.2.2.2
  v x := .vec (.own 3) 0
  bls1 x := xfB x.1 x.2.1 x.2.2.1
  c x := x.1 ≤ 2 ^ 43 ∧ x.2.2.1 ≠ 0
  told x h := by
    have := rbytes_told x.1 x.2.1 x.2.2.1 x.2.2.2 h.1
    have hk : tkOk x.1 x.2.2.1 x.2.2.2 = false := by simp [tkOk, h.2]
    have e2 : tkF x.1 x.2.1 x.2.2.1 x.2.2.2 = x.2.1 := by funext j; simp only [tkF, hk, Bool.false_eq_true, if_false]
    simp only [tkB, tkN, tkL, tkE, e2, hk, h.2, Bool.false_eq_true, if_false] at this
    exact this
  ov _ := ⟨3, rfl⟩
  ob x b hb := by
    simp only [xfB, List.mem_cons, List.not_mem_nil, or_false] at hb
    rcases hb with rfl | rfl | rfl | rfl
    · exact rd_ownly ..
    · exact ro_ownly ..
    · exact ro_ownly ..
    · exact by_ownly ..
noncomputable def conXB1 : ConC Try.prog Empty := xfS.con ent35 fun I vs mem => match vs with
  | [p, .int _ n] => match pickRd mem p with
    | some (r, d, N, f, e) => some ((N, f, e, n), [r, d], [])
    | _ => none
  | _ => none
noncomputable def conXB : ConC Try.prog Empty := conXB0.or conXB1 rfl
noncomputable def xvS : Spec Try.prog Empty 33 where
  X := Nat × (Nat → Int) × Int
  us _ := []
  bls0 x := rd0 x.1 x.2.1 x.2.2
  args x := [.ptr (.own 0) 0 []]
  v x := .int .u64 0
  bls1 x := [rdB 2 x.1 x.2.2, roB x.1 x.2.1, roB x.1 x.2.1]
  c x := (∀ j, j < x.1 → 0 ≤ x.2.1 j ∧ x.2.1 j < 256) ∧ x.2.2 ≠ 0
  told x h := by
    have := ruint2_told x.1 x.2.1 x.2.2 h.1
    have hk : tkOk x.1 x.2.2 8 = false := by simp [tkOk, h.2]
    have e2 : tkF x.1 x.2.1 x.2.2 8 = x.2.1 := by funext j; simp only [tkF, hk, Bool.false_eq_true, if_false]
    have e3 : uintV x.1 x.2.1 x.2.2 = 0 := by simp only [uintV, hk, Bool.false_eq_true, if_false]
    simp only [uiB, tkN, tkE, e2, e3, hk, h.2, Bool.false_eq_true, if_false] at this
    exact this
  ov _ := trivial
  ob x b hb := by
    simp only [List.mem_cons, List.not_mem_nil, or_false] at hb
    rcases hb with rfl | rfl | rfl
    · exact rd_ownly ..
    · exact ro_ownly ..
    · exact ro_ownly ..
noncomputable def conXU1 : ConC Try.prog Empty := xvS.con ent33 pickR1
noncomputable def conXU : ConC Try.prog Empty := conXU0.or conXU1 rfl
end Go.Proofs.Ytjhjockdkpgpeaa.En
