/- DERIVED. What is read, step by step. -/
import Derived.Test.YtjhjockdkpgpeaaTP
import Derived.Test.YtjhjockdkpgpeaaTI
import Derived.Test.YtjhjockdkpgpeaaT8
import Derived.Test.YtjhjockdkpgpeaaT4
set_option linter.all false
namespace Go.Proofs.Ytjhjockdkpgpeaa.En
open Go Go.RowKit

/-! ## a reader's error, where nothing else is told -/
def errFn (mem : Mem Empty) : List (LV Empty) → Option (LV Empty × Nat × Nat × Nat × Int)
  | [.ptr (.own r) o []] => match Nat.beq o 0, mem[r]? with
    | true, some (some ⟨kd, [.vec (.own d) N, .int .i64 e]⟩) => match mem[d]? with
      | some (some b) => match isDead kd || isDead b.kd with
        | false => some (.int .i64 e, r, d, N, e)
        | true => none
      | _ => none
    | _, _ => none
  | _ => none
theorem errFn_spec {mem : Mem Empty} {vs : List (LV Empty)} {v : LV Empty} {r d N : Nat} {e : Int} (h : errFn mem vs = some (v, r, d, N, e)) :
    vs = [.ptr (.own r) 0 []] ∧ v = .int .i64 e ∧ ∃ kd b, mem[r]? = some (some ⟨kd, [.vec (.own d) N, .int .i64 e]⟩) ∧ mem[d]? = some (some b) ∧ isDead kd = false ∧ isDead b.kd = false := by
  unfold errFn at h
  split at h
  · split at h
    · rename_i ho hm
      split at h
      · rename_i b hb
        split at h
        · rename_i hd
          cases h
          rw [Bool.or_eq_false_iff] at hd
          rw [beqN ho]
          exact ⟨rfl, rfl, _, b, hm, hb, hd.1, hd.2⟩
        · cases h
      · cases h
    · cases h
  · cases h
noncomputable abbrev inE (N : Nat) (e : Int) : Inp Empty := inOf [[.vec (.inp 0 1) N, .int .i64 e]]
theorem inE_ok (N : Nat) (e : Int) : InpOk (inE N e) := by
  intro x y
  match x, y with
  | 0, 0 => exact ⟨trivial, trivial, trivial⟩
  | 0, y + 1 => exact trivial
  | x + 1, y => exact trivial
noncomputable abbrev SEr (N : Nat) (e : Int) : Sig Empty := sigOf (P := Try.prog) [] [] [] (I := inE N e) [] noMs { advE false false with rc := fun _ _ _ => false }
set_option maxRecDepth 100000 in
theorem err_run (N : Nat) (e : Int) : (callF Try.prog (SEr N e) 40 39 [.ptr (.inp 0 0) 0 []] []).map (fun r => (r.1, r.2.2)) = some (.int .i64 e, none) := by kernel_rfl
def ρE (ρ : Key → Loc) (r d : Nat) : Key → Loc
  | .inp 0 0 => ρ (.own r)
  | .inp 0 1 => ρ (.own d)
  | _ => ⟨0, 0, 0, true, none⟩
noncomputable def conErrL : ConR Try.prog Empty where
  f := 39
  fn I vs mem := match errFn mem vs with
    | some (v, _) => some v
    | none => none
  ent := ent39
  kin I vs mem v h p := by
    split at h
    · rename_i v' q he
      obtain ⟨r, d, N, e⟩ := q
      cases h
      obtain ⟨_, rfl, _⟩ := errFn_spec he
      trivial
    · cases h
  call I hI vs mem v h ρ w hm hkv hkb := by
    split at h
    · rename_i v' q he
      obtain ⟨r, d, N, e⟩ := q
      cases h
      obtain ⟨rfl, rfl, kd, b, h1, h2, h3, h4⟩ := errFn_spec he
      have hcap : N ≤ (ρ (.own d)).cap := (hkb (.own r) _ (at_own h1)).1
      have := calls_top (sigOf_ok [] [] [] [] (noMs_ok _) _ (inE_ok N e) : SigOk Try.prog (SEr N e)) mixed (err_run N e) trivial (ρ := ρE ρ r d) (w := w) (memRel_nil _ _ _ (fun t i j u hu => ?_) (fun t i hn => ?_) (fun k hk => ?_) (fun t i hn => ?_)) ⟨Nat.zero_le _, trivial⟩ (fun t i => ?_) fun _ _ => rfl
      · exact this
      · match t, i with
        | 0, 0 => exact hm.cell (.own r) _ (at_own h1) j u hu
        | 0, i + 1 => exact absurd (show (([] : List Value))[j]? = some u from hu) (by simp)
        | t + 1, i => exact absurd (show (([] : List Value))[j]? = some u from hu) (by simp)
      · match t, i with
        | 0, 0 => exact hm.inb (.own r) _ (at_own h1) h3 hn
        | 0, 1 => exact hm.inb (.own d) _ (at_own h2) h4 hn
        | 0, i + 2 => cases hn
        | t + 1, i => cases hn
      · match k with
        | .own k => rfl
        | .inp 0 0 => exact hm.nilc _ hk
        | .inp 0 1 => exact hm.nilc _ hk
        | .inp 0 (i + 2) => rfl
        | .inp (t + 1) i => rfl
      · match t, i with
        | 0, 0 => have := hm.empt (.own r) _ (at_own h1) hn; simp [cszL, csz] at this
        | 0, i + 1 => rfl
        | t + 1, i => rfl
      · match t, i with
        | 0, 0 => exact ⟨hcap, trivial, trivial⟩
        | 0, i + 1 => trivial
        | t + 1, i => trivial
    · cases h

/-! ## the steps -/
structure RdS where
  N : Nat
  f : Nat → Int
  e : Int
def rdNext (s : Stps) (k : Nat) (r : RdS) : RdS :=
  ⟨if s.W k = 0 then tkN r.N r.e 8 else if s.W k = 1 then tkN r.N r.e (s.K k) else if s.W k = 2 then rdN r.N r.f r.e (s.K k) else r.N,
   if s.W k = 0 then tkF r.N r.f r.e 8 else if s.W k = 1 then tkF r.N r.f r.e (s.K k) else if s.W k = 2 then rdF r.N r.f r.e (s.K k) else r.f,
   if s.W k = 0 then tkE r.N r.e 8 else if s.W k = 1 then tkE r.N r.e (s.K k) else if s.W k = 2 then rdE r.N r.f r.e (s.K k) else r.e⟩
def rdSt (s : Stps) : Nat → RdS
  | 0 => ⟨s.m, s.g, 0⟩
  | k + 1 => rdNext s k (rdSt s k)
def advRd (a b c : Bool) : Adv where
  il f := Nat.beq f 14
  dec f r i := match f, r, i with
    | 6, 7, 3 => some true
    | 6, 11, 0 => some a
    | 6, 13, 0 => some b
    | 6, 15, 0 => some c
    | 6, 12, 4 => some true
    | 6, 17, 9 => some false
    | _, _, _ => none
  rc _ _ _ := true
  fz _ _ := false
  res _ _ := 8
  pl f r := match f, r with
    | 6, 14 => true
    | 6, 16 => true
    | _, _ => false
noncomputable abbrev SRd (a b c : Bool) (s : Stps) (ls : List (LoopF Try.prog (inS s))) : Sig Empty := sigOf (P := Try.prog) [conKnown] [conErrL] [conRUint, conQUint, conRBytes, conQBytes, conRBits, conQBits, conHBits, conBytes, conREnd, conNew] (I := inS s) ls noMs (advRd a b c)
theorem SRd_ok (a b c : Bool) (s : Stps) (ls : List (LoopF Try.prog (inS s))) : SigOk Try.prog (SRd a b c s ls) := sigOf_ok _ _ _ ls (noMs_ok _) _ (inS_ok s)
noncomputable abbrev rsM (s : Stps) (r : RdS) : Mem Empty := [rdB 3 r.N r.e, roB s.m s.g, rdB 4 r.N r.e, roB r.N r.f, roB r.N r.f].map some
noncomputable abbrev rsT (s : Stps) (k : Nat) : List (Nat × LV Empty) := [(0, .vec (.inp 0 1) s.m), (1, .vec (.inp 0 0) s.n), (5, .ptr (.own 0) 0 []), (6, .ptr (.own 2) 0 []), (7, .int .i64 (k : Int))]
noncomputable def rsJ (s : Stps) (k : Nat) : LS Empty := ⟨tm 106 (rsT s k), rsM s (rdSt s k), []⟩
abbrev pathRs : List Nat := [0, 0, 1, 0, 1, 1, 1, 1]
noncomputable abbrev rsRun (a b c : Bool) (s : Stps) (k : Nat) := exec Try.prog (SRd a b c s []) 60 6 pathRs (codeAt Try.prog 6 pathRs) (rsJ s k)
end Go.Proofs.Ytjhjockdkpgpeaa.En
