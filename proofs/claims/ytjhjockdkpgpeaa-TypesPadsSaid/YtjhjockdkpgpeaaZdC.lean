/- DERIVED. Texts laid together: VSO VSP VSR T1 T2 T3 T9 T4 T5 VST VSU TA TB VSV TC. -/
import Derived.Test.YtjhjockdkpgpeaaZdB
import Derived.Carry
import Derived.ProofKit
import Derived.OpenShut
import Derived.JoinedCond
import Derived.Deep.Slices
import Derived.Deep.CondSized
import Derived.Test.YtjhjockdkpgpeaaRows
import Derived.IntWalk
/- DERIVED. Calls that read what they are handed and answer with new blocks: contracts out of what they do to a little memory. -/
set_option linter.all false
namespace Go.Proofs.Ytjhjockdkpgpeaa.En
open Go Go.RowKit

section
variable {A : Type} [Ab A] {P : Program}

mutual
/-- No block is named. -/
def LV.plain : LV A → Prop
  | .ptr _ _ _ => False
  | .slice _ _ _ _ _ => False
  | .vec _ _ => False
  | .rows _ _ f => ∀ i, plainL (f i)
  | .agg us => plainL us
  | .tup vs => plainL vs
  | .iface _ v => LV.plain v
  | .func _ caps => plainL caps
  | _ => True
def plainL : List (LV A) → Prop
  | [] => True
  | v :: l => LV.plain v ∧ plainL l
end
mutual
theorem plain_ren (τ : Key → Option Key) (q : Key → Prop) : ∀ v : LV A, v.plain → v.ren τ = v ∧ v.fit τ q
  | .ptr _ _ _, h => h.elim
  | .slice _ _ _ _ _, h => h.elim
  | .vec _ _, h => h.elim
  | .rows n z f, h => by
    refine ⟨?_, fun i => (plainL_ren τ q (f i) (h i)).2⟩
    have : (fun i => renL τ (f i)) = f := funext fun i => (plainL_ren τ q (f i) (h i)).1
    simp only [LV.ren, this]
  | .agg us, h => ⟨by simp only [LV.ren, (plainL_ren τ q us h).1], (plainL_ren τ q us h).2⟩
  | .tup vs, h => ⟨by simp only [LV.ren, (plainL_ren τ q vs h).1], (plainL_ren τ q vs h).2⟩
  | .iface t v, h => ⟨by simp only [LV.ren, (plain_ren τ q v h).1], (plain_ren τ q v h).2⟩
  | .func f caps, h => ⟨by simp only [LV.ren, (plainL_ren τ q caps h).1], (plainL_ren τ q caps h).2⟩
  | .any, _ => ⟨rfl, trivial⟩
  | .undef, _ => ⟨rfl, trivial⟩
  | .int _ _, _ => ⟨rfl, trivial⟩
  | .bool _, _ => ⟨rfl, trivial⟩
  | .str _, _ => ⟨rfl, trivial⟩
  | .nilp, _ => ⟨rfl, trivial⟩
  | .nils, _ => ⟨rfl, trivial⟩
  | .nilfn, _ => ⟨rfl, trivial⟩
  | .niliface, _ => ⟨rfl, trivial⟩
  | .abs _, _ => ⟨rfl, trivial⟩
theorem plainL_ren (τ : Key → Option Key) (q : Key → Prop) : ∀ l : List (LV A), plainL l → renL τ l = l ∧ fitL τ q l
  | [], _ => ⟨rfl, trivial⟩
  | v :: l, h => ⟨by simp only [renL, (plain_ren τ q v h.1).1, (plainL_ren τ q l h.2).1], (plain_ren τ q v h.1).2, (plainL_ren τ q l h.2).2⟩
end
mutual
theorem plain_kin (p : Key → Nat → Prop) : ∀ v : LV A, v.plain → v.kin p
  | .ptr _ _ _, h => h.elim
  | .slice _ _ _ _ _, h => h.elim
  | .vec _ _, h => h.elim
  | .rows n z f, h => fun i => plainL_kin p (f i) (h i)
  | .agg us, h => plainL_kin p us h
  | .tup vs, h => plainL_kin p vs h
  | .iface t v, h => plain_kin p v h
  | .func f caps, h => plainL_kin p caps h
  | .any, _ => trivial
  | .undef, _ => trivial
  | .int _ _, _ => trivial
  | .bool _, _ => trivial
  | .str _, _ => trivial
  | .nilp, _ => trivial
  | .nils, _ => trivial
  | .nilfn, _ => trivial
  | .niliface, _ => trivial
  | .abs _, _ => trivial
theorem plainL_kin (p : Key → Nat → Prop) : ∀ l : List (LV A), plainL l → kinL p l
  | [], _ => trivial
  | v :: l, h => ⟨plain_kin p v h.1, plainL_kin p l h.2⟩
end
mutual
theorem plain_alien : ∀ v : LV A, v.plain → v.alien
  | .ptr _ _ _, h => h.elim
  | .slice _ _ _ _ _, h => h.elim
  | .vec _ _, h => h.elim
  | .rows n z f, h => fun i => plainL_alien (f i) (h i)
  | .agg us, h => plainL_alien us h
  | .tup vs, h => plainL_alien vs h
  | .iface t v, h => plain_alien v h
  | .func f caps, h => plainL_alien caps h
  | .any, _ => trivial
  | .undef, _ => trivial
  | .int _ _, _ => trivial
  | .bool _, _ => trivial
  | .str _, _ => trivial
  | .nilp, _ => trivial
  | .nils, _ => trivial
  | .nilfn, _ => trivial
  | .niliface, _ => trivial
  | .abs _, _ => trivial
theorem plainL_alien : ∀ l : List (LV A), plainL l → alienL l
  | [], _ => trivial
  | v :: l, h => ⟨plain_alien v h.1, plainL_alien l h.2⟩
end

/-- Blocks that came in: one family. -/
def inOf (us : List (List (LV A))) : Inp A
  | 0, i => us.getD i []
  | _ + 1, _ => []
theorem inOf_ok {us : List (List (LV A))} (h : ∀ l ∈ us, plainL l) : InpOk (inOf us) := by
  intro x y
  cases x with
  | succ x => trivial
  | zero =>
    show alienL (us.getD y [])
    rw [List.getD_eq_getElem?_getD]
    cases hy : us[y]? with
    | none => trivial
    | some l => exact plainL_alien l (h l (List.mem_of_getElem? hy))

/-- What a call does that is handed blocks to read: it answers v, with new blocks. -/
def Told (P : Program) (f : FuncId) (us : List (List (LV A))) (args : List (LV A)) (v : LV A) (bls : List (Blk A)) : Prop :=
  ∀ (D : Dom) (ρ : Key → Loc) (w : World), Ahead (inOf us) D ρ [] args w →
    Calls P f (trs ρ args).toArray w fun e w' => ∃ ρ1, e = .returned (LV.tr ρ1 v) ∧ Left' (inOf us) D w [] ρ ρ1 (bls.map some) v w'

/-- Such a call, in whatever memory. -/
structure RdC (A : Type) where
  us : List (List (LV A))
  ks : List Key
  args : List (LV A)
  v : LV A
  bls : List (Blk A)
  c : Prop
def ιOf (ks : List Key) (x y : Nat) : Option Key := match x with
  | 0 => ks[y]?
  | _ + 1 => none
def RdC.out (n : Nat) (mem : Mem A) (r : RdC A) : LV A × Mem A × Cnd :=
  (r.v.ren (keyMap' n [] (ιOf r.ks)), mem ++ renM (keyMap' n [] (ιOf r.ks)) (r.bls.map some), some r.c)
structure RdOk (P : Program) (f : FuncId) (I : Inp A) (vs : List (LV A)) (mem : Mem A) (r : RdC A) : Prop where
  args : renL (keyMap [] (ιOf r.ks)) r.args = vs
  fit : fitL (keyMap [] (ιOf r.ks)) (there ([] : Mem A)) r.args
  len : r.ks.length = r.us.length
  blk : ∀ (j : Nat) k us, r.ks[j]? = some k → r.us[j]? = some us → ∃ bl, at? I mem k = some bl ∧ isDead bl.kd = false ∧ plainL us ∧ Like bl.us us
  told : Told P f r.us r.args r.v r.bls
  fitv : r.v.fit (keyMap' mem.length [] (ιOf r.ks)) (fun _ => True)
  fitb : ∀ b ∈ r.bls, fitL (keyMap' mem.length [] (ιOf r.ks)) (fun _ => True) b.us ∧ isRo b.kd = false

theorem rd_call [LawAb A] {f : FuncId} {I : Inp A} {vs : List (LV A)} {mem : Mem A} {r : RdC A} (h : RdOk P f I vs mem r) {D : Dom} {ρ : Key → Loc} {w : World} (ha : Ahead I D ρ mem vs w) :
    Calls P f (trs ρ vs).toArray w fun e w' => ∃ ρ', e = .returned (LV.tr ρ' (r.v.ren (keyMap' mem.length [] (ιOf r.ks)))) ∧ Left' I D w mem ρ ρ' (mem ++ renM (keyMap' mem.length [] (ιOf r.ks)) (r.bls.map some)) (r.v.ren (keyMap' mem.length [] (ιOf r.ks))) w' := by
  rw [← h.args] at ha ⊢
  refine frame_call (I0 := inOf r.us) (σs := []) (mem0 := []) (mem1 := r.bls.map some) h.told ?_ (fun i j k hi => by simp at hi) rfl (fun j hj => absurd hj (Nat.not_lt_zero j)) h.fit (Nat.zero_le _) (fun j hj => absurd hj (Nat.not_lt_zero j)) ?_ h.fitv (.inl ?_) ha
  · refine ⟨fun j b0 hb => by simp at hb, fun x y => ?_, fun j k' b0 hb => by simp at hb⟩
    cases x with
    | succ x => exact .inl ⟨rfl, rfl⟩
    | zero =>
      rcases Nat.lt_or_ge y r.ks.length with hy | hy
      · have h1 := List.getElem?_eq_getElem hy
        have h2 := List.getElem?_eq_getElem (show y < r.us.length by rw [← h.len]; exact hy)
        obtain ⟨bl, h3, h4, h5, h6⟩ := h.blk y _ _ h1 h2
        have e : inOf r.us 0 y = r.us[y]'(by rw [← h.len]; exact hy) := by simp [inOf, List.getD_eq_getElem?_getD, h2]
        refine .inr ⟨_, bl, h1, h3, h4, ?_, ?_⟩
        · rw [e]; exact (plainL_ren _ _ _ h5).2
        · rw [e, (plainL_ren _ (fun _ => True) _ h5).1]; exact h6
      · refine .inl ⟨List.getElem?_eq_none hy, ?_⟩
        have : r.us[y]? = none := List.getElem?_eq_none (by rw [← h.len]; exact hy)
        simp [inOf, List.getD_eq_getElem?_getD, this]
  · intro j b1 hb
    rw [List.getElem?_map, Option.map_eq_some_iff] at hb
    obtain ⟨b, h1, h2⟩ := hb
    cases h2
    exact (h.fitb b1 (List.mem_of_getElem? h1)).1
  · intro j b1 hb
    rw [List.getElem?_map, Option.map_eq_some_iff] at hb
    obtain ⟨b, h1, h2⟩ := hb
    cases h2
    exact (h.fitb b1 (List.mem_of_getElem? h1)).2

/-- A contract of a call that reads. -/
def conRd [LawAb A] (f : FuncId) (ent : ∀ args w, (callFunc f args).run P w = .ok (.enter f args) w) (fn : Inp A → List (LV A) → Mem A → Option (RdC A))
    (ok : ∀ I vs mem r, fn I vs mem = some r → r.c → RdOk P f I vs mem r) : ConC P A where
  f := f
  fn I vs mem := match fn I vs mem with
    | some r => some (r.out mem.length mem)
    | none => none
  ent := ent
  grow I vs mem v mem' c h := by
    split at h
    · cases h
      refine ⟨by simp [renM], fun k hk => ?_⟩
      rw [List.getElem?_append_left hk]
    · cases h
  call I hI vs mem v mem' c h hc D ρ w ha := by
    split at h
    · rename_i r hr
      cases h
      exact rd_call (ok I vs mem r hr hc) ha
    · cases h

/-! ## what a block says of itself -/
/-- Elements of a kind. -/
structure Elt (A : Type) [Ab A] where
  X : Type
  z : Nat
  of : X → List (LV A)
  to : List (LV A) → X
  plain : ∀ x, plainL (of x)
abbrev Elt.us (s : Elt A) (n : Nat) (f : Nat → s.X) : List (LV A) := [.rows n s.z fun j => s.of (f j)]
theorem Elt.plain_us (s : Elt A) (n : Nat) (f : Nat → s.X) : plainL (s.us n f) := ⟨fun _ => s.plain _, trivial⟩
structure Arr (s : Elt A) where
  k : Key
  n : Nat
  f : Nat → s.X
  c : Prop
def Elt.arr (s : Elt A) (I : Inp A) (mem : Mem A) : LV A → Option (Arr s)
  | .vec k n => match at? I mem k with
    | some bl => match isDead bl.kd, bl.us with
      | false, [.rows n' z' g] => match Nat.beq z' s.z with
        | true => some ⟨k, n, fun j => s.to (g j), n' = n ∧ ∀ j, j < n → Like (g j) (s.of (s.to (g j)))⟩
        | false => none
      | _, _ => none
    | none => none
  | _ => none
theorem Elt.arr_spec {s : Elt A} {I : Inp A} {mem : Mem A} {v : LV A} {a : Arr s} (h : s.arr I mem v = some a) (hc : a.c) :
    v = .vec a.k a.n ∧ ∃ bl, at? I mem a.k = some bl ∧ isDead bl.kd = false ∧ plainL (s.us a.n a.f) ∧ Like bl.us (s.us a.n a.f) := by
  unfold Elt.arr at h
  split at h
  · split at h
    · rename_i bl hb
      split at h
      · rename_i hd hu
        split at h
        · rename_i hz
          cases h
          obtain ⟨rfl, h2⟩ := hc
          rw [beqN hz] at hu
          refine ⟨rfl, bl, hb, hd, s.plain_us _ _, ?_⟩
          rw [hu]
          exact Like.rows h2 fun i _ p _ => plainL_kin p _ (s.plain _)
        · cases h
      · cases h
    · cases h
  · cases h

def boolOf : List (LV A) → Bool
  | [.bool x] => x
  | _ => false
def intS (k : IntKind) : Elt A := ⟨Int, 1, fun x => [.int k x], byteOf, fun _ => ⟨trivial, trivial⟩⟩
def boolS : Elt A := ⟨Bool, 1, fun x => [.bool x], boolOf, fun _ => ⟨trivial, trivial⟩⟩
/-- Arrays of so many numbers. -/
def numsOf (us : List (LV A)) (j : Nat) : Int := match us with
  | [.rows _ _ g] => byteOf (g j)
  | us => match us[j]? with
    | some u => byteOf [u]
    | none => 0
def arrS (k : IntKind) (z : Nat) : Elt A := ⟨Nat → Int, z, fun x => [.rows z 1 fun j => [.int k (x j)]], numsOf, fun _ => ⟨fun _ => ⟨trivial, trivial⟩, trivial⟩⟩
/-! ## one or two blocks to read -/
/-- The value and the blocks that come out: nothing of what came in. -/
structure Fresh' (v : LV A) (bls : List (Blk A)) : Prop where
  v : ∀ n ι, v.fit (keyMap' n [] ι) (fun _ => True)
  b : ∀ b ∈ bls, (∀ n ι, fitL (keyMap' n [] ι) (fun _ => True) b.us) ∧ isRo b.kd = false
theorem Fresh'.plain {v : LV A} (h : v.plain) : Fresh' v [] := ⟨fun _ _ => (plain_ren _ _ v h).2, fun b hb => absurd hb List.not_mem_nil⟩
theorem Fresh'.vec {n : Nat} {b : Blk A} (h : plainL b.us) (hb : isRo b.kd = false) : Fresh' (.vec (.own 0) n : LV A) [b] :=
  ⟨fun m ι => ⟨fun e => by simp [keyMap'] at e, trivial⟩, fun x hx => by
    rw [List.mem_singleton] at hx
    subst hx
    exact ⟨fun m ι => (plainL_ren _ _ _ h).2, hb⟩⟩

def rd1 (s : Elt A) (v : Nat → (Nat → s.X) → LV A) (bls : Nat → (Nat → s.X) → List (Blk A)) (c : Nat → (Nat → s.X) → Prop) (I : Inp A) (vs : List (LV A)) (mem : Mem A) : Option (RdC A) := match vs with
  | [x] => match s.arr I mem x with
    | some a => some ⟨[s.us a.n a.f], [a.k], [.vec (.inp 0 0) a.n], v a.n a.f, bls a.n a.f, a.c ∧ c a.n a.f⟩
    | none => none
  | _ => none
theorem rd1_ok [LawAb A] {s : Elt A} {v : Nat → (Nat → s.X) → LV A} {bls : Nat → (Nat → s.X) → List (Blk A)} {c : Nat → (Nat → s.X) → Prop} {f : FuncId}
    (told : ∀ n g, c n g → Told P f [s.us n g] [.vec (.inp 0 0) n] (v n g) (bls n g)) (fr : ∀ n g, Fresh' (v n g) (bls n g)) :
    ∀ I vs mem r, rd1 s v bls c I vs mem = some r → r.c → RdOk P f I vs mem r := by
  intro I vs mem r h hc
  unfold rd1 at h
  split at h
  · rename_i x
    split at h
    · rename_i a ha
      cases h
      obtain ⟨h1, h2⟩ := hc
      obtain ⟨rfl, bl, h3, h4, h5, h6⟩ := Elt.arr_spec ha h1
      exact {
        args := rfl
        fit := ⟨⟨fun e => by simp [keyMap, ιOf] at e, trivial⟩, trivial⟩
        len := rfl
        blk := fun j k us hk hu => by
          match j with
          | 0 => cases hk; cases hu; exact ⟨bl, h3, h4, h5, h6⟩
          | j + 1 => simp at hk
        told := told _ _ h2
        fitv := (fr _ _).v _ _
        fitb := fun b hb => ⟨((fr _ _).b b hb).1 _ _, ((fr _ _).b b hb).2⟩ }
    · cases h
  · cases h

def rd2 (s t : Elt A) (v : Nat → (Nat → s.X) → Nat → (Nat → t.X) → LV A) (bls : Nat → (Nat → s.X) → Nat → (Nat → t.X) → List (Blk A)) (c : Nat → (Nat → s.X) → Nat → (Nat → t.X) → Prop) (I : Inp A) (vs : List (LV A)) (mem : Mem A) : Option (RdC A) := match vs with
  | [x, y] => match s.arr I mem x, t.arr I mem y with
    | some a, some b => some ⟨[s.us a.n a.f, t.us b.n b.f], [a.k, b.k], [.vec (.inp 0 0) a.n, .vec (.inp 0 1) b.n], v a.n a.f b.n b.f, bls a.n a.f b.n b.f, a.c ∧ b.c ∧ c a.n a.f b.n b.f⟩
    | _, _ => none
  | _ => none
theorem rd2_ok [LawAb A] {s t : Elt A} {v : Nat → (Nat → s.X) → Nat → (Nat → t.X) → LV A} {bls : Nat → (Nat → s.X) → Nat → (Nat → t.X) → List (Blk A)} {c : Nat → (Nat → s.X) → Nat → (Nat → t.X) → Prop} {f : FuncId}
    (told : ∀ n g m h, c n g m h → Told P f [s.us n g, t.us m h] [.vec (.inp 0 0) n, .vec (.inp 0 1) m] (v n g m h) (bls n g m h)) (fr : ∀ n g m h, Fresh' (v n g m h) (bls n g m h)) :
    ∀ I vs mem r, rd2 s t v bls c I vs mem = some r → r.c → RdOk P f I vs mem r := by
  intro I vs mem r h hc
  unfold rd2 at h
  split at h
  · rename_i x y
    split at h
    · rename_i a b ha hb
      cases h
      obtain ⟨h1, h1', h2⟩ := hc
      obtain ⟨rfl, bl, h3, h4, h5, h6⟩ := Elt.arr_spec ha h1
      obtain ⟨rfl, bl', h3', h4', h5', h6'⟩ := Elt.arr_spec hb h1'
      exact {
        args := rfl
        fit := ⟨⟨fun e => by simp [keyMap, ιOf] at e, trivial⟩, ⟨fun e => by simp [keyMap, ιOf] at e, trivial⟩, trivial⟩
        len := rfl
        blk := fun j k us hk hu => by
          match j with
          | 0 => cases hk; cases hu; exact ⟨bl, h3, h4, h5, h6⟩
          | 1 => cases hk; cases hu; exact ⟨bl', h3', h4', h5', h6'⟩
          | j + 2 => simp at hk
        told := told _ _ _ _ h2
        fitv := (fr _ _ _ _).v _ _
        fitb := fun b hb => ⟨((fr _ _ _ _).b b hb).1 _ _, ((fr _ _ _ _).b b hb).2⟩ }
    · cases h
  · cases h
/-- Out of the executor. -/
theorem told_of [LawAb A] [LawEq A] {S : Sig A} (hS : SigOk P S) (hm : P.follows .mixedOrders = true) {n : Nat} {f : FuncId} {us : List (List (LV A))} (hI : S.inp = inOf us) {args : List (LV A)} {v : LV A} {bls : List (Blk A)} {c : Cnd}
    (h : callF P S n f args [] = some (v, bls.map some, c)) (hc : condOk c) : Told P f us args v bls := by
  intro D ρ w ha
  have := callF_sound hS hm h hc (Own := D) (ρ := ρ) (w := w) (by rw [hI]; exact ha)
  rw [hI] at this
  exact this
end
end Go.Proofs.Ytjhjockdkpgpeaa.En

/- DERIVED. Short ways to say that one state says the same as another. -/
set_option linter.all false
namespace Go.Proofs.Ytjhjockdkpgpeaa.En
open Go Go.RowKit

section
variable {A : Type} [Ab A] {P : Program} {I : Inp A}

/-! ## the same cells -/
def Same (us us' : List (LV A)) : Prop := ∀ ρ, cellsL ρ us = cellsL ρ us'
theorem Same.refl (us : List (LV A)) : Same us us := fun _ => rfl
theorem Same.of_eq {us us' : List (LV A)} (h : us = us') : Same us us' := fun _ => by rw [h]
theorem Same.trans {a b c : List (LV A)} (h : Same a b) (k : Same b c) : Same a c := fun ρ => (h ρ).trans (k ρ)
theorem Same.like {us us' : List (LV A)} (h : Same us us') (hp : plainL us') : Like us us' := Like.of_cells h fun p => plainL_kin p _ hp
theorem Same.mrg {c : Bool} {a b us : List (LV A)} (h1 : c = true → Same a us) (h2 : c = false → Same b us) : Same (mrgR c a b) us := by
  intro ρ
  rw [mrgR_sound]
  cases c with
  | true => exact h1 rfl ρ
  | false => exact h2 rfl ρ
theorem Same.lt {i n : Nat} {a b us : List (LV A)} (h1 : i < n → Same a us) (h2 : ¬ i < n → Same b us) : Same (mrgR (Nat.blt i n) a b) us :=
  Same.mrg (fun h => h1 (bltN h)) fun h => h2 fun hh => by rw [ltB hh] at h; cases h
theorem Same.at {i n : Nat} {a b us : List (LV A)} (h1 : i = n → Same a us) (h2 : i ≠ n → Same b us) : Same (mrgR (Nat.beq i n) a b) us :=
  Same.mrg (fun h => h1 (beqN h)) fun h => h2 fun hh => by rw [hh, Nat.beq_refl] at h; cases h
theorem Same.rows {n n' z : Nat} {f g : Nat → List (LV A)} (hn : n = n') (h : ∀ i, i < n → Same (f i) (g i)) : Same [.rows n z f] [.rows n' z g] := by
  subst hn
  exact fun ρ => cells_rows_congr ρ fun i hi => h i hi ρ
theorem Same.cons {u u' : LV A} {us us' : List (LV A)} (h : Same [u] [u']) (k : Same us us') : Same (u :: us) (u' :: us') := by
  intro ρ
  have h1 := h ρ
  simp only [cellsL, List.append_nil] at h1
  simp only [cellsL, h1, k ρ]
theorem Same.int {k : IntKind} {x y : Int} (h : x = y) : Same (A := A) [.int k x] [.int k y] := by subst h; exact Same.refl _
theorem Same.bool {x y : Bool} (h : x = y) : Same (A := A) [.bool x] [.bool y] := by subst h; exact Same.refl _
theorem Same.getD {n j : Nat} {x d us : List (LV A)} (hj : j < n) (h : Same x us) : Same ((List.replicate n x).getD j d) us := by
  rw [rep_getD x d hj]; exact h

/-! ## what is told of a run -/
/-- The names of the blocks that a state tells of. -/
def σL (l : List (Option Key)) (j : Nat) : Option Key := match l[j]? with
  | some x => x
  | none => none
def TmpsFit (T : List (LV A)) (σ : Nat → Option Key) (q : Key → Prop) : List (Nat × LV A) → Prop
  | [] => True
  | p :: l => (T[p.1]? = some (p.2.ren (ownK σ)) ∧ p.2.fit (ownK σ) q) ∧ TmpsFit T σ q l
theorem TmpsFit.all {T : List (LV A)} {σ : Nat → Option Key} {q : Key → Prop} : ∀ {l : List (Nat × LV A)}, TmpsFit T σ q l → ∀ p ∈ l, T[p.1]? = some (p.2.ren (ownK σ)) ∧ p.2.fit (ownK σ) q
  | [], _, p, hp => absurd hp List.not_mem_nil
  | x :: l, h, p, hp => by
    rcases List.mem_cons.1 hp with rfl | hp
    · exact h.1
    · exact h.2.all p hp
def BlkFit (I : Inp A) (M : Mem A) (σ : Nat → Option Key) (q : Key → Prop) (j : Nat) (b0 : Blk A) : Prop :=
  fitL (ownK σ) q b0.us ∧ ((∃ k b, σ j = some k ∧ at? I M k = some b ∧ LikeB (ownK σ) b b0) ∨ (σ j = none ∧ ∃ e z f, b0 = ⟨nilK e, [.rows 0 z f]⟩ ∧ ∀ i p, kinL p (f i)))
def BlksFit (I : Inp A) (M : Mem A) (σ : Nat → Option Key) (q : Key → Prop) : Nat → Mem A → Prop
  | _, [] => True
  | j, none :: l => BlksFit I M σ q (j + 1) l
  | j, some b :: l => BlkFit I M σ q j b ∧ BlksFit I M σ q (j + 1) l
theorem BlksFit.all {M : Mem A} {σ : Nat → Option Key} {q : Key → Prop} : ∀ {l : Mem A} {j : Nat}, BlksFit I M σ q j l → ∀ (i : Nat) (b0 : Blk A), l[i]? = some (some b0) → BlkFit I M σ q (j + i) b0
  | [], j, _, i, b0, hb => by simp at hb
  | none :: l, j, h, i, b0, hb => by
    cases i with
    | zero => simp at hb
    | succ i => have := BlksFit.all (l := l) h i b0 (by simpa using hb); rwa [show j + 1 + i = j + (i + 1) by omega] at this
  | some b :: l, j, h, i, b0, hb => by
    cases i with
    | zero => simp at hb; subst hb; exact h.1
    | succ i => have := h.2.all i b0 (by simpa using hb); rwa [show j + 1 + i = j + (i + 1) by omega] at this
theorem BlkFit.plain {M : Mem A} {σ : Nat → Option Key} {q : Key → Prop} {j : Nat} {b0 : Blk A} {k : Key} {us : List (LV A)} (h : σ j = some k) (ha : at? I M k = some ⟨b0.kd, us⟩) (hp : plainL b0.us) (hs : Same us b0.us) (hr : rowOk b0.kd us b0.us = true) (hd : isDead b0.kd = false) : BlkFit I M σ q j b0 := by
  refine ⟨(plainL_ren _ _ _ hp).2, .inl ⟨k, _, h, ha, .inl rfl, ?_, ?_, fun e => ?_⟩⟩
  · rw [(plainL_ren (ownK σ) (fun _ => True) _ hp).1]; exact hs.like hp
  · rw [(plainL_ren (ownK σ) (fun _ => True) _ hp).1]; exact hr
  · rw [hd] at e; cases e
/-- Rows. -/
theorem BlkFit.rows {M : Mem A} {σ : Nat → Option Key} {q : Key → Prop} {j : Nat} {kd : Kd} {n n' z : Nat} {f g : Nat → List (LV A)} {k : Key} (h : σ j = some k) (ha : at? I M k = some ⟨kd, [.rows n' z g]⟩) (hd : isDead kd = false) (hn : n' = n) (hp : ∀ i, plainL (f i)) (hs : ∀ i, i < n → Same (g i) (f i)) : BlkFit I M σ q j ⟨kd, [.rows n z f]⟩ := by
  subst hn
  exact BlkFit.plain h ha (show plainL [LV.rows n' z f] from ⟨hp, trivial⟩) (Same.rows rfl hs) (rowOk_rows _ _ _ _ _) hd
theorem BlkFit.nil {M : Mem A} {σ : Nat → Option Key} {q : Key → Prop} {j : Nat} {e : TypeId} {z : Nat} {f : Nat → List (LV A)} (h : σ j = none) (hp : ∀ i, plainL (f i)) : BlkFit I M σ q j ⟨.row e, [.rows 0 z f]⟩ :=
  ⟨(plainL_ren _ _ [LV.rows 0 z f] ⟨hp, trivial⟩).2, .inr ⟨h, some e, z, f, rfl, fun i p => plainL_kin p _ (hp i)⟩⟩
theorem BlkFit.nilRo {M : Mem A} {σ : Nat → Option Key} {q : Key → Prop} {j : Nat} {z : Nat} {f : Nat → List (LV A)} (h : σ j = none) (hp : ∀ i, plainL (f i)) : BlkFit I M σ q j ⟨.ro, [.rows 0 z f]⟩ :=
  ⟨(plainL_ren _ _ [LV.rows 0 z f] ⟨hp, trivial⟩).2, .inr ⟨h, none, z, f, rfl, fun i p => plainL_kin p _ (hp i)⟩⟩
/-- The same, names changed. -/
theorem BlkFit.eq {M : Mem A} {σ : Nat → Option Key} {q : Key → Prop} {j : Nat} {b0 : Blk A} {k : Key} (h : σ j = some k) (ha : at? I M k = some ⟨b0.kd, renL (ownK σ) b0.us⟩) (hf : fitL (ownK σ) q b0.us) (hr : rowOk b0.kd (renL (ownK σ) b0.us) (renL (ownK σ) b0.us) = true) (hd : isDead b0.kd = false) : BlkFit I M σ q j b0 :=
  ⟨hf, .inl ⟨k, _, h, ha, .inl rfl, Like.refl _, hr, fun e => by rw [hd] at e; cases e⟩⟩
/-- What is only read from here on. -/
theorem BlkFit.ro {M : Mem A} {σ : Nat → Option Key} {q : Key → Prop} {j : Nat} {kd : Kd} {us us0 : List (LV A)} {k : Key} (h : σ j = some k) (ha : at? I M k = some ⟨kd, us⟩) (hd : isDead kd = false) (hp : plainL us0) (hs : Same us us0) : BlkFit I M σ q j ⟨.ro, us0⟩ := by
  refine ⟨(plainL_ren _ _ _ hp).2, .inl ⟨k, _, h, ha, .inr ⟨rfl, hd⟩, ?_, rfl, fun e => by cases e⟩⟩
  rw [(plainL_ren (ownK σ) (fun _ => True) _ hp).1]; exact hs.like hp
/-- The names are different ones. -/
def keyB : Key → Key → Bool
  | .own a, .own b => Nat.beq a b
  | .inp a b, .inp c d => Nat.beq a c && Nat.beq b d
  | _, _ => false
def apartK : List (Option Key) → Bool
  | [] => true
  | none :: l => apartK l
  | some k :: l => l.all (fun x => match x with
    | some k' => !keyB k k'
    | none => true) && apartK l
theorem keyB_refl (k : Key) : keyB k k = true := by cases k <;> simp [keyB, Nat.beq_refl]
theorem apartK_spec : ∀ {l : List (Option Key)}, apartK l = true → ∀ (i j : Nat) k, l[i]? = some (some k) → l[j]? = some (some k) → i = j
  | [], _, i, j, k, hi, _ => by simp at hi
  | none :: l, h, i, j, k, hi, hj => by
    cases i with
    | zero => simp at hi
    | succ i =>
      cases j with
      | zero => simp at hj
      | succ j => rw [apartK_spec (l := l) h i j k (by simpa using hi) (by simpa using hj)]
  | some x :: l, h, i, j, k, hi, hj => by
    obtain ⟨h1, h2⟩ := both h
    rw [List.all_eq_true] at h1
    have no : ∀ (m : Nat), l[m]? = some (some x) → False := by
      intro m hm
      have := h1 _ (List.mem_of_getElem? hm)
      simp [keyB_refl] at this
    cases i with
    | zero =>
      cases j with
      | zero => rfl
      | succ j => simp at hi; subst hi; exact (no j (by simpa using hj)).elim
    | succ i =>
      cases j with
      | zero => simp at hj; subst hj; exact (no i (by simpa using hi)).elim
      | succ j => rw [apartK_spec h2 i j k (by simpa using hi) (by simpa using hj)]
theorem σL_some {l : List (Option Key)} {j : Nat} {k : Key} (h : σL l j = some k) : l[j]? = some (some k) := by
  unfold σL at h
  split at h
  · rename_i x hx; rw [hx, h]
  · cases h
/-- What is written has names of its own. -/
def ownW : List (Option Key) → Mem A → Bool
  | some (.inp _ _) :: l, some b :: m => !isWr b.kd && ownW l m
  | some (.inp _ _) :: l, none :: m => ownW l m
  | some (.own _) :: l, _ :: m => ownW l m
  | none :: l, _ :: m => ownW l m
  | _, _ => true
theorem ownW_spec : ∀ {l : List (Option Key)} {m : Mem A}, ownW l m = true → ∀ (i : Nat) (b : Blk A), m[i]? = some (some b) → isWr b.kd = true → ∀ x y, l[i]? ≠ some (some (.inp x y))
  | [], m, _, i, b, hb, hw, x, y => by simp
  | u :: l, [], _, i, b, hb, hw, x, y => by simp at hb
  | some (.inp p q) :: l, some b' :: m, h, i, b, hb, hw, x, y => by
    obtain ⟨h1, h2⟩ := both h
    cases i with
    | zero => simp at hb; subst hb; rw [hw] at h1; cases h1
    | succ i => have := ownW_spec h2 i b (by simpa using hb) hw x y; simpa using this
  | some (.inp p q) :: l, none :: m, h, i, b, hb, hw, x, y => by
    cases i with
    | zero => simp at hb
    | succ i => have := ownW_spec (l := l) h i b (by simpa using hb) hw x y; simpa using this
  | some (.own p) :: l, b' :: m, h, i, b, hb, hw, x, y => by
    cases i with
    | zero => simp
    | succ i => have := ownW_spec (l := l) h i b (by simpa using hb) hw x y; simpa using this
  | none :: l, b' :: m, h, i, b, hb, hw, x, y => by
    cases i with
    | zero => simp
    | succ i => have := ownW_spec (l := l) h i b (by simpa using hb) hw x y; simpa using this

theorem Fits.told {t : LS A} {n : Nat} {l : List (Nat × LV A)} {m' : Mem A} {cs : List Cnd} (σ : List (Option Key)) (hn : t.tmps.length = n) (ht : TmpsFit t.tmps (σL σ) (there m') l) (hm : BlksFit I t.mem (σL σ) (there m') 0 m')
    (h1 : apartK σ = true) (h2 : ownW σ m' = true) : Fits I t ⟨tm n l, m', cs⟩ (σL σ) :=
  Fits.of hn ht.all (fun j b0 hb => by have := hm.all j b0 hb; rw [Nat.zero_add] at this; exact this) (fun k k' j _ _ _ _ e e' => (apartK_spec h1 k k' j (σL_some e) (σL_some e')).symm) fun k bl hb hw x y e => ownW_spec h2 k bl hb hw x y (σL_some e)

/-- A piece of code comes from one state to another. -/
theorem ExB.told [LawAb A] (hI : InpOk I) {c : Code} {s t : LS A} {o : Out} (h : Ex P I c s o t) {n : Nat} {l : List (Nat × LV A)} {m' : Mem A} {cs : List Cnd} (σ : List (Option Key)) (hn : t.tmps.length = n) (ht : TmpsFit t.tmps (σL σ) (there m') l) (hm : BlksFit I t.mem (σL σ) (there m') 0 m')
    (h1 : apartK σ = true) (h2 : ownW σ m' = true) : ExB 0 P I c s o ⟨tm n l, m', cs⟩ :=
  (h.toB 0).fits hI (Fits.told σ hn ht hm h1 h2) fun k bl hk => absurd hk (Nat.not_lt_zero k)
theorem ExB.from [LawAb A] (hI : InpOk I) {c : Code} {s t : LS A} {o : Out} {n : Nat} {l : List (Nat × LV A)} {m' : Mem A} {cs : List Cnd} (h : ExB 0 P I c ⟨tm n l, m', cs⟩ o t) (σ : List (Option Key)) (hn : s.tmps.length = n) (ht : TmpsFit s.tmps (σL σ) (there m') l) (hm : BlksFit I s.mem (σL σ) (there m') 0 m')
    (h1 : apartK σ = true) (h2 : ownW σ m' = true) : ExB 0 P I c s o t :=
  h.pre hI (Fits.told σ hn ht hm h1 h2) fun k bl hk => absurd hk (Nat.not_lt_zero k)
theorem ExB.toEx0 {c : Code} {s t : LS A} {o : Out} (h : ExB 0 P I c s o t) (hs : s.mem = []) : Ex P I c s o t := h.toEx fun k bl hb => by rw [hs] at hb; simp at hb

/-! ## .. where the first B blocks keep their names -/
def idB (σ : List (Option Key)) (m' : Mem A) : Nat → Bool
  | 0 => true
  | B + 1 => (match σ[B]?, m'[B]? with
    | some (some (.own k)), some (some _) => Nat.beq k B
    | _, _ => false) && idB σ m' B
theorem idB_spec {σ : List (Option Key)} {m' : Mem A} : ∀ {B : Nat}, idB σ m' B = true → ∀ k, k < B → σL σ k = some (.own k) ∧ there m' (.own k)
  | 0, _, k, hk => absurd hk (Nat.not_lt_zero k)
  | B + 1, h, k, hk => by
    obtain ⟨h1, h2⟩ := both h
    rcases Nat.lt_or_ge k B with hl | hl
    · exact idB_spec h2 k hl
    · have e : k = B := by omega
      subst e
      split at h1
      · rename_i x bl e1 e2
        have := beqN h1
        subst this
        exact ⟨by simp [σL, e1], ex_there e2⟩
      · cases h1
theorem ExB.toldB [LawAb A] (hI : InpOk I) (B : Nat) {c : Code} {s t : LS A} {o : Out} (h : Ex P I c s o t) {n : Nat} {l : List (Nat × LV A)} {m' : Mem A} {cs : List Cnd} (σ : List (Option Key)) (hn : t.tmps.length = n) (ht : TmpsFit t.tmps (σL σ) (there m') l) (hm : BlksFit I t.mem (σL σ) (there m') 0 m')
    (h1 : apartK σ = true) (h2 : ownW σ m' = true) (h3 : idB σ m' B = true) : ExB B P I c s o ⟨tm n l, m', cs⟩ :=
  (h.toB B).fits hI (Fits.told σ hn ht hm h1 h2) fun k _ hk _ => idB_spec h3 k hk
theorem ExB.fromB [LawAb A] (hI : InpOk I) {B : Nat} {c : Code} {s t : LS A} {o : Out} {n : Nat} {l : List (Nat × LV A)} {m' : Mem A} {cs : List Cnd} (h : ExB B P I c ⟨tm n l, m', cs⟩ o t) (σ : List (Option Key)) (hn : s.tmps.length = n) (ht : TmpsFit s.tmps (σL σ) (there m') l) (hm : BlksFit I s.mem (σL σ) (there m') 0 m')
    (h1 : apartK σ = true) (h2 : ownW σ m' = true) (h3 : idB σ m' B = true) : ExB B P I c s o t :=
  h.pre hI (Fits.told σ hn ht hm h1 h2) fun k _ hk _ => idB_spec h3 k hk
theorem ExB.toExB {B : Nat} {c : Code} {s t : LS A} {o : Out} (h : ExB B P I c s o t) (hs : s.mem.length ≤ B) : Ex P I c s o t := h.toEx fun k bl hb => Nat.lt_of_lt_of_le (lt_of_get hb) hs
end
end Go.Proofs.Ytjhjockdkpgpeaa.En

/- DERIVED. From a law's call to its statement: what came in reads as it did. -/
set_option linter.all false
namespace Go.Proofs.Ytjhjockdkpgpeaa.En
open Go Go.RowKit Go.ChangeShapes Go.WideShapes Go.ChangeAt Go.WideElems

section
variable {P : Program} {H : Type} {enc : TypeId × Value → H}

theorem trodAll_stays (hl : laidOutB P = true) {W W' : World} {sp' : Nat → Bool} : ∀ {ts : List TypeId} {vs : List Value} {ds : List (DataW H)} {ps : List MemPlace}, (∀ t ∈ ts, P.readableRec t = true ∧ t < P.types.size) →
    DataW.TrodAll enc P W 0 (fun _ => true) true ts vs ds ps → (∀ p ∈ ps, W.sameAt W' p) → (∀ p ∈ ps, sp' p.block = true) → DataW.TrodAll enc P W' 0 sp' true ts vs ds ps
  | [], [], [], _, _, h, _, _ => h
  | t :: ts, v :: vs, d :: ds, ps, ht, ⟨p, q, h1, h2, h3⟩, hs, hp => by
    subst h3
    obtain ⟨hr, hrow⟩ := ht t (by simp)
    exact ⟨p, q, Trod_stays hl hr hrow h1 (fun x hx => hs x (by simp [hx])) (fun x hx => hp x (by simp [hx])), trodAll_stays hl (fun t ht' => ht t (by simp [ht'])) h2 (fun x hx => hs x (by simp [hx])) (fun x hx => hp x (by simp [hx])), rfl⟩
  | [], _ :: _, _, _, _, h, _, _ => h.elim
  | [], [], _ :: _, _, _, h, _, _ => h.elim
  | _ :: _, [], _, _, _, h, _, _ => h.elim
  | _ :: _, _ :: _, [], _, _, h, _, _ => h.elim

/-- A law's end: it answers true, and below the heap's old size nothing has turned. -/
theorem law_post (hl : laidOutB P = true) {f : Func} {s : ChangeSpec} {apart fresh handsOn again : Bool} {W W' : World} {args : Array Value} {ds gs : List (DataW H)} {before : List MemPlace} {tb : TypeId}
    (hW : DataW.Whole enc P f.params.toList s.vars apart W args.toList ds gs before) (hv : s.vars = []) (hs : s.fn H (ds ++ gs) = { results := [.lit (.bool true)], args := ds }) (ht : ∀ t ∈ f.params.toList, P.readableRec t = true ∧ t < P.types.size)
    (hr : f.resultTypes = #[tb]) (htb : P.underlying tb = some .bool) (hB : Below W.heap.size W W') : s.post enc P f apart fresh handsOn again W args (.bool true) W' := by
  have hW' := hW
  obtain ⟨p, q, hA, hV, rfl, hz, hn⟩ := hW
  rw [hv] at hV
  obtain ⟨rfl, rfl⟩ := trodVars_none hV
  have hlt : ∀ x ∈ p ++ [], x.block < W.heap.size := fun x hx => by simpa using hW'.lt x hx
  have hres : ∀ (b : Nat) (sp : Nat → Bool) (hd : Bool), DataW.TrodAll enc P W' b sp hd f.resultTypes.toList ((Value.bool true).resultList f.resultTypes.size) (s.fn H (ds ++ [])).results [] := by
    intro b sp hd
    rw [hs, hr]
    exact trodAll_cons_mk (shut_bool htb true) trodAll_mk0
  have hargs : ∀ sp : Nat → Bool, (∀ x ∈ p ++ [], sp x.block = true) → DataW.TrodAll enc P W' 0 sp true f.params.toList args.toList (s.fn H (ds ++ [])).args p := by
    intro sp hsp
    rw [hs]
    exact trodAll_stays hl ht hA (fun x hx => hB.same (hlt x (by simp [hx]))) fun x hx => hsp x (by simp [hx])
  have hvars : ∀ sp : Nat → Bool, DataW.TrodVars enc P W' sp s.vars (s.fn H (ds ++ [])).vars [] := by
    intro sp
    rw [hs, hv]
    rfl
  refine ⟨ds, [], p ++ [], [], p, [], hW', hres _ _ _, hargs _ (fun x hx => by simpa using hlt x hx), hvars _, hB.frame _, fun _ => ?_⟩
  refine ⟨ok_one hr rfl (okWide_bool_mk htb true), _, _, ([] ++ p) ++ [], ⟨[] ++ p, [], trodAll_append (hargs _ fun _ _ => rfl) (hres _ _ _), hvars _, rfl, ?_, ?_⟩, ?_⟩
  · intro b off hp
    have hp : MemPlace.cell b off ∈ p ++ [] := by simpa using hp
    rw [hB.frozen (hlt _ hp)]
    exact hz b off hp
  · intro ha
    simpa using hn ha
  · intro x hx _
    simpa using hx

/-! ## arguments -/
theorem has_lt {P : Program} {W : World} {r : Reach} {base : Nat} {a : Addr} {e : TypeId} {n : Nat} (h : W.has P r base a e n) : a.spot = none ∧ a.block < W.heap.size := by
  obtain ⟨_, h1, row, cells, h2, _⟩ := h
  refine ⟨h1, ?_⟩
  rcases Nat.lt_or_ge a.block W.heap.size with h | h
  · exact h
  · simp [World.shape?, Array.getElem?_eq_none h] at h2
/-- A slice that came in: where it lies. -/
structure Came (W : World) (l : Loc) (n : Nat) : Prop where
  cap : n ≤ l.cap
  max : n ≤ maxLen
  nil : l.none = true → l.cap = 0
  blk : l.none = false → l.blk < W.heap.size
theorem open_nums {t e : TypeId} {k : IntKind} {W : World} {base : Nat} {v : Value} {d : DataW H} {p : List MemPlace} (ht : P.underlying t = some (.slice e)) (he : P.underlying e = some (.int k)) (hc : P.cellsOf e = 1) (hok : Value.okWide P W .any base t v)
    (h : DataW.Trod enc P W 0 (fun _ => true) true t v d p) : ∃ (n : Nat) (f : Nat → Int) (l : Loc), v = vecV l n ∧ Came W l n ∧ ∀ j, j < n → W.cell? (l.at j) = some (.int k (f j)) ∧ (Lit.int k (f j)).wf = true := by
  obtain ⟨a, len, cap, rfl⟩ := okWide_slice ht hok
  obtain ⟨fuel, hf⟩ := h
  rcases open_ints ht he hc hf with ⟨hcs, _⟩ | ⟨ad, len', cap', zs, hcs, _, hl, hm, hz, _, hcell, hwf⟩
  · simp [Value.cells] at hcs
    obtain ⟨rfl, rfl, rfl⟩ := hcs
    exact ⟨0, fun _ => 0, ⟨0, 0, 0, true, none⟩, rfl, ⟨Nat.le_refl _, Nat.zero_le _, fun _ => rfl, (fun h => by cases h)⟩, fun j hj => absurd hj (Nat.not_lt_zero j)⟩
  · simp [Value.cells] at hcs
    obtain ⟨rfl, rfl, rfl⟩ := hcs
    have hz : zs.length = cap := hz
    have hh : ad.spot = none ∧ ad.block < W.heap.size := by
      simp only [Value.okWide, ht, Cell.okWide, Cell.ok] at hok
      exact has_lt hok.2.2
    obtain ⟨b, o, sp⟩ := ad
    obtain ⟨h1, h2⟩ := hh
    have h1 : sp = none := h1
    subst h1
    refine ⟨len, fun j => zs.getD j 0, ⟨b, o, cap, false, none⟩, rfl, ⟨hl, Nat.le_trans hl hm, (fun h => by cases h), fun _ => h2⟩, fun j hj => ?_⟩
    have := hcell j (by omega)
    rw [add_plain] at this
    refine ⟨this, hwf _ ?_⟩
    show zs.getD j 0 ∈ zs
    rw [List.getD_eq_getElem?_getD, List.getElem?_eq_getElem (show j < zs.length by omega)]
    exact List.getElem_mem _
section
variable {A : Type} [Ab A]
theorem cells_ints (ρ : Key → Loc) {k : IntKind} {n : Nat} {f : Nat → Int} {j : Nat} {v : Value} (h : (cellsL ρ ([.rows n 1 fun j => [.int k (f j)]] : List (LV A)))[j]? = some v) : j < n ∧ v = .int k (f j) := by
  have e : cellsL ρ ([.rows n 1 fun j => [.int k (f j)]] : List (LV A)) = (List.range n).map fun j => Value.int k (f j) := by
    simp only [cellsL, LV.cells, List.append_nil]
    clear h
    induction n with
    | zero => rfl
    | succ n ih => rw [List.range_succ, List.flatMap_append, List.map_append, ih]; simp [fitTo]
  rw [e, List.getElem?_map, Option.map_eq_some_iff] at h
  obtain ⟨x, h1, h2⟩ := h
  have hj : j < n := by simpa using (List.getElem?_eq_some_iff.1 h1).1
  rw [List.getElem?_range hj, Option.some.injEq] at h1
  subst h1
  exact ⟨hj, h2.symm⟩
def atLoc (ls : List Loc) : Key → Loc
  | .inp 0 i => ls.getD i ⟨0, 0, 0, true, none⟩
  | _ => ⟨0, 0, 0, true, none⟩
theorem csz_rows (n z : Nat) (f : Nat → List (LV A)) : cszL [LV.rows n z f] = n * z := by simp [cszL, csz]
/-- What came in, as the executor has it. -/
theorem came_mem [LawAb A] {W : World} {us : List (List (LV A))} {ls : List Loc} (hlen : us.length = ls.length)
    (h : ∀ (i : Nat) u l, us[i]? = some u → ls[i]? = some l → (l.none = true → l.cap = 0 ∧ cszL u = 0) ∧ (l.none = false → l.blk < W.heap.size) ∧ ∀ j v, (cellsL (atLoc ls) u)[j]? = some v → W.cell? (l.at j) = some v) :
    MemRel (inOf us) (atLoc ls) [] W := by
  have at1 : ∀ (t i : Nat), (∃ u l, t = 0 ∧ us[i]? = some u ∧ ls[i]? = some l ∧ inOf us t i = u ∧ atLoc ls (.inp t i) = l) ∨ (inOf us t i = [] ∧ (t = 0 → us[i]? = none ∧ ls[i]? = none) ∧ atLoc ls (.inp t i) = ⟨0, 0, 0, true, none⟩) := by
    intro t i
    cases t with
    | succ t => exact .inr ⟨rfl, (fun h => by cases h), rfl⟩
    | zero =>
      rcases Nat.lt_or_ge i us.length with hi | hi
      · have h1 := List.getElem?_eq_getElem hi
        have h2 := List.getElem?_eq_getElem (show i < ls.length by omega)
        exact .inl ⟨_, _, rfl, h1, h2, by simp [inOf, List.getD_eq_getElem?_getD, h1], by simp [atLoc, List.getD_eq_getElem?_getD, h2]⟩
      · have h1 : us[i]? = none := List.getElem?_eq_none hi
        have h2 : ls[i]? = none := List.getElem?_eq_none (by omega)
        exact .inr ⟨by simp [inOf, List.getD_eq_getElem?_getD, h1], fun _ => ⟨h1, h2⟩, by simp [atLoc, List.getD_eq_getElem?_getD, h2]⟩
  refine memRel_nil _ _ _ (fun t i j v hv => ?_) (fun t i hn => ?_) (fun k hk => ?_) (fun t i hn => ?_)
  · rcases at1 t i with ⟨u, l, rfl, h1, h2, h3, h4⟩ | ⟨h3, _, _⟩
    · rw [h3] at hv; rw [h4]; exact (h i u l h1 h2).2.2 j v hv
    · rw [h3] at hv; simp [cellsL] at hv
  · rcases at1 t i with ⟨u, l, rfl, h1, h2, h3, h4⟩ | ⟨_, _, h4⟩
    · rw [h4] at hn ⊢; exact (h i u l h1 h2).2.1 hn
    · rw [h4] at hn; cases hn
  · cases k with
    | own k => rfl
    | inp t i =>
      rcases at1 t i with ⟨u, l, rfl, h1, h2, h3, h4⟩ | ⟨_, _, h4⟩
      · rw [h4] at hk ⊢; exact ((h i u l h1 h2).1 hk).1
      · rw [h4]
  · rcases at1 t i with ⟨u, l, rfl, h1, h2, h3, h4⟩ | ⟨h3, _, h4⟩
    · rw [h4] at hn; rw [h3]; exact ((h i u l h1 h2).1 hn).2
    · rw [h3]; rfl
end
end
end Go.Proofs.Ytjhjockdkpgpeaa.En

/- DERIVED. Bytes in chunks: the program's way. -/
set_option linter.all false
namespace Go.Proofs.Ytjhjockdkpgpeaa.En
open Go Go.RowKit

noncomputable instance abE : Ab Empty where
  cells x := x.elim
  size x := x.elim
  beq x := x.elim
instance lawE : LawAb Empty := ⟨fun x => x.elim, fun x => x.elim⟩
instance eqE : LawEq Empty := ⟨fun x => x.elim⟩

abbrev noMs : TypeId → String → Option FuncId := fun _ _ => none
theorem noMs_ok (P : Program) : ∀ t m f, noMs t m = some f → ∀ v w, (method (P.types.size + Made.depth) t v m).run P w = .ok (f, v) w := by
  intro t m f h; cases h
theorem mixed : Try.prog.follows .mixedOrders = true := by kernel_rfl

/-- Bytes, as a block. -/
abbrev bytesU (n : Nat) (f : Nat → Int) : List (LV Empty) := [.rows n 1 fun j => [.int .u8 (f j)]]

def advP (b : Bool) : Adv where
  il _ := true
  dec f r i := match f, r, i with
    | 29, 2, 2 => some b
    | _, _, _ => none
  rc f r i := match f, r, i with
    | 29, 5, 2 => true
    | 29, 6, 3 => true
    | 29, 3, 4 => true
    | _, _, _ => false
  fz _ _ := false
  res _ _ := 1
noncomputable abbrev SP (b : Bool) (I : Inp Empty) : Sig Empty := sigOf (P := Try.prog) [] [] [] (I := I) [] noMs (advP b)
theorem SP_ok (b : Bool) {I : Inp Empty} (hI : InpOk I) : SigOk Try.prog (SP b I) := sigOf_ok [] [] [] [] (noMs_ok _) _ hI

/-- The loop's state: m bytes are left; k chunks are made. -/
def jP (m k : Nat) (g : Nat → Int) (h : Nat → Nat → Int) : LS Empty :=
  ⟨tm 21 [(0, .vec (.own 0) m), (2, .nils), (3, .vec (.own 1) k)], [some ⟨.ro, bytesU m g⟩, some ⟨.row 50, [.rows k 32 fun i => bytesU 32 (h i)]⟩], []⟩
def nextG (m : Nat) (g : Nat → Int) : Nat → Int := fun j => g (min m 32 + j)
def nextH (m k : Nat) (g : Nat → Int) (h : Nat → Nat → Int) : Nat → Nat → Int := fun i j => if i < k then h i j else if j < m then g j else 0

/-- The low bound of the next part. -/
abbrev lowP (m : Nat) : Nat := (if (32 : Int) < (m : Int) then (32 : Int) else (m : Int)).toNat
def pC (m k : Nat) : Prop :=
  decide (0 < (m : Int)) = true ∧ ((Nat.ble m m = true ∧ Nat.ble (Nat.min m 32) 32 = true) ∧ true = true) ∧ (Nat.ble 1 1 = true ∧ (Nat.beq k k && Nat.ble ((k + 1) * 32) (2 ^ 47)) = true) ∧
    decide ((0 : Int) ≤ (if (32 : Int) < (m : Int) then (32 : Int) else (m : Int)) ∧ (if (32 : Int) < (m : Int) then (32 : Int) else (m : Int)) ≤ (m : Int) ∧ (m : Int) ≤ (m : Int) ∧ (m : Int) ≤ (m : Int)) = true ∧ Nat.ble m m = true

/-- What one round comes to. -/
structure PRun (I : Inp Empty) (m k : Nat) (g : Nat → Int) (h : Nat → Nat → Int) (r : Option (Out × LS Empty)) : Prop where
  eq : r = exec Try.prog (SP true I) 40 29 [0, 0, 0, 1, 1] (codeAt Try.prog 29 [0, 0, 0, 1, 1]) (jP m k g h)
  out : outO r = some .normal
  len : (outS r).tmps.length = 21
  t0 : (outS r).tmps[0]? = some (.vec (.own 5) ((m : Int).toNat - lowP m))
  t2 : (outS r).tmps[2]? = some .nils
  t3 : (outS r).tmps[3]? = some (.vec (.own 4) (k + 1))
  b12 : at? I (outS r).mem (.own 5) = some ⟨.ro, bytesU ((m : Int).toNat - lowP m) fun j => g (lowP m + j)⟩
  b6 : at? I (outS r).mem (.own 4) = some ⟨.row 50, [.rows (k + 1) 32 fun i => mrgR (Nat.blt i k) (bytesU 32 (h i)) ([[LV.rows 32 1 fun j => mrgR (Nat.blt j (Nat.min m 32)) [.int .u8 (g j)] ((List.replicate 32 [LV.int .u8 0]).getD j [])]].getD (i - k) [])]⟩
  cs : allC (outS r).conds = some (pC m k)
set_option maxRecDepth 100000 in
theorem pRun (I : Inp Empty) (m k : Nat) (g : Nat → Int) (h : Nat → Nat → Int) : ∃ r, PRun I m k g h r :=
  ⟨_, { eq := rfl, out := by kernel_rfl, len := by kernel_rfl, t0 := by kernel_rfl, t2 := by kernel_rfl, t3 := by kernel_rfl, b12 := by kernel_rfl, b6 := by kernel_rfl, cs := by kernel_rfl }⟩

theorem there0 {b : Blk Empty} {l : Mem Empty} : there (some b :: l) (.own 0) := trivial
theorem lowP_le (m : Nat) : lowP m = min m 32 := by unfold lowP; split <;> omega

/-- Which names the state's blocks have. -/
def σ2 (a b : Key) : Nat → Option Key
  | 0 => some a
  | 1 => some b
  | _ => none
set_option maxRecDepth 100000 in
theorem pack_step {I : Inp Empty} (hI : InpOk I) (m k : Nat) (g : Nat → Int) (h : Nat → Nat → Int) (hm : 0 < m) (hk : (k + 1) * 32 ≤ 2 ^ 47) :
    ExB 0 Try.prog I (codeAt Try.prog 29 [0, 0, 0, 1, 1]) (jP m k g h) .normal (jP (m - 32) (k + 1) (nextG m g) (nextH m k g h)) := by
  obtain ⟨r, hr⟩ := pRun I m k g h
  have e0 : (m : Int).toNat - lowP m = m - 32 := by rw [lowP_le]; omega
  have hc : condOk (allC (outS r).conds) := by
    rw [hr.cs]
    refine ⟨by simpa using hm, ⟨⟨leB (Nat.le_refl _), leB (Nat.min_le_right _ _)⟩, rfl⟩, ⟨rfl, ?_⟩, ?_, leB (Nat.le_refl _)⟩
    · rw [Nat.beq_refl, leB hk]; rfl
    · refine decide_eq_true ?_
      split <;> omega
  refine ((Ex.of_run (SP_ok true hI) rfl mixed hr.eq hr.out hc).toB 0).fits hI (σ := σ2 (.own 5) (.own 4)) (Fits.ofI hr.len ?_ ?_ ?_ ?_) (fun k bl hk => absurd hk (Nat.not_lt_zero k))
  · simp only [List.forall_mem_cons, hr.t0, hr.t2, hr.t3, e0]
    refine ⟨⟨rfl, ?_, trivial⟩, ⟨rfl, trivial⟩, ⟨rfl, ?_, trivial⟩, fun _ h => absurd h List.not_mem_nil⟩ <;> (intro h; cases h)
  · intro j b0 hb
    match j, hb with
    | 0, hb =>
      cases hb
      refine ⟨⟨fun i => ⟨trivial, trivial⟩, trivial⟩, .inl ⟨_, _, rfl, hr.b12, .inl rfl, ?_, rfl, fun e => by cases e⟩⟩
      rw [e0]
      refine Like.of_eq ?_
      simp only [lowP_le, renL, LV.ren, nextG]
    | 1, hb =>
      cases hb
      refine ⟨⟨fun i => ⟨fun i => ⟨trivial, trivial⟩, trivial⟩, trivial⟩, .inl ⟨_, _, rfl, hr.b6, .inl rfl, ?_, rowOk_rows _ _ _ _ _, fun e => by cases e⟩⟩
      refine Like.rows (fun i hi => Like.of_cells (fun ρ => ?_) fun p => ⟨fun j => ⟨trivial, trivial⟩, trivial⟩) (fun i _ p _ => ⟨fun j => ⟨trivial, trivial⟩, trivial⟩)
      rw [mrgR_sound]
      by_cases hik : i < k
      · rw [ltB hik]
        exact cells_rows_congr ρ fun j _ => by simp only [nextH, if_pos hik]; rfl
      · have e1 : i - k = 0 := by omega
        rw [blt_false hik, e1]
        refine cells_rows_congr ρ fun j hj => ?_
        rw [mrgR_sound]
        have e2 : (List.replicate 32 [(LV.int .u8 0 : LV Empty)]).getD j [] = [LV.int .u8 0] := rep_getD _ _ hj
        rw [e2]
        simp only [nextH, if_neg hik]
        by_cases hjm : j < m
        · rw [ltB (show j < Nat.min m 32 from Nat.lt_min.2 ⟨hjm, hj⟩), if_pos hjm]; rfl
        · rw [blt_false (fun h => hjm (Nat.lt_of_lt_of_le h (Nat.min_le_left _ _))), if_neg hjm]; rfl
    | n + 2, hb => simp at hb
  · intro a b j ha hb h1 h2
    match a, b with
    | 0, 0 => rfl
    | 1, 1 => rfl
    | 0, 1 => cases h1; cases h2
    | 1, 0 => cases h1; cases h2
    | a + 2, _ => cases h1
    | _, b + 2 => cases h2
  · intro j bl hb hw x y
    match j with
    | 0 => simp [σ2]
    | 1 => simp [σ2]
    | j + 2 => simp [σ2]

/-! ## the loop -/
structure PEnd (I : Inp Empty) (k : Nat) (g : Nat → Int) (h : Nat → Nat → Int) (r : Option (Out × LS Empty)) : Prop where
  eq : r = exec Try.prog (SP false I) 40 29 [0, 0, 0, 1, 1] (codeAt Try.prog 29 [0, 0, 0, 1, 1]) (jP 0 k g h)
  out : outO r = some (.exit 0)
  len : (outS r).tmps.length = 21
  t3 : (outS r).tmps[3]? = some (.vec (.own 1) k)
  b1 : at? I (outS r).mem (.own 1) = some ⟨.row 50, [.rows k 32 fun i => bytesU 32 (h i)]⟩
  cs : allC (outS r).conds = some (decide (0 < ((0 : Nat) : Int)) = false)
set_option maxRecDepth 100000 in
theorem pEnd (I : Inp Empty) (k : Nat) (g : Nat → Int) (h : Nat → Nat → Int) : ∃ r, PEnd I k g h r :=
  ⟨_, { eq := rfl, out := by kernel_rfl, len := by kernel_rfl, t3 := by kernel_rfl, b1 := by kernel_rfl, cs := by kernel_rfl }⟩

/-- The chunks of so many bytes. -/
def chunksN (n : Nat) : Nat := (n + 31) / 32
def chunkB (n : Nat) (f : Nat → Int) (i j : Nat) : Int := if 32 * i + j < n then f (32 * i + j) else 0
abbrev chunksU (n : Nat) (f : Nat → Int) : List (LV Empty) := [.rows (chunksN n) 32 fun i => bytesU 32 (chunkB n f i)]

def σ1 (a : Key) : Nat → Option Key
  | 0 => some a
  | _ => none

set_option maxRecDepth 100000 in
theorem pack_end {I : Inp Empty} (hI : InpOk I) (k : Nat) (g : Nat → Int) (h h' : Nat → Nat → Int) (hh : ∀ i j, i < k → j < 32 → h i j = h' i j) :
    ExB 0 Try.prog I (codeAt Try.prog 29 [0, 0, 0, 1, 1]) (jP 0 k g h) (.exit 0) ⟨tm 21 [(3, .vec (.own 0) k)], [some ⟨.row 50, [.rows k 32 fun i => bytesU 32 (h' i)]⟩], []⟩ := by
  obtain ⟨r, hr⟩ := pEnd I k g h
  have hc : condOk (allC (outS r).conds) := by rw [hr.cs]; rfl
  refine ((Ex.of_run (SP_ok false hI) rfl mixed hr.eq hr.out hc).toB 0).fits hI (σ := σ1 (.own 1)) (Fits.ofI hr.len ?_ ?_ ?_ ?_) (fun k bl hk => absurd hk (Nat.not_lt_zero k))
  · simp only [List.forall_mem_cons, hr.t3]
    refine ⟨⟨rfl, ?_, trivial⟩, fun _ h => absurd h List.not_mem_nil⟩
    intro h; cases h
  · intro j b0 hb
    match j, hb with
    | 0, hb =>
      cases hb
      refine ⟨⟨fun i => ⟨fun i => ⟨trivial, trivial⟩, trivial⟩, trivial⟩, .inl ⟨_, _, rfl, hr.b1, .inl rfl, ?_, rowOk_rows _ _ _ _ _, fun e => by cases e⟩⟩
      refine Like.rows (fun i hi => Like.of_cells (fun ρ => ?_) fun p => ⟨fun j => ⟨trivial, trivial⟩, trivial⟩) (fun i _ p _ => ⟨fun j => ⟨trivial, trivial⟩, trivial⟩)
      exact cells_rows_congr ρ fun j hj => by rw [hh i j hi hj]; rfl
    | n + 1, hb => simp at hb
  · intro a b j ha hb _ _
    simp at ha hb
    omega
  · intro j bl hb hw x y
    match j with
    | 0 => simp [σ1]
    | j + 1 => simp [σ1]

def packD (n : Nat) (f : Nat → Int) : Nat → Nat × (Nat → Int) × (Nat → Nat → Int)
  | 0 => (n, f, fun _ _ => 0)
  | k + 1 => ((packD n f k).1 - 32, nextG (packD n f k).1 (packD n f k).2.1, nextH (packD n f k).1 k (packD n f k).2.1 (packD n f k).2.2)
theorem packD_m (n : Nat) (f : Nat → Int) : ∀ k, (packD n f k).1 = n - 32 * k
  | 0 => rfl
  | k + 1 => by
    show (packD n f k).1 - 32 = _
    rw [packD_m n f k]; omega
theorem packD_g (n : Nat) (f : Nat → Int) : ∀ k j, 32 * k + j < n → (packD n f k).2.1 j = f (32 * k + j)
  | 0, j, _ => by simp [packD]
  | k + 1, j, h => by
    show (packD n f k).2.1 (min (packD n f k).1 32 + j) = _
    rw [packD_m n f k, show min (n - 32 * k) 32 + j = 32 + j by omega, packD_g n f k (32 + j) (by omega)]
    congr 1
    omega
theorem packD_h (n : Nat) (f : Nat → Int) : ∀ k i j, i < k → (packD n f k).2.2 i j = chunkB n f i j
  | 0, i, j, h => by omega
  | k + 1, i, j, h => by
    show (if i < k then (packD n f k).2.2 i j else if j < (packD n f k).1 then (packD n f k).2.1 j else 0) = _
    by_cases hik : i < k
    · rw [if_pos hik]; exact packD_h n f k i j hik
    · have e : i = k := by omega
      subst e
      rw [if_neg hik, packD_m n f i]
      unfold chunkB
      by_cases hj : j < n - 32 * i
      · rw [if_pos hj, if_pos (by omega), packD_g n f i j (by omega)]
      · rw [if_neg hj, if_neg (by omega)]

/-- Bytes that came in. -/
abbrev inB (n : Nat) (f : Nat → Int) : Inp Empty := inOf [bytesU n f]
theorem bytes_plain (n : Nat) (f : Nat → Int) : plainL (bytesU n f) := ⟨fun _ => ⟨trivial, trivial⟩, trivial⟩
theorem inB_ok (n : Nat) (f : Nat → Int) : InpOk (inB n f) := inOf_ok fun l hl => by
  rw [List.mem_singleton] at hl
  subst hl
  exact bytes_plain n f

def packS (n : Nat) : LS Empty := ⟨.vec (.inp 0 0) n :: .undef :: .nils :: .nils :: List.replicate 17 .undef, [], []⟩
def packT (n : Nat) (f : Nat → Int) : LS Empty := ⟨tm 21 [(3, .vec (.own 0) (chunksN n))], [some ⟨.row 50, chunksU n f⟩], []⟩

set_option maxRecDepth 100000 in
theorem pack_code : codeAt Try.prog 29 [0, 0, 1, 1] = .loop (codeAt Try.prog 29 [0, 0, 0, 1, 1]) := by kernel_rfl

theorem pack_loop (n : Nat) (f : Nat → Int) (hn : n ≤ 2 ^ 46) : Ex Try.prog (inB n f) (codeAt Try.prog 29 [0, 0, 1, 1]) (packS n) (.exit 0) (packT n f) := by
  have hI := inB_ok n f
  rw [pack_code]
  refine ExB.toEx (B := 0) ?_ (fun k bl h => by simp [packS] at h)
  refine ExB.pre hI (σ := σ1 (.inp 0 0)) (ExB.loop (by simp) (fun k => jP (packD n f k).1 k (packD n f k).2.1 (packD n f k).2.2) (chunksN n) ?_ ?_) ?_ (fun k bl hk => absurd hk (Nat.not_lt_zero k))
  · intro k hk
    have h1 := packD_m n f k
    unfold chunksN at hk
    exact pack_step hI _ k _ _ (by rw [h1]; omega) (by omega)
  · have h1 := packD_m n f (chunksN n)
    have h2 : n - 32 * chunksN n = 0 := by unfold chunksN; omega
    rw [h2] at h1
    rw [h1]
    exact pack_end hI _ _ _ _ fun i j hi _ => packD_h n f _ i j hi
  · refine Fits.ofI rfl ?_ ?_ ?_ ?_
    · simp only [List.forall_mem_cons]
      refine ⟨⟨rfl, ?_, trivial⟩, ⟨rfl, trivial⟩, ⟨rfl, fun _ => rfl, trivial⟩, fun _ h => absurd h List.not_mem_nil⟩
      intro h; cases h
    · intro j b0 hb
      match j, hb with
      | 0, hb =>
        cases hb
        exact ⟨⟨fun i => ⟨trivial, trivial⟩, trivial⟩, .inl ⟨_, _, rfl, rfl, .inl rfl, Like.refl _, rfl, fun e => by cases e⟩⟩
      | 1, hb =>
        cases hb
        exact ⟨⟨fun i => ⟨fun i => ⟨trivial, trivial⟩, trivial⟩, trivial⟩, .inr ⟨rfl, some 50, _, _, rfl, fun i p => ⟨fun j => ⟨trivial, trivial⟩, trivial⟩⟩⟩
      | n + 2, hb => simp [jP] at hb
    · intro a b j ha hb h1 h2
      match a, b with
      | 0, 0 => rfl
      | 1, _ => cases h1
      | _, 1 => cases h2
      | a + 2, _ => cases h1
      | _, b + 2 => cases h2
    · intro j bl hb hw x y
      match j, hb with
      | 0, hb => cases hb; cases hw
      | 1, hb => simp [σ1]
      | j + 2, hb => simp [jP] at hb

def packL (n : Nat) (f : Nat → Int) (hn : n ≤ 2 ^ 46) : LoopF Try.prog (inB n f) where
  f := 29
  p := [0, 0, 1, 1]
  s := packS n
  o := .exit 0
  t := packT n f
  len := rfl
  grow := ⟨Nat.zero_le _, fun k h => absurd h (Nat.not_lt_zero k)⟩
  ex := pack_loop n f hn
noncomputable abbrev SPL (n : Nat) (f : Nat → Int) (hn : n ≤ 2 ^ 46) : Sig Empty := sigOf (P := Try.prog) [] [] [] (I := inB n f) [packL n f hn] noMs (advP true)
set_option maxRecDepth 100000 in
theorem pack_run (n : Nat) (f : Nat → Int) (hn : n ≤ 2 ^ 46) : callF Try.prog (SPL n f hn) 40 29 [.vec (.inp 0 0) n] [] = some (.vec (.own 0) (chunksN n), [⟨.row 50, chunksU n f⟩].map some, some ((packS n).tmps = (packS n).tmps ∧ (packS n).mem = (packS n).mem)) := by kernel_rfl
theorem pack_told (n : Nat) (f : Nat → Int) (hn : n ≤ 2 ^ 46) : Told Try.prog 29 [bytesU n f] [.vec (.inp 0 0) n] (.vec (.own 0) (chunksN n)) [⟨.row 50, chunksU n f⟩] :=
  told_of (sigOf_ok [] [] [] _ (noMs_ok _) _ (inB_ok n f)) mixed rfl (pack_run n f hn) ⟨rfl, rfl⟩
theorem chunks_plain (n : Nat) (f : Nat → Int) : plainL (chunksU n f) := ⟨fun _ => ⟨fun _ => ⟨trivial, trivial⟩, trivial⟩, trivial⟩
set_option maxRecDepth 100000 in
theorem ent29 : ∀ args w, (callFunc 29 args).run Try.prog w = .ok (.enter 29 args) w := ent_of (f := 29) (P := Try.prog) rfl rfl rfl
/-- Bytes in chunks. -/
noncomputable def conPack : ConC Try.prog Empty := conRd 29 ent29 (rd1 (intS .u8) (fun n _ => .vec (.own 0) (chunksN n)) (fun n f => [⟨.row 50, chunksU n f⟩]) fun n _ => n ≤ 2 ^ 46)
  (rd1_ok (fun n f h => pack_told n f h) fun n f => Fresh'.vec (chunks_plain n f) rfl)
end Go.Proofs.Ytjhjockdkpgpeaa.En

/- DERIVED. Bytes in chunks: the document's way. -/
set_option linter.all false
namespace Go.Proofs.Ytjhjockdkpgpeaa.En
open Go Go.RowKit

def advR (b : Bool) : Adv where
  il _ := true
  dec f r i := match f, r, i with
    | 30, 3, 3 => some b
    | 28, 4, 3 => some b
    | _, _, _ => none
  rc f r i := match f, r, i with
    | 30, 6, 8 => true
    | 30, 6, 9 => true
    | 30, 7, 3 => true
    | _, _, _ => false
  fz _ _ := false
  res _ _ := 1
noncomputable abbrev SR (b : Bool) (I : Inp Empty) : Sig Empty := sigOf (P := Try.prog) [] [] [] (I := I) [] noMs (advR b)
theorem SR_ok (b : Bool) {I : Inp Empty} (hI : InpOk I) : SigOk Try.prog (SR b I) := sigOf_ok [] [] [] [] (noMs_ok _) _ hI

abbrev zeros32 : List (List (LV Empty)) := List.replicate 32 [LV.int .u8 0]
def jR (n k : Nat) (h : Nat → Nat → Int) : LS Empty :=
  ⟨tm 27 [(0, .vec (.inp 0 0) n), (3, .vec (.own 0) k), (4, .int .i64 (32 * (k : Int)))], [some ⟨.row 50, [.rows k 32 fun i => bytesU 32 (h i)]⟩], []⟩
abbrev topR (n k : Nat) : Int := if (n : Int) < IntKind.i64.wrap (32 * (k : Int) + 32) then (n : Int) else IntKind.i64.wrap (32 * (k : Int) + 32)
abbrev lenR (n k : Nat) : Nat := (topR n k).toNat - (32 * (k : Int)).toNat
def cR (n k : Nat) : Prop :=
  decide (32 * (k : Int) < (n : Int)) = true ∧ ((decide ((0 : Int) ≤ 32 * (k : Int) ∧ 32 * (k : Int) ≤ topR n k ∧ topR n k ≤ (n : Int) ∧ (n : Int) ≤ (n : Int)) = true ∧ Nat.ble n n = true) ∧
    ((Nat.ble (lenR n k) (lenR n k) = true ∧ Nat.ble (Nat.min (lenR n k) 32) 32 = true) ∧ true = true)) ∧ Nat.ble 1 1 = true ∧ (Nat.beq k k && Nat.ble ((k + 1) * 32) (2 ^ 47)) = true
structure RRun (n k : Nat) (g : Nat → Int) (h : Nat → Nat → Int) (r : Option (Out × LS Empty)) : Prop where
  eq : r = exec Try.prog (SR true (inB n g)) 40 30 [0, 0, 1, 0, 1, 1] (codeAt Try.prog 30 [0, 0, 1, 0, 1, 1]) (jR n k h)
  out : outO r = some .normal
  len : (outS r).tmps.length = 27
  t0 : (outS r).tmps[0]? = some (.vec (.inp 0 0) n)
  t3 : (outS r).tmps[3]? = some (.vec (.own 13) (k + 1))
  t4 : (outS r).tmps[4]? = some (.int .i64 (IntKind.i64.wrap (32 * (k : Int) + 32)))
  b15 : at? (inB n g) (outS r).mem (.own 13) = some ⟨.row 50, [.rows (k + 1) 32 fun j => mrgR (Nat.blt j k) (bytesU 32 (h j)) ([[LV.rows 32 1 fun i => mrgR (Nat.blt i (Nat.min (lenR n k) 32)) [.int .u8 (g ((32 * (k : Int)).toNat + i))] (zeros32.getD i [])]].getD (j - k) [])]⟩
  cs : allC (outS r).conds = some (cR n k)
set_option maxRecDepth 100000 in
theorem rRun (n k : Nat) (g : Nat → Int) (h : Nat → Nat → Int) : ∃ r, RRun n k g h r :=
  ⟨_, { eq := rfl, out := by kernel_rfl, len := by kernel_rfl, t0 := by kernel_rfl, t3 := by kernel_rfl, t4 := by kernel_rfl, b15 := by kernel_rfl, cs := by kernel_rfl }⟩

theorem topR_eq (n k : Nat) (hk : k ≤ 2 ^ 46) : topR n k = min (n : Int) (32 * (k : Int) + 32) := by
  have e : IntKind.i64.wrap (32 * (k : Int) + 32) = 32 * (k : Int) + 32 := IntWalk.i64_in _ (by omega)
  unfold topR
  rw [e]
  split <;> omega
theorem lenR_eq (n k : Nat) (hk : k ≤ 2 ^ 46) : lenR n k = min n (32 * k + 32) - 32 * k := by
  unfold lenR
  rw [topR_eq n k hk]
  omega

set_option maxRecDepth 100000 in
theorem ref_step (n k : Nat) (g : Nat → Int) (hk : k < chunksN n) (hn : n ≤ 2 ^ 46) :
    ExB 0 Try.prog (inB n g) (codeAt Try.prog 30 [0, 0, 1, 0, 1, 1]) (jR n k (chunkB n g)) .normal (jR n (k + 1) (chunkB n g)) := by
  obtain ⟨r, hr⟩ := rRun n k g (chunkB n g)
  have hk' : k ≤ 2 ^ 46 := by unfold chunksN at hk; omega
  have hkn : 32 * k < n := by unfold chunksN at hk; omega
  have hl := lenR_eq n k hk'
  have hc : condOk (allC (outS r).conds) := by
    rw [hr.cs]
    refine ⟨decide_eq_true (by omega), ⟨⟨decide_eq_true ?_, leB (Nat.le_refl _)⟩, ⟨leB (Nat.le_refl _), leB (Nat.min_le_right _ _)⟩, rfl⟩, rfl, ?_⟩
    · rw [topR_eq n k hk']; omega
    · rw [Nat.beq_refl, leB (by unfold chunksN at hk; omega)]; rfl
  refine ExB.told (inB_ok n g) (Ex.of_run (SR_ok true (inB_ok n g)) rfl mixed hr.eq hr.out hc) [some (.own 13)] hr.len ?_ ?_ rfl rfl
  · refine ⟨⟨hr.t0, by simp [LV.fit, ownK, there]⟩, ⟨hr.t3, by simp [LV.fit, ownK, σL, there]⟩, ⟨hr.t4.trans ?_, trivial⟩, trivial⟩
    rw [IntWalk.i64_in _ (by omega)]
    simp only [LV.ren]
    congr 2
  · refine ⟨BlkFit.rows rfl hr.b15 rfl rfl (fun i => ⟨fun j => ⟨trivial, trivial⟩, trivial⟩) fun i hi => ?_, trivial⟩
    refine Same.lt (fun _ => Same.refl _) fun hik => ?_
    have e : i - k = 0 := by omega
    have e' : i = k := by omega
    subst e'
    rw [e]
    refine Same.rows rfl fun j hj => ?_
    refine Same.lt (fun hjm => Same.int ?_) fun hjm => Same.getD hj (Same.int ?_)
    · have := Nat.lt_min.1 hjm
      unfold chunkB
      rw [if_pos (by omega)]
      congr 1
    · unfold chunkB
      rw [if_neg (fun hh => hjm (Nat.lt_min.2 ⟨by omega, hj⟩))]

structure REnd (n k : Nat) (g : Nat → Int) (h : Nat → Nat → Int) (r : Option (Out × LS Empty)) : Prop where
  eq : r = exec Try.prog (SR false (inB n g)) 40 30 [0, 0, 1, 0, 1, 1] (codeAt Try.prog 30 [0, 0, 1, 0, 1, 1]) (jR n k h)
  out : outO r = some (.exit 0)
  len : (outS r).tmps.length = 27
  t3 : (outS r).tmps[3]? = some (.vec (.own 0) k)
  b0 : at? (inB n g) (outS r).mem (.own 0) = some ⟨.row 50, [.rows k 32 fun i => bytesU 32 (h i)]⟩
  cs : allC (outS r).conds = some (decide (32 * (k : Int) < (n : Int)) = false)
set_option maxRecDepth 100000 in
theorem rEnd (n k : Nat) (g : Nat → Int) (h : Nat → Nat → Int) : ∃ r, REnd n k g h r :=
  ⟨_, { eq := rfl, out := by kernel_rfl, len := by kernel_rfl, t3 := by kernel_rfl, b0 := by kernel_rfl, cs := by kernel_rfl }⟩
def refT (n : Nat) (f : Nat → Int) : LS Empty := ⟨tm 27 [(3, .vec (.own 0) (chunksN n))], [some ⟨.row 50, chunksU n f⟩], []⟩
set_option maxRecDepth 100000 in
theorem ref_end (n : Nat) (g : Nat → Int) :
    ExB 0 Try.prog (inB n g) (codeAt Try.prog 30 [0, 0, 1, 0, 1, 1]) (jR n (chunksN n) (chunkB n g)) (.exit 0) (refT n g) := by
  obtain ⟨r, hr⟩ := rEnd n (chunksN n) g (chunkB n g)
  have hc : condOk (allC (outS r).conds) := by
    rw [hr.cs]
    exact decide_eq_false (by unfold chunksN; omega)
  refine ExB.told (inB_ok n g) (Ex.of_run (SR_ok false (inB_ok n g)) rfl mixed hr.eq hr.out hc) [some (.own 0)] hr.len ?_ ?_ rfl rfl
  · exact ⟨⟨hr.t3, by simp [LV.fit, ownK, σL, there]⟩, trivial⟩
  · exact ⟨BlkFit.rows rfl hr.b0 rfl rfl (fun i => ⟨fun j => ⟨trivial, trivial⟩, trivial⟩) fun i hi => Same.refl _, trivial⟩

def refS (n : Nat) : LS Empty := ⟨.vec (.inp 0 0) n :: .undef :: .nils :: .nils :: .int .i64 0 :: List.replicate 22 .undef, [], []⟩
set_option maxRecDepth 100000 in
theorem ref_code : codeAt Try.prog 30 [0, 1, 0, 1, 1] = .loop (codeAt Try.prog 30 [0, 0, 1, 0, 1, 1]) := by kernel_rfl
theorem ref_loop (n : Nat) (f : Nat → Int) (hn : n ≤ 2 ^ 46) : Ex Try.prog (inB n f) (codeAt Try.prog 30 [0, 1, 0, 1, 1]) (refS n) (.exit 0) (refT n f) := by
  rw [ref_code]
  refine ExB.toEx0 (ExB.from (inB_ok n f) (ExB.loop (by simp) (fun k => jR n k (chunkB n f)) (chunksN n) (fun k hk => ref_step n k f hk hn) (ref_end n f)) [none] rfl ?_ ?_ rfl rfl) rfl
  · exact ⟨⟨rfl, by simp [LV.fit, ownK, there]⟩, ⟨rfl, by simp [LV.fit, ownK, σL, there]⟩, ⟨rfl, trivial⟩, trivial⟩
  · exact ⟨BlkFit.nil rfl (fun i => ⟨fun j => ⟨trivial, trivial⟩, trivial⟩), trivial⟩
def refL (n : Nat) (f : Nat → Int) (hn : n ≤ 2 ^ 46) : LoopF Try.prog (inB n f) where
  f := 30
  p := [0, 1, 0, 1, 1]
  s := refS n
  o := .exit 0
  t := refT n f
  len := rfl
  grow := ⟨Nat.zero_le _, fun k h => absurd h (Nat.not_lt_zero k)⟩
  ex := ref_loop n f hn
noncomputable abbrev SRL (n : Nat) (f : Nat → Int) (hn : n ≤ 2 ^ 46) : Sig Empty := sigOf (P := Try.prog) [] [] [] (I := inB n f) [refL n f hn] noMs (advR true)
set_option maxRecDepth 100000 in
theorem ref_run (n : Nat) (f : Nat → Int) (hn : n ≤ 2 ^ 46) : callF Try.prog (SRL n f hn) 40 30 [.vec (.inp 0 0) n] [] = some (.vec (.own 0) (chunksN n), [⟨.row 50, chunksU n f⟩].map some, some ((refS n).tmps = (refS n).tmps ∧ (refS n).mem = (refS n).mem)) := by kernel_rfl
theorem ref_told (n : Nat) (f : Nat → Int) (hn : n ≤ 2 ^ 46) : Told Try.prog 30 [bytesU n f] [.vec (.inp 0 0) n] (.vec (.own 0) (chunksN n)) [⟨.row 50, chunksU n f⟩] :=
  told_of (sigOf_ok [] [] [] _ (noMs_ok _) _ (inB_ok n f)) mixed rfl (ref_run n f hn) ⟨rfl, rfl⟩
set_option maxRecDepth 100000 in
theorem ent30 : ∀ args w, (callFunc 30 args).run Try.prog w = .ok (.enter 30 args) w := ent_of (f := 30) (P := Try.prog) rfl rfl rfl
/-- Bytes in chunks, the document's. -/
noncomputable def conPackR : ConC Try.prog Empty := conRd 30 ent30 (rd1 (intS .u8) (fun n _ => .vec (.own 0) (chunksN n)) (fun n f => [⟨.row 50, chunksU n f⟩]) fun n _ => n ≤ 2 ^ 46)
  (rd1_ok (fun n f h => ref_told n f h) fun n f => Fresh'.vec (chunks_plain n f) rfl)
end Go.Proofs.Ytjhjockdkpgpeaa.En

/- DERIVED. Chunks held against each other; bytes held against each other; a number's chunk. -/
set_option linter.all false
namespace Go.Proofs.Ytjhjockdkpgpeaa.En
open Go Go.RowKit

def advQ (b : Bool) : Adv where
  il _ := true
  dec f r i := match f, r, i with
    | 28, 1, 4 => some false
    | 28, 4, 3 => some b
    | 28, 6, 8 => some false
    | 23, 1, 4 => some true
    | _, _, _ => none
  rc f r i := match f, r, i with
    | 28, 6, 2 => true
    | 28, 6, 3 => true
    | 28, 6, 6 => true
    | 28, 6, 7 => true
    | 23, 1, 1 => true
    | 23, 1, 3 => true
    | _, _, _ => false
  fz _ _ := false
  res _ _ := 1
noncomputable abbrev SQ (b : Bool) (I : Inp Empty) : Sig Empty := sigOf (P := Try.prog) [] [] [] (I := I) [] noMs (advQ b)
theorem SQ_ok (b : Bool) {I : Inp Empty} (hI : InpOk I) : SigOk Try.prog (SQ b I) := sigOf_ok [] [] [] [] (noMs_ok _) _ hI
noncomputable abbrev rootsU (n : Nat) (g : Nat → Nat → Int) : List (LV Empty) := (arrS .u8 32).us n g
noncomputable abbrev inQ (n : Nat) (g : Nat → Nat → Int) (m : Nat) (h : Nat → Nat → Int) : Inp Empty := inOf [rootsU n g, rootsU m h]
theorem inQ_ok (n : Nat) (g : Nat → Nat → Int) (m : Nat) (h : Nat → Nat → Int) : InpOk (inQ n g m h) := inOf_ok fun l hl => by
  rcases List.mem_cons.1 hl with rfl | hl
  · exact Elt.plain_us _ _ _
  · rw [List.mem_singleton] at hl
    subst hl
    exact Elt.plain_us _ _ _
noncomputable def jQ (n m k : Nat) : LS Empty :=
  ⟨tm 26 [(0, .vec (.inp 0 0) n), (1, .vec (.inp 0 1) m), (5, .int .i64 k)], [], []⟩
def eqRow (f g : Nat → Int) : Nat → Nat → Bool
  | 0, _ => true
  | n + 1, i => f i == g i && eqRow f g n (i + 1)
theorem eqRow_ok {f g : Nat → Int} : ∀ (n i : Nat), (∀ j, i ≤ j → j < i + n → f j = g j) → eqRow f g n i = true
  | 0, _, _ => rfl
  | n + 1, i, h => by
    simp only [eqRow, h i (Nat.le_refl _) (by omega), beq_self_eq_true, Bool.true_and]
    exact eqRow_ok n (i + 1) fun j h1 h2 => h j (by omega) (by omega)
def cQ (n m k : Nat) (g h : Nat → Nat → Int) : Prop :=
  decide ((k : Int) < (n : Int)) = true ∧ decide ((0 : Int) ≤ (k : Int) ∧ (k : Int) < (n : Int)) = true ∧ Nat.blt k n = true ∧ decide ((0 : Int) ≤ (k : Int) ∧ (k : Int) < (m : Int)) = true ∧ Nat.blt k m = true ∧ (!(eqRow (g k) (h k) 32 0)) = false
structure QRun (n m k : Nat) (g h : Nat → Nat → Int) (r : Option (Out × LS Empty)) : Prop where
  eq : r = exec Try.prog (SQ true (inQ n g m h)) 40 28 [0, 0, 1, 0, 1, 1] (codeAt Try.prog 28 [0, 0, 1, 0, 1, 1]) (jQ n m k)
  out : outO r = some .normal
  len : (outS r).tmps.length = 26
  t0 : (outS r).tmps[0]? = some (.vec (.inp 0 0) n)
  t1 : (outS r).tmps[1]? = some (.vec (.inp 0 1) m)
  t5 : (outS r).tmps[5]? = some (.int .i64 (IntKind.i64.wrap ((k : Int) + 1)))
  cs : allC (outS r).conds = some (cQ n m k g h)
set_option maxRecDepth 100000 in
theorem qRun (n m k : Nat) (g h : Nat → Nat → Int) : ∃ r, QRun n m k g h r :=
  ⟨_, { eq := rfl, out := by kernel_rfl, len := by kernel_rfl, t0 := by kernel_rfl, t1 := by kernel_rfl, t5 := by kernel_rfl, cs := by kernel_rfl }⟩
/-- Where they are the same. -/
def sameQ (n : Nat) (g : Nat → Nat → Int) (m : Nat) (h : Nat → Nat → Int) : Prop := n = m ∧ n ≤ 2 ^ 46 ∧ ∀ i, i < n → ∀ j, j < 32 → g i j = h i j
set_option maxRecDepth 100000 in
theorem q_step {n m : Nat} {g h : Nat → Nat → Int} (hs : sameQ n g m h) (k : Nat) (hk : k < n) :
    ExB 0 Try.prog (inQ n g m h) (codeAt Try.prog 28 [0, 0, 1, 0, 1, 1]) (jQ n m k) .normal (jQ n m (k + 1)) := by
  obtain ⟨r, hr⟩ := qRun n m k g h
  obtain ⟨h1, h2, h3⟩ := hs
  have hc : condOk (allC (outS r).conds) := by
    rw [hr.cs]
    refine ⟨decide_eq_true (by omega), decide_eq_true (by omega), ltB hk, decide_eq_true (by omega), ltB (by omega), ?_⟩
    rw [eqRow_ok 32 0 fun j _ hj => h3 k hk j (by omega)]
    rfl
  refine ExB.told (inQ_ok n g m h) (Ex.of_run (SQ_ok true (inQ_ok n g m h)) rfl mixed hr.eq hr.out hc) [] hr.len ?_ ?_ rfl rfl
  · refine ⟨⟨hr.t0, by simp [LV.fit, ownK, there]⟩, ⟨hr.t1, by simp [LV.fit, ownK, there]⟩, ⟨hr.t5.trans ?_, trivial⟩, trivial⟩
    rw [IntWalk.i64_in _ (by omega)]
    rfl
  · trivial
structure QEnd (n m k : Nat) (g h : Nat → Nat → Int) (r : Option (Out × LS Empty)) : Prop where
  eq : r = exec Try.prog (SQ false (inQ n g m h)) 40 28 [0, 0, 1, 0, 1, 1] (codeAt Try.prog 28 [0, 0, 1, 0, 1, 1]) (jQ n m k)
  out : outO r = some (.exit 0)
  len : (outS r).tmps.length = 26
  cs : allC (outS r).conds = some (decide ((k : Int) < (n : Int)) = false)
set_option maxRecDepth 100000 in
theorem qEnd (n m k : Nat) (g h : Nat → Nat → Int) : ∃ r, QEnd n m k g h r :=
  ⟨_, { eq := rfl, out := by kernel_rfl, len := by kernel_rfl, cs := by kernel_rfl }⟩
noncomputable def qT : LS Empty := ⟨tm 26 [], [], []⟩
set_option maxRecDepth 100000 in
theorem q_end (n m : Nat) (g h : Nat → Nat → Int) : ExB 0 Try.prog (inQ n g m h) (codeAt Try.prog 28 [0, 0, 1, 0, 1, 1]) (jQ n m n) (.exit 0) qT := by
  obtain ⟨r, hr⟩ := qEnd n m n g h
  have hc : condOk (allC (outS r).conds) := by
    rw [hr.cs]
    exact decide_eq_false (by omega)
  exact ExB.told (inQ_ok n g m h) (Ex.of_run (SQ_ok false (inQ_ok n g m h)) rfl mixed hr.eq hr.out hc) [] hr.len trivial trivial rfl rfl
noncomputable def qS (n m : Nat) : LS Empty := ⟨.vec (.inp 0 0) n :: .vec (.inp 0 1) m :: .undef :: .undef :: .bool false :: .int .i64 0 :: .vec (.inp 0 0) n :: .int .i64 n :: .vec (.inp 0 1) m :: .int .i64 m :: .bool false :: List.replicate 15 .undef, [], []⟩
set_option maxRecDepth 100000 in
theorem q_code : codeAt Try.prog 28 [0, 1, 0, 1, 1] = .loop (codeAt Try.prog 28 [0, 0, 1, 0, 1, 1]) := by kernel_rfl
theorem q_loop {n m : Nat} {g h : Nat → Nat → Int} (hs : sameQ n g m h) : Ex Try.prog (inQ n g m h) (codeAt Try.prog 28 [0, 1, 0, 1, 1]) (qS n m) (.exit 0) qT := by
  rw [q_code]
  refine ExB.toEx0 (ExB.from (inQ_ok n g m h) (ExB.loop (by simp) (fun k => jQ n m k) n (fun k hk => q_step hs k hk) (q_end n m g h)) [] rfl ?_ ?_ rfl rfl) rfl
  · exact ⟨⟨rfl, by simp [LV.fit, ownK, there]⟩, ⟨rfl, by simp [LV.fit, ownK, there]⟩, ⟨rfl, trivial⟩, trivial⟩
  · trivial
noncomputable def qL {n m : Nat} {g h : Nat → Nat → Int} (hs : sameQ n g m h) : LoopF Try.prog (inQ n g m h) where
  f := 28
  p := [0, 1, 0, 1, 1]
  s := qS n m
  o := .exit 0
  t := qT
  len := rfl
  grow := ⟨Nat.zero_le _, fun k h => absurd h (Nat.not_lt_zero k)⟩
  ex := q_loop hs
noncomputable abbrev SQL {n m : Nat} {g h : Nat → Nat → Int} (hs : sameQ n g m h) : Sig Empty := sigOf (P := Try.prog) [] [] [] (I := inQ n g m h) [qL hs] noMs (advQ true)
set_option maxRecDepth 100000 in
theorem q_run {n m : Nat} {g h : Nat → Nat → Int} (hs : sameQ n g m h) : callF Try.prog (SQL hs) 40 28 [.vec (.inp 0 0) n, .vec (.inp 0 1) m] [] = some (.bool true, [].map some, some ((!((n : Int) == (m : Int))) = false ∧ (qS n m).tmps = (qS n m).tmps ∧ (qS n m).mem = (qS n m).mem)) := by kernel_rfl
theorem q_told {n m : Nat} {g h : Nat → Nat → Int} (hs : sameQ n g m h) : Told Try.prog 28 [rootsU n g, rootsU m h] [.vec (.inp 0 0) n, .vec (.inp 0 1) m] (.bool true) [] :=
  told_of (sigOf_ok [] [] [] _ (noMs_ok _) _ (inQ_ok n g m h)) mixed rfl (q_run hs) ⟨by rw [hs.1]; simp, rfl, rfl⟩
set_option maxRecDepth 100000 in
theorem ent28 : ∀ args w, (callFunc 28 args).run Try.prog w = .ok (.enter 28 args) w := ent_of (f := 28) (P := Try.prog) rfl rfl rfl
/-- Chunks that are the same. -/
noncomputable def conRoots : ConC Try.prog Empty := conRd 28 ent28 (rd2 (arrS .u8 32) (arrS .u8 32) (fun _ _ _ _ => .bool true) (fun _ _ _ _ => []) sameQ)
  (rd2_ok (fun n g m h hs => q_told hs) fun _ _ _ _ => Fresh'.plain trivial)

end Go.Proofs.Ytjhjockdkpgpeaa.En

/- DERIVED. Bits as bytes, the document's way. -/
namespace Go.Proofs.Ytjhjockdkpgpeaa.En
open Go Go.RowKit

noncomputable abbrev boolsU (n : Nat) (l : Nat → Bool) : List (LV Empty) := (boolS : Elt Empty).us n l
noncomputable abbrev inL (n : Nat) (l : Nat → Bool) : Inp Empty := inOf [boolsU n l]
theorem inL_ok (n : Nat) (l : Nat → Bool) : InpOk (inL n l) := inOf_ok fun u hu => by
  rw [List.mem_singleton] at hu
  subst hu
  exact Elt.plain_us _ _ _
def advL (c b : Bool) : Adv where
  il _ := true
  dec f r i := match f, r, i with
    | 21, 3, 3 => some c
    | 21, 5, 3 => some b
    | _, _, _ => none
  rc f r i := match f, r, i with
    | 21, 5, 2 => true
    | 21, 5, 3 => true
    | 21, 6, 3 => true
    | 21, 6, 4 => true
    | 21, 6, 7 => true
    | 21, 6, 9 => true
    | 21, 6, 10 => true
    | 21, 1, 4 => true
    | _, _, _ => false
  fz _ _ := false
  res _ _ := 1
noncomputable abbrev SB (c b : Bool) (I : Inp Empty) : Sig Empty := sigOf (P := Try.prog) [] [] [] (I := I) [] noMs (advL c b)
theorem SB_ok (c b : Bool) {I : Inp Empty} (hI : InpOk I) : SigOk Try.prog (SB c b I) := sigOf_ok [] [] [] [] (noMs_ok _) _ hI
/-- So many bits, as bytes. -/
def bitW (i : Nat) : Int := IntKind.u8.wrap (1 * 2 ^ min (i % 8) 8)
def packB (l : Nat → Bool) : Nat → Nat → Int
  | 0, _ => 0
  | i + 1, q => if l i = true ∧ q = i / 8 then bits .or .u8 (packB l i q) (bitW i) else packB l i q
noncomputable def jB (n m k : Nat) (g : Nat → Int) : LS Empty :=
  ⟨tm 31 [(0, .vec (.inp 0 0) n), (3, .vec (.own 0) m), (4, .int .i64 k)], [some ⟨.row 5, bytesU m g⟩], []⟩
/-- The place of bit k. -/
abbrev byteI (k : Nat) : Nat := (IntKind.i64.wrap (Int.tdiv (k : Int) 8)).toNat
theorem byteI_eq {k : Nat} (h : k ≤ 2 ^ 50) : IntKind.i64.wrap (Int.tdiv (k : Int) 8) = ((k / 8 : Nat) : Int) := by
  have e : Int.tdiv (k : Int) 8 = ((k / 8 : Nat) : Int) := by
    rw [Int.tdiv_eq_ediv_of_nonneg (by omega)]; omega
  rw [e, IntWalk.i64_in _ (by omega)]
theorem tmod8 (k : Nat) : Int.tmod (k : Int) 8 = ((k % 8 : Nat) : Int) := by
  rw [Int.tmod_eq_emod_of_nonneg (by omega)]; omega
def cB1 (n m k : Nat) (l : Nat → Bool) : Prop :=
  decide ((k : Int) < (n : Int)) = true ∧ (decide ((0 : Int) ≤ (k : Int) ∧ (k : Int) < (n : Int)) = true ∧ Nat.blt k n = true ∧ l k = true) ∧
    decide ((0 : Int) ≤ IntKind.i64.wrap (Int.tdiv (k : Int) 8) ∧ IntKind.i64.wrap (Int.tdiv (k : Int) 8) < (m : Int)) = true ∧ Nat.blt (byteI k) m = true ∧ decide ((0 : Int) ≤ Int.tmod (k : Int) 8) = true ∧
      decide ((0 : Int) ≤ IntKind.i64.wrap (Int.tdiv (k : Int) 8) ∧ IntKind.i64.wrap (Int.tdiv (k : Int) 8) < (m : Int)) = true ∧ Nat.blt (byteI k) m = true ∧ (Nat.beq m m && Nat.beq 1 1) = true
def cB0 (n k : Nat) (l : Nat → Bool) : Prop :=
  decide ((k : Int) < (n : Int)) = true ∧ decide ((0 : Int) ≤ (k : Int) ∧ (k : Int) < (n : Int)) = true ∧ Nat.blt k n = true ∧ l k = false
structure B1Run (n m k : Nat) (l : Nat → Bool) (g : Nat → Int) (r : Option (Out × LS Empty)) : Prop where
  eq : r = exec Try.prog (SB true true (inL n l)) 40 21 [0, 0, 1, 0, 1, 1] (codeAt Try.prog 21 [0, 0, 1, 0, 1, 1]) (jB n m k g)
  out : outO r = some .normal
  len : (outS r).tmps.length = 31
  t0 : (outS r).tmps[0]? = some (.vec (.inp 0 0) n)
  t3 : (outS r).tmps[3]? = some (.vec (.own 0) m)
  t4 : (outS r).tmps[4]? = some (.int .i64 (IntKind.i64.wrap ((k : Int) + 1)))
  b0 : at? (inL n l) (outS r).mem (.own 0) = some ⟨.row 5, [.rows m 1 fun j => [.int .u8 (bif Nat.beq j (byteI k) then bits .or .u8 (g (byteI k)) (IntKind.u8.wrap (1 * 2 ^ min (Int.tmod (k : Int) 8).toNat 8)) else g j)]]⟩
  cs : allC (outS r).conds = some (cB1 n m k l)
set_option maxRecDepth 100000 in
theorem b1Run (n m k : Nat) (l : Nat → Bool) (g : Nat → Int) : ∃ r, B1Run n m k l g r :=
  ⟨_, { eq := rfl, out := by kernel_rfl, len := by kernel_rfl, t0 := by kernel_rfl, t3 := by kernel_rfl, t4 := by kernel_rfl, b0 := by kernel_rfl, cs := by kernel_rfl }⟩
structure B0Run (n m k : Nat) (l : Nat → Bool) (g : Nat → Int) (r : Option (Out × LS Empty)) : Prop where
  eq : r = exec Try.prog (SB true false (inL n l)) 40 21 [0, 0, 1, 0, 1, 1] (codeAt Try.prog 21 [0, 0, 1, 0, 1, 1]) (jB n m k g)
  out : outO r = some .normal
  len : (outS r).tmps.length = 31
  t0 : (outS r).tmps[0]? = some (.vec (.inp 0 0) n)
  t3 : (outS r).tmps[3]? = some (.vec (.own 0) m)
  t4 : (outS r).tmps[4]? = some (.int .i64 (IntKind.i64.wrap ((k : Int) + 1)))
  b0 : at? (inL n l) (outS r).mem (.own 0) = some ⟨.row 5, bytesU m g⟩
  cs : allC (outS r).conds = some (cB0 n k l)
set_option maxRecDepth 100000 in
theorem b0Run (n m k : Nat) (l : Nat → Bool) (g : Nat → Int) : ∃ r, B0Run n m k l g r :=
  ⟨_, { eq := rfl, out := by kernel_rfl, len := by kernel_rfl, t0 := by kernel_rfl, t3 := by kernel_rfl, t4 := by kernel_rfl, b0 := by kernel_rfl, cs := by kernel_rfl }⟩
set_option maxRecDepth 100000 in
theorem b_step (n m k : Nat) (l : Nat → Bool) (hk : k < n) (hn : n ≤ 2 ^ 50) (hm : n ≤ 8 * m) :
    ExB 1 Try.prog (inL n l) (codeAt Try.prog 21 [0, 0, 1, 0, 1, 1]) (jB n m k (packB l k)) .normal (jB n m (k + 1) (packB l (k + 1))) := by
  have e1 := byteI_eq (k := k) (by omega)
  have e2 : byteI k = k / 8 := by unfold byteI; rw [e1]; omega
  have e3 := tmod8 k
  cases hl : l k with
  | true =>
    obtain ⟨r, hr⟩ := b1Run n m k l (packB l k)
    have hc : condOk (allC (outS r).conds) := by
      rw [hr.cs]
      refine ⟨decide_eq_true (by omega), ⟨decide_eq_true (by omega), ltB hk, hl⟩, decide_eq_true (by rw [e1]; omega), ltB (by rw [e2]; omega), decide_eq_true (by rw [e3]; omega), decide_eq_true (by rw [e1]; omega), ltB (by rw [e2]; omega), ?_⟩
      rw [Nat.beq_refl]; rfl
    refine ExB.toldB (inL_ok n l) 1 (Ex.of_run (SB_ok true true (inL_ok n l)) rfl mixed hr.eq hr.out hc) [some (.own 0)] hr.len ?_ ?_ rfl rfl rfl
    · refine ⟨⟨hr.t0, by simp [LV.fit, ownK, there]⟩, ⟨hr.t3, by simp [LV.fit, ownK, σL, there]⟩, ⟨hr.t4.trans ?_, trivial⟩, trivial⟩
      rw [IntWalk.i64_in _ (by omega)]
      rfl
    · refine ⟨BlkFit.rows rfl hr.b0 rfl rfl (fun i => ⟨trivial, trivial⟩) fun i hi => Same.int ?_, trivial⟩
      rw [e2, e3]
      simp only [packB, hl, true_and]
      by_cases hik : i = k / 8
      · subst hik
        rw [Nat.beq_refl, if_pos rfl]
        simp only [cond_true, bitW]
        congr 4
      · rw [if_neg hik]
        cases hb : Nat.beq i (k / 8) with
        | true => exact absurd (beqN hb) hik
        | false => rfl
  | false =>
    obtain ⟨r, hr⟩ := b0Run n m k l (packB l k)
    have hc : condOk (allC (outS r).conds) := by
      rw [hr.cs]
      exact ⟨decide_eq_true (by omega), decide_eq_true (by omega), ltB hk, hl⟩
    refine ExB.toldB (inL_ok n l) 1 (Ex.of_run (SB_ok true false (inL_ok n l)) rfl mixed hr.eq hr.out hc) [some (.own 0)] hr.len ?_ ?_ rfl rfl rfl
    · refine ⟨⟨hr.t0, by simp [LV.fit, ownK, there]⟩, ⟨hr.t3, by simp [LV.fit, ownK, σL, there]⟩, ⟨hr.t4.trans ?_, trivial⟩, trivial⟩
      rw [IntWalk.i64_in _ (by omega)]
      rfl
    · refine ⟨BlkFit.rows rfl hr.b0 rfl rfl (fun i => ⟨trivial, trivial⟩) fun i hi => Same.int ?_, trivial⟩
      simp [packB, hl]
structure BEnd (n m k : Nat) (l : Nat → Bool) (g : Nat → Int) (r : Option (Out × LS Empty)) : Prop where
  eq : r = exec Try.prog (SB false false (inL n l)) 40 21 [0, 0, 1, 0, 1, 1] (codeAt Try.prog 21 [0, 0, 1, 0, 1, 1]) (jB n m k g)
  out : outO r = some (.exit 0)
  len : (outS r).tmps.length = 31
  t3 : (outS r).tmps[3]? = some (.vec (.own 0) m)
  b0 : at? (inL n l) (outS r).mem (.own 0) = some ⟨.row 5, bytesU m g⟩
  cs : allC (outS r).conds = some (decide ((k : Int) < (n : Int)) = false)
set_option maxRecDepth 100000 in
theorem bEnd (n m k : Nat) (l : Nat → Bool) (g : Nat → Int) : ∃ r, BEnd n m k l g r :=
  ⟨_, { eq := rfl, out := by kernel_rfl, len := by kernel_rfl, t3 := by kernel_rfl, b0 := by kernel_rfl, cs := by kernel_rfl }⟩
noncomputable def bT (n m : Nat) (l : Nat → Bool) : LS Empty := ⟨tm 31 [(3, .vec (.own 0) m)], [some ⟨.row 5, bytesU m (packB l n)⟩], []⟩
set_option maxRecDepth 100000 in
theorem b_end (n m : Nat) (l : Nat → Bool) : ExB 1 Try.prog (inL n l) (codeAt Try.prog 21 [0, 0, 1, 0, 1, 1]) (jB n m n (packB l n)) (.exit 0) (bT n m l) := by
  obtain ⟨r, hr⟩ := bEnd n m n l (packB l n)
  have hc : condOk (allC (outS r).conds) := by
    rw [hr.cs]
    exact decide_eq_false (by omega)
  refine ExB.toldB (inL_ok n l) 1 (Ex.of_run (SB_ok false false (inL_ok n l)) rfl mixed hr.eq hr.out hc) [some (.own 0)] hr.len ?_ ?_ rfl rfl rfl
  · exact ⟨⟨hr.t3, by simp [LV.fit, ownK, σL, there]⟩, trivial⟩
  · exact ⟨BlkFit.rows rfl hr.b0 rfl rfl (fun i => ⟨trivial, trivial⟩) fun i hi => Same.refl _, trivial⟩
/-- How many bytes. -/
abbrev lenB (n : Nat) : Int := IntKind.i64.wrap (Int.tdiv (IntKind.i64.wrap ((n : Int) + 7)) 8)
def bytesN (n : Nat) : Nat := (n + 7) / 8
theorem lenB_eq {n : Nat} (h : n ≤ 2 ^ 50) : lenB n = (bytesN n : Int) := by
  unfold lenB bytesN
  rw [IntWalk.i64_in ((n : Int) + 7) (by omega)]
  have e : Int.tdiv ((n : Int) + 7) 8 = (((n + 7) / 8 : Nat) : Int) := by
    rw [Int.tdiv_eq_ediv_of_nonneg (by omega)]; omega
  rw [e, IntWalk.i64_in _ (by omega)]
noncomputable def bS (n : Nat) : LS Empty := ⟨.vec (.inp 0 0) n :: .undef :: .nils :: .vec (.own 0) (lenB n).toNat :: .int .i64 0 :: .vec (.inp 0 0) n :: .int .i64 n :: .int .i64 (IntKind.i64.wrap ((n : Int) + 7)) :: .int .i64 (lenB n) :: .vec (.own 0) (lenB n).toNat :: List.replicate 21 .undef, [some ⟨.row 5, [.rows (lenB n).toNat 1 fun _ => [.int .u8 0]]⟩], []⟩
set_option maxRecDepth 100000 in
theorem b_code : codeAt Try.prog 21 [0, 1, 0, 1, 1] = .loop (codeAt Try.prog 21 [0, 0, 1, 0, 1, 1]) := by kernel_rfl
theorem b_loop (n : Nat) (l : Nat → Bool) (hn : n ≤ 2 ^ 50) : Ex Try.prog (inL n l) (codeAt Try.prog 21 [0, 1, 0, 1, 1]) (bS n) (.exit 0) (bT n (lenB n).toNat l) := by
  have e : (lenB n).toNat = bytesN n := by rw [lenB_eq hn]; omega
  rw [b_code]
  refine ExB.toExB (ExB.fromB (inL_ok n l) (ExB.loop (by simp) (fun k => jB n (lenB n).toNat k (packB l k)) n (fun k hk => b_step n _ k l hk hn (by rw [e]; unfold bytesN; omega)) (b_end n _ l)) [some (.own 0)] rfl ?_ ?_ rfl rfl rfl) (Nat.le_refl 1)
  · exact ⟨⟨rfl, by simp [LV.fit, ownK, there]⟩, ⟨rfl, by simp [LV.fit, ownK, σL, there]⟩, ⟨rfl, trivial⟩, trivial⟩
  · exact ⟨BlkFit.rows (k := .own 0) rfl rfl rfl rfl (fun i => ⟨trivial, trivial⟩) fun i hi => Same.refl _, trivial⟩
noncomputable def bL (n : Nat) (l : Nat → Bool) (hn : n ≤ 2 ^ 50) : LoopF Try.prog (inL n l) where
  f := 21
  p := [0, 1, 0, 1, 1]
  s := bS n
  o := .exit 0
  t := bT n (lenB n).toNat l
  len := rfl
  grow := ⟨Nat.le_refl 1, fun k h => by
    have : k = 0 := by have : k < 1 := h; omega
    subst this
    exact ⟨fun _ => ⟨_, rfl⟩, fun _ => ⟨_, rfl⟩⟩⟩
  ex := b_loop n l hn
noncomputable abbrev SBL (n : Nat) (l : Nat → Bool) (hn : n ≤ 2 ^ 50) : Sig Empty := sigOf (P := Try.prog) [] [] [] (I := inL n l) [bL n l hn] noMs (advL true true)
def cBS (n : Nat) : Prop := decide (lenB n = lenB n ∧ (0 : Int) ≤ lenB n ∧ ((1 : Nat) : Int) * lenB n ≤ 2 ^ 48) = true ∧ (bS n).tmps = (bS n).tmps ∧ (bS n).mem = (bS n).mem
set_option maxRecDepth 100000 in
theorem b_run (n : Nat) (l : Nat → Bool) (hn : n ≤ 2 ^ 50) : callF Try.prog (SBL n l hn) 40 21 [.vec (.inp 0 0) n] [] = some (.vec (.own 0) (lenB n).toNat, [⟨.row 5, bytesU (lenB n).toNat (packB l n)⟩].map some, some (cBS n)) := by kernel_rfl
theorem bits_told (n : Nat) (l : Nat → Bool) (hn : n ≤ 2 ^ 50) : Told Try.prog 21 [boolsU n l] [.vec (.inp 0 0) n] (.vec (.own 0) (bytesN n)) [⟨.row 5, bytesU (bytesN n) (packB l n)⟩] := by
  have h1 := lenB_eq hn
  have e : (lenB n).toNat = bytesN n := by rw [h1]; omega
  have := told_of (sigOf_ok [] [] [] _ (noMs_ok _) _ (inL_ok n l)) mixed rfl (b_run n l hn) ⟨decide_eq_true (by rw [h1]; unfold bytesN; omega), rfl, rfl⟩
  rw [e] at this
  exact this
set_option maxRecDepth 100000 in
theorem ent21 : ∀ args w, (callFunc 21 args).run Try.prog w = .ok (.enter 21 args) w := ent_of (f := 21) (P := Try.prog) rfl rfl rfl
/-- Bits as bytes, the document's. -/
noncomputable def conBitsR : ConC Try.prog Empty := conRd 21 ent21 (rd1 boolS (fun n _ => .vec (.own 0) (bytesN n)) (fun n l => [⟨.row 5, bytesU (bytesN n) (packB l n)⟩]) fun n _ => n ≤ 2 ^ 50)
  (rd1_ok (fun n l h => bits_told n l h) fun n l => Fresh'.vec (bytes_plain _ _) rfl)
end Go.Proofs.Ytjhjockdkpgpeaa.En

/- DERIVED. The chapter's example holds: a closed run. -/
set_option linter.all false
namespace Go.Proofs.Ytjhjockdkpgpeaa.En
open Go Go.RowKit

def advK : Adv where
  il _ := true
  dec _ _ _ := none
  rc _ _ _ := false
  fz f _ := match f with
    | 55 => true
    | 29 => true
    | _ => false
  res _ _ := 60
noncomputable abbrev SK : Sig Empty := sigOf (P := Try.prog) [] [] [] (I := inOf []) [] noMs advK
set_option maxRecDepth 100000 in
theorem known_run : (callF Try.prog SK 200 13 [] []).map (fun r => (r.1, r.2.2)) = some (.bool true, none) := by kernel_rfl
theorem nowhere_mem (ρ : Key → Loc) (hρ : ∀ k, ρ k = ⟨0, 0, 0, true, none⟩) (w : World) : MemRel (inOf ([] : List (List (LV Empty)))) ρ [] w := by
  have e : ∀ t i, inOf ([] : List (List (LV Empty))) t i = [] := fun t i => by cases t <;> rfl
  refine memRel_nil _ ρ w (fun t i j v h => ?_) (fun t i h => ?_) (fun k h => ?_) (fun t i h => ?_)
  · rw [e] at h; simp [cellsL] at h
  · rw [hρ] at h; cases h
  · rw [hρ]
  · rw [e]; rfl
theorem known_call (w : World) : Calls Try.prog 13 #[] w fun e w' => e = .returned (.bool true) ∧ Below w.heap.size w w' := by
  have := calls_top (S := SK) (sigOf_ok [] [] [] [] (noMs_ok _) _ (inOf_ok fun l h => absurd h List.not_mem_nil)) mixed known_run trivial (ρ := fun _ => ⟨0, 0, 0, true, none⟩) (w := w) (nowhere_mem _ (fun _ => rfl) w) trivial (fun t i => by cases t <;> trivial) fun _ _ => rfl
  exact this
set_option maxRecDepth 100000 in
theorem ent13 : ∀ args w, (callFunc 13 args).run Try.prog w = .ok (.enter 13 args) w := ent_of (f := 13) (P := Try.prog) rfl rfl rfl
noncomputable def conKnown : ConP Try.prog Empty where
  f := 13
  fn vs := match vs with
    | [] => some (.bool true)
    | _ => none
  ent := ent13
  kin vs v h := by
    split at h
    · cases h; intro p; trivial
    · cases h
  call vs v h ρ w := by
    split at h
    · cases h; exact known_call w
    · cases h
end Go.Proofs.Ytjhjockdkpgpeaa.En

/- DERIVED. A number's chunk, both ways. -/
set_option linter.all false
namespace Go.Proofs.Ytjhjockdkpgpeaa.En
open Go Go.RowKit

/-! ## a number's chunk -/
abbrev noI : Inp Empty := inOf []
theorem noI_ok : InpOk noI := inOf_ok fun l h => absurd h List.not_mem_nil
def chunkN (x : Int) (j : Nat) : Int := if j < 8 then IntKind.u8.wrap (x.fdiv (2 ^ (8 * j))) else 0
noncomputable abbrev chunkV (x : Int) : LV Empty := .agg [.rows 32 1 fun j => [.int .u8 (chunkN x j)]]
abbrev byteN (x : Int) (k : Nat) : Int := IntKind.u8.wrap (x.fdiv (2 ^ min (IntKind.i64.wrap (8 * (k : Int))).toNat 64))
abbrev byteP (x : Int) (k : Nat) : Int := IntKind.u8.wrap (x.fdiv (2 ^ min (IntKind.u64.wrap (IntKind.i64.wrap (8 * (k : Int)))).toNat 64))
theorem byteN_eq (x : Int) {k : Nat} (h : k < 8) : byteN x k = chunkN x k := by
  unfold chunkN byteN
  rw [if_pos h, IntWalk.i64_in _ (by omega), show min (8 * (k : Int)).toNat 64 = 8 * k by omega]
theorem byteP_eq (x : Int) {k : Nat} (h : k < 8) : byteP x k = chunkN x k := by
  unfold chunkN byteP
  rw [if_pos h, IntWalk.i64_in _ (by omega), IntWalk.u64_in _ (by omega), show min (8 * (k : Int)).toNat 64 = 8 * k by omega]
noncomputable def uintG (x : Int) : Nat → Nat → List (LV Empty)
  | 0, _ => []
  | k + 1, j => match k with
    | 0 => [[LV.int .u8 (byteN x 0)]].getD j []
    | k' + 1 => mrgR (Nat.blt j (k' + 1)) (uintG x (k' + 1) j) ([[LV.int .u8 (byteN x (k' + 1))]].getD (j - (k' + 1)) [])
theorem uintG_same (x : Int) : ∀ (k j : Nat), j < k → k ≤ 8 → Same (uintG x k j) [.int .u8 (chunkN x j)]
  | 0, j, h, _ => absurd h (Nat.not_lt_zero j)
  | 1, j, h, _ => by
    have e : j = 0 := by omega
    subst e
    exact Same.int (byteN_eq x (by omega))
  | k + 2, j, h, h8 => by
    show Same (mrgR (Nat.blt j (k + 1)) (uintG x (k + 1) j) _) _
    refine Same.lt (fun hj => uintG_same x (k + 1) j hj (by omega)) fun hj => ?_
    have e : j = k + 1 := by omega
    subst e
    rw [Nat.sub_self]
    exact Same.int (byteN_eq x (by omega))
noncomputable abbrev SX : Sig Empty := sigOf (P := Try.prog) [] [] [] (I := noI) [] noMs { advK with fz := fun _ _ => false }
set_option maxRecDepth 100000 in
theorem chunk_run (x : Int) : (callF Try.prog SX 200 31 [.int .u64 x] []).map (fun r => (r.1, r.2.2)) = some (.agg ((List.range 8).map (fun k => .int .u8 (byteP x k)) ++ List.replicate 24 (.int .u8 0)), none) := by kernel_rfl
set_option maxRecDepth 100000 in
theorem ref_chunk_run (x : Int) : (callF Try.prog SX 200 32 [.int .u64 x] []).map (fun r => (r.1, r.2.2)) = some (.agg [.rows 32 1 fun j => mrgR (Nat.blt j (Nat.min 8 32)) (uintG x 8 j) (zeros32.getD j [])], none) := by kernel_rfl

theorem tr_agg_same {us us' : List (LV Empty)} (h : Same us us') (ρ : Key → Loc) : LV.tr ρ (.agg us : LV Empty) = LV.tr ρ (.agg us') := by
  simp only [LV.tr, h ρ]
/-- A call of plain values, out of its run. -/
theorem plain_call {f : FuncId} {n : Nat} {args : List (LV Empty)} {S : Sig Empty} (hS : SigOk Try.prog S) (hI : S.inp = noI) {v v' : LV Empty} {c : Cnd} (h : (callF Try.prog S n f args []).map (fun r => (r.1, r.2.2)) = some (v', c)) (hc : condOk c)
    (ha : ∀ ρ ρ' : Key → Loc, trs ρ args = trs ρ' args) (hk : plainL args) (hv : ∀ ρ ρ' : Key → Loc, LV.tr ρ v' = LV.tr ρ' v) (ρ : Key → Loc) (w : World) :
    Calls Try.prog f (trs ρ args).toArray w fun e w' => e = .returned (LV.tr ρ v) ∧ Below w.heap.size w w' := by
  have := calls_top hS mixed h hc (ρ := fun _ => ⟨0, 0, 0, true, none⟩) (w := w) (by rw [hI]; exact nowhere_mem _ (fun _ => rfl) w) (plainL_kin _ _ hk) (fun t i => by rw [hI]; cases t <;> trivial) fun ρ ρ' => (hv ρ' ρ).trans (hv ρ ρ).symm
  rw [ha ρ fun _ => ⟨0, 0, 0, true, none⟩]
  refine this.mono ?_
  rintro e w' ⟨rfl, h2⟩
  exact ⟨by rw [hv _ ρ], h2⟩
theorem chunk_same (x : Int) : Same ((List.range 8).map (fun k => (.int .u8 (byteP x k) : LV Empty)) ++ List.replicate 24 (.int .u8 0)) [.rows 32 1 fun j => [.int .u8 (chunkN x j)]] := by
  have e : ∀ k, k < 8 → byteP x k = chunkN x k := fun k h => byteP_eq x h
  intro ρ
  have h0 : ∀ j, 8 ≤ j → chunkN x j = 0 := fun j h => if_neg (by omega)
  simp only [List.range, List.range.loop, List.map, List.replicate, List.cons_append, List.nil_append, cellsL, LV.cells, List.flatMap_cons, List.flatMap_nil, fitTo, e 0 (by omega), e 1 (by omega), e 2 (by omega), e 3 (by omega), e 4 (by omega), e 5 (by omega), e 6 (by omega), e 7 (by omega)]
  simp [h0]
theorem ref_chunk_same (x : Int) : Same [.rows 32 1 fun j => mrgR (Nat.blt j (Nat.min 8 32)) (uintG x 8 j) (zeros32.getD j [])] [(.rows 32 1 fun j => [.int .u8 (chunkN x j)] : LV Empty)] := by
  refine Same.rows rfl fun j hj => ?_
  refine Same.lt (fun h => uintG_same x 8 j (by have := Nat.lt_min.1 h; omega) (Nat.le_refl _)) fun h => Same.getD hj (Same.int ?_)
  exact (if_neg (fun h8 => h (Nat.lt_min.2 ⟨h8, by omega⟩))).symm
set_option maxRecDepth 100000 in
theorem ent31 : ∀ args w, (callFunc 31 args).run Try.prog w = .ok (.enter 31 args) w := ent_of (f := 31) (P := Try.prog) rfl rfl rfl
set_option maxRecDepth 100000 in
theorem ent32 : ∀ args w, (callFunc 32 args).run Try.prog w = .ok (.enter 32 args) w := ent_of (f := 32) (P := Try.prog) rfl rfl rfl
theorem SX_ok : SigOk Try.prog SX := sigOf_ok [] [] [] [] (noMs_ok _) _ noI_ok
noncomputable def chunkFn : List (LV Empty) → Option (LV Empty)
  | [.int .u64 x] => some (chunkV x)
  | _ => none
theorem chunkFn_kin (vs : List (LV Empty)) (v : LV Empty) (h : chunkFn vs = some v) : ∀ p, v.kin p := by
  unfold chunkFn at h
  split at h
  · cases h; exact fun p => ⟨fun i => ⟨trivial, trivial⟩, trivial⟩
  · cases h
noncomputable def conChunk : ConP Try.prog Empty where
  f := 31
  fn := chunkFn
  ent := ent31
  kin := chunkFn_kin
  call vs v h ρ w := by
    unfold chunkFn at h
    split at h
    · cases h
      exact plain_call SX_ok rfl (chunk_run _) trivial (fun _ _ => rfl) ⟨trivial, trivial⟩ (fun ρ ρ' => (tr_agg_same (chunk_same _) ρ).trans rfl) ρ w
    · cases h
noncomputable def conChunkR : ConP Try.prog Empty where
  f := 32
  fn := chunkFn
  ent := ent32
  kin := chunkFn_kin
  call vs v h ρ w := by
    unfold chunkFn at h
    split at h
    · cases h
      exact plain_call SX_ok rfl (ref_chunk_run _) trivial (fun _ _ => rfl) ⟨trivial, trivial⟩ (fun ρ ρ' => (tr_agg_same (ref_chunk_same _) ρ).trans rfl) ρ w
    · cases h
end Go.Proofs.Ytjhjockdkpgpeaa.En

/- DERIVED. Calls that write a few blocks: contracts out of what they do to a little memory. -/
set_option linter.all false
namespace Go.Proofs.Ytjhjockdkpgpeaa.En
open Go Go.RowKit

section
variable {A : Type} [Ab A] {P : Program}

/-- What a call does to blocks that it may write, and to others that it reads. -/
def ToldW (P : Program) (f : FuncId) (us : List (List (LV A))) (bls0 : List (Blk A)) (args : List (LV A)) (v : LV A) (bls1 : List (Blk A)) : Prop :=
  ∀ (D : Dom) (ρ : Key → Loc) (w : World), Ahead (inOf us) D ρ (bls0.map some) args w →
    Calls P f (trs ρ args).toArray w fun e w' => ∃ ρ1, e = .returned (LV.tr ρ1 v) ∧ Left' (inOf us) D w (bls0.map some) ρ ρ1 (bls1.map some) v w'
/-- Such a call, in whatever memory. -/
structure WrC (A : Type) where
  σs : List Nat
  us : List (List (LV A))
  ks : List Key
  bls0 : List (Blk A)
  args : List (LV A)
  v : LV A
  bls1 : List (Blk A)
  c : Prop
def memN (l : List Nat) (k : Nat) : Bool := l.any fun x => Nat.beq x k
def nodupN : List Nat → Bool
  | [] => true
  | a :: l => !memN l a && nodupN l
def liveN (mem : Mem A) (k : Nat) : Bool := match mem[k]? with
  | some (some _) => true
  | _ => false
def WrC.fine (mem : Mem A) (r : WrC A) : Bool := nodupN r.σs && Nat.beq r.σs.length r.bls0.length && Nat.ble r.bls0.length r.bls1.length && Nat.beq r.ks.length r.us.length && r.σs.all (liveN mem)
def WrC.out (n : Nat) (mem : Mem A) (r : WrC A) : LV A × Mem A × Cnd :=
  (r.v.ren (keyMap' n r.σs (ιOf r.ks)), place r.σs (renM (keyMap' n r.σs (ιOf r.ks)) (r.bls1.map some)) mem, some r.c)
structure WrOk (P : Program) (f : FuncId) (I : Inp A) (vs : List (LV A)) (mem : Mem A) (r : WrC A) : Prop where
  args : renL (keyMap r.σs (ιOf r.ks)) r.args = vs
  fit : fitL (keyMap r.σs (ιOf r.ks)) (there (r.bls0.map some)) r.args
  own : ∀ (j k : Nat) b0, r.σs[j]? = some k → r.bls0[j]? = some b0 → fitL (keyMap r.σs (ιOf r.ks)) (there (r.bls0.map some)) b0.us ∧ ∃ b, mem[k]? = some (some b) ∧ LikeB (keyMap r.σs (ιOf r.ks)) b b0
  blk : ∀ (j : Nat) k us, r.ks[j]? = some k → r.us[j]? = some us → ∃ bl, at? I mem k = some bl ∧ isDead bl.kd = false ∧ plainL us ∧ Like bl.us us
  apart : ∀ (j k : Nat) b0, r.σs[j]? = some k → r.bls0[j]? = some b0 → isWr b0.kd = true → Key.own k ∉ r.ks
  told : ToldW P f r.us r.bls0 r.args r.v r.bls1
  fitv : r.v.fit (keyMap' mem.length r.σs (ιOf r.ks)) (fun _ => True)
  fitb : ∀ b ∈ r.bls1, fitL (keyMap' mem.length r.σs (ιOf r.ks)) (fun _ => True) b.us
  ro : (∀ b ∈ r.bls1, isRo b.kd = false) ∨ r.ks = []

theorem memN_spec {l : List Nat} {k : Nat} (h : memN l k = false) : k ∉ l := by
  intro hk
  unfold memN at h
  rw [List.any_eq_false] at h
  exact h k hk (Nat.beq_refl k)
theorem nodupN_spec : ∀ {l : List Nat}, nodupN l = true → l.Nodup
  | [], _ => List.nodup_nil
  | a :: l, h => by
    obtain ⟨h1, h2⟩ := both h
    refine List.nodup_cons.2 ⟨memN_spec ?_, nodupN_spec h2⟩
    cases hb : memN l a with
    | true => rw [hb] at h1; cases h1
    | false => rfl
theorem nodup_get {l : List Nat} (h : l.Nodup) (i j k : Nat) (hi : l[i]? = some k) (hj : l[j]? = some k) : i = j := by
  obtain ⟨hi1, hi2⟩ := List.getElem?_eq_some_iff.1 hi
  obtain ⟨hj1, hj2⟩ := List.getElem?_eq_some_iff.1 hj
  have h := List.pairwise_iff_getElem.1 h
  rcases Nat.lt_trichotomy i j with hl | hl | hl
  · exact absurd (hi2.trans hj2.symm) (h i j hi1 hj1 hl)
  · exact hl
  · exact absurd (hj2.trans hi2.symm) (h j i hj1 hi1 hl)

theorem wr_call [LawAb A] {f : FuncId} {I : Inp A} {vs : List (LV A)} {mem : Mem A} {r : WrC A} (hf : r.fine mem = true) (h : WrOk P f I vs mem r) {D : Dom} {ρ : Key → Loc} {w : World} (ha : Ahead I D ρ mem vs w) :
    Calls P f (trs ρ vs).toArray w fun e w' => ∃ ρ', e = .returned (LV.tr ρ' (r.v.ren (keyMap' mem.length r.σs (ιOf r.ks)))) ∧ Left' I D w mem ρ ρ' (place r.σs (renM (keyMap' mem.length r.σs (ιOf r.ks)) (r.bls1.map some)) mem) (r.v.ren (keyMap' mem.length r.σs (ιOf r.ks))) w' := by
  obtain ⟨h1, _⟩ := both hf
  obtain ⟨h1, hks⟩ := both h1
  obtain ⟨h1, hm1⟩ := both h1
  obtain ⟨hnd, hsl⟩ := both h1
  have hnd := nodupN_spec hnd
  have hsl := beqN hsl
  have hm1 := bleN hm1
  have hks := beqN hks
  have g0 : ∀ (j : Nat) (b0 : Blk A), (r.bls0.map some)[j]? = some (some b0) → r.bls0[j]? = some b0 := by
    intro j b0 hb
    rw [List.getElem?_map, Option.map_eq_some_iff] at hb
    obtain ⟨b, h1, h2⟩ := hb
    cases h2; exact h1
  have g1 : ∀ (j : Nat) (b0 : Blk A), (r.bls1.map some)[j]? = some (some b0) → b0 ∈ r.bls1 := by
    intro j b0 hb
    rw [List.getElem?_map, Option.map_eq_some_iff] at hb
    obtain ⟨b, h1, h2⟩ := hb
    cases h2; exact List.mem_of_getElem? h1
  rw [← h.args] at ha ⊢
  refine frame_call (I0 := inOf r.us) (σs := r.σs) (mem0 := r.bls0.map some) (mem1 := r.bls1.map some) h.told ?_ (fun i j k hi hj _ _ => nodup_get hnd i j k hi hj) (by simp [hsl]) (fun j hj => ?_) h.fit (by simpa using hm1) (fun j hj => ?_) (fun j b1 hb => h.fitb b1 (g1 j b1 hb)) h.fitv ?_ ha
  · refine ⟨fun j b0 hb => ?_, fun x y => ?_, fun j k' b0 hb hw hn hk hlt => ?_⟩
    · have hb0 := g0 j b0 hb
      have hj := lt_of_get hb
      simp only [List.length_map] at hj
      have hs := List.getElem?_eq_getElem (show j < r.σs.length by omega)
      obtain ⟨h2, b, h3, h4⟩ := h.own j _ b0 hs hb0
      exact ⟨h2, .inl ⟨.own _, b, by simp only [keyMap, hs], at_own h3, h4⟩⟩
    · cases x with
      | succ x => exact .inl ⟨rfl, rfl⟩
      | zero =>
        rcases Nat.lt_or_ge y r.ks.length with hy | hy
        · have h1 := List.getElem?_eq_getElem hy
          have h2 := List.getElem?_eq_getElem (show y < r.us.length by omega)
          obtain ⟨bl, h3, h4, h5, h6⟩ := h.blk y _ _ h1 h2
          have e : inOf r.us 0 y = r.us[y]'(by omega) := by simp [inOf, List.getD_eq_getElem?_getD, h2]
          refine .inr ⟨_, bl, h1, h3, h4, ?_, ?_⟩
          · rw [e]; exact (plainL_ren _ _ _ h5).2
          · rw [e, (plainL_ren _ (fun _ => True) _ h5).1]; exact h6
        · refine .inl ⟨List.getElem?_eq_none hy, ?_⟩
          have : r.us[y]? = none := List.getElem?_eq_none (by omega)
          simp [inOf, List.getD_eq_getElem?_getD, this]
    · have hb0 := g0 j b0 hb
      have hj := lt_of_get hb
      simp only [List.length_map] at hj
      have hs := List.getElem?_eq_getElem (show j < r.σs.length by omega)
      have e1 : keyMap r.σs (ιOf r.ks) (.own j) = some (.own (r.σs[j]'(by omega))) := by simp only [keyMap, hs]
      rw [e1] at hk
      cases k' with
      | own i =>
        simp only [keyMap] at hk
        split at hk
        · rename_i q hq
          simp only [Option.some.injEq, Key.own.injEq] at hk
          subst hk
          rw [nodup_get hnd i j _ hq hs]
        · cases hk
      | inp x y =>
        exfalso
        cases x with
        | succ x => cases hk
        | zero => exact h.apart j _ b0 hs hb0 hw (List.mem_of_getElem? hk)
  · simp only [List.length_map] at hj
    exact ⟨_, by rw [List.getElem?_map, List.getElem?_eq_getElem hj]; rfl⟩
  · simp only [List.length_map] at hj
    exact ⟨_, by rw [List.getElem?_map, List.getElem?_eq_getElem (show j < r.bls1.length by omega)]; rfl⟩
  · rcases h.ro with hr | hr
    · exact .inl fun j b1 hb => hr b1 (g1 j b1 hb)
    · refine .inr fun x y k bl hk => ?_
      rw [hr] at hk
      cases x <;> simp [ιOf] at hk

/-- A contract of a call that writes. -/
def conWr [LawAb A] (f : FuncId) (ent : ∀ args w, (callFunc f args).run P w = .ok (.enter f args) w) (fn : Inp A → List (LV A) → Mem A → Option (WrC A))
    (ok : ∀ I vs mem r, fn I vs mem = some r → r.fine mem = true → r.c → WrOk P f I vs mem r) : ConC P A where
  f := f
  fn I vs mem := match fn I vs mem with
    | some r => match r.fine mem with
      | true => forceN mem.length fun n => some (r.out n mem)
      | false => none
    | none => none
  ent := ent
  grow I vs mem v mem' c h := by
    split at h
    · rename_i r hr
      split at h
      · rename_i hf
        rw [forceN_eq] at h
        cases h
        obtain ⟨h1, hlv⟩ := both hf
        obtain ⟨h1, _⟩ := both h1
        obtain ⟨h1, hm1⟩ := both h1
        obtain ⟨hnd, hsl⟩ := both h1
        have hnd := nodupN_spec hnd
        have hsl := beqN hsl
        have hm1 := bleN hm1
        rw [List.all_eq_true] at hlv
        have live : ∀ k ∈ r.σs, ∃ bl, mem[k]? = some (some bl) := by
          intro k hk
          have := hlv k hk
          unfold liveN at this
          split at this
          · rename_i bl hb; exact ⟨bl, hb⟩
          · cases this
        have hlen : r.σs.length ≤ (renM (keyMap' mem.length r.σs (ιOf r.ks)) (r.bls1.map some)).length := by simp [renM]; omega
        refine ⟨by rw [place_len _ _ _ hlen]; omega, fun k hk => ?_⟩
        by_cases hks : k ∈ r.σs
        · obtain ⟨j, hj, rfl⟩ := List.mem_iff_getElem.1 hks
          have hj' := List.getElem?_eq_getElem hj
          rw [place_at _ _ mem j _ hnd (fun k hk => by obtain ⟨bl, hb⟩ := live k hk; exact lt_of_get hb) hj' (by omega)]
          refine ⟨fun _ => ?_, fun _ => live _ hks⟩
          have hb := List.getElem?_eq_getElem (show j < r.bls1.length by omega)
          exact ⟨_, by simp only [renM, List.map_map, List.getElem?_map, hb]; rfl⟩
        · rw [place_old _ _ mem k hk hks]
      · cases h
    · cases h
  call I hI vs mem v mem' c h hc D ρ w ha := by
    split at h
    · rename_i r hr
      split at h
      · rename_i hf
        rw [forceN_eq] at h
        cases h
        exact wr_call hf (ok I vs mem r hr hf hc) ha
      · cases h
    · cases h
  tc I vs mem := match fn I vs mem with
    | some r => some r.σs
    | none => none
  keep I vs mem v mem' c l h hl k hk hkl := by
    split at h
    · rename_i r hr
      rw [hr] at hl
      cases hl
      split at h
      · rw [forceN_eq] at h
        cases h
        exact place_old _ _ mem k hk hkl
      · cases h
    · cases h
/-- Out of the executor. -/
theorem toldW_of [LawAb A] [LawEq A] {S : Sig A} (hS : SigOk P S) (hm : P.follows .mixedOrders = true) {n : Nat} {f : FuncId} {us : List (List (LV A))} (hI : S.inp = inOf us) {bls0 bls1 : List (Blk A)} {args : List (LV A)} {v : LV A} {c : Cnd}
    (h : callF P S n f args (bls0.map some) = some (v, bls1.map some, c)) (hc : condOk c) : ToldW P f us bls0 args v bls1 := by
  intro D ρ w ha
  have := callF_sound hS hm h hc (Own := D) (ρ := ρ) (w := w) (by rw [hI]; exact ha)
  rw [hI] at this
  exact this
end
end Go.Proofs.Ytjhjockdkpgpeaa.En

/- DERIVED. One state held against another: what must hold that it says the same; and loops out of such. -/
set_option linter.all false
namespace Go.Proofs.Ytjhjockdkpgpeaa.En
open Go Go.RowKit

section
variable {A : Type} [Ab A] {P : Program} {I : Inp A}

def thereB (m : Mem A) : Key → Bool
  | .own k => match m[k]? with
    | some (some _) => true
    | _ => false
  | .inp _ _ => true
theorem thereB_spec {m : Mem A} {k : Key} (h : thereB m k = true) : there m k := by
  cases k with
  | own k =>
    simp only [thereB] at h
    split at h
    · rename_i bl hb; exact ex_there hb
    · cases h
  | inp _ _ => trivial
theorem keyB_spec {a b : Key} (h : keyB a b = true) : a = b := by
  cases a with
  | own a => cases b with
    | own b => rw [beqN (show Nat.beq a b = true from h)]
    | inp _ _ => cases h
  | inp x y => cases b with
    | own b => cases h
    | inp x' y' => obtain ⟨h1, h2⟩ := both h; rw [beqN h1, beqN h2]
def isKey (x : Option Key) (k : Key) : Bool := match x with
  | some k' => keyB k' k
  | none => false
theorem isKey_spec {x : Option Key} {k : Key} (h : isKey x k = true) : x = some k := by
  unfold isKey at h
  split at h
  · rw [keyB_spec h]
  · cases h

/-- What must hold that a name is so. -/
def keyC (x : Option Key) (k : Key) : Option Cnd := match x with
  | some (.own a) => match k with
    | .own b => match Nat.beq a b with
      | true => some none
      | false => none
    | .inp _ _ => none
  | some (.inp t i) => match k with
    | .own _ => none
    | .inp t' i' => match Nat.beq t t' with
      | true => some (some (i = i'))
      | false => none
  | none => none
theorem keyC_spec {x : Option Key} {k : Key} {c : Cnd} (h : keyC x k = some c) (hc : condOk c) : x = some k := by
  unfold keyC at h
  split at h
  · split at h
    · split at h
      · rename_i hb; rw [beqN hb]
      · cases h
    · cases h
  · split at h
    · cases h
    · split at h
      · rename_i hb
        cases h
        rw [beqN hb, show _ = _ from hc]
      · cases h
  · cases h
mutual
/-- What must hold that the first reads as the second, whose names are changed. -/
def mV (τ : Key → Option Key) (q : Key → Bool) : LV A → LV A → Option Cnd
  | .int k a, v => match v with
    | .int k' b => if k = k' then some (some (a = b)) else none
    | _ => none
  | .bool a, v => match v with
    | .bool b => some (some (a = b))
    | _ => none
  | .str a, v => match v with
    | .str b => some (some (a = b))
    | _ => none
  | .ptr b o p, v => match v with
    | .ptr b' o' p' => match q b' && Nat.beq o o', keyC (τ b') b with
      | true, some c => match p, p' with
        | [], [] => some c
        | p, p' => some (andC c (some (p = p')))
      | _, _ => none
    | _ => none
  | .slice b o p n c, v => match v with
    | .slice b' o' p' n' c' => match q b' && Nat.beq o o', keyC (τ b') b with
      | true, some k => some (andC k (some (p = p' ∧ n = n' ∧ c = c')))
      | _, _ => none
    | _ => none
  | .vec b n, v => match v with
    | .vec b' n' => match q b', keyC (τ b') b with
      | true, some k => some (andC k (some (n = n')))
      | _, _ => none
    | _ => none
  | .nils, v => match v with
    | .nils => some none
    | .vec b' n' => match τ b', q b' with
      | none, true => some (some (n' = 0))
      | _, _ => none
    | _ => none
  | .abs x, v => match v with
    | .abs y => some (some (x = y))
    | _ => none
  | .agg us, v => match v with
    | .agg vs => mVL τ q us vs
    | _ => none
  | .tup us, v => match v with
    | .tup vs => mVL τ q us vs
    | _ => none
  | .iface t u, v => match v with
    | .iface t' w => match decide (t = t') with
      | true => mV τ q u w
      | false => none
    | _ => none
  | .func f us, v => match v with
    | .func g vs => match decide (f = g) with
      | true => mVL τ q us vs
      | false => none
    | _ => none
  | .rows n z f, v => match v with
    | .rows n' z' g => match Nat.beq z z' with
      | true => some (some (n = n' ∧ (∀ i, f i = g i) ∧ ∀ i, plainL (g i)))
      | false => none
    | _ => none
  | .nilp, v => match v with
    | .nilp => some none
    | _ => none
  | .nilfn, v => match v with
    | .nilfn => some none
    | _ => none
  | .niliface, v => match v with
    | .niliface => some none
    | _ => none
  | .undef, v => match v with
    | .undef => some none
    | _ => none
  | .any, _ => none
def mVL (τ : Key → Option Key) (q : Key → Bool) : List (LV A) → List (LV A) → Option Cnd
  | [], l => match l with
    | [] => some none
    | _ => none
  | u :: us, l => match l with
    | v :: vs => match mV τ q u v with
      | some c => match mVL τ q us vs with
        | some c' => some (andC c c')
        | none => none
      | none => none
    | [] => none
end
mutual
theorem mV_spec {τ : Key → Option Key} {q : Key → Bool} {q' : Key → Prop} (hq : ∀ k, q k = true → q' k) : ∀ (u v : LV A) (c : Cnd), mV τ q u v = some c → condOk c → u = v.ren τ ∧ v.fit τ q'
  | .int k a, v, c, h, hc => by
    simp only [mV] at h
    split at h
    · split at h
      · rename_i k' b hk
        cases h
        have hc : a = b := hc
        rw [hk, hc]
        exact ⟨rfl, trivial⟩
      · cases h
    · cases h
  | .bool a, v, c, h, hc => by
    simp only [mV] at h
    split at h
    · cases h
      rw [show a = _ from hc]; exact ⟨rfl, trivial⟩
    · cases h
  | .str a, v, c, h, hc => by
    simp only [mV] at h
    split at h
    · cases h
      rw [show a = _ from hc]; exact ⟨rfl, trivial⟩
    · cases h
  | .ptr b o p, v, c, h, hc => by
    simp only [mV] at h
    split at h
    · rename_i b' o' p'
      split at h
      · rename_i kc hb hkc
        obtain ⟨hq', ho⟩ := both hb
        have ho := beqN ho
        subst ho
        have hp : p = p' ∧ condOk kc := by
          split at h
          · cases h; exact ⟨rfl, hc⟩
          · cases h; exact ⟨(andC_ok hc).2, (andC_ok hc).1⟩
        obtain ⟨hp, hkk⟩ := hp
        have e := keyC_spec hkc hkk
        subst hp
        refine ⟨by simp [LV.ren, e], by simp [LV.fit, e, hq _ hq']⟩
      · cases h
    · cases h
  | .slice b o p n cp, v, c, h, hc => by
    simp only [mV] at h
    split at h
    · split at h
      · rename_i kc hb hkc
        obtain ⟨hq', ho⟩ := both hb
        have ho := beqN ho
        subst ho
        cases h
        obtain ⟨hkk, hc⟩ := andC_ok hc
        have e := keyC_spec hkc hkk
        obtain ⟨rfl, rfl, rfl⟩ := hc
        refine ⟨by simp [LV.ren, e], by simp [LV.fit, e, hq _ hq']⟩
      · cases h
    · cases h
  | .vec b n, v, c, h, hc => by
    simp only [mV] at h
    split at h
    · split at h
      · rename_i kc hq' hkc
        cases h
        obtain ⟨hkk, hc⟩ := andC_ok hc
        have e := keyC_spec hkc hkk
        have hc : n = _ := hc
        subst hc
        refine ⟨by simp [LV.ren, e], by simp [LV.fit, e, hq _ hq']⟩
      · cases h
    · cases h
  | .nils, v, c, h, hc => by
    simp only [mV] at h
    split at h
    · exact ⟨rfl, trivial⟩
    · split at h
      · rename_i e hq'
        cases h
        have hc : _ = 0 := hc
        subst hc
        exact ⟨by simp [LV.ren, e], fun _ => rfl, hq _ hq'⟩
      · cases h
    · cases h
  | .abs x, v, c, h, hc => by
    simp only [mV] at h
    split at h
    · cases h
      rw [show x = _ from hc]; exact ⟨rfl, trivial⟩
    · cases h
  | .agg us, v, c, h, hc => by
    simp only [mV] at h
    split at h
    · obtain ⟨h1, h2⟩ := mVL_spec hq us _ c h hc
      exact ⟨by rw [h1]; rfl, h2⟩
    · cases h
  | .tup us, v, c, h, hc => by
    simp only [mV] at h
    split at h
    · obtain ⟨h1, h2⟩ := mVL_spec hq us _ c h hc
      exact ⟨by rw [h1]; rfl, h2⟩
    · cases h
  | .iface t u, v, c, h, hc => by
    simp only [mV] at h
    split at h
    · split at h
      · rename_i ht
        have ht := of_decide_eq_true ht
        subst ht
        obtain ⟨h1, h2⟩ := mV_spec hq u _ c h hc
        exact ⟨by rw [h1]; rfl, h2⟩
      · cases h
    · cases h
  | .func f us, v, c, h, hc => by
    simp only [mV] at h
    split at h
    · split at h
      · rename_i ht
        have ht := of_decide_eq_true ht
        subst ht
        obtain ⟨h1, h2⟩ := mVL_spec hq us _ c h hc
        exact ⟨by rw [h1]; rfl, h2⟩
      · cases h
    · cases h
  | .rows n z f, v, c, h, hc => by
    simp only [mV] at h
    split at h
    · rename_i n' z' g
      split at h
      · rename_i hz
        have hz := beqN hz
        subst hz
        cases h
        obtain ⟨rfl, h1, h2⟩ := hc
        have e : f = g := funext h1
        subst e
        obtain ⟨h3, h4⟩ := plain_ren τ q' (.rows n z f) h2
        exact ⟨h3.symm, h4⟩
      · cases h
    · cases h
  | .nilp, v, c, h, hc => by
    simp only [mV] at h
    split at h
    · exact ⟨rfl, trivial⟩
    · cases h
  | .nilfn, v, c, h, hc => by
    simp only [mV] at h
    split at h
    · exact ⟨rfl, trivial⟩
    · cases h
  | .niliface, v, c, h, hc => by
    simp only [mV] at h
    split at h
    · exact ⟨rfl, trivial⟩
    · cases h
  | .undef, v, c, h, hc => by
    simp only [mV] at h
    split at h
    · exact ⟨rfl, trivial⟩
    · cases h
  | .any, v, c, h, hc => by simp [mV] at h
theorem mVL_spec {τ : Key → Option Key} {q : Key → Bool} {q' : Key → Prop} (hq : ∀ k, q k = true → q' k) : ∀ (us vs : List (LV A)) (c : Cnd), mVL τ q us vs = some c → condOk c → us = renL τ vs ∧ fitL τ q' vs
  | [], l, c, h, hc => by
    simp only [mVL] at h
    split at h
    · exact ⟨rfl, trivial⟩
    · cases h
  | u :: us, l, c, h, hc => by
    simp only [mVL] at h
    split at h
    · split at h
      · rename_i c1 h1
        split at h
        · rename_i c2 h2
          cases h
          obtain ⟨k1, k2⟩ := andC_ok hc
          obtain ⟨e1, e2⟩ := mV_spec hq u _ c1 h1 k1
          obtain ⟨e3, e4⟩ := mVL_spec hq us _ c2 h2 k2
          exact ⟨by rw [e1, e3]; rfl, e2, e4⟩
        · cases h
      · cases h
    · cases h
end

/-! ## blocks -/
def mRow (n z : Nat) (f : Nat → List (LV A)) : LV A → Option Cnd
  | .rows n' z' g => match Nat.beq z z' with
    | true => some (some ((n = n' ∧ ∀ i, i < n' → Same (f i) (g i)) ∧ ∀ i, plainL (g i)))
    | false => none
  | _ => none
theorem mRow_spec {n z : Nat} {f : Nat → List (LV A)} {v : LV A} {c : Cnd} (h : mRow n z f v = some c) (hc : condOk c) : ∃ g, v = .rows n z g ∧ plainL [v] ∧ Same [.rows n z f] [v] := by
  unfold mRow at h
  split at h
  · rename_i n' z' g
    split at h
    · rename_i hz
      have hz := beqN hz
      subst hz
      cases h
      obtain ⟨⟨rfl, h1⟩, h2⟩ := hc
      exact ⟨g, rfl, ⟨h2, trivial⟩, Same.rows rfl h1⟩
    · cases h
  · cases h
def mU (τ : Key → Option Key) (q : Key → Bool) : List (LV A) → List (LV A) → Option Cnd
  | [], l => match l with
    | [] => some none
    | _ => none
  | u :: us, l => match l with
    | v :: vs => match (match u with
        | .rows n z f => mRow n z f v
        | u => mV τ q u v) with
      | some c => match mU τ q us vs with
        | some c' => some (andC c c')
        | none => none
      | none => none
    | [] => none
theorem mU_spec {τ : Key → Option Key} {q : Key → Bool} {q' : Key → Prop} (hq : ∀ k, q k = true → q' k) : ∀ (us vs : List (LV A)) (c : Cnd), mU τ q us vs = some c → condOk c → Like us (renL τ vs) ∧ fitL τ q' vs
  | [], l, c, h, hc => by
    simp only [mU] at h
    split at h
    · exact ⟨Like.refl _, trivial⟩
    · cases h
  | u :: us, l, c, h, hc => by
    simp only [mU] at h
    split at h
    · rename_i v vs
      split at h
      · rename_i c1 h1
        split at h
        · rename_i c2 h2
          cases h
          obtain ⟨k1, k2⟩ := andC_ok hc
          obtain ⟨e3, e4⟩ := mU_spec hq us _ c2 h2 k2
          have : Like [u] [v.ren τ] ∧ v.fit τ q' := by
            split at h1
            · obtain ⟨g, rfl, hp, hs⟩ := mRow_spec h1 k1
              obtain ⟨h5, h6⟩ := plainL_ren τ q' _ hp
              refine ⟨?_, h6.1⟩
              have h7 : [(LV.rows _ _ g : LV A).ren τ] = [LV.rows _ _ g] := h5
              rw [h7]
              exact hs.like hp
            · obtain ⟨e1, e2⟩ := mV_spec hq u _ c1 h1 k1
              exact ⟨Like.of_eq (by rw [e1]), e2⟩
          exact ⟨Like.cons this.1 e3, this.2, e4⟩
        · cases h
      · cases h
    · cases h
def kdB : Kd → Kd → Bool
  | .rw, .rw => true
  | .row e, .row e' => decide (e = e')
  | k, .ro => !isDead k
  | _, _ => false
theorem kdB_spec {k k0 : Kd} (h : kdB k k0 = true) : KdFit k k0 ∧ isDead k0 = false := by
  cases k0 with
  | ro =>
    refine ⟨.inr ⟨rfl, ?_⟩, rfl⟩
    cases k <;> first | rfl | (simp [kdB, isDead] at h)
  | rw => cases k <;> first | exact ⟨.inl rfl, rfl⟩ | cases h
  | row e' =>
    cases k with
    | row e => rw [show e = e' from of_decide_eq_true h]; exact ⟨.inl rfl, rfl⟩
    | _ => cases h
  | dead => cases k <;> cases h
def deadB (b b0 : Blk A) : Bool := match b.kd, b0.kd, b.us, b0.us with
  | .dead, .dead, [], [] => true
  | _, _, _, _ => false
theorem deadB_spec {b b0 : Blk A} (h : deadB b b0 = true) : b = ⟨.dead, []⟩ ∧ b0 = ⟨.dead, []⟩ := by
  unfold deadB at h
  split at h
  · cases b; cases b0; simp_all
  · cases h
def mB (τ : Key → Option Key) (q : Key → Bool) (b b0 : Blk A) : Option Cnd := match deadB b b0 with
  | true => some none
  | false => mB' τ q b b0
where mB' (τ : Key → Option Key) (q : Key → Bool) (b b0 : Blk A) : Option Cnd := match kdB b.kd b0.kd with
  | true => match b0.kd with
    | .row _ => match b.us, b0.us with
      | [.rows n z f], [v] => mRow n z f v
      | _, _ => none
    | _ => match mU τ q b.us b0.us with
      | some c => some c
      | none => some (some (plainL b0.us ∧ Same b.us b0.us))
  | false => none
theorem mB_spec {τ : Key → Option Key} {q : Key → Bool} {q' : Key → Prop} (hq : ∀ k, q k = true → q' k) {b b0 : Blk A} {c : Cnd} (h : mB τ q b b0 = some c) (hc : condOk c) : fitL τ q' b0.us ∧ LikeB τ b b0 := by
  unfold mB at h
  split at h
  · rename_i hdd
    obtain ⟨rfl, rfl⟩ := deadB_spec hdd
    exact ⟨trivial, .inl rfl, Like.refl _, rfl, fun _ => rfl⟩
  unfold mB.mB' at h
  split at h
  · rename_i hk
    obtain ⟨k1, k2⟩ := kdB_spec hk
    split at h
    · rename_i e he
      split at h
      · rename_i n z f v hu hv
        obtain ⟨g, rfl, hp, hs⟩ := mRow_spec h hc
        obtain ⟨h5, h6⟩ := plainL_ren τ q' _ hp
        rw [hv]
        refine ⟨h6, k1, ?_, ?_, fun hd => by rw [k2] at hd; cases hd⟩
        · rw [hu, hv, h5]; exact hs.like hp
        · rw [hu, hv, h5]; exact rowOk_rows _ _ _ _ _
      · cases h
    · rename_i hne
      have hrow : rowOk b0.kd b.us (renL τ b0.us) = true := by
        cases hb : b0.kd with
        | row e => exact (hne e hb).elim
        | _ => rfl
      split at h
      · rename_i c' hm
        cases h
        obtain ⟨e1, e2⟩ := mU_spec hq _ _ _ hm hc
        exact ⟨e2, k1, e1, hrow, fun hd => by rw [k2] at hd; cases hd⟩
      · cases h
        obtain ⟨hp, hs⟩ := hc
        obtain ⟨h5, h6⟩ := plainL_ren τ q' _ hp
        refine ⟨h6, k1, ?_, hrow, fun hd => by rw [k2] at hd; cases hd⟩
        rw [h5]; exact hs.like hp
  · cases h
def mM (I : Inp A) (M : Mem A) (σ : Nat → Option Key) (q : Key → Bool) : Nat → Mem A → Option Cnd
  | _, [] => some none
  | j, none :: l => mM I M σ q (j + 1) l
  | j, some b0 :: l => match (match σ j with
      | some k => match at? I M k with
        | some b => mB (ownK σ) q b b0
        | none => none
      | none => match b0.kd, b0.us with
        | .row _, [.rows n _ g] => some (some (n = 0 ∧ ∀ i, plainL (g i)))
        | .ro, [.rows n _ g] => some (some (n = 0 ∧ ∀ i, plainL (g i)))
        | _, _ => none) with
    | some c => match mM I M σ q (j + 1) l with
      | some c' => some (andC c c')
      | none => none
    | none => none
theorem mM_spec {M : Mem A} {σ : Nat → Option Key} {q : Key → Bool} {q' : Key → Prop} (hq : ∀ k, q k = true → q' k) : ∀ (l : Mem A) (j : Nat) (c : Cnd), mM I M σ q j l = some c → condOk c → BlksFit I M σ q' j l
  | [], _, _, _, _ => trivial
  | none :: l, j, c, h, hc => mM_spec hq l (j + 1) c h hc
  | some b0 :: l, j, c, h, hc => by
    simp only [mM] at h
    split at h
    · rename_i c1 h1
      split at h
      · rename_i c2 h2
        cases h
        obtain ⟨k1, k2⟩ := andC_ok hc
        refine ⟨?_, mM_spec hq l (j + 1) c2 h2 k2⟩
        split at h1
        · rename_i k hk
          split at h1
          · rename_i b hb
            obtain ⟨e1, e2⟩ := mB_spec hq h1 k1
            exact ⟨e1, .inl ⟨k, b, hk, hb, e2⟩⟩
          · cases h1
        · rename_i hn
          split at h1
          · rename_i e n z g hk hu
            cases h1
            obtain ⟨rfl, hp⟩ := k1
            have : b0 = ⟨.row e, [.rows 0 z g]⟩ := by cases b0; simp_all
            rw [this]
            exact BlkFit.nil hn hp
          · rename_i n z g hk hu
            cases h1
            obtain ⟨rfl, hp⟩ := k1
            have : b0 = ⟨.ro, [.rows 0 z g]⟩ := by cases b0; simp_all
            rw [this]
            exact BlkFit.nilRo hn hp
          · cases h1
      · cases h
    · cases h
def mT (τ : Key → Option Key) (q : Key → Bool) (T : List (LV A)) : List (Nat × LV A) → Option Cnd
  | [] => some none
  | p :: l => match T[p.1]? with
    | some u => match mV τ q u p.2 with
      | some c => match mT τ q T l with
        | some c' => some (andC c c')
        | none => none
      | none => none
    | none => none
theorem mT_spec {T : List (LV A)} {σ : Nat → Option Key} {q : Key → Bool} {q' : Key → Prop} (hq : ∀ k, q k = true → q' k) : ∀ (l : List (Nat × LV A)) (c : Cnd), mT (ownK σ) q T l = some c → condOk c → TmpsFit T σ q' l
  | [], _, _, _ => trivial
  | p :: l, c, h, hc => by
    simp only [mT] at h
    split at h
    · rename_i u hu
      split at h
      · rename_i c1 h1
        split at h
        · rename_i c2 h2
          cases h
          obtain ⟨k1, k2⟩ := andC_ok hc
          obtain ⟨e1, e2⟩ := mV_spec hq u _ c1 h1 k1
          exact ⟨⟨by rw [hu, e1], e2⟩, mT_spec hq l c2 h2 k2⟩
        · cases h
      · cases h
    · cases h
/-- What is written has a name of its own. -/
def apartW (σ : List (Option Key)) : Nat → Mem A → Bool
  | _, [] => true
  | j, none :: l => apartW σ (j + 1) l
  | j, some b :: l => (match isWr b.kd, σL σ j with
    | true, some k => noneK k j 0 σ
    | _, _ => true) && apartW σ (j + 1) l
where
  noneK (k : Key) (j : Nat) : Nat → List (Option Key) → Bool
    | _, [] => true
    | i, some k' :: l => (Nat.beq i j || !keyB k k') && noneK k j (i + 1) l
    | i, none :: l => noneK k j (i + 1) l
theorem noneK_spec {k : Key} {j : Nat} : ∀ {l : List (Option Key)} {i : Nat}, apartW.noneK k j i l = true → ∀ q, l[q]? = some (some k) → i + q = j
  | [], _, _, q, hq => by simp at hq
  | none :: l, i, h, q, hq => by
    cases q with
    | zero => simp at hq
    | succ q => have := noneK_spec (l := l) h q (by simpa using hq); omega
  | some k' :: l, i, h, q, hq => by
    obtain ⟨h1, h2⟩ := both h
    cases q with
    | zero =>
      simp at hq
      subst hq
      rw [keyB_refl] at h1
      simp only [Bool.not_true, Bool.or_false] at h1
      have := beqN h1
      omega
    | succ q => have := noneK_spec (l := l) h2 q (by simpa using hq); omega
theorem apartW_spec {σ : List (Option Key)} : ∀ {m : Mem A} {i : Nat}, apartW σ i m = true → ∀ (k k' : Nat) j bl, m[k]? = some (some bl) → isWr bl.kd = true → σL σ (i + k) = some j → σL σ k' = some j → k' = i + k
  | [], _, _, k, _, _, _, hb, _, _, _ => by simp at hb
  | none :: m, i, h, k, k', j, bl, hb, hw, e, e' => by
    cases k with
    | zero => simp at hb
    | succ k => have := apartW_spec (m := m) h k k' j bl (by simpa using hb) hw (by rwa [show i + 1 + k = i + (k + 1) by omega]) e'; omega
  | some b :: m, i, h, k, k', j, bl, hb, hw, e, e' => by
    obtain ⟨h1, h2⟩ := both h
    cases k with
    | zero =>
      simp at hb
      subst hb
      rw [Nat.add_zero] at e
      rw [hw, e] at h1
      have := noneK_spec h1 k' (σL_some e')
      omega
    | succ k => have := apartW_spec (m := m) h2 k k' j bl (by simpa using hb) hw (by rwa [show i + 1 + k = i + (k + 1) by omega]) e'; omega
/-- What must hold that a state says what another tells. -/
def mS (I : Inp A) (σ : List (Option Key)) (t : LS A) (n : Nat) (l : List (Nat × LV A)) (m' : Mem A) : Option Cnd :=
  match Nat.beq t.tmps.length n && apartW σ 0 m' && ownW σ m' with
  | true => match mT (ownK (σL σ)) (thereB m') t.tmps l, mM I t.mem (σL σ) (thereB m') 0 m' with
    | some c, some c' => some (andC c c')
    | _, _ => none
  | false => none
theorem mS_spec {σ : List (Option Key)} {t : LS A} {n : Nat} {l : List (Nat × LV A)} {m' : Mem A} {cs : List Cnd} {c : Cnd} (h : mS I σ t n l m' = some c) (hc : condOk c) : Fits I t ⟨tm n l, m', cs⟩ (σL σ) := by
  unfold mS at h
  split at h
  · rename_i hb
    obtain ⟨hb, hw⟩ := both hb
    obtain ⟨hn, ha⟩ := both hb
    split at h
    · rename_i c1 c2 h1 h2
      cases h
      obtain ⟨k1, k2⟩ := andC_ok hc
      exact Fits.of (beqN hn) (mT_spec (fun k => thereB_spec) l c1 h1 k1).all (fun j b0 hb => by have := (mM_spec (fun k => thereB_spec) m' 0 c2 h2 k2).all j b0 hb; rw [Nat.zero_add] at this; exact this) (fun k k' j bl hb hw' _ e e' => by have := apartW_spec ha k k' j bl hb hw' (by rw [Nat.zero_add]; exact e) e'; omega) fun k bl hb hw' x y e => ownW_spec hw k bl hb hw' x y (σL_some e)
    · cases h
  · cases h

/-! ## a run from one state to another -/
def runG (P : Program) (S : Sig A) (n : Nat) (cur : FuncId) (p : List Nat) (s : LS A) (o : Out) (B : Nat) (σ : List (Option Key)) (nn : Nat) (l : List (Nat × LV A)) (m' : Mem A) : Option Cnd :=
  match exec P S n cur p (codeAt P cur p) s with
  | some (o', t) => match decide (o' = o) && idB σ m' B with
    | true => match mS S.inp σ t nn l m' with
      | some c => some (andC (allC t.conds) c)
      | none => none
    | false => none
  | none => none
theorem ExB.auto [LawAb A] [LawEq A] {S : Sig A} (hS : SigOk P S) (hI : InpOk I) (hSI : S.inp = I) (hm : P.follows .mixedOrders = true) (n : Nat) {cur : FuncId} {p : List Nat} {s : LS A} {o : Out} {B : Nat} (σ : List (Option Key)) {nn : Nat} {l : List (Nat × LV A)} {m' : Mem A} {cs : List Cnd} {c : Cnd}
    (h : runG P S n cur p s o B σ nn l m' = some c) (hc : condOk c) : ExB B P I (codeAt P cur p) s o ⟨tm nn l, m', cs⟩ := by
  unfold runG at h
  split at h
  · rename_i o' t he
    split at h
    · rename_i hb
      obtain ⟨ho, hid⟩ := both hb
      have ho := of_decide_eq_true ho
      subst ho
      split at h
      · rename_i c' hf
        cases h
        obtain ⟨k1, k2⟩ := andC_ok hc
        rw [hSI] at hf
        have hx : Ex P I (codeAt P cur p) s o' t := Ex.of_run hS hSI hm he.symm rfl k1
        exact (hx.toB B).fits hI (mS_spec hf k2) fun k _ hk _ => idB_spec hid k hk
      · cases h
    · cases h
  · cases h
theorem ExB.enter [LawAb A] (hI : InpOk I) {B : Nat} {c : Code} {s t : LS A} {o : Out} {n : Nat} {l : List (Nat × LV A)} {m' : Mem A} {cs : List Cnd} (σ : List (Option Key)) {cc : Cnd} (h : ExB B P I c ⟨tm n l, m', cs⟩ o t) (hf : mS I σ s n l m' = some cc) (hc : condOk cc) (hid : idB σ m' B = true) : ExB B P I c s o t :=
  h.pre hI (mS_spec hf hc) fun k _ hk _ => idB_spec hid k hk

/-! ## the state at which a call comes to a loop -/
def stopAt (S : Sig A) (f : FuncId) (p : List Nat) : Sig A := { S with lp := fun g q => match Nat.beq g f && eqP q p with
  | true => some fun s => some (.exit 777777, s.tmps, s.mem, none)
  | false => S.lp g q }
def entry (P : Program) (S : Sig A) (n : Nat) (f : FuncId) (p : List Nat) (args : List (LV A)) (mem : Mem A) : LS A := match P.funcs[f]? with
  | some fn => outS (exec P (stopAt S f p) n f [] (bodyOf P f) (startS fn args mem))
  | none => ⟨[], [], []⟩
/-- What a call does, out of what its body comes to. -/
theorem toldW_body [LawAb A] {f : FuncId} {fn : Func} {c : Code} {us : List (List (LV A))} {bls0 bls1 : List (Blk A)} {args : List (LV A)} {v : LV A} {B nn : Nat} {l : List (Nat × LV A)} {cs : List Cnd} {o : Out} (hf : P.funcs[f]? = some fn) (hb : fn.body = some c) (ho : o = .normal ∨ o = .ret)
    (h : ExB B P (inOf us) (codeAt P f []) (startS fn args (bls0.map some)) o ⟨tm nn l, bls1.map some, cs⟩) (hB : Nat.ble bls0.length B = true) (hv : resF P false fn ⟨tm nn l, bls1.map some, cs⟩ = some (v, none)) : ToldW P f us bls0 args v bls1 := by
  intro D ρ w ha
  have e : codeAt P f [] = c := by simp only [codeAt, bodyOf, hf, hb]
  rw [e] at h
  exact calls_of_ex hf hb (h.toExB (by simpa [startS] using bleN hB)) ho hv trivial ha
theorem Told.ofW {f : FuncId} {us : List (List (LV A))} {args : List (LV A)} {v : LV A} {bls1 : List (Blk A)} (h : ToldW P f us [] args v bls1) : Told P f us args v bls1 := h
/-- A loop that is known, out of what it comes to. -/
def growB (s t : LS A) : Bool := Nat.beq t.tmps.length s.tmps.length && Nat.ble s.mem.length t.mem.length && shapeM s.mem (t.mem.take s.mem.length)
def LoopF.of {I : Inp A} {f : FuncId} {p : List Nat} {s : LS A} {o : Out} {t : LS A} {B : Nat} (h : ExB B P I (codeAt P f p) s o t) (hg : growB s t = true) (hB : Nat.ble s.mem.length B = true) : LoopF P I where
  f := f
  p := p
  s := s
  o := o
  t := t
  len := by obtain ⟨h1, _⟩ := both hg; obtain ⟨h1, _⟩ := both h1; exact beqN h1
  grow := by
    obtain ⟨h1, h2⟩ := both hg
    obtain ⟨_, h1⟩ := both h1
    refine ⟨bleN h1, fun k hk => ?_⟩
    have := (shapeM_spec h2).2 k
    rw [List.getElem?_take_of_lt hk] at this
    exact this
  ex := h.toExB (bleN hB)
end
end Go.Proofs.Ytjhjockdkpgpeaa.En

/- DERIVED. Bits that are read. -/
set_option linter.all false
namespace Go.Proofs.Ytjhjockdkpgpeaa.En
open Go Go.RowKit

/-- The round's advice: is the end reached, is the bit wanted, is it set. -/
def advA (c d e : Bool) : Adv where
  il _ := true
  dec f r i := match f, r, i with
    | 26, 2, 7 => some false
    | 26, 11, 4 => some c
    | 26, 12, 2 => some d
    | 26, 14, 10 => some e
    | 55, 3, 6 => some false
    | _, _, _ => none
  rc f r i := match f, r, i with
    | 26, 13, 4 => true
    | 26, 13, 5 => true
    | 26, 13, 9 => true
    | 26, 13, 13 => true
    | 26, 14, 3 => true
    | 26, 14, 4 => true
    | 26, 14, 8 => true
    | 55, 6, 6 => true
    | 55, 7, 6 => true
    | _, _, _ => false
  fz f _ := match f with
    | 55 => true
    | _ => false
  res _ _ := 20
noncomputable abbrev SA (c d e : Bool) : Sig Empty := sigOf (P := Try.prog) [] [] [] (I := noI) [] noMs (advA c d e)
theorem SA_ok (c d e : Bool) : SigOk Try.prog (SA c d e) := sigOf_ok [] [] [] [] (noMs_ok _) _ noI_ok
abbrev pathA : List Nat := [0, 0, 1, 0, 1, 1, 1, 1, 1, 1, 1, 0, 1]
noncomputable def memJ (N K R : Nat) (f g h : Nat → Int) : Mem Empty := [some ⟨.rw, [.vec (.own 3) R, .int .i64 0]⟩, some ⟨.ro, bytesU N f⟩, some ⟨.ro, bytesU K g⟩, some ⟨.ro, bytesU R h⟩]
noncomputable def jA (N m K R : Nat) (i : Nat) (f g h : Nat → Int) (j : Nat) (l : Nat → Bool) : LS Empty :=
  ⟨tm 89 [(0, .ptr (.own 0) 0 []), (1, .int .i64 (m : Int)), (4, .nils), (5, .vec (.own 1) N), (6, .vec (.own 2) K), (7, .vec (.own 4) j), (8, .int .i64 (i : Int))],
    [some ⟨.rw, [.vec (.own 3) R, .int .i64 0]⟩, some ⟨.ro, bytesU N f⟩, some ⟨.ro, bytesU K g⟩, some ⟨.ro, bytesU R h⟩, some ⟨.row 4, boolsU j l⟩], []⟩
/-- Bit i. -/
def bitB (g : Nat → Int) (i : Nat) : Bool := bits .and .u8 ((g (i / 8)).fdiv (2 ^ (i % 8))) 1 == 1
abbrev bitV (g : Nat → Int) (i : Nat) : Bool := bits .and .u8 ((g (byteI i)).fdiv (2 ^ min (IntKind.u64.wrap (Int.tmod (i : Int) 8)).toNat 8)) 1 == 1
theorem bitV_eq (g : Nat → Int) {i : Nat} (h : i ≤ 2 ^ 50) : bitV g i = bitB g i := by
  have e1 := byteI_eq h
  have e2 : byteI i = i / 8 := by unfold byteI; rw [e1]; omega
  have e3 := tmod8 i
  unfold bitV bitB
  rw [e2, e3, IntWalk.u64_in _ (by omega), show min (((i % 8 : Nat) : Int)).toNat 8 = i % 8 by omega]

structure A1 (N m K R : Nat) (i : Nat) (f g h : Nat → Int) (j : Nat) (l : Nat → Bool) (r : Option (Out × LS Empty)) : Prop where
  eq : r = exec Try.prog (SA false true false) 40 26 pathA (codeAt Try.prog 26 pathA) (jA N m K R i f g h j l)
  out : outO r = some .normal
  len : (outS r).tmps.length = 89
  t0 : (outS r).tmps[0]? = some (.ptr (.own 0) 0 [])
  t1 : (outS r).tmps[1]? = some (.int .i64 (m : Int))
  t4 : (outS r).tmps[4]? = some .nils
  t5 : (outS r).tmps[5]? = some (.vec (.own 1) N)
  t6 : (outS r).tmps[6]? = some (.vec (.own 2) K)
  t7 : (outS r).tmps[7]? = some (.vec (.own 6) (j + 1))
  t8 : (outS r).tmps[8]? = some (.int .i64 (IntKind.i64.wrap ((i : Int) + 1)))
  m0 : at? noI (outS r).mem (.own 0) = some ⟨.rw, [.vec (.own 3) R, .int .i64 0]⟩
  m1 : at? noI (outS r).mem (.own 1) = some ⟨.ro, bytesU N f⟩
  m2 : at? noI (outS r).mem (.own 2) = some ⟨.ro, bytesU K g⟩
  m3 : at? noI (outS r).mem (.own 3) = some ⟨.ro, bytesU R h⟩
  m6 : at? noI (outS r).mem (.own 6) = some ⟨.row 4, [.rows (j + 1) 1 fun q => mrgR (Nat.blt q j) [.bool (l q)] ([[LV.bool (bitV g i)]].getD (q - j) [])]⟩
  cs : allC (outS r).conds = some (decide (IntKind.i64.wrap (8 * (K : Int)) ≤ (i : Int)) = false ∧ decide ((i : Int) < (m : Int)) = true ∧ decide ((0 : Int) ≤ IntKind.i64.wrap (Int.tdiv (i : Int) 8) ∧ IntKind.i64.wrap (Int.tdiv (i : Int) 8) < (K : Int)) = true ∧ Nat.blt (byteI i) K = true ∧ decide ((0 : Int) ≤ IntKind.u64.wrap (Int.tmod (i : Int) 8)) = true ∧ Nat.ble 1 1 = true ∧ (Nat.beq j j && Nat.ble ((j + 1) * 1) (2 ^ 47)) = true)
set_option maxRecDepth 100000 in
theorem a1 (N m K R : Nat) (i : Nat) (f g h : Nat → Int) (j : Nat) (l : Nat → Bool) : ∃ r, A1 N m K R i f g h j l r :=
  ⟨_, { eq := rfl, out := by kernel_rfl, len := by kernel_rfl, t0 := by kernel_rfl, t1 := by kernel_rfl, t4 := by kernel_rfl, t5 := by kernel_rfl, t6 := by kernel_rfl, t7 := by kernel_rfl, t8 := by kernel_rfl, m0 := by kernel_rfl, m1 := by kernel_rfl, m2 := by kernel_rfl, m3 := by kernel_rfl, m6 := by kernel_rfl, cs := by kernel_rfl }⟩
structure A0 (N m K R : Nat) (i : Nat) (f g h : Nat → Int) (j : Nat) (l : Nat → Bool) (r : Option (Out × LS Empty)) : Prop where
  eq : r = exec Try.prog (SA false false false) 40 26 pathA (codeAt Try.prog 26 pathA) (jA N m K R i f g h j l)
  out : outO r = some .normal
  len : (outS r).tmps.length = 89
  t0 : (outS r).tmps[0]? = some (.ptr (.own 0) 0 [])
  t1 : (outS r).tmps[1]? = some (.int .i64 (m : Int))
  t4 : (outS r).tmps[4]? = some .nils
  t5 : (outS r).tmps[5]? = some (.vec (.own 1) N)
  t6 : (outS r).tmps[6]? = some (.vec (.own 2) K)
  t7 : (outS r).tmps[7]? = some (.vec (.own 4) j)
  t8 : (outS r).tmps[8]? = some (.int .i64 (IntKind.i64.wrap ((i : Int) + 1)))
  m0 : at? noI (outS r).mem (.own 0) = some ⟨.rw, [.vec (.own 3) R, .int .i64 0]⟩
  m1 : at? noI (outS r).mem (.own 1) = some ⟨.ro, bytesU N f⟩
  m2 : at? noI (outS r).mem (.own 2) = some ⟨.ro, bytesU K g⟩
  m3 : at? noI (outS r).mem (.own 3) = some ⟨.ro, bytesU R h⟩
  m4 : at? noI (outS r).mem (.own 4) = some ⟨.row 4, boolsU j l⟩
  cs : allC (outS r).conds = some (decide (IntKind.i64.wrap (8 * (K : Int)) ≤ (i : Int)) = false ∧ decide ((i : Int) < (m : Int)) = false ∧ decide ((0 : Int) ≤ IntKind.i64.wrap (Int.tdiv (i : Int) 8) ∧ IntKind.i64.wrap (Int.tdiv (i : Int) 8) < (K : Int)) = true ∧ Nat.blt (byteI i) K = true ∧ decide ((0 : Int) ≤ IntKind.u64.wrap (Int.tmod (i : Int) 8)) = true ∧ bitV g i = false)
set_option maxRecDepth 100000 in
theorem a0 (N m K R : Nat) (i : Nat) (f g h : Nat → Int) (j : Nat) (l : Nat → Bool) : ∃ r, A0 N m K R i f g h j l r :=
  ⟨_, { eq := rfl, out := by kernel_rfl, len := by kernel_rfl, t0 := by kernel_rfl, t1 := by kernel_rfl, t4 := by kernel_rfl, t5 := by kernel_rfl, t6 := by kernel_rfl, t7 := by kernel_rfl, t8 := by kernel_rfl, m0 := by kernel_rfl, m1 := by kernel_rfl, m2 := by kernel_rfl, m3 := by kernel_rfl, m4 := by kernel_rfl, cs := by kernel_rfl }⟩
structure AB (N m K R : Nat) (i : Nat) (f g h : Nat → Int) (j : Nat) (l : Nat → Bool) (r : Option (Out × LS Empty)) : Prop where
  eq : r = exec Try.prog (SA false false true) 40 26 pathA (codeAt Try.prog 26 pathA) (jA N m K R i f g h j l)
  out : outO r = some .ret
  len : (outS r).tmps.length = 89
  t4 : (outS r).tmps[4]? = some .nils
  m0 : at? noI (outS r).mem (.own 0) = some ⟨.rw, [.vec (.own 1) N, .int .i64 171]⟩
  m1 : at? noI (outS r).mem (.own 1) = some ⟨.ro, bytesU N f⟩
  m2 : at? noI (outS r).mem (.own 2) = some ⟨.ro, bytesU K g⟩
  m3 : at? noI (outS r).mem (.own 3) = some ⟨.ro, bytesU R h⟩
  m4 : at? noI (outS r).mem (.own 4) = some ⟨.row 4, boolsU j l⟩
  cs : allC (outS r).conds = some (decide (IntKind.i64.wrap (8 * (K : Int)) ≤ (i : Int)) = false ∧ decide ((i : Int) < (m : Int)) = false ∧ decide ((0 : Int) ≤ IntKind.i64.wrap (Int.tdiv (i : Int) 8) ∧ IntKind.i64.wrap (Int.tdiv (i : Int) 8) < (K : Int)) = true ∧ Nat.blt (byteI i) K = true ∧ decide ((0 : Int) ≤ IntKind.u64.wrap (Int.tmod (i : Int) 8)) = true ∧ bitV g i = true)
set_option maxRecDepth 100000 in
theorem aB (N m K R : Nat) (i : Nat) (f g h : Nat → Int) (j : Nat) (l : Nat → Bool) : ∃ r, AB N m K R i f g h j l r :=
  ⟨_, { eq := rfl, out := by kernel_rfl, len := by kernel_rfl, t4 := by kernel_rfl, m0 := by kernel_rfl, m1 := by kernel_rfl, m2 := by kernel_rfl, m3 := by kernel_rfl, m4 := by kernel_rfl, cs := by kernel_rfl }⟩
structure AE (N m K R : Nat) (i : Nat) (f g h : Nat → Int) (j : Nat) (l : Nat → Bool) (r : Option (Out × LS Empty)) : Prop where
  eq : r = exec Try.prog (SA true false false) 40 26 pathA (codeAt Try.prog 26 pathA) (jA N m K R i f g h j l)
  out : outO r = some (.exit 0)
  len : (outS r).tmps.length = 89
  t0 : (outS r).tmps[0]? = some (.ptr (.own 0) 0 [])
  t1 : (outS r).tmps[1]? = some (.int .i64 (m : Int))
  t4 : (outS r).tmps[4]? = some .nils
  t5 : (outS r).tmps[5]? = some (.vec (.own 1) N)
  t6 : (outS r).tmps[6]? = some (.vec (.own 2) K)
  t7 : (outS r).tmps[7]? = some (.vec (.own 4) j)
  m0 : at? noI (outS r).mem (.own 0) = some ⟨.rw, [.vec (.own 3) R, .int .i64 0]⟩
  m1 : at? noI (outS r).mem (.own 1) = some ⟨.ro, bytesU N f⟩
  m2 : at? noI (outS r).mem (.own 2) = some ⟨.ro, bytesU K g⟩
  m3 : at? noI (outS r).mem (.own 3) = some ⟨.ro, bytesU R h⟩
  m4 : at? noI (outS r).mem (.own 4) = some ⟨.row 4, boolsU j l⟩
  cs : allC (outS r).conds = some (decide (IntKind.i64.wrap (8 * (K : Int)) ≤ (i : Int)) = true)
set_option maxRecDepth 100000 in
theorem aE (N m K R : Nat) (i : Nat) (f g h : Nat → Int) (j : Nat) (l : Nat → Bool) : ∃ r, AE N m K R i f g h j l r :=
  ⟨_, { eq := rfl, out := by kernel_rfl, len := by kernel_rfl, t0 := by kernel_rfl, t1 := by kernel_rfl, t4 := by kernel_rfl, t5 := by kernel_rfl, t6 := by kernel_rfl, t7 := by kernel_rfl, m0 := by kernel_rfl, m1 := by kernel_rfl, m2 := by kernel_rfl, m3 := by kernel_rfl, m4 := by kernel_rfl, cs := by kernel_rfl }⟩
noncomputable def jC (N m K R : Nat) (f g h : Nat → Int) (i : Nat) : LS Empty := jA N m K R i f g h (min i m) (bitB g)
theorem rFit {σ : Nat → Option Key} {q : Key → Prop} {M : Mem Empty} {R : Nat} {e : Int} (b k : Nat) (h0 : σ b = some (.own b)) (h1 : σ k = some (.own k)) (hq : q (.own k)) (ha : at? noI M (.own b) = some ⟨.rw, [.vec (.own k) R, .int .i64 e]⟩) : BlkFit noI M σ q b ⟨.rw, [.vec (.own k) R, .int .i64 e]⟩ := by
  have e1 : renL (ownK σ) [(.vec (.own k) R : LV Empty), .int .i64 e] = [.vec (.own k) R, .int .i64 e] := by simp [renL, LV.ren, ownK, h1]
  refine BlkFit.eq h0 (by simp only [e1]; exact ha) ⟨⟨fun hn => ?_, hq⟩, trivial, trivial⟩ rfl rfl
  simp [ownK, h1] at hn
set_option maxRecDepth 100000 in
theorem c_step {N m K R : Nat} {f g h : Nat → Int} (hK : K ≤ 2 ^ 43) (hm : m ≤ 8 * K) (i : Nat) (hi : i < 8 * K) (hb : i < m ∨ bitB g i = false) :
    ExB 4 Try.prog noI (codeAt Try.prog 26 pathA) (jC N m K R f g h i) .normal (jC N m K R f g h (i + 1)) := by
  have e1 := byteI_eq (k := i) (by omega)
  have e2 : byteI i = i / 8 := by unfold byteI; rw [e1]; omega
  have e3 := tmod8 i
  have e4 : IntKind.i64.wrap (8 * (K : Int)) = 8 * (K : Int) := IntWalk.i64_in _ (by omega)
  have e5 := bitV_eq g (i := i) (by omega)
  have e6 : IntKind.i64.wrap ((i : Int) + 1) = ((i + 1 : Nat) : Int) := by rw [IntWalk.i64_in _ (by omega)]; rfl
  have e7 : IntKind.u64.wrap (Int.tmod (i : Int) 8) = ((i % 8 : Nat) : Int) := by rw [e3, IntWalk.u64_in _ (by omega)]
  by_cases him : i < m
  · obtain ⟨r, hr⟩ := a1 N m K R i f g h (min i m) (bitB g)
    have hc : condOk (allC (outS r).conds) := by
      rw [hr.cs]
      refine ⟨decide_eq_false (by rw [e4]; omega), decide_eq_true (by omega), decide_eq_true (by rw [e1]; omega), ltB (by rw [e2]; omega), decide_eq_true (by rw [e7]; omega), rfl, ?_⟩
      rw [Nat.beq_refl, leB (by omega)]; rfl
    refine ExB.toldB noI_ok 4 (Ex.of_run (SA_ok false true false) rfl mixed hr.eq hr.out hc) [some (.own 0), some (.own 1), some (.own 2), some (.own 3), some (.own 6)] hr.len ?_ ?_ rfl rfl rfl
    · have em : min i m + 1 = min (i + 1) m := by omega
      have h7 := hr.t7
      rw [em] at h7
      have h8 := hr.t8
      rw [e6] at h8
      exact ⟨⟨hr.t0, by simp [LV.fit, ownK, σL, there]⟩, ⟨hr.t1, trivial⟩, ⟨hr.t4, trivial⟩, ⟨hr.t5, by simp [LV.fit, ownK, σL, there]⟩, ⟨hr.t6, by simp [LV.fit, ownK, σL, there]⟩, ⟨h7, by simp [LV.fit, ownK, σL, there]⟩, ⟨h8, trivial⟩, trivial⟩
    · refine ⟨rFit 0 3 rfl rfl trivial hr.m0, BlkFit.rows rfl hr.m1 rfl rfl (fun i => ⟨trivial, trivial⟩) fun _ _ => Same.refl _, BlkFit.rows rfl hr.m2 rfl rfl (fun i => ⟨trivial, trivial⟩) fun _ _ => Same.refl _, BlkFit.rows rfl hr.m3 rfl rfl (fun i => ⟨trivial, trivial⟩) fun _ _ => Same.refl _, BlkFit.rows rfl hr.m6 rfl (by omega) (fun i => ⟨trivial, trivial⟩) fun q hq => ?_, trivial⟩
      refine Same.lt (fun _ => Same.refl _) fun hqj => ?_
      have e8 : q = i := by omega
      subst e8
      rw [show q - min q m = 0 by omega]
      exact Same.bool e5
  · have hbit : bitB g i = false := by
      rcases hb with h | h
      · exact absurd h him
      · exact h
    obtain ⟨r, hr⟩ := a0 N m K R i f g h (min i m) (bitB g)
    have hc : condOk (allC (outS r).conds) := by
      rw [hr.cs]
      exact ⟨decide_eq_false (by rw [e4]; omega), decide_eq_false (by omega), decide_eq_true (by rw [e1]; omega), ltB (by rw [e2]; omega), decide_eq_true (by rw [e7]; omega), by rw [e5]; exact hbit⟩
    refine ExB.toldB noI_ok 4 (Ex.of_run (SA_ok false false false) rfl mixed hr.eq hr.out hc) [some (.own 0), some (.own 1), some (.own 2), some (.own 3), some (.own 4)] hr.len ?_ ?_ rfl rfl rfl
    · have em : min i m = min (i + 1) m := by omega
      have h7 := hr.t7
      rw [em] at h7
      have h8 := hr.t8
      rw [e6] at h8
      exact ⟨⟨hr.t0, by simp [LV.fit, ownK, σL, there]⟩, ⟨hr.t1, trivial⟩, ⟨hr.t4, trivial⟩, ⟨hr.t5, by simp [LV.fit, ownK, σL, there]⟩, ⟨hr.t6, by simp [LV.fit, ownK, σL, there]⟩, ⟨h7, by simp [LV.fit, ownK, σL, there]⟩, ⟨h8, trivial⟩, trivial⟩
    · exact ⟨rFit 0 3 rfl rfl trivial hr.m0, BlkFit.rows rfl hr.m1 rfl rfl (fun i => ⟨trivial, trivial⟩) fun _ _ => Same.refl _, BlkFit.rows rfl hr.m2 rfl rfl (fun i => ⟨trivial, trivial⟩) fun _ _ => Same.refl _, BlkFit.rows rfl hr.m3 rfl rfl (fun i => ⟨trivial, trivial⟩) fun _ _ => Same.refl _, BlkFit.rows rfl hr.m4 rfl (by omega) (fun i => ⟨trivial, trivial⟩) fun _ _ => Same.refl _, trivial⟩
noncomputable def tC (N m K R : Nat) (f g h : Nat → Int) : LS Empty :=
  ⟨tm 89 [(7, .vec (.own 4) m)], [some ⟨.rw, [.vec (.own 3) R, .int .i64 0]⟩, some ⟨.ro, bytesU N f⟩, some ⟨.ro, bytesU K g⟩, some ⟨.ro, bytesU R h⟩, some ⟨.row 4, boolsU m (bitB g)⟩], []⟩
noncomputable def tB (N K R : Nat) (f g h : Nat → Int) : LS Empty :=
  ⟨tm 89 [(4, .nils)], [some ⟨.rw, [.vec (.own 1) N, .int .i64 171]⟩, some ⟨.ro, bytesU N f⟩, some ⟨.ro, bytesU K g⟩, some ⟨.ro, bytesU R h⟩], []⟩
set_option maxRecDepth 100000 in
theorem c_end {N m K R : Nat} {f g h : Nat → Int} (hK : K ≤ 2 ^ 43) (hm : m ≤ 8 * K) : ExB 4 Try.prog noI (codeAt Try.prog 26 pathA) (jC N m K R f g h (8 * K)) (.exit 0) (tC N m K R f g h) := by
  have e4 : IntKind.i64.wrap (8 * (K : Int)) = 8 * (K : Int) := IntWalk.i64_in _ (by omega)
  obtain ⟨r, hr⟩ := aE N m K R (8 * K) f g h (min (8 * K) m) (bitB g)
  have hc : condOk (allC (outS r).conds) := by
    rw [hr.cs]
    exact decide_eq_true (by rw [e4]; omega)
  refine ExB.toldB noI_ok 4 (Ex.of_run (SA_ok true false false) rfl mixed hr.eq hr.out hc) [some (.own 0), some (.own 1), some (.own 2), some (.own 3), some (.own 4)] hr.len ?_ ?_ rfl rfl rfl
  · have h7 := hr.t7
    rw [show min (8 * K) m = m by omega] at h7
    exact ⟨⟨h7, by simp [LV.fit, ownK, σL, there]⟩, trivial⟩
  · exact ⟨rFit 0 3 rfl rfl trivial hr.m0, BlkFit.rows rfl hr.m1 rfl rfl (fun i => ⟨trivial, trivial⟩) fun _ _ => Same.refl _, BlkFit.rows rfl hr.m2 rfl rfl (fun i => ⟨trivial, trivial⟩) fun _ _ => Same.refl _, BlkFit.rows rfl hr.m3 rfl rfl (fun i => ⟨trivial, trivial⟩) fun _ _ => Same.refl _, BlkFit.rows rfl hr.m4 rfl (by omega) (fun i => ⟨trivial, trivial⟩) fun _ _ => Same.refl _, trivial⟩
set_option maxRecDepth 100000 in
theorem c_bad {N m K R : Nat} {f g h : Nat → Int} (hK : K ≤ 2 ^ 43) (hm : m ≤ 8 * K) (i : Nat) (hi : i < 8 * K) (him : m ≤ i) (hb : bitB g i = true) : ExB 4 Try.prog noI (codeAt Try.prog 26 pathA) (jC N m K R f g h i) .ret (tB N K R f g h) := by
  have e1 := byteI_eq (k := i) (by omega)
  have e2 : byteI i = i / 8 := by unfold byteI; rw [e1]; omega
  have e3 := tmod8 i
  have e4 : IntKind.i64.wrap (8 * (K : Int)) = 8 * (K : Int) := IntWalk.i64_in _ (by omega)
  have e5 := bitV_eq g (i := i) (by omega)
  have e7 : IntKind.u64.wrap (Int.tmod (i : Int) 8) = ((i % 8 : Nat) : Int) := by rw [e3, IntWalk.u64_in _ (by omega)]
  obtain ⟨r, hr⟩ := aB N m K R i f g h (min i m) (bitB g)
  have hc : condOk (allC (outS r).conds) := by
    rw [hr.cs]
    exact ⟨decide_eq_false (by rw [e4]; omega), decide_eq_false (by omega), decide_eq_true (by rw [e1]; omega), ltB (by rw [e2]; omega), decide_eq_true (by rw [e7]; omega), by rw [e5]; exact hb⟩
  refine ExB.toldB noI_ok 4 (Ex.of_run (SA_ok false false true) rfl mixed hr.eq hr.out hc) [some (.own 0), some (.own 1), some (.own 2), some (.own 3)] hr.len ?_ ?_ rfl rfl rfl
  · exact ⟨⟨hr.t4, trivial⟩, trivial⟩
  · exact ⟨rFit 0 1 rfl rfl trivial hr.m0, BlkFit.rows rfl hr.m1 rfl rfl (fun i => ⟨trivial, trivial⟩) fun _ _ => Same.refl _, BlkFit.rows rfl hr.m2 rfl rfl (fun i => ⟨trivial, trivial⟩) fun _ _ => Same.refl _, BlkFit.rows rfl hr.m3 rfl rfl (fun i => ⟨trivial, trivial⟩) fun _ _ => Same.refl _, trivial⟩

end Go.Proofs.Ytjhjockdkpgpeaa.En

/- DERIVED. Bits that are read: the whole call. -/
set_option linter.all false
namespace Go.Proofs.Ytjhjockdkpgpeaa.En
open Go Go.RowKit

/-- What a reader's block and its data say. -/
noncomputable abbrev rdB (k N : Nat) (e : Int) : Blk Empty := ⟨.rw, [.vec (.own k) N, .int .i64 e]⟩
noncomputable abbrev roB (N : Nat) (f : Nat → Int) : Blk Empty := ⟨.ro, bytesU N f⟩
noncomputable abbrev rd0 (N : Nat) (f : Nat → Int) (e : Int) : List (Blk Empty) := [rdB 1 N e, roB N f]
abbrev argA (n : Int) : List (LV Empty) := [.ptr (.own 0) 0 [], .int .i64 n]
/-- How the tests at its beginning turn out. -/
def advO (a b c : Option Bool) : Adv where
  il _ := true
  dec f r i := match f, r, i with
    | 26, 2, 7 => a
    | 26, 2, 13 => b
    | 26, 4, 4 => c
    | 55, 3, 6 => some false
    | _, _, _ => none
  rc f r i := match f, r, i with
    | 55, 6, 6 => true
    | 55, 7, 6 => true
    | _, _, _ => false
  fz f _ := match f with
    | 55 => true
    | _ => false
  res _ _ := 20
noncomputable abbrev SO (a b c : Option Bool) (ls : List (LoopF Try.prog noI)) : Sig Empty := sigOf (P := Try.prog) [] [] [] (I := noI) ls noMs (advO a b c)
theorem SO_ok (a b c : Option Bool) (ls : List (LoopF Try.prog noI)) : SigOk Try.prog (SO a b c ls) := sigOf_ok [] [] [] ls (noMs_ok _) _ noI_ok
def dirty (f : Nat → Int) (m : Nat) : Bool := (List.range (8 * bytesN m)).any fun i => decide (m ≤ i) && bitB f i
def rdOk (N : Nat) (f : Nat → Int) (e n : Int) : Bool := decide (e = 0) && decide (n.toNat ≤ 8 * N) && !dirty f n.toNat
def rdL (N : Nat) (f : Nat → Int) (e n : Int) : Nat := if rdOk N f e n = true then n.toNat else 0
def rdN (N : Nat) (f : Nat → Int) (e n : Int) : Nat := if rdOk N f e n = true then N - bytesN n.toNat else N
def rdF (N : Nat) (f : Nat → Int) (e n : Int) (j : Nat) : Int := if rdOk N f e n = true then f (bytesN n.toNat + j) else f j
def rdE (N : Nat) (f : Nat → Int) (e n : Int) : Int := if e = 0 then (if n.toNat ≤ 8 * N then (if dirty f n.toNat = true then 171 else 0) else 170) else e
noncomputable abbrev rd1b (N : Nat) (f : Nat → Int) (e n : Int) : List (Blk Empty) := [rdB 2 (rdN N f e n) (rdE N f e n), roB N f, roB (rdN N f e n) (rdF N f e n), ⟨.row 4, boolsU (rdL N f e n) (bitB f)⟩]
noncomputable abbrev endA (N : Nat) (f : Nat → Int) (e n : Int) : List (Nat × LV Empty) := [(4, .vec (.own 3) (rdL N f e n))]

/-! ## an error ahead -/
--@gen e1 (N : Nat) (f : Nat → Int) (e n : Int) := runG Try.prog (SO (some true) (some false) (some true) []) 200 26 [] (startS Try.f26 (argA n) ((rd0 N f e).map some)) .ret 2 [some (.own 0), some (.own 1), some (.own 1), none] 89 (endA N f e n) ((rd1b N f e n).map some)
--@[
def e1_G (N : Nat) (f : Nat → Int) (e n : Int) : Prop := ((decide (IntKind.wrap IntKind.i64 ((8 : Int) * (↑N : Int)) < if n < (0 : Int) then (0 : Int) else n) = true ∧       (e == (0 : Int)) = false) ∧     (e != (0 : Int)) = true) ∧   rdL N f e n = 0 ∧     (N = rdN N f e n ∧ e = rdE N f e n) ∧       ((N = N ∧ ∀ (i : Nat), i < N → Same (A := Empty) [LV.int IntKind.u8 (f i)] [LV.int IntKind.u8 (f i)]) ∧           ∀ (i : Nat), plainL (A := Empty) [LV.int IntKind.u8 (f i)]) ∧         ((N = rdN N f e n ∧               ∀ (i : Nat), i < rdN N f e n → Same (A := Empty) [LV.int IntKind.u8 (f i)] [LV.int IntKind.u8 (rdF N f e n i)]) ∧             ∀ (i : Nat), plainL (A := Empty) [LV.int IntKind.u8 (rdF N f e n i)]) ∧           rdL N f e n = 0 ∧ ∀ (i : Nat), plainL (A := Empty) [LV.bool (bitB f i)]
set_option maxRecDepth 100000 in
theorem e1 (N : Nat) (f : Nat → Int) (e n : Int) : runG Try.prog (SO (some true) (some false) (some true) []) 200 26 [] (startS Try.f26 (argA n) ((rd0 N f e).map some)) .ret 2 [some (.own 0), some (.own 1), some (.own 1), none] 89 (endA N f e n) ((rd1b N f e n).map some) = some (some ((e1_G N f e n))) := by kernel_rfl
--@]
--@gen e2 (N : Nat) (f : Nat → Int) (e n : Int) := runG Try.prog (SO (some false) none (some true) []) 200 26 [] (startS Try.f26 (argA n) ((rd0 N f e).map some)) .ret 2 [some (.own 0), some (.own 1), some (.own 1), none] 89 (endA N f e n) ((rd1b N f e n).map some)
--@[
def e2_G (N : Nat) (f : Nat → Int) (e n : Int) : Prop := (decide (IntKind.wrap IntKind.i64 ((8 : Int) * (↑N : Int)) < if n < (0 : Int) then (0 : Int) else n) = false ∧     (e != (0 : Int)) = true) ∧   rdL N f e n = 0 ∧     (N = rdN N f e n ∧ e = rdE N f e n) ∧       ((N = N ∧ ∀ (i : Nat), i < N → Same (A := Empty) [LV.int IntKind.u8 (f i)] [LV.int IntKind.u8 (f i)]) ∧           ∀ (i : Nat), plainL (A := Empty) [LV.int IntKind.u8 (f i)]) ∧         ((N = rdN N f e n ∧               ∀ (i : Nat), i < rdN N f e n → Same (A := Empty) [LV.int IntKind.u8 (f i)] [LV.int IntKind.u8 (rdF N f e n i)]) ∧             ∀ (i : Nat), plainL (A := Empty) [LV.int IntKind.u8 (rdF N f e n i)]) ∧           rdL N f e n = 0 ∧ ∀ (i : Nat), plainL (A := Empty) [LV.bool (bitB f i)]
set_option maxRecDepth 100000 in
theorem e2 (N : Nat) (f : Nat → Int) (e n : Int) : runG Try.prog (SO (some false) none (some true) []) 200 26 [] (startS Try.f26 (argA n) ((rd0 N f e).map some)) .ret 2 [some (.own 0), some (.own 1), some (.own 1), none] 89 (endA N f e n) ((rd1b N f e n).map some) = some (some ((e2_G N f e n))) := by kernel_rfl
--@]
--@gen e3 (N : Nat) (f : Nat → Int) (n : Int) := runG Try.prog (SO (some true) none none []) 200 26 [] (startS Try.f26 (argA n) ((rd0 N f 0).map some)) .ret 2 [some (.own 0), some (.own 1), some (.own 1), none] 89 (endA N f 0 n) ((rd1b N f 0 n).map some)
--@[
def e3_G (N : Nat) (f : Nat → Int) (n : Int) : Prop := decide (IntKind.wrap IntKind.i64 ((8 : Int) * (↑N : Int)) < if n < (0 : Int) then (0 : Int) else n) = true ∧   rdL N f ((0 : Int)) n = 0 ∧     (N = rdN N f ((0 : Int)) n ∧ (170 : Int) = rdE N f ((0 : Int)) n) ∧       ((N = N ∧ ∀ (i : Nat), i < N → Same (A := Empty) [LV.int IntKind.u8 (f i)] [LV.int IntKind.u8 (f i)]) ∧           ∀ (i : Nat), plainL (A := Empty) [LV.int IntKind.u8 (f i)]) ∧         ((N = rdN N f ((0 : Int)) n ∧               ∀ (i : Nat),                 i < rdN N f ((0 : Int)) n →                   Same (A := Empty) [LV.int IntKind.u8 (f i)] [LV.int IntKind.u8 (rdF N f (0 : Int) n i)]) ∧             ∀ (i : Nat), plainL (A := Empty) [LV.int IntKind.u8 (rdF N f (0 : Int) n i)]) ∧           rdL N f ((0 : Int)) n = 0 ∧ ∀ (i : Nat), plainL (A := Empty) [LV.bool (bitB f i)]
set_option maxRecDepth 100000 in
theorem e3 (N : Nat) (f : Nat → Int) (n : Int) : runG Try.prog (SO (some true) none none []) 200 26 [] (startS Try.f26 (argA n) ((rd0 N f 0).map some)) .ret 2 [some (.own 0), some (.own 1), some (.own 1), none] 89 (endA N f 0 n) ((rd1b N f 0 n).map some) = some (some ((e3_G N f n))) := by kernel_rfl
--@]
noncomputable def sA (N : Nat) (f : Nat → Int) (n : Int) : LS Empty := entry Try.prog (SO (some false) none none []) 200 26 [0, 1, 0, 1, 1, 1, 1, 1, 1, 1, 0, 1] (argA n) ((rd0 N f 0).map some)
--@gen eJ (N m : Nat) (f : Nat → Int) (n : Int) := mS noI [some (.own 0), some (.own 1), some (.own 2), some (.own 3), none] (sA N f n) 89 [(0, .ptr (.own 0) 0 []), (1, .int .i64 (m : Int)), (4, .nils), (5, .vec (.own 1) N), (6, .vec (.own 2) (bytesN m)), (7, .vec (.own 4) (min 0 m)), (8, .int .i64 ((0 : Nat) : Int))] (jC N m (bytesN m) (N - bytesN m) f f (fun j => f (bytesN m + j)) 0).mem
--@[
def eJ_G (N m : Nat) (f : Nat → Int) (n : Int) : Prop := ((if n < (0 : Int) then (0 : Int) else n) = (↑m : Int) ∧     N = N ∧       Int.toNat             (IntKind.wrap IntKind.i64               (Int.tdiv                 (IntKind.wrap IntKind.i64                   ((if n < (0 : Int) then (0 : Int) else n) + (7 : Int)))                 ((8 : Int)))) =           bytesN m ∧         0 = 0 ∧ (0 : Int) = (↑0 : Int)) ∧   (Int.toNat (↑N : Int) -           Int.toNat             (IntKind.wrap IntKind.i64               (Int.tdiv                 (IntKind.wrap IntKind.i64                   ((if n < (0 : Int) then (0 : Int) else n) + (7 : Int)))                 ((8 : Int)))) =         N - bytesN m ∧       (0 : Int) = (0 : Int)) ∧     ((N = N ∧ ∀ (i : Nat), i < N → Same (A := Empty) [LV.int IntKind.u8 (f i)] [LV.int IntKind.u8 (f i)]) ∧         ∀ (i : Nat), plainL (A := Empty) [LV.int IntKind.u8 (f i)]) ∧       ((Int.toNat                 (IntKind.wrap IntKind.i64                   (Int.tdiv                     (IntKind.wrap IntKind.i64                       ((if n < (0 : Int) then (0 : Int) else n) + (7 : Int)))                     ((8 : Int)))) =               bytesN m ∧             ∀ (i : Nat), i < bytesN m → Same (A := Empty) [LV.int IntKind.u8 (f i)] [LV.int IntKind.u8 (f i)]) ∧           ∀ (i : Nat), plainL (A := Empty) [LV.int IntKind.u8 (f i)]) ∧         ((Int.toNat (↑N : Int) -                   Int.toNat                     (IntKind.wrap IntKind.i64                       (Int.tdiv                         (IntKind.wrap IntKind.i64                           ((if n < (0 : Int) then (0 : Int) else n) + (7 : Int)))                         ((8 : Int)))) =                 N - bytesN m ∧               ∀ (i : Nat),                 i < N - bytesN m →                   Same (A := Empty) [LV.int IntKind.u8                         (f                           (Int.toNat                               (IntKind.wrap IntKind.i64                                 (Int.tdiv                                   (IntKind.wrap IntKind.i64 ((if n < (0 : Int) then (0 : Int) else n) + (7 : Int)))                                   (8 : Int))) +                             i))]                     [LV.int IntKind.u8 (f (bytesN m + i))]) ∧             ∀ (i : Nat), plainL (A := Empty) [LV.int IntKind.u8 (f (bytesN m + i))]) ∧           0 = 0 ∧ ∀ (i : Nat), plainL (A := Empty) [LV.bool (bitB f i)]
set_option maxRecDepth 100000 in
theorem eJ (N m : Nat) (f : Nat → Int) (n : Int) : mS noI [some (.own 0), some (.own 1), some (.own 2), some (.own 3), none] (sA N f n) 89 [(0, .ptr (.own 0) 0 []), (1, .int .i64 (m : Int)), (4, .nils), (5, .vec (.own 1) N), (6, .vec (.own 2) (bytesN m)), (7, .vec (.own 4) (min 0 m)), (8, .int .i64 ((0 : Nat) : Int))] (jC N m (bytesN m) (N - bytesN m) f f (fun j => f (bytesN m + j)) 0).mem = some (some ((eJ_G N m f n))) := by kernel_rfl
--@]

/-! ## the loop -/
set_option maxRecDepth 100000 in
theorem a_code : codeAt Try.prog 26 [0, 1, 0, 1, 1, 1, 1, 1, 1, 1, 0, 1] = .loop (codeAt Try.prog 26 pathA) := by kernel_rfl
theorem first_dirty {f : Nat → Int} {m : Nat} : ∀ (q : Nat), ((List.range q).any fun i => decide (m ≤ i) && bitB f i) = true → ∃ i, i < q ∧ m ≤ i ∧ bitB f i = true ∧ ∀ j, j < i → j < m ∨ bitB f j = false
  | 0, h => by simp at h
  | q + 1, h => by
    by_cases hq : ((List.range q).any fun i => decide (m ≤ i) && bitB f i) = true
    · obtain ⟨i, h1, h2⟩ := first_dirty q hq
      exact ⟨i, by omega, h2⟩
    · have hq' : ∀ j, j < q → j < m ∨ bitB f j = false := by
        intro j hj
        rw [List.any_eq_true] at hq
        by_cases hm : j < m
        · exact .inl hm
        · refine .inr ?_
          cases hb : bitB f j with
          | false => rfl
          | true => exact (hq ⟨j, List.mem_range.2 hj, by simp [hb]; omega⟩).elim
      rw [List.range_succ, List.any_append, Bool.or_eq_true] at h
      rcases h with h | h
      · exact absurd h hq
      · simp only [List.any_cons, List.any_nil, Bool.or_false, Bool.and_eq_true, decide_eq_true_eq] at h
        exact ⟨q, by omega, h.1, h.2, hq'⟩
theorem eJ_ok {N : Nat} {f : Nat → Int} {n : Int} (hN : N ≤ 2 ^ 43) (hn : n.toNat ≤ 8 * N) : eJ_G N n.toNat f n := by
  have h7 : ((if n < 0 then 0 else n) : Int) = (n.toNat : Int) := by split <;> omega
  have h8 : (IntKind.wrap IntKind.i64 (Int.tdiv (IntKind.wrap IntKind.i64 ((n.toNat : Int) + 7)) 8)).toNat = bytesN n.toNat := by
    have := lenB_eq (n := n.toNat) (by omega)
    unfold lenB at this
    rw [this]; omega
  unfold eJ_G
  rw [h7, h8]
  (and_intros <;> first | exact True.intro | omega | exact fun _ => ⟨trivial, trivial⟩ | exact fun _ _ => Same.refl _ | exact fun _ _ => Like.refl _ | (simp (disch := omega) only [true_and, and_true, Nat.beq_refl, Bool.true_and, decide_eq_true_eq, decide_eq_false_iff_not, beq_iff_eq, bne_iff_ne, beq_eq_false_iff_ne, bne_eq_false_iff_eq, ne_eq, Nat.blt_eq, Nat.ble_eq, Nat.beq_eq, Bool.and_eq_true, Bool.or_eq_true, IntKind.wrap_i64, IntKind.wrap_u64, IntKind.wrap_u8, IntKind.wrap_u32, Int.tdiv_eq_ediv_of_nonneg, Int.tmod_eq_emod_of_nonneg] <;> omega) | rfl | trivial)
theorem a_clean {N : Nat} {f : Nat → Int} {n : Int} (hN : N ≤ 2 ^ 43) (hn : n.toNat ≤ 8 * N) (hd : dirty f n.toNat = false) :
    ExB 4 Try.prog noI (codeAt Try.prog 26 [0, 1, 0, 1, 1, 1, 1, 1, 1, 1, 0, 1]) (sA N f n) (.exit 0) (tC N n.toNat (bytesN n.toNat) (N - bytesN n.toNat) f f fun j => f (bytesN n.toNat + j)) := by
  have hK : bytesN n.toNat ≤ N := by unfold bytesN; omega
  have hm : n.toNat ≤ 8 * bytesN n.toNat := by unfold bytesN; omega
  refine ExB.enter (cs := []) noI_ok _ ?_ (eJ N n.toNat f n) (eJ_ok hN hn) rfl
  rw [a_code]
  refine ExB.loop (by simp) (jC N n.toNat (bytesN n.toNat) (N - bytesN n.toNat) f f fun j => f (bytesN n.toNat + j)) (8 * bytesN n.toNat) (fun i hi => c_step (by omega) hm i hi ?_) (c_end (by omega) hm)
  by_cases him : i < n.toNat
  · exact .inl him
  · refine .inr ?_
    unfold dirty at hd
    rw [List.any_eq_false] at hd
    have := hd i (List.mem_range.2 hi)
    cases hb : bitB f i with
    | false => rfl
    | true => rw [hb] at this; simp at this; omega
theorem a_dirty {N : Nat} {f : Nat → Int} {n : Int} (hN : N ≤ 2 ^ 43) (hn : n.toNat ≤ 8 * N) (hd : dirty f n.toNat = true) :
    ExB 4 Try.prog noI (codeAt Try.prog 26 [0, 1, 0, 1, 1, 1, 1, 1, 1, 1, 0, 1]) (sA N f n) .ret (tB N (bytesN n.toNat) (N - bytesN n.toNat) f f fun j => f (bytesN n.toNat + j)) := by
  have hK : bytesN n.toNat ≤ N := by unfold bytesN; omega
  have hm : n.toNat ≤ 8 * bytesN n.toNat := by unfold bytesN; omega
  obtain ⟨i, h1, h2, h3, h4⟩ := first_dirty _ hd
  refine ExB.enter (cs := []) noI_ok _ ?_ (eJ N n.toNat f n) (eJ_ok hN hn) rfl
  rw [a_code]
  exact ExB.loop (by simp) (jC N n.toNat (bytesN n.toNat) (N - bytesN n.toNat) f f fun j => f (bytesN n.toNat + j)) i (fun j hj => c_step (by omega) hm j (by omega) (h4 j hj)) (c_bad (by omega) hm i h1 h2 h3)
set_option maxRecDepth 100000 in
theorem a_grow (N : Nat) (f : Nat → Int) (n : Int) (m K R : Nat) (g h : Nat → Int) : growB (sA N f n) (tC N m K R f g h) = true := by kernel_rfl
set_option maxRecDepth 100000 in
theorem b_grow (N : Nat) (f : Nat → Int) (n : Int) (K R : Nat) (g h : Nat → Int) : growB (sA N f n) (tB N K R f g h) = true := by kernel_rfl
set_option maxRecDepth 100000 in
theorem a_four (N : Nat) (f : Nat → Int) (n : Int) : Nat.ble (sA N f n).mem.length 4 = true := by kernel_rfl
noncomputable def aL (N : Nat) (f : Nat → Int) (n : Int) (hN : N ≤ 2 ^ 43) (hn : n.toNat ≤ 8 * N) (hd : dirty f n.toNat = false) : LoopF Try.prog noI := LoopF.of (a_clean hN hn hd) (a_grow ..) (a_four ..)
noncomputable def dL (N : Nat) (f : Nat → Int) (n : Int) (hN : N ≤ 2 ^ 43) (hn : n.toNat ≤ 8 * N) (hd : dirty f n.toNat = true) : LoopF Try.prog noI := LoopF.of (a_dirty hN hn hd) (b_grow ..) (a_four ..)
--@gen e4 (N : Nat) (f : Nat → Int) (n : Int) (hN : N ≤ 2 ^ 43) (hn : n.toNat ≤ 8 * N) (hd : dirty f n.toNat = false) := runG Try.prog (SO (some false) none none [aL N f n hN hn hd]) 200 26 [] (startS Try.f26 (argA n) ((rd0 N f 0).map some)) .ret 2 [some (.own 0), some (.own 1), some (.own 3), some (.own 4)] 89 (endA N f 0 n) ((rd1b N f 0 n).map some)
--@[
def e4_G (N : Nat) (f : Nat → Int) (n : Int) (hN : N ≤ 2 ^ 43) (hn : n.toNat ≤ 8 * N) (hd : dirty f n.toNat = false) : Prop := (decide (IntKind.wrap IntKind.i64 ((8 : Int) * (↑N : Int)) < if n < (0 : Int) then (0 : Int) else n) = false ∧     (decide             ((↑N : Int) <               IntKind.wrap IntKind.i64                 (Int.tdiv (IntKind.wrap IntKind.i64 ((if n < (0 : Int) then (0 : Int) else n) + (7 : Int)))                   (8 : Int))) =           false ∧         (decide                 ((0 : Int) ≤ (↑(0 : Nat) : Int) ∧                   (↑(0 : Nat) : Int) ≤                       IntKind.wrap IntKind.i64                         (Int.tdiv (IntKind.wrap IntKind.i64 ((if n < (0 : Int) then (0 : Int) else n) + (7 : Int)))                           (8 : Int)) ∧                     IntKind.wrap IntKind.i64                           (Int.tdiv (IntKind.wrap IntKind.i64 ((if n < (0 : Int) then (0 : Int) else n) + (7 : Int)))                             (8 : Int)) ≤                         IntKind.wrap IntKind.i64                           (Int.tdiv (IntKind.wrap IntKind.i64 ((if n < (0 : Int) then (0 : Int) else n) + (7 : Int)))                             (8 : Int)) ∧                       IntKind.wrap IntKind.i64                           (Int.tdiv (IntKind.wrap IntKind.i64 ((if n < (0 : Int) then (0 : Int) else n) + (7 : Int)))                             (8 : Int)) ≤                         (↑N : Int)) =               true ∧             Nat.ble N N = true) ∧           decide                 ((0 : Int) ≤                     IntKind.wrap IntKind.i64                       (Int.tdiv (IntKind.wrap IntKind.i64 ((if n < (0 : Int) then (0 : Int) else n) + (7 : Int)))                         (8 : Int)) ∧                   IntKind.wrap IntKind.i64                         (Int.tdiv (IntKind.wrap IntKind.i64 ((if n < (0 : Int) then (0 : Int) else n) + (7 : Int)))                           (8 : Int)) ≤                       (↑N : Int) ∧                     (↑N : Int) ≤ (↑N : Int) ∧ (↑N : Int) ≤ (↑N : Int)) =               true ∧             Nat.ble N N = true) ∧       LS.tmps (LoopF.s (aL N f n hN hn hd)) = LS.tmps (LoopF.s (aL N f n hN hn hd)) ∧         LS.mem (LoopF.s (aL N f n hN hn hd)) = LS.mem (LoopF.s (aL N f n hN hn hd))) ∧   Int.toNat n = rdL N f ((0 : Int)) n ∧     (N - bytesN (Int.toNat n) = rdN N f ((0 : Int)) n ∧         (0 : Int) = rdE N f ((0 : Int)) n) ∧       ((N = N ∧ ∀ (i : Nat), i < N → Same (A := Empty) [LV.int IntKind.u8 (f i)] [LV.int IntKind.u8 (f i)]) ∧           ∀ (i : Nat), plainL (A := Empty) [LV.int IntKind.u8 (f i)]) ∧         ((N - bytesN (Int.toNat n) = rdN N f ((0 : Int)) n ∧               ∀ (i : Nat),                 i < rdN N f ((0 : Int)) n →                   Same (A := Empty) [LV.int IntKind.u8 (f (bytesN (Int.toNat n) + i))] [LV.int IntKind.u8 (rdF N f (0 : Int) n i)]) ∧             ∀ (i : Nat), plainL (A := Empty) [LV.int IntKind.u8 (rdF N f (0 : Int) n i)]) ∧           (Int.toNat n = rdL N f ((0 : Int)) n ∧               ∀ (i : Nat), i < rdL N f ((0 : Int)) n → Same (A := Empty) [LV.bool (bitB f i)] [LV.bool (bitB f i)]) ∧             ∀ (i : Nat), plainL (A := Empty) [LV.bool (bitB f i)]
set_option maxRecDepth 100000 in
theorem e4 (N : Nat) (f : Nat → Int) (n : Int) (hN : N ≤ 2 ^ 43) (hn : n.toNat ≤ 8 * N) (hd : dirty f n.toNat = false) : runG Try.prog (SO (some false) none none [aL N f n hN hn hd]) 200 26 [] (startS Try.f26 (argA n) ((rd0 N f 0).map some)) .ret 2 [some (.own 0), some (.own 1), some (.own 3), some (.own 4)] 89 (endA N f 0 n) ((rd1b N f 0 n).map some) = some (some ((e4_G N f n hN hn hd))) := by kernel_rfl
--@]
--@gen e5 (N : Nat) (f : Nat → Int) (n : Int) (hN : N ≤ 2 ^ 43) (hn : n.toNat ≤ 8 * N) (hd : dirty f n.toNat = true) := runG Try.prog (SO (some false) none none [dL N f n hN hn hd]) 200 26 [] (startS Try.f26 (argA n) ((rd0 N f 0).map some)) .ret 2 [some (.own 0), some (.own 1), some (.own 1), none] 89 (endA N f 0 n) ((rd1b N f 0 n).map some)
--@[
def e5_G (N : Nat) (f : Nat → Int) (n : Int) (hN : N ≤ 2 ^ 43) (hn : n.toNat ≤ 8 * N) (hd : dirty f n.toNat = true) : Prop := (decide (IntKind.wrap IntKind.i64 ((8 : Int) * (↑N : Int)) < if n < (0 : Int) then (0 : Int) else n) = false ∧     (decide             ((↑N : Int) <               IntKind.wrap IntKind.i64                 (Int.tdiv (IntKind.wrap IntKind.i64 ((if n < (0 : Int) then (0 : Int) else n) + (7 : Int)))                   (8 : Int))) =           false ∧         (decide                 ((0 : Int) ≤ (↑(0 : Nat) : Int) ∧                   (↑(0 : Nat) : Int) ≤                       IntKind.wrap IntKind.i64                         (Int.tdiv (IntKind.wrap IntKind.i64 ((if n < (0 : Int) then (0 : Int) else n) + (7 : Int)))                           (8 : Int)) ∧                     IntKind.wrap IntKind.i64                           (Int.tdiv (IntKind.wrap IntKind.i64 ((if n < (0 : Int) then (0 : Int) else n) + (7 : Int)))                             (8 : Int)) ≤                         IntKind.wrap IntKind.i64                           (Int.tdiv (IntKind.wrap IntKind.i64 ((if n < (0 : Int) then (0 : Int) else n) + (7 : Int)))                             (8 : Int)) ∧                       IntKind.wrap IntKind.i64                           (Int.tdiv (IntKind.wrap IntKind.i64 ((if n < (0 : Int) then (0 : Int) else n) + (7 : Int)))                             (8 : Int)) ≤                         (↑N : Int)) =               true ∧             Nat.ble N N = true) ∧           decide                 ((0 : Int) ≤                     IntKind.wrap IntKind.i64                       (Int.tdiv (IntKind.wrap IntKind.i64 ((if n < (0 : Int) then (0 : Int) else n) + (7 : Int)))                         (8 : Int)) ∧                   IntKind.wrap IntKind.i64                         (Int.tdiv (IntKind.wrap IntKind.i64 ((if n < (0 : Int) then (0 : Int) else n) + (7 : Int)))                           (8 : Int)) ≤                       (↑N : Int) ∧                     (↑N : Int) ≤ (↑N : Int) ∧ (↑N : Int) ≤ (↑N : Int)) =               true ∧             Nat.ble N N = true) ∧       LS.tmps (LoopF.s (dL N f n hN hn hd)) = LS.tmps (LoopF.s (dL N f n hN hn hd)) ∧         LS.mem (LoopF.s (dL N f n hN hn hd)) = LS.mem (LoopF.s (dL N f n hN hn hd))) ∧   rdL N f ((0 : Int)) n = 0 ∧     (N = rdN N f ((0 : Int)) n ∧ (171 : Int) = rdE N f ((0 : Int)) n) ∧       ((N = N ∧ ∀ (i : Nat), i < N → Same (A := Empty) [LV.int IntKind.u8 (f i)] [LV.int IntKind.u8 (f i)]) ∧           ∀ (i : Nat), plainL (A := Empty) [LV.int IntKind.u8 (f i)]) ∧         ((N = rdN N f ((0 : Int)) n ∧               ∀ (i : Nat),                 i < rdN N f ((0 : Int)) n →                   Same (A := Empty) [LV.int IntKind.u8 (f i)] [LV.int IntKind.u8 (rdF N f (0 : Int) n i)]) ∧             ∀ (i : Nat), plainL (A := Empty) [LV.int IntKind.u8 (rdF N f (0 : Int) n i)]) ∧           rdL N f ((0 : Int)) n = 0 ∧ ∀ (i : Nat), plainL (A := Empty) [LV.bool (bitB f i)]
set_option maxRecDepth 100000 in
theorem e5 (N : Nat) (f : Nat → Int) (n : Int) (hN : N ≤ 2 ^ 43) (hn : n.toNat ≤ 8 * N) (hd : dirty f n.toNat = true) : runG Try.prog (SO (some false) none none [dL N f n hN hn hd]) 200 26 [] (startS Try.f26 (argA n) ((rd0 N f 0).map some)) .ret 2 [some (.own 0), some (.own 1), some (.own 1), none] 89 (endA N f 0 n) ((rd1b N f 0 n).map some) = some (some ((e5_G N f n hN hn hd))) := by kernel_rfl
--@]
theorem bits_toldW (N : Nat) (f : Nat → Int) (e n : Int) (hN : N ≤ 2 ^ 43) : ToldW Try.prog 26 [] (rd0 N f e) (argA n) (.vec (.own 3) (rdL N f e n)) (rd1b N f e n) := by
  have h8 : IntKind.wrap IntKind.i64 ((8 : Int) * (N : Int)) = 8 * (N : Int) := IntWalk.i64_in _ (by omega)
  have h7 : ((if n < 0 then 0 else n) : Int) = (n.toNat : Int) := by split <;> omega
  have h9 : n.toNat ≤ 8 * N → IntKind.wrap IntKind.i64 (Int.tdiv (IntKind.wrap IntKind.i64 ((n.toNat : Int) + 7)) 8) = (bytesN n.toNat : Int) := fun hn => lenB_eq (n := n.toNat) (by omega)
  have h10 : bytesN n.toNat = (n.toNat + 7) / 8 := rfl
  refine toldW_body (fn := Try.f26) rfl rfl (.inr rfl) (B := 2) (nn := 89) (l := endA N f e n) (cs := []) ?_ rfl rfl
  by_cases he : e = 0
  · subst he
    by_cases hn : n.toNat ≤ 8 * N
    · by_cases hd : dirty f n.toNat = true
      · refine ExB.auto (SO_ok _ _ _ _) noI_ok rfl mixed 200 _ (e5 N f n hN hn hd) ?_
        have hk : rdOk N f 0 n = false := by simp [rdOk, hd]
        simp only [condOk, e5_G, rdL, rdN, rdF, rdE, hk, h8, h7, h9 hn, hn, hd, if_true, Bool.false_eq_true, if_false]
        (and_intros <;> first | exact True.intro | omega | exact fun _ => ⟨trivial, trivial⟩ | exact fun _ _ => Same.refl _ | exact fun _ _ => Like.refl _ | (simp (disch := omega) only [true_and, and_true, Nat.beq_refl, Bool.true_and, decide_eq_true_eq, decide_eq_false_iff_not, beq_iff_eq, bne_iff_ne, beq_eq_false_iff_ne, bne_eq_false_iff_eq, ne_eq, Nat.blt_eq, Nat.ble_eq, Nat.beq_eq, Bool.and_eq_true, Bool.or_eq_true, IntKind.wrap_i64, IntKind.wrap_u64, IntKind.wrap_u8, IntKind.wrap_u32, Int.tdiv_eq_ediv_of_nonneg, Int.tmod_eq_emod_of_nonneg] <;> omega) | rfl | trivial)
      · have hd : dirty f n.toNat = false := by simpa using hd
        refine ExB.auto (SO_ok _ _ _ _) noI_ok rfl mixed 200 _ (e4 N f n hN hn hd) ?_
        have hk : rdOk N f 0 n = true := by simp [rdOk, hd, hn]
        simp only [condOk, e4_G, rdL, rdN, rdF, rdE, hk, h8, h7, h9 hn, hn, hd, if_true, Bool.false_eq_true, if_false]
        (and_intros <;> first | exact True.intro | omega | exact fun _ => ⟨trivial, trivial⟩ | exact fun _ _ => Same.refl _ | exact fun _ _ => Like.refl _ | (simp (disch := omega) only [true_and, and_true, Nat.beq_refl, Bool.true_and, decide_eq_true_eq, decide_eq_false_iff_not, beq_iff_eq, bne_iff_ne, beq_eq_false_iff_ne, bne_eq_false_iff_eq, ne_eq, Nat.blt_eq, Nat.ble_eq, Nat.beq_eq, Bool.and_eq_true, Bool.or_eq_true, IntKind.wrap_i64, IntKind.wrap_u64, IntKind.wrap_u8, IntKind.wrap_u32, Int.tdiv_eq_ediv_of_nonneg, Int.tmod_eq_emod_of_nonneg] <;> omega) | rfl | trivial)
    · refine ExB.auto (SO_ok _ _ _ _) noI_ok rfl mixed 200 _ (e3 N f n) ?_
      have hk : rdOk N f 0 n = false := by simp [rdOk, hn]
      simp only [condOk, e3_G, rdL, rdN, rdF, rdE, hk, h8, hn, if_true, Bool.false_eq_true, if_false]
      (and_intros <;> first | exact True.intro | omega | exact fun _ => ⟨trivial, trivial⟩ | exact fun _ _ => Same.refl _ | exact fun _ _ => Like.refl _ | (simp (disch := omega) only [true_and, and_true, Nat.beq_refl, Bool.true_and, decide_eq_true_eq, decide_eq_false_iff_not, beq_iff_eq, bne_iff_ne, beq_eq_false_iff_ne, bne_eq_false_iff_eq, ne_eq, Nat.blt_eq, Nat.ble_eq, Nat.beq_eq, Bool.and_eq_true, Bool.or_eq_true, IntKind.wrap_i64, IntKind.wrap_u64, IntKind.wrap_u8, IntKind.wrap_u32, Int.tdiv_eq_ediv_of_nonneg, Int.tmod_eq_emod_of_nonneg] <;> omega) | rfl | trivial)
  · have hk : rdOk N f e n = false := by simp [rdOk, he]
    by_cases hn : n.toNat ≤ 8 * N
    · refine ExB.auto (SO_ok _ _ _ _) noI_ok rfl mixed 200 _ (e2 N f e n) ?_
      simp only [condOk, e2_G, rdL, rdN, rdF, rdE, hk, h8, hn, he, if_true, Bool.false_eq_true, if_false]
      (and_intros <;> first | exact True.intro | omega | exact fun _ => ⟨trivial, trivial⟩ | exact fun _ _ => Same.refl _ | exact fun _ _ => Like.refl _ | (simp (disch := omega) only [true_and, and_true, Nat.beq_refl, Bool.true_and, decide_eq_true_eq, decide_eq_false_iff_not, beq_iff_eq, bne_iff_ne, beq_eq_false_iff_ne, bne_eq_false_iff_eq, ne_eq, Nat.blt_eq, Nat.ble_eq, Nat.beq_eq, Bool.and_eq_true, Bool.or_eq_true, IntKind.wrap_i64, IntKind.wrap_u64, IntKind.wrap_u8, IntKind.wrap_u32, Int.tdiv_eq_ediv_of_nonneg, Int.tmod_eq_emod_of_nonneg] <;> omega) | rfl | trivial)
    · refine ExB.auto (SO_ok _ _ _ _) noI_ok rfl mixed 200 _ (e1 N f e n) ?_
      simp only [condOk, e1_G, rdL, rdN, rdF, rdE, hk, h8, hn, he, if_true, Bool.false_eq_true, if_false]
      (and_intros <;> first | exact True.intro | omega | exact fun _ => ⟨trivial, trivial⟩ | exact fun _ _ => Same.refl _ | exact fun _ _ => Like.refl _ | (simp (disch := omega) only [true_and, and_true, Nat.beq_refl, Bool.true_and, decide_eq_true_eq, decide_eq_false_iff_not, beq_iff_eq, bne_iff_ne, beq_eq_false_iff_ne, bne_eq_false_iff_eq, ne_eq, Nat.blt_eq, Nat.ble_eq, Nat.beq_eq, Bool.and_eq_true, Bool.or_eq_true, IntKind.wrap_i64, IntKind.wrap_u64, IntKind.wrap_u8, IntKind.wrap_u32, Int.tdiv_eq_ediv_of_nonneg, Int.tmod_eq_emod_of_nonneg] <;> omega) | rfl | trivial)
end Go.Proofs.Ytjhjockdkpgpeaa.En

/- DERIVED. Contracts of calls that write, their frames found by matching. -/
set_option linter.all false
namespace Go.Proofs.Ytjhjockdkpgpeaa.En
open Go Go.RowKit

section
variable {A : Type} [Ab A] {P : Program}

mutual
/-- The names are the call's own. -/
def LV.ownly : LV A → Prop
  | .ptr b _ _ => ∃ k, b = .own k
  | .slice b _ _ _ _ => ∃ k, b = .own k
  | .vec b _ => ∃ k, b = .own k
  | .rows _ _ f => ∀ i, ownlyL (f i)
  | .agg us => ownlyL us
  | .tup vs => ownlyL vs
  | .iface _ v => LV.ownly v
  | .func _ caps => ownlyL caps
  | _ => True
def ownlyL : List (LV A) → Prop
  | [] => True
  | v :: l => LV.ownly v ∧ ownlyL l
end
theorem keyMap'_own (n : Nat) (σs : List Nat) (ι : Nat → Nat → Option Key) (j : Nat) : keyMap' n σs ι (.own j) ≠ none := by
  unfold keyMap'
  intro h
  dsimp only at h
  split at h <;> cases h
mutual
theorem ownly_fit (n : Nat) (σs : List Nat) (ι : Nat → Nat → Option Key) : ∀ v : LV A, v.ownly → v.fit (keyMap' n σs ι) (fun _ => True)
  | .ptr b _ _, h => by obtain ⟨k, rfl⟩ := h; exact ⟨keyMap'_own n σs ι k, trivial⟩
  | .slice b _ _ _ _, h => by obtain ⟨k, rfl⟩ := h; exact ⟨keyMap'_own n σs ι k, trivial⟩
  | .vec b len, h => by obtain ⟨k, rfl⟩ := h; exact ⟨fun e => absurd e (keyMap'_own n σs ι k), trivial⟩
  | .rows _ _ f, h => fun i => ownlyL_fit n σs ι (f i) (h i)
  | .agg us, h => ownlyL_fit n σs ι us h
  | .tup vs, h => ownlyL_fit n σs ι vs h
  | .iface _ v, h => ownly_fit n σs ι v h
  | .func _ caps, h => ownlyL_fit n σs ι caps h
  | .any, _ => trivial
  | .undef, _ => trivial
  | .int _ _, _ => trivial
  | .bool _, _ => trivial
  | .str _, _ => trivial
  | .nilp, _ => trivial
  | .nils, _ => trivial
  | .nilfn, _ => trivial
  | .niliface, _ => trivial
  | .abs _, _ => trivial
theorem ownlyL_fit (n : Nat) (σs : List Nat) (ι : Nat → Nat → Option Key) : ∀ l : List (LV A), ownlyL l → fitL (keyMap' n σs ι) (fun _ => True) l
  | [], _ => trivial
  | v :: l, h => ⟨ownly_fit n σs ι v h.1, ownlyL_fit n σs ι l h.2⟩
end

/-- A call of a kind, told for whatever x. -/
structure Spec (P : Program) (A : Type) [Ab A] (f : FuncId) where
  X : Type
  us : X → List (List (LV A))
  bls0 : X → List (Blk A)
  args : X → List (LV A)
  v : X → LV A
  bls1 : X → List (Blk A)
  c : X → Prop
  told : ∀ x, c x → ToldW P f (us x) (bls0 x) (args x) (v x) (bls1 x)
  ov : ∀ x, (v x).ownly
  ob : ∀ x, ∀ b ∈ bls1 x, ownlyL b.us

def mOwn (τ : Key → Option Key) (q : Key → Bool) (mem : Mem A) : List Nat → List (Blk A) → Option Cnd
  | [], [] => some none
  | k :: σs, b0 :: l => match mem[k]? with
    | some (some b) => match mB τ q b b0 with
      | some c => match mOwn τ q mem σs l with
        | some c' => some (andC c c')
        | none => none
      | none => none
    | _ => none
  | _, _ => none
theorem mOwn_spec {τ : Key → Option Key} {q : Key → Bool} {q' : Key → Prop} (hq : ∀ k, q k = true → q' k) {mem : Mem A} : ∀ (σs : List Nat) (l : List (Blk A)) (c : Cnd), mOwn τ q mem σs l = some c → condOk c →
    ∀ (j k : Nat) b0, σs[j]? = some k → l[j]? = some b0 → fitL τ q' b0.us ∧ ∃ b, mem[k]? = some (some b) ∧ LikeB τ b b0
  | [], _, _, _, _, j, k, b0, hk, _ => by simp at hk
  | k :: σs, [], _, h, _, _, _, _, _, _ => by simp [mOwn] at h
  | k :: σs, b0 :: l, c, h, hc, j, k', b0', hk, hb => by
    simp only [mOwn] at h
    split at h
    · rename_i b hm
      split at h
      · rename_i c1 h1
        split at h
        · rename_i c2 h2
          cases h
          obtain ⟨k1, k2⟩ := andC_ok hc
          cases j with
          | zero =>
            simp at hk hb
            subst hk hb
            obtain ⟨e1, e2⟩ := mB_spec hq h1 k1
            exact ⟨e1, b, hm, e2⟩
          | succ j => exact mOwn_spec hq σs l c2 h2 k2 j k' b0' (by simpa using hk) (by simpa using hb)
        · cases h
      · cases h
    · cases h
def mInp1 (bl us : List (LV A)) : Option Cnd := match bl, us with
  | [.rows n z f], [v] => match mRow n z f v with
    | some c => some c
    | none => some (some (plainL us ∧ Same bl us))
  | _, _ => some (some (plainL us ∧ Same bl us))
theorem mInp1_spec {bl us : List (LV A)} {c : Cnd} (h : mInp1 bl us = some c) (hc : condOk c) : plainL us ∧ Like bl us := by
  unfold mInp1 at h
  split at h
  · split at h
    · rename_i c' hm
      cases h
      obtain ⟨g, rfl, hp, hs⟩ := mRow_spec hm hc
      exact ⟨hp, hs.like hp⟩
    · cases h; exact ⟨hc.1, hc.2.like hc.1⟩
  · cases h; exact ⟨hc.1, hc.2.like hc.1⟩
def mInp (I : Inp A) (mem : Mem A) : List Key → List (List (LV A)) → Option Cnd
  | [], [] => some none
  | k :: ks, us :: l => match at? I mem k with
    | some b => match isDead b.kd, mInp1 b.us us with
      | false, some c => match mInp I mem ks l with
        | some c' => some (andC c c')
        | none => none
      | _, _ => none
    | none => none
  | _, _ => none
theorem mInp_spec {I : Inp A} {mem : Mem A} : ∀ (ks : List Key) (l : List (List (LV A))) (c : Cnd), mInp I mem ks l = some c → condOk c →
    ∀ (j : Nat) k us, ks[j]? = some k → l[j]? = some us → ∃ bl, at? I mem k = some bl ∧ isDead bl.kd = false ∧ plainL us ∧ Like bl.us us
  | [], _, _, _, _, j, k, us, hk, _ => by simp at hk
  | k :: ks, [], _, h, _, _, _, _, _, _ => by simp [mInp] at h
  | k :: ks, us :: l, c, h, hc, j, k', us', hk, hb => by
    simp only [mInp] at h
    split at h
    · rename_i b hm
      split at h
      · rename_i c1 hd h1
        split at h
        · rename_i c2 h2
          cases h
          obtain ⟨k1, k2⟩ := andC_ok hc
          cases j with
          | zero =>
            simp at hk hb
            subst hk hb
            obtain ⟨e1, e2⟩ := mInp1_spec h1 k1
            exact ⟨b, hm, hd, e1, e2⟩
          | succ j => exact mInp_spec ks l c2 h2 k2 j k' us' (by simpa using hk) (by simpa using hb)
        · cases h
      · cases h
    · cases h
def apartB (ks : List Key) : List Nat → List (Blk A) → Bool
  | k :: σs, b :: l => (!isWr b.kd || ks.all fun x => !keyB (.own k) x) && apartB ks σs l
  | _, _ => true
theorem apartB_spec {ks : List Key} : ∀ {σs : List Nat} {l : List (Blk A)}, apartB ks σs l = true → ∀ (j k : Nat) b0, σs[j]? = some k → l[j]? = some b0 → isWr b0.kd = true → Key.own k ∉ ks
  | [], _, _, j, k, b0, hk, _, _ => by simp at hk
  | k :: σs, [], _, j, k', b0, _, hb, _ => by simp at hb
  | k :: σs, b :: l, h, j, k', b0, hk, hb, hw => by
    obtain ⟨h1, h2⟩ := both h
    cases j with
    | zero =>
      simp at hk hb
      subst hk hb
      rw [hw] at h1
      simp only [Bool.not_true, Bool.false_or, List.all_eq_true] at h1
      intro hm
      have := h1 _ hm
      rw [keyB_refl] at this
      cases this
    | succ j => exact apartB_spec h2 j k' b0 (by simpa using hk) (by simpa using hb) hw
def Spec.mk' {f : FuncId} (s : Spec P A f) (x : s.X) (σs : List Nat) (ks : List Key) (c : Prop) : WrC A := ⟨σs, s.us x, ks, s.bls0 x, s.args x, s.v x, s.bls1 x, c⟩
/-- The conditions of such a call. -/
def Spec.cond {f : FuncId} (s : Spec P A f) (I : Inp A) (vs : List (LV A)) (mem : Mem A) (x : s.X) (σs : List Nat) (ks : List Key) : Option Prop :=
  match apartB ks σs (s.bls0 x) && ((s.bls1 x).all (fun b => !isRo b.kd) || ks.isEmpty) with
  | true => match mVL (keyMap σs (ιOf ks)) (thereB ((s.bls0 x).map some)) vs (s.args x), mOwn (keyMap σs (ιOf ks)) (thereB ((s.bls0 x).map some)) mem σs (s.bls0 x), mInp I mem ks (s.us x) with
    | some c1, some c2, some c3 => match andC c1 (andC c2 (andC c3 (some (s.c x)))) with
      | some c => some c
      | none => some True
    | _, _, _ => none
  | false => none
def Spec.con {f : FuncId} [LawAb A] (s : Spec P A f) (ent : ∀ args w, (callFunc f args).run P w = .ok (.enter f args) w) (pick : Inp A → List (LV A) → Mem A → Option (s.X × List Nat × List Key)) : ConC P A :=
  conWr f ent (fun I vs mem => match pick I vs mem with
    | some (x, σs, ks) => match s.cond I vs mem x σs ks with
      | some c => some (s.mk' x σs ks c)
      | none => none
    | none => none) fun I vs mem r h hf hc => by
    split at h
    · rename_i x σs ks hp
      split at h
      · rename_i c hcd
        cases h
        have hc : c := hc
        unfold Spec.cond at hcd
        split at hcd
        · rename_i hb
          obtain ⟨hb1, hb2⟩ := both hb
          split at hcd
          · rename_i c1 c2 c3 h1 h2 h3
            have hcc : condOk (andC c1 (andC c2 (andC c3 (some (s.c x))))) := by
              split at hcd
              · rename_i c' e; cases hcd; rw [e]; exact hc
              · rename_i e; rw [e]; trivial
            obtain ⟨k1, k⟩ := andC_ok hcc
            obtain ⟨k2, k⟩ := andC_ok k
            obtain ⟨k3, k4⟩ := andC_ok k
            obtain ⟨e1, e2⟩ := mVL_spec (fun k => thereB_spec) _ _ c1 h1 k1
            exact {
              args := e1.symm
              fit := e2
              own := mOwn_spec (fun k => thereB_spec) _ _ c2 h2 k2
              blk := mInp_spec _ _ c3 h3 k3
              apart := apartB_spec hb1
              told := s.told x k4
              fitv := ownly_fit _ _ _ _ (s.ov x)
              fitb := fun b hb => ownlyL_fit _ _ _ _ (s.ob x b hb)
              ro := by
                rw [Bool.or_eq_true] at hb2
                rcases hb2 with h | h
                · refine .inl fun b hb => ?_
                  rw [List.all_eq_true] at h
                  have := h b hb
                  cases hr : isRo b.kd with
                  | false => rfl
                  | true => rw [hr] at this; cases this
                · exact .inr (List.isEmpty_iff.1 h) }
          · cases hcd
        · cases hcd
      · cases h
    · cases h
end
end Go.Proofs.Ytjhjockdkpgpeaa.En

/- DERIVED. Contracts of a reader's calls. -/
set_option linter.all false
namespace Go.Proofs.Ytjhjockdkpgpeaa.En
open Go Go.RowKit

/-! ## a place -/
def advPl (a : Bool) : Adv where
  il _ := true
  dec f r i := match f, r, i with
    | 24, 2, 1 => some a
    | _, _, _ => none
  rc f r i := match f, r, i with
    | 24, 1, 2 => true
    | _, _, _ => false
  fz _ _ := false
  res _ _ := 20
noncomputable abbrev SPl (a : Bool) : Sig Empty := sigOf (P := Try.prog) [] [] [] (I := noI) [] noMs (advPl a)
theorem SPl_ok (a : Bool) : SigOk Try.prog (SPl a) := sigOf_ok [] [] [] [] (noMs_ok _) _ noI_ok
--@gen pl1 (a m : Int) := runG Try.prog (SPl true) 50 24 [] (startS Try.f24 [.int .i64 a, .int .i64 m] ([].map some)) .ret 0 [] 14 [(4, .int .i64 (a % m))] ([].map some)
--@[
def pl1_G (a m : Int) : Prop := ((m != (0 : Int)) = true ∧ decide (Int.tmod a m < (0 : Int)) = true) ∧   IntKind.wrap IntKind.i64 (Int.tmod a m + m) = a % m
set_option maxRecDepth 100000 in
theorem pl1 (a m : Int) : runG Try.prog (SPl true) 50 24 [] (startS Try.f24 [.int .i64 a, .int .i64 m] ([].map some)) .ret 0 [] 14 [(4, .int .i64 (a % m))] ([].map some) = some (some ((pl1_G a m))) := by kernel_rfl
--@]
--@gen pl0 (a m : Int) := runG Try.prog (SPl false) 50 24 [] (startS Try.f24 [.int .i64 a, .int .i64 m] ([].map some)) .ret 0 [] 14 [(4, .int .i64 (a % m))] ([].map some)
--@[
def pl0_G (a m : Int) : Prop := ((m != (0 : Int)) = true ∧ decide (Int.tmod a m < (0 : Int)) = false) ∧ Int.tmod a m = a % m
set_option maxRecDepth 100000 in
theorem pl0 (a m : Int) : runG Try.prog (SPl false) 50 24 [] (startS Try.f24 [.int .i64 a, .int .i64 m] ([].map some)) .ret 0 [] 14 [(4, .int .i64 (a % m))] ([].map some) = some (some ((pl0_G a m))) := by kernel_rfl
--@]
theorem place_told (a m : Int) (h : 0 < m ∧ m ≤ 2 ^ 62) : ToldW Try.prog 24 [] [] [.int .i64 a, .int .i64 m] (.int .i64 (a % m) : LV Empty) [] := by
  refine toldW_body (fn := Try.f24) rfl rfl (.inr rfl) (B := 0) (nn := 14) (l := [(4, .int .i64 (a % m))]) (cs := []) ?_ rfl rfl
  have h1 : a.tmod m = if 0 ≤ a ∨ a % m = 0 then a % m else a % m - m := by
    rw [Int.tmod_eq_emod]
    have : (m.natAbs : Int) = m := by omega
    have hd : m ∣ a ↔ a % m = 0 := Int.dvd_iff_emod_eq_zero ..
    simp only [hd]
    split <;> omega
  have h2 := Int.emod_nonneg a (show m ≠ 0 by omega)
  have h3 := Int.emod_lt_of_pos a h.1
  have h4 : (m != 0) = true := by simp; omega
  by_cases hn : a.tmod m < 0
  · refine ExB.auto (SPl_ok _) noI_ok rfl mixed 50 _ (pl1 a m) ?_
    simp only [condOk, pl1_G, h4]
    rw [h1] at hn ⊢
    split at hn
    · omega
    · rename_i hh
      rw [if_neg hh]
      refine ⟨⟨trivial, decide_eq_true hn⟩, ?_⟩
      rw [IntWalk.i64_in _ (by omega)]; omega
  · refine ExB.auto (SPl_ok _) noI_ok rfl mixed 50 _ (pl0 a m) ?_
    simp only [condOk, pl0_G, h4]
    rw [h1] at hn ⊢
    split at hn
    · rename_i hh
      rw [if_pos hh]
      exact ⟨⟨trivial, decide_eq_false hn⟩, rfl⟩
    · omega
set_option maxRecDepth 100000 in
theorem ent24 : ∀ args w, (callFunc 24 args).run Try.prog w = .ok (.enter 24 args) w := ent_of (f := 24) (P := Try.prog) rfl rfl rfl
noncomputable def placeS : Spec Try.prog Empty 24 where
  X := Int × Int
  us _ := []
  bls0 _ := []
  args x := [.int .i64 x.1, .int .i64 x.2]
  v x := .int .i64 (x.1 % x.2)
  bls1 _ := []
  c x := 0 < x.2 ∧ x.2 ≤ 2 ^ 62
  told x h := place_told x.1 x.2 h
  ov _ := trivial
  ob x b hb := absurd hb List.not_mem_nil
noncomputable def conPlace : ConC Try.prog Empty := placeS.con ent24 fun I vs mem => match vs with
  | [.int _ a, .int _ m] => some ((a, m), [], [])
  | _ => none

/-! ## readers -/
/-- The reader that a pointer names: its block, its data's, what they say. -/
def pickRd (mem : Mem Empty) : LV Empty → Option (Nat × Nat × Nat × (Nat → Int) × Int)
  | .ptr (.own r) _ _ => match mem[r]? with
    | some (some ⟨_, [.vec (.own d) n, .int _ e]⟩) => match mem[d]? with
      | some (some ⟨_, [.rows _ _ g]⟩) => some (r, d, n, fun j => byteOf (g j), e)
      | _ => none
    | _ => none
  | _ => none
theorem rd_ownly (k N : Nat) (e : Int) : ownlyL (rdB k N e).us := ⟨⟨k, rfl⟩, trivial, trivial⟩
theorem ro_ownly (N : Nat) (f : Nat → Int) : ownlyL (roB N f).us := ⟨fun _ => ⟨trivial, trivial⟩, trivial⟩
theorem bo_ownly (N : Nat) (f : Nat → Bool) (kd : Kd) : ownlyL (Blk.us ⟨kd, boolsU N f⟩) := ⟨fun _ => ⟨trivial, trivial⟩, trivial⟩
theorem by_ownly (N : Nat) (f : Nat → Int) (kd : Kd) : ownlyL (Blk.us ⟨kd, bytesU N f⟩) := ⟨fun _ => ⟨trivial, trivial⟩, trivial⟩
set_option maxRecDepth 100000 in
theorem ent26 : ∀ args w, (callFunc 26 args).run Try.prog w = .ok (.enter 26 args) w := ent_of (f := 26) (P := Try.prog) rfl rfl rfl
noncomputable def rbitsS : Spec Try.prog Empty 26 where
  X := Nat × (Nat → Int) × Int × Int
  us _ := []
  bls0 x := rd0 x.1 x.2.1 x.2.2.1
  args x := argA x.2.2.2
  v x := .vec (.own 3) (rdL x.1 x.2.1 x.2.2.1 x.2.2.2)
  bls1 x := rd1b x.1 x.2.1 x.2.2.1 x.2.2.2
  c x := x.1 ≤ 2 ^ 43
  told x h := bits_toldW x.1 x.2.1 x.2.2.1 x.2.2.2 h
  ov _ := ⟨3, rfl⟩
  ob x b hb := by
    simp only [rd1b, List.mem_cons, List.not_mem_nil, or_false] at hb
    rcases hb with rfl | rfl | rfl | rfl
    · exact rd_ownly ..
    · exact ro_ownly ..
    · exact ro_ownly ..
    · exact bo_ownly ..
noncomputable def conRBits : ConC Try.prog Empty := rbitsS.con ent26 fun I vs mem => match vs with
  | [p, .int _ n] => match pickRd mem p with
    | some (r, d, N, f, e) => some ((N, f, e, n), [r, d], [])
    | none => none
  | _ => none

/-! ## End, Err -/
def advE (a b : Bool) : Adv where
  il _ := true
  dec f r i := match f, r, i with
    | 27, 1, 4 => some a
    | 27, 1, 11 => some b
    | _, _, _ => none
  rc f r i := false
  fz _ _ := false
  res _ _ := 20
noncomputable abbrev SE (a b : Bool) : Sig Empty := sigOf (P := Try.prog) [] [] [] (I := noI) [] noMs (advE a b)
theorem SE_ok (a b : Bool) : SigOk Try.prog (SE a b) := sigOf_ok [] [] [] [] (noMs_ok _) _ noI_ok
def endV (N : Nat) (e : Int) : Int := if e = 0 ∧ 0 < N then 170 else e
--@gen en1 (N : Nat) (f : Nat → Int) (e : Int) := runG Try.prog (SE true true) 50 27 [] (startS Try.f27 [.ptr (.own 0) 0 []] ((rd0 N f e).map some)) .ret 2 [some (.own 0), some (.own 1)] 20 [(2, .int .i64 (endV N e))] ((rd0 N f e).map some)
--@[
def en1_G (N : Nat) (f : Nat → Int) (e : Int) : Prop := ((e == (0 : Int)) = true ∧ decide ((0 : Int) < (↑N : Int)) = true) ∧   (170 : Int) = endV N e ∧     (N = N ∧ e = e) ∧       (N = N ∧ ∀ (i : Nat), i < N → Same (A := Empty) [LV.int IntKind.u8 (f i)] [LV.int IntKind.u8 (f i)]) ∧         ∀ (i : Nat), plainL (A := Empty) [LV.int IntKind.u8 (f i)]
set_option maxRecDepth 100000 in
theorem en1 (N : Nat) (f : Nat → Int) (e : Int) : runG Try.prog (SE true true) 50 27 [] (startS Try.f27 [.ptr (.own 0) 0 []] ((rd0 N f e).map some)) .ret 2 [some (.own 0), some (.own 1)] 20 [(2, .int .i64 (endV N e))] ((rd0 N f e).map some) = some (some ((en1_G N f e))) := by kernel_rfl
--@]
--@gen en2 (N : Nat) (f : Nat → Int) (e : Int) := runG Try.prog (SE true false) 50 27 [] (startS Try.f27 [.ptr (.own 0) 0 []] ((rd0 N f e).map some)) .ret 2 [some (.own 0), some (.own 1)] 20 [(2, .int .i64 (endV N e))] ((rd0 N f e).map some)
--@[
def en2_G (N : Nat) (f : Nat → Int) (e : Int) : Prop := ((e == (0 : Int)) = true ∧ decide ((0 : Int) < (↑N : Int)) = false) ∧   e = endV N e ∧     (N = N ∧ e = e) ∧       (N = N ∧ ∀ (i : Nat), i < N → Same (A := Empty) [LV.int IntKind.u8 (f i)] [LV.int IntKind.u8 (f i)]) ∧         ∀ (i : Nat), plainL (A := Empty) [LV.int IntKind.u8 (f i)]
set_option maxRecDepth 100000 in
theorem en2 (N : Nat) (f : Nat → Int) (e : Int) : runG Try.prog (SE true false) 50 27 [] (startS Try.f27 [.ptr (.own 0) 0 []] ((rd0 N f e).map some)) .ret 2 [some (.own 0), some (.own 1)] 20 [(2, .int .i64 (endV N e))] ((rd0 N f e).map some) = some (some ((en2_G N f e))) := by kernel_rfl
--@]
--@gen en3 (N : Nat) (f : Nat → Int) (e : Int) := runG Try.prog (SE false false) 50 27 [] (startS Try.f27 [.ptr (.own 0) 0 []] ((rd0 N f e).map some)) .ret 2 [some (.own 0), some (.own 1)] 20 [(2, .int .i64 (endV N e))] ((rd0 N f e).map some)
--@[
def en3_G (N : Nat) (f : Nat → Int) (e : Int) : Prop := (e == (0 : Int)) = false ∧   e = endV N e ∧     (N = N ∧ e = e) ∧       (N = N ∧ ∀ (i : Nat), i < N → Same (A := Empty) [LV.int IntKind.u8 (f i)] [LV.int IntKind.u8 (f i)]) ∧         ∀ (i : Nat), plainL (A := Empty) [LV.int IntKind.u8 (f i)]
set_option maxRecDepth 100000 in
theorem en3 (N : Nat) (f : Nat → Int) (e : Int) : runG Try.prog (SE false false) 50 27 [] (startS Try.f27 [.ptr (.own 0) 0 []] ((rd0 N f e).map some)) .ret 2 [some (.own 0), some (.own 1)] 20 [(2, .int .i64 (endV N e))] ((rd0 N f e).map some) = some (some ((en3_G N f e))) := by kernel_rfl
--@]
--@gen er (N : Nat) (f : Nat → Int) (e : Int) := runG Try.prog (SE false false) 50 39 [] (startS Try.f39 [.ptr (.own 0) 0 []] ((rd0 N f e).map some)) .ret 2 [some (.own 0), some (.own 1)] 7 [(2, .int .i64 e)] ((rd0 N f e).map some)
--@[
def er_G (N : Nat) (f : Nat → Int) (e : Int) : Prop := e = e ∧   (N = N ∧ e = e) ∧     (N = N ∧ ∀ (i : Nat), i < N → Same (A := Empty) [LV.int IntKind.u8 (f i)] [LV.int IntKind.u8 (f i)]) ∧       ∀ (i : Nat), plainL (A := Empty) [LV.int IntKind.u8 (f i)]
set_option maxRecDepth 100000 in
theorem er (N : Nat) (f : Nat → Int) (e : Int) : runG Try.prog (SE false false) 50 39 [] (startS Try.f39 [.ptr (.own 0) 0 []] ((rd0 N f e).map some)) .ret 2 [some (.own 0), some (.own 1)] 7 [(2, .int .i64 e)] ((rd0 N f e).map some) = some (some ((er_G N f e))) := by kernel_rfl
--@]
theorem end_toldW (N : Nat) (f : Nat → Int) (e : Int) : ToldW Try.prog 27 [] (rd0 N f e) [.ptr (.own 0) 0 []] (.int .i64 (endV N e)) (rd0 N f e) := by
  refine toldW_body (fn := Try.f27) rfl rfl (.inr rfl) (B := 2) (nn := 20) (l := [(2, .int .i64 (endV N e))]) (cs := []) ?_ rfl rfl
  by_cases he : e = 0
  · by_cases hn : 0 < N
    · refine ExB.auto (SE_ok _ _) noI_ok rfl mixed 50 _ (en1 N f e) ?_
      simp only [condOk, en1_G, endV, he, hn, and_self, if_true]
      (and_intros <;> first | exact True.intro | omega | exact fun _ => ⟨trivial, trivial⟩ | exact fun _ _ => Same.refl _ | exact fun _ _ => Like.refl _ | (simp (disch := omega) only [true_and, and_true, Nat.beq_refl, Bool.true_and, decide_eq_true_eq, decide_eq_false_iff_not, beq_iff_eq, bne_iff_ne, beq_eq_false_iff_ne, bne_eq_false_iff_eq, ne_eq, Nat.blt_eq, Nat.ble_eq, Nat.beq_eq, Bool.and_eq_true, Bool.or_eq_true, IntKind.wrap_i64, IntKind.wrap_u64, IntKind.wrap_u8, IntKind.wrap_u32, Int.tdiv_eq_ediv_of_nonneg, Int.tmod_eq_emod_of_nonneg] <;> omega) | rfl | trivial)
    · refine ExB.auto (SE_ok _ _) noI_ok rfl mixed 50 _ (en2 N f e) ?_
      simp only [condOk, en2_G, endV, he, hn, and_false, if_false]
      (and_intros <;> first | exact True.intro | omega | exact fun _ => ⟨trivial, trivial⟩ | exact fun _ _ => Same.refl _ | exact fun _ _ => Like.refl _ | (simp (disch := omega) only [true_and, and_true, Nat.beq_refl, Bool.true_and, decide_eq_true_eq, decide_eq_false_iff_not, beq_iff_eq, bne_iff_ne, beq_eq_false_iff_ne, bne_eq_false_iff_eq, ne_eq, Nat.blt_eq, Nat.ble_eq, Nat.beq_eq, Bool.and_eq_true, Bool.or_eq_true, IntKind.wrap_i64, IntKind.wrap_u64, IntKind.wrap_u8, IntKind.wrap_u32, Int.tdiv_eq_ediv_of_nonneg, Int.tmod_eq_emod_of_nonneg] <;> omega) | rfl | trivial)
  · refine ExB.auto (SE_ok _ _) noI_ok rfl mixed 50 _ (en3 N f e) ?_
    simp only [condOk, en3_G, endV, he, false_and, if_false]
    (and_intros <;> first | exact True.intro | omega | exact fun _ => ⟨trivial, trivial⟩ | exact fun _ _ => Same.refl _ | exact fun _ _ => Like.refl _ | (simp (disch := omega) only [true_and, and_true, Nat.beq_refl, Bool.true_and, decide_eq_true_eq, decide_eq_false_iff_not, beq_iff_eq, bne_iff_ne, beq_eq_false_iff_ne, bne_eq_false_iff_eq, ne_eq, Nat.blt_eq, Nat.ble_eq, Nat.beq_eq, Bool.and_eq_true, Bool.or_eq_true, IntKind.wrap_i64, IntKind.wrap_u64, IntKind.wrap_u8, IntKind.wrap_u32, Int.tdiv_eq_ediv_of_nonneg, Int.tmod_eq_emod_of_nonneg] <;> omega) | rfl | trivial)
theorem err_toldW (N : Nat) (f : Nat → Int) (e : Int) : ToldW Try.prog 39 [] (rd0 N f e) [.ptr (.own 0) 0 []] (.int .i64 e) (rd0 N f e) := by
  refine toldW_body (fn := Try.f39) rfl rfl (.inr rfl) (B := 2) (nn := 7) (l := [(2, .int .i64 e)]) (cs := []) ?_ rfl rfl
  refine ExB.auto (SE_ok _ _) noI_ok rfl mixed 50 _ (er N f e) ?_
  simp only [condOk, er_G]
  (and_intros <;> first | exact True.intro | omega | exact fun _ => ⟨trivial, trivial⟩ | exact fun _ _ => Same.refl _ | exact fun _ _ => Like.refl _ | (simp (disch := omega) only [true_and, and_true, Nat.beq_refl, Bool.true_and, decide_eq_true_eq, decide_eq_false_iff_not, beq_iff_eq, bne_iff_ne, beq_eq_false_iff_ne, bne_eq_false_iff_eq, ne_eq, Nat.blt_eq, Nat.ble_eq, Nat.beq_eq, Bool.and_eq_true, Bool.or_eq_true, IntKind.wrap_i64, IntKind.wrap_u64, IntKind.wrap_u8, IntKind.wrap_u32, Int.tdiv_eq_ediv_of_nonneg, Int.tmod_eq_emod_of_nonneg] <;> omega) | rfl | trivial)
set_option maxRecDepth 100000 in
theorem ent27 : ∀ args w, (callFunc 27 args).run Try.prog w = .ok (.enter 27 args) w := ent_of (f := 27) (P := Try.prog) rfl rfl rfl
set_option maxRecDepth 100000 in
theorem ent39 : ∀ args w, (callFunc 39 args).run Try.prog w = .ok (.enter 39 args) w := ent_of (f := 39) (P := Try.prog) rfl rfl rfl
noncomputable def endS : Spec Try.prog Empty 27 where
  X := Nat × (Nat → Int) × Int
  us _ := []
  bls0 x := rd0 x.1 x.2.1 x.2.2
  args x := [.ptr (.own 0) 0 []]
  v x := .int .i64 (endV x.1 x.2.2)
  bls1 x := rd0 x.1 x.2.1 x.2.2
  c x := True
  told x h := end_toldW x.1 x.2.1 x.2.2
  ov _ := trivial
  ob x b hb := by
    simp only [rd0, List.mem_cons, List.not_mem_nil, or_false] at hb
    rcases hb with rfl | rfl
    · exact rd_ownly ..
    · exact ro_ownly ..
noncomputable def pickR1 (I : Inp Empty) (vs : List (LV Empty)) (mem : Mem Empty) : Option ((Nat × (Nat → Int) × Int) × List Nat × List Key) := match vs with
  | [p] => match pickRd mem p with
    | some (r, d, N, f, e) => some ((N, f, e), [r, d], [])
    | none => none
  | _ => none
noncomputable def conREnd : ConC Try.prog Empty := endS.con ent27 pickR1
noncomputable def errS : Spec Try.prog Empty 39 where
  X := Nat × (Nat → Int) × Int
  us _ := []
  bls0 x := rd0 x.1 x.2.1 x.2.2
  args x := [.ptr (.own 0) 0 []]
  v x := .int .i64 x.2.2
  bls1 x := rd0 x.1 x.2.1 x.2.2
  c x := True
  told x h := err_toldW x.1 x.2.1 x.2.2
  ov _ := trivial
  ob x b hb := by
    simp only [rd0, List.mem_cons, List.not_mem_nil, or_false] at hb
    rcases hb with rfl | rfl
    · exact rd_ownly ..
    · exact ro_ownly ..
noncomputable def conRErr : ConC Try.prog Empty := errS.con ent39 pickR1

/-! ## a new one -/
noncomputable abbrev SN (n : Nat) (f : Nat → Int) : Sig Empty := sigOf (P := Try.prog) [] [] [] (I := inB n f) [] noMs { advE false false with rc := fun _ _ _ => true }
theorem SN_ok (n : Nat) (f : Nat → Int) : SigOk Try.prog (SN n f) := sigOf_ok [] [] [] [] (noMs_ok _) _ (inB_ok n f)
--@gen nr (n : Nat) (f : Nat → Int) := runG Try.prog (SN n f) 50 25 [] (startS Try.f25 [.vec (.inp 0 0) n] ([].map some)) .ret 0 [some (.own 1), some (.own 0)] 7 [(2, .ptr (.own 0) 0 [])] ([rdB 1 n 0, ⟨.row 5, bytesU n f⟩].map some)
--@[
def nr_G (n : Nat) (f : Nat → Int) : Prop := (Nat.ble n n = true ∧ Nat.ble (n * 1) ((2 : Nat) ^ (47 : Nat)) = true) ∧   (n = n ∧ (0 : Int) = (0 : Int)) ∧     (n = n ∧ ∀ (i : Nat), i < n → Same (A := Empty) [LV.int IntKind.u8 (f i)] [LV.int IntKind.u8 (f i)]) ∧       ∀ (i : Nat), plainL (A := Empty) [LV.int IntKind.u8 (f i)]
set_option maxRecDepth 100000 in
theorem nr (n : Nat) (f : Nat → Int) : runG Try.prog (SN n f) 50 25 [] (startS Try.f25 [.vec (.inp 0 0) n] ([].map some)) .ret 0 [some (.own 1), some (.own 0)] 7 [(2, .ptr (.own 0) 0 [])] ([rdB 1 n 0, ⟨.row 5, bytesU n f⟩].map some) = some (some ((nr_G n f))) := by kernel_rfl
--@]
theorem new_toldW (n : Nat) (f : Nat → Int) (h : n ≤ 2 ^ 46) : ToldW Try.prog 25 [bytesU n f] [] [.vec (.inp 0 0) n] (.ptr (.own 0) 0 []) [rdB 1 n 0, ⟨.row 5, bytesU n f⟩] := by
  refine toldW_body (fn := Try.f25) rfl rfl (.inr rfl) (B := 0) (nn := 7) (l := [(2, .ptr (.own 0) 0 [])]) (cs := []) ?_ rfl rfl
  refine ExB.auto (SN_ok _ _) (inB_ok n f) rfl mixed 50 _ (nr n f) ?_
  simp only [condOk, nr_G]
  (and_intros <;> first | exact True.intro | omega | exact fun _ => ⟨trivial, trivial⟩ | exact fun _ _ => Same.refl _ | exact fun _ _ => Like.refl _ | (simp (disch := omega) only [true_and, and_true, Nat.beq_refl, Bool.true_and, decide_eq_true_eq, decide_eq_false_iff_not, beq_iff_eq, bne_iff_ne, beq_eq_false_iff_ne, bne_eq_false_iff_eq, ne_eq, Nat.blt_eq, Nat.ble_eq, Nat.beq_eq, Bool.and_eq_true, Bool.or_eq_true, IntKind.wrap_i64, IntKind.wrap_u64, IntKind.wrap_u8, IntKind.wrap_u32, Int.tdiv_eq_ediv_of_nonneg, Int.tmod_eq_emod_of_nonneg] <;> omega) | rfl | trivial)
set_option maxRecDepth 100000 in
theorem ent25 : ∀ args w, (callFunc 25 args).run Try.prog w = .ok (.enter 25 args) w := ent_of (f := 25) (P := Try.prog) rfl rfl rfl
noncomputable def newS : Spec Try.prog Empty 25 where
  X := Nat × (Nat → Int)
  us x := [bytesU x.1 x.2]
  bls0 _ := []
  args x := [.vec (.inp 0 0) x.1]
  v x := .ptr (.own 0) 0 []
  bls1 x := [rdB 1 x.1 0, ⟨.row 5, bytesU x.1 x.2⟩]
  c x := x.1 ≤ 2 ^ 46
  told x h := new_toldW x.1 x.2 h
  ov _ := ⟨0, rfl⟩
  ob x b hb := by
    simp only [List.mem_cons, List.not_mem_nil, or_false] at hb
    rcases hb with rfl | rfl
    · exact rd_ownly ..
    · exact by_ownly ..
/-- Bytes that a slice names. -/
def pickBy (I : Inp Empty) (mem : Mem Empty) : LV Empty → Option (Key × Nat × (Nat → Int))
  | .vec k n => match at? I mem k with
    | some ⟨_, [.rows _ _ g]⟩ => some (k, n, fun j => byteOf (g j))
    | _ => none
  | _ => none
noncomputable def conNew : ConC Try.prog Empty := newS.con ent25 fun I vs mem => match vs with
  | [p] => match pickBy I mem p with
    | some (k, n, f) => some ((n, f), [], [k])
    | none => none
  | _ => none
end Go.Proofs.Ytjhjockdkpgpeaa.En
