/- DERIVED. Calls that read what they are handed and answer with new blocks: contracts out of what they do to a little memory. -/
import Derived.Test.YtjhjockdkpgpeaaVSN
set_option linter.all false
namespace Go.Proofs.Ytjhjockdkpgpeaa.En
open Go Go.RowKit

section
variable {A : Type} [Ab A] {P : Program}

mutual
/-- No block is named. -/
def LV.plain : LV A → Prop
  | .ptr _ _ _ => False
  | .slice _ _ _ _ _ => False
  | .vec _ _ => False
  | .rows _ _ f => ∀ i, plainL (f i)
  | .agg us => plainL us
  | .tup vs => plainL vs
  | .iface _ v => LV.plain v
  | .func _ caps => plainL caps
  | _ => True
def plainL : List (LV A) → Prop
  | [] => True
  | v :: l => LV.plain v ∧ plainL l
end
mutual
theorem plain_ren (τ : Key → Option Key) (q : Key → Prop) : ∀ v : LV A, v.plain → v.ren τ = v ∧ v.fit τ q
  | .ptr _ _ _, h => h.elim
  | .slice _ _ _ _ _, h => h.elim
  | .vec _ _, h => h.elim
  | .rows n z f, h => by
    refine ⟨?_, fun i => (plainL_ren τ q (f i) (h i)).2⟩
    have : (fun i => renL τ (f i)) = f := funext fun i => (plainL_ren τ q (f i) (h i)).1
    simp only [LV.ren, this]
  | .agg us, h => ⟨by simp only [LV.ren, (plainL_ren τ q us h).1], (plainL_ren τ q us h).2⟩
  | .tup vs, h => ⟨by simp only [LV.ren, (plainL_ren τ q vs h).1], (plainL_ren τ q vs h).2⟩
  | .iface t v, h => ⟨by simp only [LV.ren, (plain_ren τ q v h).1], (plain_ren τ q v h).2⟩
  | .func f caps, h => ⟨by simp only [LV.ren, (plainL_ren τ q caps h).1], (plainL_ren τ q caps h).2⟩
  | .any, _ => ⟨rfl, trivial⟩
  | .undef, _ => ⟨rfl, trivial⟩
  | .int _ _, _ => ⟨rfl, trivial⟩
  | .bool _, _ => ⟨rfl, trivial⟩
  | .str _, _ => ⟨rfl, trivial⟩
  | .nilp, _ => ⟨rfl, trivial⟩
  | .nils, _ => ⟨rfl, trivial⟩
  | .nilfn, _ => ⟨rfl, trivial⟩
  | .niliface, _ => ⟨rfl, trivial⟩
  | .abs _, _ => ⟨rfl, trivial⟩
theorem plainL_ren (τ : Key → Option Key) (q : Key → Prop) : ∀ l : List (LV A), plainL l → renL τ l = l ∧ fitL τ q l
  | [], _ => ⟨rfl, trivial⟩
  | v :: l, h => ⟨by simp only [renL, (plain_ren τ q v h.1).1, (plainL_ren τ q l h.2).1], (plain_ren τ q v h.1).2, (plainL_ren τ q l h.2).2⟩
end
mutual
theorem plain_kin (p : Key → Nat → Prop) : ∀ v : LV A, v.plain → v.kin p
  | .ptr _ _ _, h => h.elim
  | .slice _ _ _ _ _, h => h.elim
  | .vec _ _, h => h.elim
  | .rows n z f, h => fun i => plainL_kin p (f i) (h i)
  | .agg us, h => plainL_kin p us h
  | .tup vs, h => plainL_kin p vs h
  | .iface t v, h => plain_kin p v h
  | .func f caps, h => plainL_kin p caps h
  | .any, _ => trivial
  | .undef, _ => trivial
  | .int _ _, _ => trivial
  | .bool _, _ => trivial
  | .str _, _ => trivial
  | .nilp, _ => trivial
  | .nils, _ => trivial
  | .nilfn, _ => trivial
  | .niliface, _ => trivial
  | .abs _, _ => trivial
theorem plainL_kin (p : Key → Nat → Prop) : ∀ l : List (LV A), plainL l → kinL p l
  | [], _ => trivial
  | v :: l, h => ⟨plain_kin p v h.1, plainL_kin p l h.2⟩
end
mutual
theorem plain_alien : ∀ v : LV A, v.plain → v.alien
  | .ptr _ _ _, h => h.elim
  | .slice _ _ _ _ _, h => h.elim
  | .vec _ _, h => h.elim
  | .rows n z f, h => fun i => plainL_alien (f i) (h i)
  | .agg us, h => plainL_alien us h
  | .tup vs, h => plainL_alien vs h
  | .iface t v, h => plain_alien v h
  | .func f caps, h => plainL_alien caps h
  | .any, _ => trivial
  | .undef, _ => trivial
  | .int _ _, _ => trivial
  | .bool _, _ => trivial
  | .str _, _ => trivial
  | .nilp, _ => trivial
  | .nils, _ => trivial
  | .nilfn, _ => trivial
  | .niliface, _ => trivial
  | .abs _, _ => trivial
theorem plainL_alien : ∀ l : List (LV A), plainL l → alienL l
  | [], _ => trivial
  | v :: l, h => ⟨plain_alien v h.1, plainL_alien l h.2⟩
end

/-- Blocks that came in: one family. -/
def inOf (us : List (List (LV A))) : Inp A
  | 0, i => us.getD i []
  | _ + 1, _ => []
theorem inOf_ok {us : List (List (LV A))} (h : ∀ l ∈ us, plainL l) : InpOk (inOf us) := by
  intro x y
  cases x with
  | succ x => trivial
  | zero =>
    show alienL (us.getD y [])
    rw [List.getD_eq_getElem?_getD]
    cases hy : us[y]? with
    | none => trivial
    | some l => exact plainL_alien l (h l (List.mem_of_getElem? hy))

/-- What a call does that is handed blocks to read: it answers v, with new blocks. -/
def Told (P : Program) (f : FuncId) (us : List (List (LV A))) (args : List (LV A)) (v : LV A) (bls : List (Blk A)) : Prop :=
  ∀ (D : Dom) (ρ : Key → Loc) (w : World), Ahead (inOf us) D ρ [] args w →
    Calls P f (trs ρ args).toArray w fun e w' => ∃ ρ1, e = .returned (LV.tr ρ1 v) ∧ Left' (inOf us) D w [] ρ ρ1 (bls.map some) v w'

/-- Such a call, in whatever memory. -/
structure RdC (A : Type) where
  us : List (List (LV A))
  ks : List Key
  args : List (LV A)
  v : LV A
  bls : List (Blk A)
  c : Prop
def ιOf (ks : List Key) (x y : Nat) : Option Key := match x with
  | 0 => ks[y]?
  | _ + 1 => none
def RdC.out (n : Nat) (mem : Mem A) (r : RdC A) : LV A × Mem A × Cnd :=
  (r.v.ren (keyMap' n [] (ιOf r.ks)), mem ++ renM (keyMap' n [] (ιOf r.ks)) (r.bls.map some), some r.c)
structure RdOk (P : Program) (f : FuncId) (I : Inp A) (vs : List (LV A)) (mem : Mem A) (r : RdC A) : Prop where
  args : renL (keyMap [] (ιOf r.ks)) r.args = vs
  fit : fitL (keyMap [] (ιOf r.ks)) (there ([] : Mem A)) r.args
  len : r.ks.length = r.us.length
  blk : ∀ (j : Nat) k us, r.ks[j]? = some k → r.us[j]? = some us → ∃ bl, at? I mem k = some bl ∧ isDead bl.kd = false ∧ plainL us ∧ Like bl.us us
  told : Told P f r.us r.args r.v r.bls
  fitv : r.v.fit (keyMap' mem.length [] (ιOf r.ks)) (fun _ => True)
  fitb : ∀ b ∈ r.bls, fitL (keyMap' mem.length [] (ιOf r.ks)) (fun _ => True) b.us ∧ isRo b.kd = false

theorem rd_call [LawAb A] {f : FuncId} {I : Inp A} {vs : List (LV A)} {mem : Mem A} {r : RdC A} (h : RdOk P f I vs mem r) {D : Dom} {ρ : Key → Loc} {w : World} (ha : Ahead I D ρ mem vs w) :
    Calls P f (trs ρ vs).toArray w fun e w' => ∃ ρ', e = .returned (LV.tr ρ' (r.v.ren (keyMap' mem.length [] (ιOf r.ks)))) ∧ Left' I D w mem ρ ρ' (mem ++ renM (keyMap' mem.length [] (ιOf r.ks)) (r.bls.map some)) (r.v.ren (keyMap' mem.length [] (ιOf r.ks))) w' := by
  rw [← h.args] at ha ⊢
  refine frame_call (I0 := inOf r.us) (σs := []) (mem0 := []) (mem1 := r.bls.map some) h.told ?_ (fun i j k hi => by simp at hi) rfl (fun j hj => absurd hj (Nat.not_lt_zero j)) h.fit (Nat.zero_le _) (fun j hj => absurd hj (Nat.not_lt_zero j)) ?_ h.fitv (.inl ?_) ha
  · refine ⟨fun j b0 hb => by simp at hb, fun x y => ?_, fun j k' b0 hb => by simp at hb⟩
    cases x with
    | succ x => exact .inl ⟨rfl, rfl⟩
    | zero =>
      rcases Nat.lt_or_ge y r.ks.length with hy | hy
      · have h1 := List.getElem?_eq_getElem hy
        have h2 := List.getElem?_eq_getElem (show y < r.us.length by rw [← h.len]; exact hy)
        obtain ⟨bl, h3, h4, h5, h6⟩ := h.blk y _ _ h1 h2
        have e : inOf r.us 0 y = r.us[y]'(by rw [← h.len]; exact hy) := by simp [inOf, List.getD_eq_getElem?_getD, h2]
        refine .inr ⟨_, bl, h1, h3, h4, ?_, ?_⟩
        · rw [e]; exact (plainL_ren _ _ _ h5).2
        · rw [e, (plainL_ren _ (fun _ => True) _ h5).1]; exact h6
      · refine .inl ⟨List.getElem?_eq_none hy, ?_⟩
        have : r.us[y]? = none := List.getElem?_eq_none (by rw [← h.len]; exact hy)
        simp [inOf, List.getD_eq_getElem?_getD, this]
  · intro j b1 hb
    rw [List.getElem?_map, Option.map_eq_some_iff] at hb
    obtain ⟨b, h1, h2⟩ := hb
    cases h2
    exact (h.fitb b1 (List.mem_of_getElem? h1)).1
  · intro j b1 hb
    rw [List.getElem?_map, Option.map_eq_some_iff] at hb
    obtain ⟨b, h1, h2⟩ := hb
    cases h2
    exact (h.fitb b1 (List.mem_of_getElem? h1)).2

/-- A contract of a call that reads. -/
def conRd [LawAb A] (f : FuncId) (ent : ∀ args w, (callFunc f args).run P w = .ok (.enter f args) w) (fn : Inp A → List (LV A) → Mem A → Option (RdC A))
    (ok : ∀ I vs mem r, fn I vs mem = some r → r.c → RdOk P f I vs mem r) : ConC P A where
  f := f
  fn I vs mem := match fn I vs mem with
    | some r => some (r.out mem.length mem)
    | none => none
  ent := ent
  grow I vs mem v mem' c h := by
    split at h
    · cases h
      refine ⟨by simp [renM], fun k hk => ?_⟩
      rw [List.getElem?_append_left hk]
    · cases h
  call I hI vs mem v mem' c h hc D ρ w ha := by
    split at h
    · rename_i r hr
      cases h
      exact rd_call (ok I vs mem r hr hc) ha
    · cases h

/-! ## what a block says of itself -/
/-- Elements of a kind. -/
structure Elt (A : Type) [Ab A] where
  X : Type
  z : Nat
  of : X → List (LV A)
  to : List (LV A) → X
  plain : ∀ x, plainL (of x)
abbrev Elt.us (s : Elt A) (n : Nat) (f : Nat → s.X) : List (LV A) := [.rows n s.z fun j => s.of (f j)]
theorem Elt.plain_us (s : Elt A) (n : Nat) (f : Nat → s.X) : plainL (s.us n f) := ⟨fun _ => s.plain _, trivial⟩
structure Arr (s : Elt A) where
  k : Key
  n : Nat
  f : Nat → s.X
  c : Prop
def Elt.arr (s : Elt A) (I : Inp A) (mem : Mem A) : LV A → Option (Arr s)
  | .vec k n => match at? I mem k with
    | some bl => match isDead bl.kd, bl.us with
      | false, [.rows n' z' g] => match Nat.beq z' s.z with
        | true => some ⟨k, n, fun j => s.to (g j), n' = n ∧ ∀ j, j < n → Like (g j) (s.of (s.to (g j)))⟩
        | false => none
      | _, _ => none
    | none => none
  | _ => none
theorem Elt.arr_spec {s : Elt A} {I : Inp A} {mem : Mem A} {v : LV A} {a : Arr s} (h : s.arr I mem v = some a) (hc : a.c) :
    v = .vec a.k a.n ∧ ∃ bl, at? I mem a.k = some bl ∧ isDead bl.kd = false ∧ plainL (s.us a.n a.f) ∧ Like bl.us (s.us a.n a.f) := by
  unfold Elt.arr at h
  split at h
  · split at h
    · rename_i bl hb
      split at h
      · rename_i hd hu
        split at h
        · rename_i hz
          cases h
          obtain ⟨rfl, h2⟩ := hc
          rw [beqN hz] at hu
          refine ⟨rfl, bl, hb, hd, s.plain_us _ _, ?_⟩
          rw [hu]
          exact Like.rows h2 fun i _ p _ => plainL_kin p _ (s.plain _)
        · cases h
      · cases h
    · cases h
  · cases h

def boolOf : List (LV A) → Bool
  | [.bool x] => x
  | _ => false
def intS (k : IntKind) : Elt A := ⟨Int, 1, fun x => [.int k x], byteOf, fun _ => ⟨trivial, trivial⟩⟩
def boolS : Elt A := ⟨Bool, 1, fun x => [.bool x], boolOf, fun _ => ⟨trivial, trivial⟩⟩
/-- Arrays of so many numbers. -/
def numsOf (us : List (LV A)) (j : Nat) : Int := match us with
  | [.rows _ _ g] => byteOf (g j)
  | us => match us[j]? with
    | some u => byteOf [u]
    | none => 0
def arrS (k : IntKind) (z : Nat) : Elt A := ⟨Nat → Int, z, fun x => [.rows z 1 fun j => [.int k (x j)]], numsOf, fun _ => ⟨fun _ => ⟨trivial, trivial⟩, trivial⟩⟩
/-! ## one or two blocks to read -/
/-- The value and the blocks that come out: nothing of what came in. -/
structure Fresh' (v : LV A) (bls : List (Blk A)) : Prop where
  v : ∀ n ι, v.fit (keyMap' n [] ι) (fun _ => True)
  b : ∀ b ∈ bls, (∀ n ι, fitL (keyMap' n [] ι) (fun _ => True) b.us) ∧ isRo b.kd = false
theorem Fresh'.plain {v : LV A} (h : v.plain) : Fresh' v [] := ⟨fun _ _ => (plain_ren _ _ v h).2, fun b hb => absurd hb List.not_mem_nil⟩
theorem Fresh'.vec {n : Nat} {b : Blk A} (h : plainL b.us) (hb : isRo b.kd = false) : Fresh' (.vec (.own 0) n : LV A) [b] :=
  ⟨fun m ι => ⟨fun e => by simp [keyMap'] at e, trivial⟩, fun x hx => by
    rw [List.mem_singleton] at hx
    subst hx
    exact ⟨fun m ι => (plainL_ren _ _ _ h).2, hb⟩⟩

def rd1 (s : Elt A) (v : Nat → (Nat → s.X) → LV A) (bls : Nat → (Nat → s.X) → List (Blk A)) (c : Nat → (Nat → s.X) → Prop) (I : Inp A) (vs : List (LV A)) (mem : Mem A) : Option (RdC A) := match vs with
  | [x] => match s.arr I mem x with
    | some a => some ⟨[s.us a.n a.f], [a.k], [.vec (.inp 0 0) a.n], v a.n a.f, bls a.n a.f, a.c ∧ c a.n a.f⟩
    | none => none
  | _ => none
theorem rd1_ok [LawAb A] {s : Elt A} {v : Nat → (Nat → s.X) → LV A} {bls : Nat → (Nat → s.X) → List (Blk A)} {c : Nat → (Nat → s.X) → Prop} {f : FuncId}
    (told : ∀ n g, c n g → Told P f [s.us n g] [.vec (.inp 0 0) n] (v n g) (bls n g)) (fr : ∀ n g, Fresh' (v n g) (bls n g)) :
    ∀ I vs mem r, rd1 s v bls c I vs mem = some r → r.c → RdOk P f I vs mem r := by
  intro I vs mem r h hc
  unfold rd1 at h
  split at h
  · rename_i x
    split at h
    · rename_i a ha
      cases h
      obtain ⟨h1, h2⟩ := hc
      obtain ⟨rfl, bl, h3, h4, h5, h6⟩ := Elt.arr_spec ha h1
      exact {
        args := rfl
        fit := ⟨⟨fun e => by simp [keyMap, ιOf] at e, trivial⟩, trivial⟩
        len := rfl
        blk := fun j k us hk hu => by
          match j with
          | 0 => cases hk; cases hu; exact ⟨bl, h3, h4, h5, h6⟩
          | j + 1 => simp at hk
        told := told _ _ h2
        fitv := (fr _ _).v _ _
        fitb := fun b hb => ⟨((fr _ _).b b hb).1 _ _, ((fr _ _).b b hb).2⟩ }
    · cases h
  · cases h

def rd2 (s t : Elt A) (v : Nat → (Nat → s.X) → Nat → (Nat → t.X) → LV A) (bls : Nat → (Nat → s.X) → Nat → (Nat → t.X) → List (Blk A)) (c : Nat → (Nat → s.X) → Nat → (Nat → t.X) → Prop) (I : Inp A) (vs : List (LV A)) (mem : Mem A) : Option (RdC A) := match vs with
  | [x, y] => match s.arr I mem x, t.arr I mem y with
    | some a, some b => some ⟨[s.us a.n a.f, t.us b.n b.f], [a.k, b.k], [.vec (.inp 0 0) a.n, .vec (.inp 0 1) b.n], v a.n a.f b.n b.f, bls a.n a.f b.n b.f, a.c ∧ b.c ∧ c a.n a.f b.n b.f⟩
    | _, _ => none
  | _ => none
theorem rd2_ok [LawAb A] {s t : Elt A} {v : Nat → (Nat → s.X) → Nat → (Nat → t.X) → LV A} {bls : Nat → (Nat → s.X) → Nat → (Nat → t.X) → List (Blk A)} {c : Nat → (Nat → s.X) → Nat → (Nat → t.X) → Prop} {f : FuncId}
    (told : ∀ n g m h, c n g m h → Told P f [s.us n g, t.us m h] [.vec (.inp 0 0) n, .vec (.inp 0 1) m] (v n g m h) (bls n g m h)) (fr : ∀ n g m h, Fresh' (v n g m h) (bls n g m h)) :
    ∀ I vs mem r, rd2 s t v bls c I vs mem = some r → r.c → RdOk P f I vs mem r := by
  intro I vs mem r h hc
  unfold rd2 at h
  split at h
  · rename_i x y
    split at h
    · rename_i a b ha hb
      cases h
      obtain ⟨h1, h1', h2⟩ := hc
      obtain ⟨rfl, bl, h3, h4, h5, h6⟩ := Elt.arr_spec ha h1
      obtain ⟨rfl, bl', h3', h4', h5', h6'⟩ := Elt.arr_spec hb h1'
      exact {
        args := rfl
        fit := ⟨⟨fun e => by simp [keyMap, ιOf] at e, trivial⟩, ⟨fun e => by simp [keyMap, ιOf] at e, trivial⟩, trivial⟩
        len := rfl
        blk := fun j k us hk hu => by
          match j with
          | 0 => cases hk; cases hu; exact ⟨bl, h3, h4, h5, h6⟩
          | 1 => cases hk; cases hu; exact ⟨bl', h3', h4', h5', h6'⟩
          | j + 2 => simp at hk
        told := told _ _ _ _ h2
        fitv := (fr _ _ _ _).v _ _
        fitb := fun b hb => ⟨((fr _ _ _ _).b b hb).1 _ _, ((fr _ _ _ _).b b hb).2⟩ }
    · cases h
  · cases h
/-- Out of the executor. -/
theorem told_of [LawAb A] [LawEq A] {S : Sig A} (hS : SigOk P S) (hm : P.follows .mixedOrders = true) {n : Nat} {f : FuncId} {us : List (List (LV A))} (hI : S.inp = inOf us) {args : List (LV A)} {v : LV A} {bls : List (Blk A)} {c : Cnd}
    (h : callF P S n f args [] = some (v, bls.map some, c)) (hc : condOk c) : Told P f us args v bls := by
  intro D ρ w ha
  have := callF_sound hS hm h hc (Own := D) (ρ := ρ) (w := w) (by rw [hI]; exact ha)
  rw [hI] at this
  exact this
end
end Go.Proofs.Ytjhjockdkpgpeaa.En
