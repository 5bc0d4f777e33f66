/- DERIVED. Short ways to say that one state says the same as another. -/
import Derived.Test.YtjhjockdkpgpeaaVSO
set_option linter.all false
namespace Go.Proofs.Ytjhjockdkpgpeaa.En
open Go Go.RowKit

section
variable {A : Type} [Ab A] {P : Program} {I : Inp A}

/-! ## the same cells -/
def Same (us us' : List (LV A)) : Prop := ∀ ρ, cellsL ρ us = cellsL ρ us'
theorem Same.refl (us : List (LV A)) : Same us us := fun _ => rfl
theorem Same.of_eq {us us' : List (LV A)} (h : us = us') : Same us us' := fun _ => by rw [h]
theorem Same.trans {a b c : List (LV A)} (h : Same a b) (k : Same b c) : Same a c := fun ρ => (h ρ).trans (k ρ)
theorem Same.like {us us' : List (LV A)} (h : Same us us') (hp : plainL us') : Like us us' := Like.of_cells h fun p => plainL_kin p _ hp
theorem Same.mrg {c : Bool} {a b us : List (LV A)} (h1 : c = true → Same a us) (h2 : c = false → Same b us) : Same (mrgR c a b) us := by
  intro ρ
  rw [mrgR_sound]
  cases c with
  | true => exact h1 rfl ρ
  | false => exact h2 rfl ρ
theorem Same.lt {i n : Nat} {a b us : List (LV A)} (h1 : i < n → Same a us) (h2 : ¬ i < n → Same b us) : Same (mrgR (Nat.blt i n) a b) us :=
  Same.mrg (fun h => h1 (bltN h)) fun h => h2 fun hh => by rw [ltB hh] at h; cases h
theorem Same.at {i n : Nat} {a b us : List (LV A)} (h1 : i = n → Same a us) (h2 : i ≠ n → Same b us) : Same (mrgR (Nat.beq i n) a b) us :=
  Same.mrg (fun h => h1 (beqN h)) fun h => h2 fun hh => by rw [hh, Nat.beq_refl] at h; cases h
theorem Same.rows {n n' z : Nat} {f g : Nat → List (LV A)} (hn : n = n') (h : ∀ i, i < n → Same (f i) (g i)) : Same [.rows n z f] [.rows n' z g] := by
  subst hn
  exact fun ρ => cells_rows_congr ρ fun i hi => h i hi ρ
theorem Same.cons {u u' : LV A} {us us' : List (LV A)} (h : Same [u] [u']) (k : Same us us') : Same (u :: us) (u' :: us') := by
  intro ρ
  have h1 := h ρ
  simp only [cellsL, List.append_nil] at h1
  simp only [cellsL, h1, k ρ]
theorem Same.int {k : IntKind} {x y : Int} (h : x = y) : Same (A := A) [.int k x] [.int k y] := by subst h; exact Same.refl _
theorem Same.bool {x y : Bool} (h : x = y) : Same (A := A) [.bool x] [.bool y] := by subst h; exact Same.refl _
theorem Same.getD {n j : Nat} {x d us : List (LV A)} (hj : j < n) (h : Same x us) : Same ((List.replicate n x).getD j d) us := by
  rw [rep_getD x d hj]; exact h

/-! ## what is told of a run -/
/-- The names of the blocks that a state tells of. -/
def σL (l : List (Option Key)) (j : Nat) : Option Key := match l[j]? with
  | some x => x
  | none => none
def TmpsFit (T : List (LV A)) (σ : Nat → Option Key) (q : Key → Prop) : List (Nat × LV A) → Prop
  | [] => True
  | p :: l => (T[p.1]? = some (p.2.ren (ownK σ)) ∧ p.2.fit (ownK σ) q) ∧ TmpsFit T σ q l
theorem TmpsFit.all {T : List (LV A)} {σ : Nat → Option Key} {q : Key → Prop} : ∀ {l : List (Nat × LV A)}, TmpsFit T σ q l → ∀ p ∈ l, T[p.1]? = some (p.2.ren (ownK σ)) ∧ p.2.fit (ownK σ) q
  | [], _, p, hp => absurd hp List.not_mem_nil
  | x :: l, h, p, hp => by
    rcases List.mem_cons.1 hp with rfl | hp
    · exact h.1
    · exact h.2.all p hp
def BlkFit (I : Inp A) (M : Mem A) (σ : Nat → Option Key) (q : Key → Prop) (j : Nat) (b0 : Blk A) : Prop :=
  fitL (ownK σ) q b0.us ∧ ((∃ k b, σ j = some k ∧ at? I M k = some b ∧ LikeB (ownK σ) b b0) ∨ (σ j = none ∧ ∃ e z f, b0 = ⟨nilK e, [.rows 0 z f]⟩ ∧ ∀ i p, kinL p (f i)))
def BlksFit (I : Inp A) (M : Mem A) (σ : Nat → Option Key) (q : Key → Prop) : Nat → Mem A → Prop
  | _, [] => True
  | j, none :: l => BlksFit I M σ q (j + 1) l
  | j, some b :: l => BlkFit I M σ q j b ∧ BlksFit I M σ q (j + 1) l
theorem BlksFit.all {M : Mem A} {σ : Nat → Option Key} {q : Key → Prop} : ∀ {l : Mem A} {j : Nat}, BlksFit I M σ q j l → ∀ (i : Nat) (b0 : Blk A), l[i]? = some (some b0) → BlkFit I M σ q (j + i) b0
  | [], j, _, i, b0, hb => by simp at hb
  | none :: l, j, h, i, b0, hb => by
    cases i with
    | zero => simp at hb
    | succ i => have := BlksFit.all (l := l) h i b0 (by simpa using hb); rwa [show j + 1 + i = j + (i + 1) by omega] at this
  | some b :: l, j, h, i, b0, hb => by
    cases i with
    | zero => simp at hb; subst hb; exact h.1
    | succ i => have := h.2.all i b0 (by simpa using hb); rwa [show j + 1 + i = j + (i + 1) by omega] at this
theorem BlkFit.plain {M : Mem A} {σ : Nat → Option Key} {q : Key → Prop} {j : Nat} {b0 : Blk A} {k : Key} {us : List (LV A)} (h : σ j = some k) (ha : at? I M k = some ⟨b0.kd, us⟩) (hp : plainL b0.us) (hs : Same us b0.us) (hr : rowOk b0.kd us b0.us = true) (hd : isDead b0.kd = false) : BlkFit I M σ q j b0 := by
  refine ⟨(plainL_ren _ _ _ hp).2, .inl ⟨k, _, h, ha, .inl rfl, ?_, ?_, fun e => ?_⟩⟩
  · rw [(plainL_ren (ownK σ) (fun _ => True) _ hp).1]; exact hs.like hp
  · rw [(plainL_ren (ownK σ) (fun _ => True) _ hp).1]; exact hr
  · rw [hd] at e; cases e
/-- Rows. -/
theorem BlkFit.rows {M : Mem A} {σ : Nat → Option Key} {q : Key → Prop} {j : Nat} {kd : Kd} {n n' z : Nat} {f g : Nat → List (LV A)} {k : Key} (h : σ j = some k) (ha : at? I M k = some ⟨kd, [.rows n' z g]⟩) (hd : isDead kd = false) (hn : n' = n) (hp : ∀ i, plainL (f i)) (hs : ∀ i, i < n → Same (g i) (f i)) : BlkFit I M σ q j ⟨kd, [.rows n z f]⟩ := by
  subst hn
  exact BlkFit.plain h ha (show plainL [LV.rows n' z f] from ⟨hp, trivial⟩) (Same.rows rfl hs) (rowOk_rows _ _ _ _ _) hd
theorem BlkFit.nil {M : Mem A} {σ : Nat → Option Key} {q : Key → Prop} {j : Nat} {e : TypeId} {z : Nat} {f : Nat → List (LV A)} (h : σ j = none) (hp : ∀ i, plainL (f i)) : BlkFit I M σ q j ⟨.row e, [.rows 0 z f]⟩ :=
  ⟨(plainL_ren _ _ [LV.rows 0 z f] ⟨hp, trivial⟩).2, .inr ⟨h, some e, z, f, rfl, fun i p => plainL_kin p _ (hp i)⟩⟩
theorem BlkFit.nilRo {M : Mem A} {σ : Nat → Option Key} {q : Key → Prop} {j : Nat} {z : Nat} {f : Nat → List (LV A)} (h : σ j = none) (hp : ∀ i, plainL (f i)) : BlkFit I M σ q j ⟨.ro, [.rows 0 z f]⟩ :=
  ⟨(plainL_ren _ _ [LV.rows 0 z f] ⟨hp, trivial⟩).2, .inr ⟨h, none, z, f, rfl, fun i p => plainL_kin p _ (hp i)⟩⟩
/-- The same, names changed. -/
theorem BlkFit.eq {M : Mem A} {σ : Nat → Option Key} {q : Key → Prop} {j : Nat} {b0 : Blk A} {k : Key} (h : σ j = some k) (ha : at? I M k = some ⟨b0.kd, renL (ownK σ) b0.us⟩) (hf : fitL (ownK σ) q b0.us) (hr : rowOk b0.kd (renL (ownK σ) b0.us) (renL (ownK σ) b0.us) = true) (hd : isDead b0.kd = false) : BlkFit I M σ q j b0 :=
  ⟨hf, .inl ⟨k, _, h, ha, .inl rfl, Like.refl _, hr, fun e => by rw [hd] at e; cases e⟩⟩
/-- What is only read from here on. -/
theorem BlkFit.ro {M : Mem A} {σ : Nat → Option Key} {q : Key → Prop} {j : Nat} {kd : Kd} {us us0 : List (LV A)} {k : Key} (h : σ j = some k) (ha : at? I M k = some ⟨kd, us⟩) (hd : isDead kd = false) (hp : plainL us0) (hs : Same us us0) : BlkFit I M σ q j ⟨.ro, us0⟩ := by
  refine ⟨(plainL_ren _ _ _ hp).2, .inl ⟨k, _, h, ha, .inr ⟨rfl, hd⟩, ?_, rfl, fun e => by cases e⟩⟩
  rw [(plainL_ren (ownK σ) (fun _ => True) _ hp).1]; exact hs.like hp
/-- The names are different ones. -/
def keyB : Key → Key → Bool
  | .own a, .own b => Nat.beq a b
  | .inp a b, .inp c d => Nat.beq a c && Nat.beq b d
  | _, _ => false
def apartK : List (Option Key) → Bool
  | [] => true
  | none :: l => apartK l
  | some k :: l => l.all (fun x => match x with
    | some k' => !keyB k k'
    | none => true) && apartK l
theorem keyB_refl (k : Key) : keyB k k = true := by cases k <;> simp [keyB, Nat.beq_refl]
theorem apartK_spec : ∀ {l : List (Option Key)}, apartK l = true → ∀ (i j : Nat) k, l[i]? = some (some k) → l[j]? = some (some k) → i = j
  | [], _, i, j, k, hi, _ => by simp at hi
  | none :: l, h, i, j, k, hi, hj => by
    cases i with
    | zero => simp at hi
    | succ i =>
      cases j with
      | zero => simp at hj
      | succ j => rw [apartK_spec (l := l) h i j k (by simpa using hi) (by simpa using hj)]
  | some x :: l, h, i, j, k, hi, hj => by
    obtain ⟨h1, h2⟩ := both h
    rw [List.all_eq_true] at h1
    have no : ∀ (m : Nat), l[m]? = some (some x) → False := by
      intro m hm
      have := h1 _ (List.mem_of_getElem? hm)
      simp [keyB_refl] at this
    cases i with
    | zero =>
      cases j with
      | zero => rfl
      | succ j => simp at hi; subst hi; exact (no j (by simpa using hj)).elim
    | succ i =>
      cases j with
      | zero => simp at hj; subst hj; exact (no i (by simpa using hi)).elim
      | succ j => rw [apartK_spec h2 i j k (by simpa using hi) (by simpa using hj)]
theorem σL_some {l : List (Option Key)} {j : Nat} {k : Key} (h : σL l j = some k) : l[j]? = some (some k) := by
  unfold σL at h
  split at h
  · rename_i x hx; rw [hx, h]
  · cases h
/-- What is written has names of its own. -/
def ownW : List (Option Key) → Mem A → Bool
  | some (.inp _ _) :: l, some b :: m => !isWr b.kd && ownW l m
  | some (.inp _ _) :: l, none :: m => ownW l m
  | some (.own _) :: l, _ :: m => ownW l m
  | none :: l, _ :: m => ownW l m
  | _, _ => true
theorem ownW_spec : ∀ {l : List (Option Key)} {m : Mem A}, ownW l m = true → ∀ (i : Nat) (b : Blk A), m[i]? = some (some b) → isWr b.kd = true → ∀ x y, l[i]? ≠ some (some (.inp x y))
  | [], m, _, i, b, hb, hw, x, y => by simp
  | u :: l, [], _, i, b, hb, hw, x, y => by simp at hb
  | some (.inp p q) :: l, some b' :: m, h, i, b, hb, hw, x, y => by
    obtain ⟨h1, h2⟩ := both h
    cases i with
    | zero => simp at hb; subst hb; rw [hw] at h1; cases h1
    | succ i => have := ownW_spec h2 i b (by simpa using hb) hw x y; simpa using this
  | some (.inp p q) :: l, none :: m, h, i, b, hb, hw, x, y => by
    cases i with
    | zero => simp at hb
    | succ i => have := ownW_spec (l := l) h i b (by simpa using hb) hw x y; simpa using this
  | some (.own p) :: l, b' :: m, h, i, b, hb, hw, x, y => by
    cases i with
    | zero => simp
    | succ i => have := ownW_spec (l := l) h i b (by simpa using hb) hw x y; simpa using this
  | none :: l, b' :: m, h, i, b, hb, hw, x, y => by
    cases i with
    | zero => simp
    | succ i => have := ownW_spec (l := l) h i b (by simpa using hb) hw x y; simpa using this

theorem Fits.told {t : LS A} {n : Nat} {l : List (Nat × LV A)} {m' : Mem A} {cs : List Cnd} (σ : List (Option Key)) (hn : t.tmps.length = n) (ht : TmpsFit t.tmps (σL σ) (there m') l) (hm : BlksFit I t.mem (σL σ) (there m') 0 m')
    (h1 : apartK σ = true) (h2 : ownW σ m' = true) : Fits I t ⟨tm n l, m', cs⟩ (σL σ) :=
  Fits.of hn ht.all (fun j b0 hb => by have := hm.all j b0 hb; rw [Nat.zero_add] at this; exact this) (fun k k' j _ _ _ _ e e' => (apartK_spec h1 k k' j (σL_some e) (σL_some e')).symm) fun k bl hb hw x y e => ownW_spec h2 k bl hb hw x y (σL_some e)

/-- A piece of code comes from one state to another. -/
theorem ExB.told [LawAb A] (hI : InpOk I) {c : Code} {s t : LS A} {o : Out} (h : Ex P I c s o t) {n : Nat} {l : List (Nat × LV A)} {m' : Mem A} {cs : List Cnd} (σ : List (Option Key)) (hn : t.tmps.length = n) (ht : TmpsFit t.tmps (σL σ) (there m') l) (hm : BlksFit I t.mem (σL σ) (there m') 0 m')
    (h1 : apartK σ = true) (h2 : ownW σ m' = true) : ExB 0 P I c s o ⟨tm n l, m', cs⟩ :=
  (h.toB 0).fits hI (Fits.told σ hn ht hm h1 h2) fun k bl hk => absurd hk (Nat.not_lt_zero k)
theorem ExB.from [LawAb A] (hI : InpOk I) {c : Code} {s t : LS A} {o : Out} {n : Nat} {l : List (Nat × LV A)} {m' : Mem A} {cs : List Cnd} (h : ExB 0 P I c ⟨tm n l, m', cs⟩ o t) (σ : List (Option Key)) (hn : s.tmps.length = n) (ht : TmpsFit s.tmps (σL σ) (there m') l) (hm : BlksFit I s.mem (σL σ) (there m') 0 m')
    (h1 : apartK σ = true) (h2 : ownW σ m' = true) : ExB 0 P I c s o t :=
  h.pre hI (Fits.told σ hn ht hm h1 h2) fun k bl hk => absurd hk (Nat.not_lt_zero k)
theorem ExB.toEx0 {c : Code} {s t : LS A} {o : Out} (h : ExB 0 P I c s o t) (hs : s.mem = []) : Ex P I c s o t := h.toEx fun k bl hb => by rw [hs] at hb; simp at hb

/-! ## .. where the first B blocks keep their names -/
def idB (σ : List (Option Key)) (m' : Mem A) : Nat → Bool
  | 0 => true
  | B + 1 => (match σ[B]?, m'[B]? with
    | some (some (.own k)), some (some _) => Nat.beq k B
    | _, _ => false) && idB σ m' B
theorem idB_spec {σ : List (Option Key)} {m' : Mem A} : ∀ {B : Nat}, idB σ m' B = true → ∀ k, k < B → σL σ k = some (.own k) ∧ there m' (.own k)
  | 0, _, k, hk => absurd hk (Nat.not_lt_zero k)
  | B + 1, h, k, hk => by
    obtain ⟨h1, h2⟩ := both h
    rcases Nat.lt_or_ge k B with hl | hl
    · exact idB_spec h2 k hl
    · have e : k = B := by omega
      subst e
      split at h1
      · rename_i x bl e1 e2
        have := beqN h1
        subst this
        exact ⟨by simp [σL, e1], ex_there e2⟩
      · cases h1
theorem ExB.toldB [LawAb A] (hI : InpOk I) (B : Nat) {c : Code} {s t : LS A} {o : Out} (h : Ex P I c s o t) {n : Nat} {l : List (Nat × LV A)} {m' : Mem A} {cs : List Cnd} (σ : List (Option Key)) (hn : t.tmps.length = n) (ht : TmpsFit t.tmps (σL σ) (there m') l) (hm : BlksFit I t.mem (σL σ) (there m') 0 m')
    (h1 : apartK σ = true) (h2 : ownW σ m' = true) (h3 : idB σ m' B = true) : ExB B P I c s o ⟨tm n l, m', cs⟩ :=
  (h.toB B).fits hI (Fits.told σ hn ht hm h1 h2) fun k _ hk _ => idB_spec h3 k hk
theorem ExB.fromB [LawAb A] (hI : InpOk I) {B : Nat} {c : Code} {s t : LS A} {o : Out} {n : Nat} {l : List (Nat × LV A)} {m' : Mem A} {cs : List Cnd} (h : ExB B P I c ⟨tm n l, m', cs⟩ o t) (σ : List (Option Key)) (hn : s.tmps.length = n) (ht : TmpsFit s.tmps (σL σ) (there m') l) (hm : BlksFit I s.mem (σL σ) (there m') 0 m')
    (h1 : apartK σ = true) (h2 : ownW σ m' = true) (h3 : idB σ m' B = true) : ExB B P I c s o t :=
  h.pre hI (Fits.told σ hn ht hm h1 h2) fun k _ hk _ => idB_spec h3 k hk
theorem ExB.toExB {B : Nat} {c : Code} {s t : LS A} {o : Out} (h : ExB B P I c s o t) (hs : s.mem.length ≤ B) : Ex P I c s o t := h.toEx fun k bl hb => Nat.lt_of_lt_of_le (lt_of_get hb) hs
end
end Go.Proofs.Ytjhjockdkpgpeaa.En
