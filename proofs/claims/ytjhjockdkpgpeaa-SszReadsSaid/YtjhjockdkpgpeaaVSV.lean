/- DERIVED. Contracts of calls that write, their frames found by matching. -/
import Derived.Test.YtjhjockdkpgpeaaVSU
set_option linter.all false
namespace Go.Proofs.Ytjhjockdkpgpeaa.En
open Go Go.RowKit

section
variable {A : Type} [Ab A] {P : Program}

mutual
/-- The names are the call's own. -/
def LV.ownly : LV A → Prop
  | .ptr b _ _ => ∃ k, b = .own k
  | .slice b _ _ _ _ => ∃ k, b = .own k
  | .vec b _ => ∃ k, b = .own k
  | .rows _ _ f => ∀ i, ownlyL (f i)
  | .agg us => ownlyL us
  | .tup vs => ownlyL vs
  | .iface _ v => LV.ownly v
  | .func _ caps => ownlyL caps
  | _ => True
def ownlyL : List (LV A) → Prop
  | [] => True
  | v :: l => LV.ownly v ∧ ownlyL l
end
theorem keyMap'_own (n : Nat) (σs : List Nat) (ι : Nat → Nat → Option Key) (j : Nat) : keyMap' n σs ι (.own j) ≠ none := by
  unfold keyMap'
  intro h
  dsimp only at h
  split at h <;> cases h
mutual
theorem ownly_fit (n : Nat) (σs : List Nat) (ι : Nat → Nat → Option Key) : ∀ v : LV A, v.ownly → v.fit (keyMap' n σs ι) (fun _ => True)
  | .ptr b _ _, h => by obtain ⟨k, rfl⟩ := h; exact ⟨keyMap'_own n σs ι k, trivial⟩
  | .slice b _ _ _ _, h => by obtain ⟨k, rfl⟩ := h; exact ⟨keyMap'_own n σs ι k, trivial⟩
  | .vec b len, h => by obtain ⟨k, rfl⟩ := h; exact ⟨fun e => absurd e (keyMap'_own n σs ι k), trivial⟩
  | .rows _ _ f, h => fun i => ownlyL_fit n σs ι (f i) (h i)
  | .agg us, h => ownlyL_fit n σs ι us h
  | .tup vs, h => ownlyL_fit n σs ι vs h
  | .iface _ v, h => ownly_fit n σs ι v h
  | .func _ caps, h => ownlyL_fit n σs ι caps h
  | .any, _ => trivial
  | .undef, _ => trivial
  | .int _ _, _ => trivial
  | .bool _, _ => trivial
  | .str _, _ => trivial
  | .nilp, _ => trivial
  | .nils, _ => trivial
  | .nilfn, _ => trivial
  | .niliface, _ => trivial
  | .abs _, _ => trivial
theorem ownlyL_fit (n : Nat) (σs : List Nat) (ι : Nat → Nat → Option Key) : ∀ l : List (LV A), ownlyL l → fitL (keyMap' n σs ι) (fun _ => True) l
  | [], _ => trivial
  | v :: l, h => ⟨ownly_fit n σs ι v h.1, ownlyL_fit n σs ι l h.2⟩
end

/-- A call of a kind, told for whatever x. -/
structure Spec (P : Program) (A : Type) [Ab A] (f : FuncId) where
  X : Type
  us : X → List (List (LV A))
  bls0 : X → List (Blk A)
  args : X → List (LV A)
  v : X → LV A
  bls1 : X → List (Blk A)
  c : X → Prop
  told : ∀ x, c x → ToldW P f (us x) (bls0 x) (args x) (v x) (bls1 x)
  ov : ∀ x, (v x).ownly
  ob : ∀ x, ∀ b ∈ bls1 x, ownlyL b.us

def mOwn (τ : Key → Option Key) (q : Key → Bool) (mem : Mem A) : List Nat → List (Blk A) → Option Cnd
  | [], [] => some none
  | k :: σs, b0 :: l => match mem[k]? with
    | some (some b) => match mB τ q b b0 with
      | some c => match mOwn τ q mem σs l with
        | some c' => some (andC c c')
        | none => none
      | none => none
    | _ => none
  | _, _ => none
theorem mOwn_spec {τ : Key → Option Key} {q : Key → Bool} {q' : Key → Prop} (hq : ∀ k, q k = true → q' k) {mem : Mem A} : ∀ (σs : List Nat) (l : List (Blk A)) (c : Cnd), mOwn τ q mem σs l = some c → condOk c →
    ∀ (j k : Nat) b0, σs[j]? = some k → l[j]? = some b0 → fitL τ q' b0.us ∧ ∃ b, mem[k]? = some (some b) ∧ LikeB τ b b0
  | [], _, _, _, _, j, k, b0, hk, _ => by simp at hk
  | k :: σs, [], _, h, _, _, _, _, _, _ => by simp [mOwn] at h
  | k :: σs, b0 :: l, c, h, hc, j, k', b0', hk, hb => by
    simp only [mOwn] at h
    split at h
    · rename_i b hm
      split at h
      · rename_i c1 h1
        split at h
        · rename_i c2 h2
          cases h
          obtain ⟨k1, k2⟩ := andC_ok hc
          cases j with
          | zero =>
            simp at hk hb
            subst hk hb
            obtain ⟨e1, e2⟩ := mB_spec hq h1 k1
            exact ⟨e1, b, hm, e2⟩
          | succ j => exact mOwn_spec hq σs l c2 h2 k2 j k' b0' (by simpa using hk) (by simpa using hb)
        · cases h
      · cases h
    · cases h
def mInp1 (bl us : List (LV A)) : Option Cnd := match bl, us with
  | [.rows n z f], [v] => match mRow n z f v with
    | some c => some c
    | none => some (some (plainL us ∧ Same bl us))
  | _, _ => some (some (plainL us ∧ Same bl us))
theorem mInp1_spec {bl us : List (LV A)} {c : Cnd} (h : mInp1 bl us = some c) (hc : condOk c) : plainL us ∧ Like bl us := by
  unfold mInp1 at h
  split at h
  · split at h
    · rename_i c' hm
      cases h
      obtain ⟨g, rfl, hp, hs⟩ := mRow_spec hm hc
      exact ⟨hp, hs.like hp⟩
    · cases h; exact ⟨hc.1, hc.2.like hc.1⟩
  · cases h; exact ⟨hc.1, hc.2.like hc.1⟩
def mInp (I : Inp A) (mem : Mem A) : List Key → List (List (LV A)) → Option Cnd
  | [], [] => some none
  | k :: ks, us :: l => match at? I mem k with
    | some b => match isDead b.kd, mInp1 b.us us with
      | false, some c => match mInp I mem ks l with
        | some c' => some (andC c c')
        | none => none
      | _, _ => none
    | none => none
  | _, _ => none
theorem mInp_spec {I : Inp A} {mem : Mem A} : ∀ (ks : List Key) (l : List (List (LV A))) (c : Cnd), mInp I mem ks l = some c → condOk c →
    ∀ (j : Nat) k us, ks[j]? = some k → l[j]? = some us → ∃ bl, at? I mem k = some bl ∧ isDead bl.kd = false ∧ plainL us ∧ Like bl.us us
  | [], _, _, _, _, j, k, us, hk, _ => by simp at hk
  | k :: ks, [], _, h, _, _, _, _, _, _ => by simp [mInp] at h
  | k :: ks, us :: l, c, h, hc, j, k', us', hk, hb => by
    simp only [mInp] at h
    split at h
    · rename_i b hm
      split at h
      · rename_i c1 hd h1
        split at h
        · rename_i c2 h2
          cases h
          obtain ⟨k1, k2⟩ := andC_ok hc
          cases j with
          | zero =>
            simp at hk hb
            subst hk hb
            obtain ⟨e1, e2⟩ := mInp1_spec h1 k1
            exact ⟨b, hm, hd, e1, e2⟩
          | succ j => exact mInp_spec ks l c2 h2 k2 j k' us' (by simpa using hk) (by simpa using hb)
        · cases h
      · cases h
    · cases h
def apartB (ks : List Key) : List Nat → List (Blk A) → Bool
  | k :: σs, b :: l => (!isWr b.kd || ks.all fun x => !keyB (.own k) x) && apartB ks σs l
  | _, _ => true
theorem apartB_spec {ks : List Key} : ∀ {σs : List Nat} {l : List (Blk A)}, apartB ks σs l = true → ∀ (j k : Nat) b0, σs[j]? = some k → l[j]? = some b0 → isWr b0.kd = true → Key.own k ∉ ks
  | [], _, _, j, k, b0, hk, _, _ => by simp at hk
  | k :: σs, [], _, j, k', b0, _, hb, _ => by simp at hb
  | k :: σs, b :: l, h, j, k', b0, hk, hb, hw => by
    obtain ⟨h1, h2⟩ := both h
    cases j with
    | zero =>
      simp at hk hb
      subst hk hb
      rw [hw] at h1
      simp only [Bool.not_true, Bool.false_or, List.all_eq_true] at h1
      intro hm
      have := h1 _ hm
      rw [keyB_refl] at this
      cases this
    | succ j => exact apartB_spec h2 j k' b0 (by simpa using hk) (by simpa using hb) hw
def Spec.mk' {f : FuncId} (s : Spec P A f) (x : s.X) (σs : List Nat) (ks : List Key) (c : Prop) : WrC A := ⟨σs, s.us x, ks, s.bls0 x, s.args x, s.v x, s.bls1 x, c⟩
/-- The conditions of such a call. -/
def Spec.cond {f : FuncId} (s : Spec P A f) (I : Inp A) (vs : List (LV A)) (mem : Mem A) (x : s.X) (σs : List Nat) (ks : List Key) : Option Prop :=
  match apartB ks σs (s.bls0 x) && ((s.bls1 x).all (fun b => !isRo b.kd) || ks.isEmpty) with
  | true => match mVL (keyMap σs (ιOf ks)) (thereB ((s.bls0 x).map some)) vs (s.args x), mOwn (keyMap σs (ιOf ks)) (thereB ((s.bls0 x).map some)) mem σs (s.bls0 x), mInp I mem ks (s.us x) with
    | some c1, some c2, some c3 => match andC c1 (andC c2 (andC c3 (some (s.c x)))) with
      | some c => some c
      | none => some True
    | _, _, _ => none
  | false => none
def Spec.con {f : FuncId} [LawAb A] (s : Spec P A f) (ent : ∀ args w, (callFunc f args).run P w = .ok (.enter f args) w) (pick : Inp A → List (LV A) → Mem A → Option (s.X × List Nat × List Key)) : ConC P A :=
  conWr f ent (fun I vs mem => match pick I vs mem with
    | some (x, σs, ks) => match s.cond I vs mem x σs ks with
      | some c => some (s.mk' x σs ks c)
      | none => none
    | none => none) fun I vs mem r h hf hc => by
    split at h
    · rename_i x σs ks hp
      split at h
      · rename_i c hcd
        cases h
        have hc : c := hc
        unfold Spec.cond at hcd
        split at hcd
        · rename_i hb
          obtain ⟨hb1, hb2⟩ := both hb
          split at hcd
          · rename_i c1 c2 c3 h1 h2 h3
            have hcc : condOk (andC c1 (andC c2 (andC c3 (some (s.c x))))) := by
              split at hcd
              · rename_i c' e; cases hcd; rw [e]; exact hc
              · rename_i e; rw [e]; trivial
            obtain ⟨k1, k⟩ := andC_ok hcc
            obtain ⟨k2, k⟩ := andC_ok k
            obtain ⟨k3, k4⟩ := andC_ok k
            obtain ⟨e1, e2⟩ := mVL_spec (fun k => thereB_spec) _ _ c1 h1 k1
            exact {
              args := e1.symm
              fit := e2
              own := mOwn_spec (fun k => thereB_spec) _ _ c2 h2 k2
              blk := mInp_spec _ _ c3 h3 k3
              apart := apartB_spec hb1
              told := s.told x k4
              fitv := ownly_fit _ _ _ _ (s.ov x)
              fitb := fun b hb => ownlyL_fit _ _ _ _ (s.ob x b hb)
              ro := by
                rw [Bool.or_eq_true] at hb2
                rcases hb2 with h | h
                · refine .inl fun b hb => ?_
                  rw [List.all_eq_true] at h
                  have := h b hb
                  cases hr : isRo b.kd with
                  | false => rfl
                  | true => rw [hr] at this; cases this
                · exact .inr (List.isEmpty_iff.1 h) }
          · cases hcd
        · cases hcd
      · cases h
    · cases h
end
end Go.Proofs.Ytjhjockdkpgpeaa.En
