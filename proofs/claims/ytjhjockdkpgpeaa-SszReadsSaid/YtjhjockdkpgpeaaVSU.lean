/- DERIVED. One state held against another: what must hold that it says the same; and loops out of such. -/
import Derived.Test.YtjhjockdkpgpeaaVST
set_option linter.all false
namespace Go.Proofs.Ytjhjockdkpgpeaa.En
open Go Go.RowKit

section
variable {A : Type} [Ab A] {P : Program} {I : Inp A}

def thereB (m : Mem A) : Key → Bool
  | .own k => match m[k]? with
    | some (some _) => true
    | _ => false
  | .inp _ _ => true
theorem thereB_spec {m : Mem A} {k : Key} (h : thereB m k = true) : there m k := by
  cases k with
  | own k =>
    simp only [thereB] at h
    split at h
    · rename_i bl hb; exact ex_there hb
    · cases h
  | inp _ _ => trivial
theorem keyB_spec {a b : Key} (h : keyB a b = true) : a = b := by
  cases a with
  | own a => cases b with
    | own b => rw [beqN (show Nat.beq a b = true from h)]
    | inp _ _ => cases h
  | inp x y => cases b with
    | own b => cases h
    | inp x' y' => obtain ⟨h1, h2⟩ := both h; rw [beqN h1, beqN h2]
def isKey (x : Option Key) (k : Key) : Bool := match x with
  | some k' => keyB k' k
  | none => false
theorem isKey_spec {x : Option Key} {k : Key} (h : isKey x k = true) : x = some k := by
  unfold isKey at h
  split at h
  · rw [keyB_spec h]
  · cases h

/-- What must hold that a name is so. -/
def keyC (x : Option Key) (k : Key) : Option Cnd := match x with
  | some (.own a) => match k with
    | .own b => match Nat.beq a b with
      | true => some none
      | false => none
    | .inp _ _ => none
  | some (.inp t i) => match k with
    | .own _ => none
    | .inp t' i' => match Nat.beq t t' with
      | true => some (some (i = i'))
      | false => none
  | none => none
theorem keyC_spec {x : Option Key} {k : Key} {c : Cnd} (h : keyC x k = some c) (hc : condOk c) : x = some k := by
  unfold keyC at h
  split at h
  · split at h
    · split at h
      · rename_i hb; rw [beqN hb]
      · cases h
    · cases h
  · split at h
    · cases h
    · split at h
      · rename_i hb
        cases h
        rw [beqN hb, show _ = _ from hc]
      · cases h
  · cases h
mutual
/-- What must hold that the first reads as the second, whose names are changed. -/
def mV (τ : Key → Option Key) (q : Key → Bool) : LV A → LV A → Option Cnd
  | .int k a, v => match v with
    | .int k' b => if k = k' then some (some (a = b)) else none
    | _ => none
  | .bool a, v => match v with
    | .bool b => some (some (a = b))
    | _ => none
  | .str a, v => match v with
    | .str b => some (some (a = b))
    | _ => none
  | .ptr b o p, v => match v with
    | .ptr b' o' p' => match q b' && Nat.beq o o', keyC (τ b') b with
      | true, some c => match p, p' with
        | [], [] => some c
        | p, p' => some (andC c (some (p = p')))
      | _, _ => none
    | _ => none
  | .slice b o p n c, v => match v with
    | .slice b' o' p' n' c' => match q b' && Nat.beq o o', keyC (τ b') b with
      | true, some k => some (andC k (some (p = p' ∧ n = n' ∧ c = c')))
      | _, _ => none
    | _ => none
  | .vec b n, v => match v with
    | .vec b' n' => match q b', keyC (τ b') b with
      | true, some k => some (andC k (some (n = n')))
      | _, _ => none
    | _ => none
  | .nils, v => match v with
    | .nils => some none
    | .vec b' n' => match τ b', q b' with
      | none, true => some (some (n' = 0))
      | _, _ => none
    | _ => none
  | .abs x, v => match v with
    | .abs y => some (some (x = y))
    | _ => none
  | .agg us, v => match v with
    | .agg vs => mVL τ q us vs
    | _ => none
  | .tup us, v => match v with
    | .tup vs => mVL τ q us vs
    | _ => none
  | .iface t u, v => match v with
    | .iface t' w => match decide (t = t') with
      | true => mV τ q u w
      | false => none
    | _ => none
  | .func f us, v => match v with
    | .func g vs => match decide (f = g) with
      | true => mVL τ q us vs
      | false => none
    | _ => none
  | .rows n z f, v => match v with
    | .rows n' z' g => match Nat.beq z z' with
      | true => some (some (n = n' ∧ (∀ i, f i = g i) ∧ ∀ i, plainL (g i)))
      | false => none
    | _ => none
  | .nilp, v => match v with
    | .nilp => some none
    | _ => none
  | .nilfn, v => match v with
    | .nilfn => some none
    | _ => none
  | .niliface, v => match v with
    | .niliface => some none
    | _ => none
  | .undef, v => match v with
    | .undef => some none
    | _ => none
  | .any, _ => none
def mVL (τ : Key → Option Key) (q : Key → Bool) : List (LV A) → List (LV A) → Option Cnd
  | [], l => match l with
    | [] => some none
    | _ => none
  | u :: us, l => match l with
    | v :: vs => match mV τ q u v with
      | some c => match mVL τ q us vs with
        | some c' => some (andC c c')
        | none => none
      | none => none
    | [] => none
end
mutual
theorem mV_spec {τ : Key → Option Key} {q : Key → Bool} {q' : Key → Prop} (hq : ∀ k, q k = true → q' k) : ∀ (u v : LV A) (c : Cnd), mV τ q u v = some c → condOk c → u = v.ren τ ∧ v.fit τ q'
  | .int k a, v, c, h, hc => by
    simp only [mV] at h
    split at h
    · split at h
      · rename_i k' b hk
        cases h
        have hc : a = b := hc
        rw [hk, hc]
        exact ⟨rfl, trivial⟩
      · cases h
    · cases h
  | .bool a, v, c, h, hc => by
    simp only [mV] at h
    split at h
    · cases h
      rw [show a = _ from hc]; exact ⟨rfl, trivial⟩
    · cases h
  | .str a, v, c, h, hc => by
    simp only [mV] at h
    split at h
    · cases h
      rw [show a = _ from hc]; exact ⟨rfl, trivial⟩
    · cases h
  | .ptr b o p, v, c, h, hc => by
    simp only [mV] at h
    split at h
    · rename_i b' o' p'
      split at h
      · rename_i kc hb hkc
        obtain ⟨hq', ho⟩ := both hb
        have ho := beqN ho
        subst ho
        have hp : p = p' ∧ condOk kc := by
          split at h
          · cases h; exact ⟨rfl, hc⟩
          · cases h; exact ⟨(andC_ok hc).2, (andC_ok hc).1⟩
        obtain ⟨hp, hkk⟩ := hp
        have e := keyC_spec hkc hkk
        subst hp
        refine ⟨by simp [LV.ren, e], by simp [LV.fit, e, hq _ hq']⟩
      · cases h
    · cases h
  | .slice b o p n cp, v, c, h, hc => by
    simp only [mV] at h
    split at h
    · split at h
      · rename_i kc hb hkc
        obtain ⟨hq', ho⟩ := both hb
        have ho := beqN ho
        subst ho
        cases h
        obtain ⟨hkk, hc⟩ := andC_ok hc
        have e := keyC_spec hkc hkk
        obtain ⟨rfl, rfl, rfl⟩ := hc
        refine ⟨by simp [LV.ren, e], by simp [LV.fit, e, hq _ hq']⟩
      · cases h
    · cases h
  | .vec b n, v, c, h, hc => by
    simp only [mV] at h
    split at h
    · split at h
      · rename_i kc hq' hkc
        cases h
        obtain ⟨hkk, hc⟩ := andC_ok hc
        have e := keyC_spec hkc hkk
        have hc : n = _ := hc
        subst hc
        refine ⟨by simp [LV.ren, e], by simp [LV.fit, e, hq _ hq']⟩
      · cases h
    · cases h
  | .nils, v, c, h, hc => by
    simp only [mV] at h
    split at h
    · exact ⟨rfl, trivial⟩
    · split at h
      · rename_i e hq'
        cases h
        have hc : _ = 0 := hc
        subst hc
        exact ⟨by simp [LV.ren, e], fun _ => rfl, hq _ hq'⟩
      · cases h
    · cases h
  | .abs x, v, c, h, hc => by
    simp only [mV] at h
    split at h
    · cases h
      rw [show x = _ from hc]; exact ⟨rfl, trivial⟩
    · cases h
  | .agg us, v, c, h, hc => by
    simp only [mV] at h
    split at h
    · obtain ⟨h1, h2⟩ := mVL_spec hq us _ c h hc
      exact ⟨by rw [h1]; rfl, h2⟩
    · cases h
  | .tup us, v, c, h, hc => by
    simp only [mV] at h
    split at h
    · obtain ⟨h1, h2⟩ := mVL_spec hq us _ c h hc
      exact ⟨by rw [h1]; rfl, h2⟩
    · cases h
  | .iface t u, v, c, h, hc => by
    simp only [mV] at h
    split at h
    · split at h
      · rename_i ht
        have ht := of_decide_eq_true ht
        subst ht
        obtain ⟨h1, h2⟩ := mV_spec hq u _ c h hc
        exact ⟨by rw [h1]; rfl, h2⟩
      · cases h
    · cases h
  | .func f us, v, c, h, hc => by
    simp only [mV] at h
    split at h
    · split at h
      · rename_i ht
        have ht := of_decide_eq_true ht
        subst ht
        obtain ⟨h1, h2⟩ := mVL_spec hq us _ c h hc
        exact ⟨by rw [h1]; rfl, h2⟩
      · cases h
    · cases h
  | .rows n z f, v, c, h, hc => by
    simp only [mV] at h
    split at h
    · rename_i n' z' g
      split at h
      · rename_i hz
        have hz := beqN hz
        subst hz
        cases h
        obtain ⟨rfl, h1, h2⟩ := hc
        have e : f = g := funext h1
        subst e
        obtain ⟨h3, h4⟩ := plain_ren τ q' (.rows n z f) h2
        exact ⟨h3.symm, h4⟩
      · cases h
    · cases h
  | .nilp, v, c, h, hc => by
    simp only [mV] at h
    split at h
    · exact ⟨rfl, trivial⟩
    · cases h
  | .nilfn, v, c, h, hc => by
    simp only [mV] at h
    split at h
    · exact ⟨rfl, trivial⟩
    · cases h
  | .niliface, v, c, h, hc => by
    simp only [mV] at h
    split at h
    · exact ⟨rfl, trivial⟩
    · cases h
  | .undef, v, c, h, hc => by
    simp only [mV] at h
    split at h
    · exact ⟨rfl, trivial⟩
    · cases h
  | .any, v, c, h, hc => by simp [mV] at h
theorem mVL_spec {τ : Key → Option Key} {q : Key → Bool} {q' : Key → Prop} (hq : ∀ k, q k = true → q' k) : ∀ (us vs : List (LV A)) (c : Cnd), mVL τ q us vs = some c → condOk c → us = renL τ vs ∧ fitL τ q' vs
  | [], l, c, h, hc => by
    simp only [mVL] at h
    split at h
    · exact ⟨rfl, trivial⟩
    · cases h
  | u :: us, l, c, h, hc => by
    simp only [mVL] at h
    split at h
    · split at h
      · rename_i c1 h1
        split at h
        · rename_i c2 h2
          cases h
          obtain ⟨k1, k2⟩ := andC_ok hc
          obtain ⟨e1, e2⟩ := mV_spec hq u _ c1 h1 k1
          obtain ⟨e3, e4⟩ := mVL_spec hq us _ c2 h2 k2
          exact ⟨by rw [e1, e3]; rfl, e2, e4⟩
        · cases h
      · cases h
    · cases h
end

/-! ## blocks -/
def mRow (n z : Nat) (f : Nat → List (LV A)) : LV A → Option Cnd
  | .rows n' z' g => match Nat.beq z z' with
    | true => some (some ((n = n' ∧ ∀ i, i < n' → Same (f i) (g i)) ∧ ∀ i, plainL (g i)))
    | false => none
  | _ => none
theorem mRow_spec {n z : Nat} {f : Nat → List (LV A)} {v : LV A} {c : Cnd} (h : mRow n z f v = some c) (hc : condOk c) : ∃ g, v = .rows n z g ∧ plainL [v] ∧ Same [.rows n z f] [v] := by
  unfold mRow at h
  split at h
  · rename_i n' z' g
    split at h
    · rename_i hz
      have hz := beqN hz
      subst hz
      cases h
      obtain ⟨⟨rfl, h1⟩, h2⟩ := hc
      exact ⟨g, rfl, ⟨h2, trivial⟩, Same.rows rfl h1⟩
    · cases h
  · cases h
def mU (τ : Key → Option Key) (q : Key → Bool) : List (LV A) → List (LV A) → Option Cnd
  | [], l => match l with
    | [] => some none
    | _ => none
  | u :: us, l => match l with
    | v :: vs => match (match u with
        | .rows n z f => mRow n z f v
        | u => mV τ q u v) with
      | some c => match mU τ q us vs with
        | some c' => some (andC c c')
        | none => none
      | none => none
    | [] => none
theorem mU_spec {τ : Key → Option Key} {q : Key → Bool} {q' : Key → Prop} (hq : ∀ k, q k = true → q' k) : ∀ (us vs : List (LV A)) (c : Cnd), mU τ q us vs = some c → condOk c → Like us (renL τ vs) ∧ fitL τ q' vs
  | [], l, c, h, hc => by
    simp only [mU] at h
    split at h
    · exact ⟨Like.refl _, trivial⟩
    · cases h
  | u :: us, l, c, h, hc => by
    simp only [mU] at h
    split at h
    · rename_i v vs
      split at h
      · rename_i c1 h1
        split at h
        · rename_i c2 h2
          cases h
          obtain ⟨k1, k2⟩ := andC_ok hc
          obtain ⟨e3, e4⟩ := mU_spec hq us _ c2 h2 k2
          have : Like [u] [v.ren τ] ∧ v.fit τ q' := by
            split at h1
            · obtain ⟨g, rfl, hp, hs⟩ := mRow_spec h1 k1
              obtain ⟨h5, h6⟩ := plainL_ren τ q' _ hp
              refine ⟨?_, h6.1⟩
              have h7 : [(LV.rows _ _ g : LV A).ren τ] = [LV.rows _ _ g] := h5
              rw [h7]
              exact hs.like hp
            · obtain ⟨e1, e2⟩ := mV_spec hq u _ c1 h1 k1
              exact ⟨Like.of_eq (by rw [e1]), e2⟩
          exact ⟨Like.cons this.1 e3, this.2, e4⟩
        · cases h
      · cases h
    · cases h
def kdB : Kd → Kd → Bool
  | .rw, .rw => true
  | .row e, .row e' => decide (e = e')
  | k, .ro => !isDead k
  | _, _ => false
theorem kdB_spec {k k0 : Kd} (h : kdB k k0 = true) : KdFit k k0 ∧ isDead k0 = false := by
  cases k0 with
  | ro =>
    refine ⟨.inr ⟨rfl, ?_⟩, rfl⟩
    cases k <;> first | rfl | (simp [kdB, isDead] at h)
  | rw => cases k <;> first | exact ⟨.inl rfl, rfl⟩ | cases h
  | row e' =>
    cases k with
    | row e => rw [show e = e' from of_decide_eq_true h]; exact ⟨.inl rfl, rfl⟩
    | _ => cases h
  | dead => cases k <;> cases h
def deadB (b b0 : Blk A) : Bool := match b.kd, b0.kd, b.us, b0.us with
  | .dead, .dead, [], [] => true
  | _, _, _, _ => false
theorem deadB_spec {b b0 : Blk A} (h : deadB b b0 = true) : b = ⟨.dead, []⟩ ∧ b0 = ⟨.dead, []⟩ := by
  unfold deadB at h
  split at h
  · cases b; cases b0; simp_all
  · cases h
def mB (τ : Key → Option Key) (q : Key → Bool) (b b0 : Blk A) : Option Cnd := match deadB b b0 with
  | true => some none
  | false => mB' τ q b b0
where mB' (τ : Key → Option Key) (q : Key → Bool) (b b0 : Blk A) : Option Cnd := match kdB b.kd b0.kd with
  | true => match b0.kd with
    | .row _ => match b.us, b0.us with
      | [.rows n z f], [v] => mRow n z f v
      | _, _ => none
    | _ => match mU τ q b.us b0.us with
      | some c => some c
      | none => some (some (plainL b0.us ∧ Same b.us b0.us))
  | false => none
theorem mB_spec {τ : Key → Option Key} {q : Key → Bool} {q' : Key → Prop} (hq : ∀ k, q k = true → q' k) {b b0 : Blk A} {c : Cnd} (h : mB τ q b b0 = some c) (hc : condOk c) : fitL τ q' b0.us ∧ LikeB τ b b0 := by
  unfold mB at h
  split at h
  · rename_i hdd
    obtain ⟨rfl, rfl⟩ := deadB_spec hdd
    exact ⟨trivial, .inl rfl, Like.refl _, rfl, fun _ => rfl⟩
  unfold mB.mB' at h
  split at h
  · rename_i hk
    obtain ⟨k1, k2⟩ := kdB_spec hk
    split at h
    · rename_i e he
      split at h
      · rename_i n z f v hu hv
        obtain ⟨g, rfl, hp, hs⟩ := mRow_spec h hc
        obtain ⟨h5, h6⟩ := plainL_ren τ q' _ hp
        rw [hv]
        refine ⟨h6, k1, ?_, ?_, fun hd => by rw [k2] at hd; cases hd⟩
        · rw [hu, hv, h5]; exact hs.like hp
        · rw [hu, hv, h5]; exact rowOk_rows _ _ _ _ _
      · cases h
    · rename_i hne
      have hrow : rowOk b0.kd b.us (renL τ b0.us) = true := by
        cases hb : b0.kd with
        | row e => exact (hne e hb).elim
        | _ => rfl
      split at h
      · rename_i c' hm
        cases h
        obtain ⟨e1, e2⟩ := mU_spec hq _ _ _ hm hc
        exact ⟨e2, k1, e1, hrow, fun hd => by rw [k2] at hd; cases hd⟩
      · cases h
        obtain ⟨hp, hs⟩ := hc
        obtain ⟨h5, h6⟩ := plainL_ren τ q' _ hp
        refine ⟨h6, k1, ?_, hrow, fun hd => by rw [k2] at hd; cases hd⟩
        rw [h5]; exact hs.like hp
  · cases h
def mM (I : Inp A) (M : Mem A) (σ : Nat → Option Key) (q : Key → Bool) : Nat → Mem A → Option Cnd
  | _, [] => some none
  | j, none :: l => mM I M σ q (j + 1) l
  | j, some b0 :: l => match (match σ j with
      | some k => match at? I M k with
        | some b => mB (ownK σ) q b b0
        | none => none
      | none => match b0.kd, b0.us with
        | .row _, [.rows n _ g] => some (some (n = 0 ∧ ∀ i, plainL (g i)))
        | .ro, [.rows n _ g] => some (some (n = 0 ∧ ∀ i, plainL (g i)))
        | _, _ => none) with
    | some c => match mM I M σ q (j + 1) l with
      | some c' => some (andC c c')
      | none => none
    | none => none
theorem mM_spec {M : Mem A} {σ : Nat → Option Key} {q : Key → Bool} {q' : Key → Prop} (hq : ∀ k, q k = true → q' k) : ∀ (l : Mem A) (j : Nat) (c : Cnd), mM I M σ q j l = some c → condOk c → BlksFit I M σ q' j l
  | [], _, _, _, _ => trivial
  | none :: l, j, c, h, hc => mM_spec hq l (j + 1) c h hc
  | some b0 :: l, j, c, h, hc => by
    simp only [mM] at h
    split at h
    · rename_i c1 h1
      split at h
      · rename_i c2 h2
        cases h
        obtain ⟨k1, k2⟩ := andC_ok hc
        refine ⟨?_, mM_spec hq l (j + 1) c2 h2 k2⟩
        split at h1
        · rename_i k hk
          split at h1
          · rename_i b hb
            obtain ⟨e1, e2⟩ := mB_spec hq h1 k1
            exact ⟨e1, .inl ⟨k, b, hk, hb, e2⟩⟩
          · cases h1
        · rename_i hn
          split at h1
          · rename_i e n z g hk hu
            cases h1
            obtain ⟨rfl, hp⟩ := k1
            have : b0 = ⟨.row e, [.rows 0 z g]⟩ := by cases b0; simp_all
            rw [this]
            exact BlkFit.nil hn hp
          · rename_i n z g hk hu
            cases h1
            obtain ⟨rfl, hp⟩ := k1
            have : b0 = ⟨.ro, [.rows 0 z g]⟩ := by cases b0; simp_all
            rw [this]
            exact BlkFit.nilRo hn hp
          · cases h1
      · cases h
    · cases h
def mT (τ : Key → Option Key) (q : Key → Bool) (T : List (LV A)) : List (Nat × LV A) → Option Cnd
  | [] => some none
  | p :: l => match T[p.1]? with
    | some u => match mV τ q u p.2 with
      | some c => match mT τ q T l with
        | some c' => some (andC c c')
        | none => none
      | none => none
    | none => none
theorem mT_spec {T : List (LV A)} {σ : Nat → Option Key} {q : Key → Bool} {q' : Key → Prop} (hq : ∀ k, q k = true → q' k) : ∀ (l : List (Nat × LV A)) (c : Cnd), mT (ownK σ) q T l = some c → condOk c → TmpsFit T σ q' l
  | [], _, _, _ => trivial
  | p :: l, c, h, hc => by
    simp only [mT] at h
    split at h
    · rename_i u hu
      split at h
      · rename_i c1 h1
        split at h
        · rename_i c2 h2
          cases h
          obtain ⟨k1, k2⟩ := andC_ok hc
          obtain ⟨e1, e2⟩ := mV_spec hq u _ c1 h1 k1
          exact ⟨⟨by rw [hu, e1], e2⟩, mT_spec hq l c2 h2 k2⟩
        · cases h
      · cases h
    · cases h
/-- What is written has a name of its own. -/
def apartW (σ : List (Option Key)) : Nat → Mem A → Bool
  | _, [] => true
  | j, none :: l => apartW σ (j + 1) l
  | j, some b :: l => (match isWr b.kd, σL σ j with
    | true, some k => noneK k j 0 σ
    | _, _ => true) && apartW σ (j + 1) l
where
  noneK (k : Key) (j : Nat) : Nat → List (Option Key) → Bool
    | _, [] => true
    | i, some k' :: l => (Nat.beq i j || !keyB k k') && noneK k j (i + 1) l
    | i, none :: l => noneK k j (i + 1) l
theorem noneK_spec {k : Key} {j : Nat} : ∀ {l : List (Option Key)} {i : Nat}, apartW.noneK k j i l = true → ∀ q, l[q]? = some (some k) → i + q = j
  | [], _, _, q, hq => by simp at hq
  | none :: l, i, h, q, hq => by
    cases q with
    | zero => simp at hq
    | succ q => have := noneK_spec (l := l) h q (by simpa using hq); omega
  | some k' :: l, i, h, q, hq => by
    obtain ⟨h1, h2⟩ := both h
    cases q with
    | zero =>
      simp at hq
      subst hq
      rw [keyB_refl] at h1
      simp only [Bool.not_true, Bool.or_false] at h1
      have := beqN h1
      omega
    | succ q => have := noneK_spec (l := l) h2 q (by simpa using hq); omega
theorem apartW_spec {σ : List (Option Key)} : ∀ {m : Mem A} {i : Nat}, apartW σ i m = true → ∀ (k k' : Nat) j bl, m[k]? = some (some bl) → isWr bl.kd = true → σL σ (i + k) = some j → σL σ k' = some j → k' = i + k
  | [], _, _, k, _, _, _, hb, _, _, _ => by simp at hb
  | none :: m, i, h, k, k', j, bl, hb, hw, e, e' => by
    cases k with
    | zero => simp at hb
    | succ k => have := apartW_spec (m := m) h k k' j bl (by simpa using hb) hw (by rwa [show i + 1 + k = i + (k + 1) by omega]) e'; omega
  | some b :: m, i, h, k, k', j, bl, hb, hw, e, e' => by
    obtain ⟨h1, h2⟩ := both h
    cases k with
    | zero =>
      simp at hb
      subst hb
      rw [Nat.add_zero] at e
      rw [hw, e] at h1
      have := noneK_spec h1 k' (σL_some e')
      omega
    | succ k => have := apartW_spec (m := m) h2 k k' j bl (by simpa using hb) hw (by rwa [show i + 1 + k = i + (k + 1) by omega]) e'; omega
/-- What must hold that a state says what another tells. -/
def mS (I : Inp A) (σ : List (Option Key)) (t : LS A) (n : Nat) (l : List (Nat × LV A)) (m' : Mem A) : Option Cnd :=
  match Nat.beq t.tmps.length n && apartW σ 0 m' && ownW σ m' with
  | true => match mT (ownK (σL σ)) (thereB m') t.tmps l, mM I t.mem (σL σ) (thereB m') 0 m' with
    | some c, some c' => some (andC c c')
    | _, _ => none
  | false => none
theorem mS_spec {σ : List (Option Key)} {t : LS A} {n : Nat} {l : List (Nat × LV A)} {m' : Mem A} {cs : List Cnd} {c : Cnd} (h : mS I σ t n l m' = some c) (hc : condOk c) : Fits I t ⟨tm n l, m', cs⟩ (σL σ) := by
  unfold mS at h
  split at h
  · rename_i hb
    obtain ⟨hb, hw⟩ := both hb
    obtain ⟨hn, ha⟩ := both hb
    split at h
    · rename_i c1 c2 h1 h2
      cases h
      obtain ⟨k1, k2⟩ := andC_ok hc
      exact Fits.of (beqN hn) (mT_spec (fun k => thereB_spec) l c1 h1 k1).all (fun j b0 hb => by have := (mM_spec (fun k => thereB_spec) m' 0 c2 h2 k2).all j b0 hb; rw [Nat.zero_add] at this; exact this) (fun k k' j bl hb hw' _ e e' => by have := apartW_spec ha k k' j bl hb hw' (by rw [Nat.zero_add]; exact e) e'; omega) fun k bl hb hw' x y e => ownW_spec hw k bl hb hw' x y (σL_some e)
    · cases h
  · cases h

/-! ## a run from one state to another -/
def runG (P : Program) (S : Sig A) (n : Nat) (cur : FuncId) (p : List Nat) (s : LS A) (o : Out) (B : Nat) (σ : List (Option Key)) (nn : Nat) (l : List (Nat × LV A)) (m' : Mem A) : Option Cnd :=
  match exec P S n cur p (codeAt P cur p) s with
  | some (o', t) => match decide (o' = o) && idB σ m' B with
    | true => match mS S.inp σ t nn l m' with
      | some c => some (andC (allC t.conds) c)
      | none => none
    | false => none
  | none => none
theorem ExB.auto [LawAb A] [LawEq A] {S : Sig A} (hS : SigOk P S) (hI : InpOk I) (hSI : S.inp = I) (hm : P.follows .mixedOrders = true) (n : Nat) {cur : FuncId} {p : List Nat} {s : LS A} {o : Out} {B : Nat} (σ : List (Option Key)) {nn : Nat} {l : List (Nat × LV A)} {m' : Mem A} {cs : List Cnd} {c : Cnd}
    (h : runG P S n cur p s o B σ nn l m' = some c) (hc : condOk c) : ExB B P I (codeAt P cur p) s o ⟨tm nn l, m', cs⟩ := by
  unfold runG at h
  split at h
  · rename_i o' t he
    split at h
    · rename_i hb
      obtain ⟨ho, hid⟩ := both hb
      have ho := of_decide_eq_true ho
      subst ho
      split at h
      · rename_i c' hf
        cases h
        obtain ⟨k1, k2⟩ := andC_ok hc
        rw [hSI] at hf
        have hx : Ex P I (codeAt P cur p) s o' t := Ex.of_run hS hSI hm he.symm rfl k1
        exact (hx.toB B).fits hI (mS_spec hf k2) fun k _ hk _ => idB_spec hid k hk
      · cases h
    · cases h
  · cases h
theorem ExB.enter [LawAb A] (hI : InpOk I) {B : Nat} {c : Code} {s t : LS A} {o : Out} {n : Nat} {l : List (Nat × LV A)} {m' : Mem A} {cs : List Cnd} (σ : List (Option Key)) {cc : Cnd} (h : ExB B P I c ⟨tm n l, m', cs⟩ o t) (hf : mS I σ s n l m' = some cc) (hc : condOk cc) (hid : idB σ m' B = true) : ExB B P I c s o t :=
  h.pre hI (mS_spec hf hc) fun k _ hk _ => idB_spec hid k hk

/-! ## the state at which a call comes to a loop -/
def stopAt (S : Sig A) (f : FuncId) (p : List Nat) : Sig A := { S with lp := fun g q => match Nat.beq g f && eqP q p with
  | true => some fun s => some (.exit 777777, s.tmps, s.mem, none)
  | false => S.lp g q }
def entry (P : Program) (S : Sig A) (n : Nat) (f : FuncId) (p : List Nat) (args : List (LV A)) (mem : Mem A) : LS A := match P.funcs[f]? with
  | some fn => outS (exec P (stopAt S f p) n f [] (bodyOf P f) (startS fn args mem))
  | none => ⟨[], [], []⟩
/-- What a call does, out of what its body comes to. -/
theorem toldW_body [LawAb A] {f : FuncId} {fn : Func} {c : Code} {us : List (List (LV A))} {bls0 bls1 : List (Blk A)} {args : List (LV A)} {v : LV A} {B nn : Nat} {l : List (Nat × LV A)} {cs : List Cnd} {o : Out} (hf : P.funcs[f]? = some fn) (hb : fn.body = some c) (ho : o = .normal ∨ o = .ret)
    (h : ExB B P (inOf us) (codeAt P f []) (startS fn args (bls0.map some)) o ⟨tm nn l, bls1.map some, cs⟩) (hB : Nat.ble bls0.length B = true) (hv : resF P false fn ⟨tm nn l, bls1.map some, cs⟩ = some (v, none)) : ToldW P f us bls0 args v bls1 := by
  intro D ρ w ha
  have e : codeAt P f [] = c := by simp only [codeAt, bodyOf, hf, hb]
  rw [e] at h
  exact calls_of_ex hf hb (h.toExB (by simpa [startS] using bleN hB)) ho hv trivial ha
theorem Told.ofW {f : FuncId} {us : List (List (LV A))} {args : List (LV A)} {v : LV A} {bls1 : List (Blk A)} (h : ToldW P f us [] args v bls1) : Told P f us args v bls1 := h
/-- A loop that is known, out of what it comes to. -/
def growB (s t : LS A) : Bool := Nat.beq t.tmps.length s.tmps.length && Nat.ble s.mem.length t.mem.length && shapeM s.mem (t.mem.take s.mem.length)
def LoopF.of {I : Inp A} {f : FuncId} {p : List Nat} {s : LS A} {o : Out} {t : LS A} {B : Nat} (h : ExB B P I (codeAt P f p) s o t) (hg : growB s t = true) (hB : Nat.ble s.mem.length B = true) : LoopF P I where
  f := f
  p := p
  s := s
  o := o
  t := t
  len := by obtain ⟨h1, _⟩ := both hg; obtain ⟨h1, _⟩ := both h1; exact beqN h1
  grow := by
    obtain ⟨h1, h2⟩ := both hg
    obtain ⟨_, h1⟩ := both h1
    refine ⟨bleN h1, fun k hk => ?_⟩
    have := (shapeM_spec h2).2 k
    rw [List.getElem?_take_of_lt hk] at this
    exact this
  ex := h.toExB (bleN hB)
end
end Go.Proofs.Ytjhjockdkpgpeaa.En
