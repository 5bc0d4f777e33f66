/- DERIVED. Calls that write a few blocks: contracts out of what they do to a little memory. -/
import Derived.Test.YtjhjockdkpgpeaaVSP
set_option linter.all false
namespace Go.Proofs.Ytjhjockdkpgpeaa.En
open Go Go.RowKit

section
variable {A : Type} [Ab A] {P : Program}

/-- What a call does to blocks that it may write, and to others that it reads. -/
def ToldW (P : Program) (f : FuncId) (us : List (List (LV A))) (bls0 : List (Blk A)) (args : List (LV A)) (v : LV A) (bls1 : List (Blk A)) : Prop :=
  ∀ (D : Dom) (ρ : Key → Loc) (w : World), Ahead (inOf us) D ρ (bls0.map some) args w →
    Calls P f (trs ρ args).toArray w fun e w' => ∃ ρ1, e = .returned (LV.tr ρ1 v) ∧ Left' (inOf us) D w (bls0.map some) ρ ρ1 (bls1.map some) v w'
/-- Such a call, in whatever memory. -/
structure WrC (A : Type) where
  σs : List Nat
  us : List (List (LV A))
  ks : List Key
  bls0 : List (Blk A)
  args : List (LV A)
  v : LV A
  bls1 : List (Blk A)
  c : Prop
def memN (l : List Nat) (k : Nat) : Bool := l.any fun x => Nat.beq x k
def nodupN : List Nat → Bool
  | [] => true
  | a :: l => !memN l a && nodupN l
def liveN (mem : Mem A) (k : Nat) : Bool := match mem[k]? with
  | some (some _) => true
  | _ => false
def WrC.fine (mem : Mem A) (r : WrC A) : Bool := nodupN r.σs && Nat.beq r.σs.length r.bls0.length && Nat.ble r.bls0.length r.bls1.length && Nat.beq r.ks.length r.us.length && r.σs.all (liveN mem)
def WrC.out (n : Nat) (mem : Mem A) (r : WrC A) : LV A × Mem A × Cnd :=
  (r.v.ren (keyMap' n r.σs (ιOf r.ks)), place r.σs (renM (keyMap' n r.σs (ιOf r.ks)) (r.bls1.map some)) mem, some r.c)
structure WrOk (P : Program) (f : FuncId) (I : Inp A) (vs : List (LV A)) (mem : Mem A) (r : WrC A) : Prop where
  args : renL (keyMap r.σs (ιOf r.ks)) r.args = vs
  fit : fitL (keyMap r.σs (ιOf r.ks)) (there (r.bls0.map some)) r.args
  own : ∀ (j k : Nat) b0, r.σs[j]? = some k → r.bls0[j]? = some b0 → fitL (keyMap r.σs (ιOf r.ks)) (there (r.bls0.map some)) b0.us ∧ ∃ b, mem[k]? = some (some b) ∧ LikeB (keyMap r.σs (ιOf r.ks)) b b0
  blk : ∀ (j : Nat) k us, r.ks[j]? = some k → r.us[j]? = some us → ∃ bl, at? I mem k = some bl ∧ isDead bl.kd = false ∧ plainL us ∧ Like bl.us us
  apart : ∀ (j k : Nat) b0, r.σs[j]? = some k → r.bls0[j]? = some b0 → isWr b0.kd = true → Key.own k ∉ r.ks
  told : ToldW P f r.us r.bls0 r.args r.v r.bls1
  fitv : r.v.fit (keyMap' mem.length r.σs (ιOf r.ks)) (fun _ => True)
  fitb : ∀ b ∈ r.bls1, fitL (keyMap' mem.length r.σs (ιOf r.ks)) (fun _ => True) b.us
  ro : (∀ b ∈ r.bls1, isRo b.kd = false) ∨ r.ks = []

theorem memN_spec {l : List Nat} {k : Nat} (h : memN l k = false) : k ∉ l := by
  intro hk
  unfold memN at h
  rw [List.any_eq_false] at h
  exact h k hk (Nat.beq_refl k)
theorem nodupN_spec : ∀ {l : List Nat}, nodupN l = true → l.Nodup
  | [], _ => List.nodup_nil
  | a :: l, h => by
    obtain ⟨h1, h2⟩ := both h
    refine List.nodup_cons.2 ⟨memN_spec ?_, nodupN_spec h2⟩
    cases hb : memN l a with
    | true => rw [hb] at h1; cases h1
    | false => rfl
theorem nodup_get {l : List Nat} (h : l.Nodup) (i j k : Nat) (hi : l[i]? = some k) (hj : l[j]? = some k) : i = j := by
  obtain ⟨hi1, hi2⟩ := List.getElem?_eq_some_iff.1 hi
  obtain ⟨hj1, hj2⟩ := List.getElem?_eq_some_iff.1 hj
  have h := List.pairwise_iff_getElem.1 h
  rcases Nat.lt_trichotomy i j with hl | hl | hl
  · exact absurd (hi2.trans hj2.symm) (h i j hi1 hj1 hl)
  · exact hl
  · exact absurd (hj2.trans hi2.symm) (h j i hj1 hi1 hl)

theorem wr_call [LawAb A] {f : FuncId} {I : Inp A} {vs : List (LV A)} {mem : Mem A} {r : WrC A} (hf : r.fine mem = true) (h : WrOk P f I vs mem r) {D : Dom} {ρ : Key → Loc} {w : World} (ha : Ahead I D ρ mem vs w) :
    Calls P f (trs ρ vs).toArray w fun e w' => ∃ ρ', e = .returned (LV.tr ρ' (r.v.ren (keyMap' mem.length r.σs (ιOf r.ks)))) ∧ Left' I D w mem ρ ρ' (place r.σs (renM (keyMap' mem.length r.σs (ιOf r.ks)) (r.bls1.map some)) mem) (r.v.ren (keyMap' mem.length r.σs (ιOf r.ks))) w' := by
  obtain ⟨h1, _⟩ := both hf
  obtain ⟨h1, hks⟩ := both h1
  obtain ⟨h1, hm1⟩ := both h1
  obtain ⟨hnd, hsl⟩ := both h1
  have hnd := nodupN_spec hnd
  have hsl := beqN hsl
  have hm1 := bleN hm1
  have hks := beqN hks
  have g0 : ∀ (j : Nat) (b0 : Blk A), (r.bls0.map some)[j]? = some (some b0) → r.bls0[j]? = some b0 := by
    intro j b0 hb
    rw [List.getElem?_map, Option.map_eq_some_iff] at hb
    obtain ⟨b, h1, h2⟩ := hb
    cases h2; exact h1
  have g1 : ∀ (j : Nat) (b0 : Blk A), (r.bls1.map some)[j]? = some (some b0) → b0 ∈ r.bls1 := by
    intro j b0 hb
    rw [List.getElem?_map, Option.map_eq_some_iff] at hb
    obtain ⟨b, h1, h2⟩ := hb
    cases h2; exact List.mem_of_getElem? h1
  rw [← h.args] at ha ⊢
  refine frame_call (I0 := inOf r.us) (σs := r.σs) (mem0 := r.bls0.map some) (mem1 := r.bls1.map some) h.told ?_ (fun i j k hi hj _ _ => nodup_get hnd i j k hi hj) (by simp [hsl]) (fun j hj => ?_) h.fit (by simpa using hm1) (fun j hj => ?_) (fun j b1 hb => h.fitb b1 (g1 j b1 hb)) h.fitv ?_ ha
  · refine ⟨fun j b0 hb => ?_, fun x y => ?_, fun j k' b0 hb hw hn hk hlt => ?_⟩
    · have hb0 := g0 j b0 hb
      have hj := lt_of_get hb
      simp only [List.length_map] at hj
      have hs := List.getElem?_eq_getElem (show j < r.σs.length by omega)
      obtain ⟨h2, b, h3, h4⟩ := h.own j _ b0 hs hb0
      exact ⟨h2, .inl ⟨.own _, b, by simp only [keyMap, hs], at_own h3, h4⟩⟩
    · cases x with
      | succ x => exact .inl ⟨rfl, rfl⟩
      | zero =>
        rcases Nat.lt_or_ge y r.ks.length with hy | hy
        · have h1 := List.getElem?_eq_getElem hy
          have h2 := List.getElem?_eq_getElem (show y < r.us.length by omega)
          obtain ⟨bl, h3, h4, h5, h6⟩ := h.blk y _ _ h1 h2
          have e : inOf r.us 0 y = r.us[y]'(by omega) := by simp [inOf, List.getD_eq_getElem?_getD, h2]
          refine .inr ⟨_, bl, h1, h3, h4, ?_, ?_⟩
          · rw [e]; exact (plainL_ren _ _ _ h5).2
          · rw [e, (plainL_ren _ (fun _ => True) _ h5).1]; exact h6
        · refine .inl ⟨List.getElem?_eq_none hy, ?_⟩
          have : r.us[y]? = none := List.getElem?_eq_none (by omega)
          simp [inOf, List.getD_eq_getElem?_getD, this]
    · have hb0 := g0 j b0 hb
      have hj := lt_of_get hb
      simp only [List.length_map] at hj
      have hs := List.getElem?_eq_getElem (show j < r.σs.length by omega)
      have e1 : keyMap r.σs (ιOf r.ks) (.own j) = some (.own (r.σs[j]'(by omega))) := by simp only [keyMap, hs]
      rw [e1] at hk
      cases k' with
      | own i =>
        simp only [keyMap] at hk
        split at hk
        · rename_i q hq
          simp only [Option.some.injEq, Key.own.injEq] at hk
          subst hk
          rw [nodup_get hnd i j _ hq hs]
        · cases hk
      | inp x y =>
        exfalso
        cases x with
        | succ x => cases hk
        | zero => exact h.apart j _ b0 hs hb0 hw (List.mem_of_getElem? hk)
  · simp only [List.length_map] at hj
    exact ⟨_, by rw [List.getElem?_map, List.getElem?_eq_getElem hj]; rfl⟩
  · simp only [List.length_map] at hj
    exact ⟨_, by rw [List.getElem?_map, List.getElem?_eq_getElem (show j < r.bls1.length by omega)]; rfl⟩
  · rcases h.ro with hr | hr
    · exact .inl fun j b1 hb => hr b1 (g1 j b1 hb)
    · refine .inr fun x y k bl hk => ?_
      rw [hr] at hk
      cases x <;> simp [ιOf] at hk

/-- A contract of a call that writes. -/
def conWr [LawAb A] (f : FuncId) (ent : ∀ args w, (callFunc f args).run P w = .ok (.enter f args) w) (fn : Inp A → List (LV A) → Mem A → Option (WrC A))
    (ok : ∀ I vs mem r, fn I vs mem = some r → r.fine mem = true → r.c → WrOk P f I vs mem r) : ConC P A where
  f := f
  fn I vs mem := match fn I vs mem with
    | some r => match r.fine mem with
      | true => some (r.out mem.length mem)
      | false => none
    | none => none
  ent := ent
  grow I vs mem v mem' c h := by
    split at h
    · rename_i r hr
      split at h
      · rename_i hf
        cases h
        obtain ⟨h1, hlv⟩ := both hf
        obtain ⟨h1, _⟩ := both h1
        obtain ⟨h1, hm1⟩ := both h1
        obtain ⟨hnd, hsl⟩ := both h1
        have hnd := nodupN_spec hnd
        have hsl := beqN hsl
        have hm1 := bleN hm1
        rw [List.all_eq_true] at hlv
        have live : ∀ k ∈ r.σs, ∃ bl, mem[k]? = some (some bl) := by
          intro k hk
          have := hlv k hk
          unfold liveN at this
          split at this
          · rename_i bl hb; exact ⟨bl, hb⟩
          · cases this
        have hlen : r.σs.length ≤ (renM (keyMap' mem.length r.σs (ιOf r.ks)) (r.bls1.map some)).length := by simp [renM]; omega
        refine ⟨by rw [place_len _ _ _ hlen]; omega, fun k hk => ?_⟩
        by_cases hks : k ∈ r.σs
        · obtain ⟨j, hj, rfl⟩ := List.mem_iff_getElem.1 hks
          have hj' := List.getElem?_eq_getElem hj
          rw [place_at _ _ mem j _ hnd (fun k hk => by obtain ⟨bl, hb⟩ := live k hk; exact lt_of_get hb) hj' (by omega)]
          refine ⟨fun _ => ?_, fun _ => live _ hks⟩
          have hb := List.getElem?_eq_getElem (show j < r.bls1.length by omega)
          exact ⟨_, by simp only [renM, List.map_map, List.getElem?_map, hb]; rfl⟩
        · rw [place_old _ _ mem k hk hks]
      · cases h
    · cases h
  call I hI vs mem v mem' c h hc D ρ w ha := by
    split at h
    · rename_i r hr
      split at h
      · rename_i hf
        cases h
        exact wr_call hf (ok I vs mem r hr hf hc) ha
      · cases h
    · cases h
/-- Out of the executor. -/
theorem toldW_of [LawAb A] [LawEq A] {S : Sig A} (hS : SigOk P S) (hm : P.follows .mixedOrders = true) {n : Nat} {f : FuncId} {us : List (List (LV A))} (hI : S.inp = inOf us) {bls0 bls1 : List (Blk A)} {args : List (LV A)} {v : LV A} {c : Cnd}
    (h : callF P S n f args (bls0.map some) = some (v, bls1.map some, c)) (hc : condOk c) : ToldW P f us bls0 args v bls1 := by
  intro D ρ w ha
  have := callF_sound hS hm h hc (Own := D) (ρ := ρ) (w := w) (by rw [hI]; exact ha)
  rw [hI] at this
  exact this
end
end Go.Proofs.Ytjhjockdkpgpeaa.En
