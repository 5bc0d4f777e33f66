/- DERIVED. Calls of the program's functions; states that say the same. -/
import Derived.Test.YtjhjockdkpgpeaaVSK
set_option linter.all false
namespace Go.Proofs.Ytjhjockdkpgpeaa.En
open Go Go.RowKit

section
variable {A : Type} [Ab A] {P : Program} {S : Sig A} {I : Nat → Nat → List (LV A)}

/-- A call, as the executor tells it. -/
theorem callF_sound [LawAb A] [LawEq A] (hS : SigOk P S) (hm : P.follows .mixedOrders = true) {n : Nat} {f : FuncId} {args : List (LV A)} {mem mem' : Mem A} {v : LV A} {c : Cnd} (h : callF P S n f args mem = some (v, mem', c)) (hc : condOk c)
    {Own : Dom} {ρ : Key → Loc} {w : World} (ha : Ahead S.inp Own ρ mem args w) :
    Calls P f (trs ρ args).toArray w fun e w' => ∃ ρ', e = .returned (LV.tr ρ' v) ∧ Left' S.inp Own w mem ρ ρ' mem' v w' :=
  callN_call (fun s t o h hc => (exec_sound hS hm n).1 f [] _ s o t h rfl hc) h hc ha

theorem memRel_nil [LawAb A] (I : Nat → Nat → List (LV A)) (ρ : Key → Loc) (w : World) (hc : ∀ t i j v, (cellsL ρ (I t i))[j]? = some v → w.cell? ((ρ (.inp t i)).at j) = some v) (hb : ∀ t i, (ρ (.inp t i)).none = false → (ρ (.inp t i)).blk < w.heap.size) (hn : ∀ k, (ρ k).none = true → (ρ k).cap = 0) (he : ∀ t i, (ρ (.inp t i)).none = true → cszL (I t i) = 0) :
    MemRel I ρ ([] : Mem A) w where
  cell k bl h i v hv := by
    cases k with
    | own k => simp [at?] at h
    | inp t i => simp only [at?, Option.some.injEq] at h; subst h; exact hc _ _ _ _ hv
  free k bl h := by simp at h
  apart k k' bl bl' _ h := by simp at h
  inb k bl h _ hn := by
    cases k with
    | own k => simp [at?] at h
    | inp t i => exact hb _ _ hn
  row k bl e h := by simp at h
  nilc := hn
  empt k bl h hn := by
    cases k with
    | own k => simp [at?] at h
    | inp t i => simp only [at?, Option.some.injEq] at h; subst h; exact he _ _ hn
  dead k bl h := by simp at h

/-- A call that takes what came in, and answers a plain value. -/
theorem calls_top [LawAb A] [LawEq A] (hS : SigOk P S) (hm : P.follows .mixedOrders = true) {n : Nat} {f : FuncId} {args : List (LV A)} {v : LV A} {c : Cnd} (h : (callF P S n f args []).map (fun r => (r.1, r.2.2)) = some (v, c)) (hc : condOk c)
    {ρ : Key → Loc} {w : World} (hmem : MemRel S.inp ρ [] w) (ha : kinL (okKey ([] : Mem A) ρ) args) (hk : ∀ t i, kinL (okKey ([] : Mem A) ρ) (S.inp t i)) (hv : ∀ ρ ρ' : Key → Loc, LV.tr ρ' v = LV.tr ρ v) :
    Calls P f (trs ρ args).toArray w fun e w' => e = .returned (LV.tr ρ v) ∧ Below w.heap.size w w' := by
  cases hr : callF P S n f args [] with
  | none => rw [hr] at h; cases h
  | some r =>
    obtain ⟨v', m', c'⟩ := r
    rw [hr] at h
    simp only [Option.map_some, Option.some.injEq, Prod.mk.injEq] at h
    obtain ⟨rfl, rfl⟩ := h
    refine (callF_sound hS hm hr hc (Own := ⟨fun k => w.heap.size ≤ k, fun _ => True⟩) ⟨hmem, ⟨fun k bl h => by simp at h, fun _ _ _ _ _ => trivial⟩, fun b h => ⟨h, trivial⟩, ha, fun k bl h => ?_⟩).mono ?_
    · cases k with
      | own k => simp [at?] at h
      | inp t i => simp only [at?, Option.some.injEq] at h; subst h; exact hk t i
    · rintro e w' ⟨ρ', rfl, hl⟩
      exact ⟨by rw [hv ρ ρ'], hl.keeps.below⟩

/-! ## the state that an execution comes to -/
def outS : Option (Out × LS A) → LS A
  | some (_, t) => t
  | none => ⟨[], [], []⟩
def outO : Option (Out × LS A) → Option Out
  | some (o, _) => some o
  | none => none
theorem out_eq {r : Option (Out × LS A)} {o : Out} (h : outO r = some o) : r = some (o, outS r) := by
  cases r with
  | none => cases h
  | some r => obtain ⟨o', t⟩ := r; simp only [outO, Option.some.injEq] at h; subst h; rfl

theorem Ex.of_exec [LawAb A] [LawEq A] (hS : SigOk P S) (hm : P.follows .mixedOrders = true) {n : Nat} {cur : FuncId} {p : List Nat} {s : LS A} {o : Out} (h : outO (exec P S n cur p (codeAt P cur p) s) = some o) (hc : condOk (allC (outS (exec P S n cur p (codeAt P cur p) s)).conds)) :
    Ex P S.inp (codeAt P cur p) s o (outS (exec P S n cur p (codeAt P cur p) s)) :=
  (exec_sound hS hm n).1 cur p _ s _ o (out_eq h) rfl (allC_ok hc)

theorem Ex.of_run [LawAb A] [LawEq A] (hS : SigOk P S) (hI : S.inp = I) (hm : P.follows .mixedOrders = true) {n : Nat} {cur : FuncId} {p : List Nat} {s : LS A} {o : Out} {r : Option (Out × LS A)} (hr : r = exec P S n cur p (codeAt P cur p) s) (h : outO r = some o) (hc : condOk (allC (outS r).conds)) :
    Ex P I (codeAt P cur p) s o (outS r) := by
  subst hI
  subst hr
  exact Ex.of_exec hS hm h hc

/-! ## names of blocks changed -/
mutual
def LV.ren (τ : Key → Option Key) : LV A → LV A
  | .ptr b o p => match τ b with
    | some b' => .ptr b' o p
    | none => .any
  | .slice b o p len cap => match τ b with
    | some b' => .slice b' o p len cap
    | none => .any
  | .vec b len => match τ b with
    | some b' => .vec b' len
    | none => .nils
  | .rows n z f => .rows n z fun i => renL τ (f i)
  | .agg us => .agg (renL τ us)
  | .tup vs => .tup (renL τ vs)
  | .iface t v => .iface t (LV.ren τ v)
  | .func f caps => .func f (renL τ caps)
  | v => v
def renL (τ : Key → Option Key) : List (LV A) → List (LV A)
  | [] => []
  | v :: l => LV.ren τ v :: renL τ l
end
mutual
/-- The keys of a value fit: those that are nothing stand for nil alone. -/
def LV.fit (τ : Key → Option Key) (q : Key → Prop) : LV A → Prop
  | .ptr b _ _ => τ b ≠ none ∧ q b
  | .slice b _ _ _ _ => τ b ≠ none ∧ q b
  | .vec b len => (τ b = none → len = 0) ∧ q b
  | .rows _ _ f => ∀ i, fitL τ q (f i)
  | .agg us => fitL τ q us
  | .tup vs => fitL τ q vs
  | .iface _ v => LV.fit τ q v
  | .func _ caps => fitL τ q caps
  | _ => True
def fitL (τ : Key → Option Key) (q : Key → Prop) : List (LV A) → Prop
  | [] => True
  | v :: l => LV.fit τ q v ∧ fitL τ q l
end

def renρ (τ : Key → Option Key) (ρ : Key → Loc) (k : Key) : Loc := match τ k with
  | some k' => ρ k'
  | none => ⟨0, 0, 0, true, none⟩
theorem renρ_some {τ : Key → Option Key} {ρ : Key → Loc} {b b' : Key} (h : τ b = some b') : renρ τ ρ b = ρ b' := by simp [renρ, h]
theorem renρ_none {τ : Key → Option Key} {ρ : Key → Loc} {b : Key} (h : τ b = none) : renρ τ ρ b = ⟨0, 0, 0, true, none⟩ := by simp [renρ, h]
theorem ne_ex {α : Type} {x : Option α} (h : x ≠ none) : ∃ y, x = some y := by
  cases x with
  | none => exact absurd rfl h
  | some y => exact ⟨y, rfl⟩

mutual
theorem tr_ren (τ : Key → Option Key) (q : Key → Prop) (ρ : Key → Loc) : ∀ v : LV A, v.fit τ q → LV.tr (renρ τ ρ) v = LV.tr ρ (v.ren τ)
  | .ptr b o p, h => by obtain ⟨b', h1⟩ := ne_ex h.1; simp only [LV.ren, h1, LV.tr, renρ_some h1]
  | .slice b o p len cap, h => by obtain ⟨b', h1⟩ := ne_ex h.1; simp only [LV.ren, h1, LV.tr, renρ_some h1]
  | .vec b len, h => by
    cases hk : τ b with
    | none =>
      have := h.1 hk
      subst this
      simp [LV.ren, hk, LV.tr, renρ, vecV, Nat.beq_refl]
    | some k' => simp [LV.ren, hk, LV.tr, renρ]
  | .rows n z f, h => by
    simp only [LV.ren, LV.tr]
    have : ∀ i, cellsL (renρ τ ρ) (f i) = cellsL ρ (renL τ (f i)) := fun i => cellsL_ren τ q ρ (f i) (h i)
    simp only [this]
  | .agg us, h => by simp only [LV.ren, LV.tr, cellsL_ren τ q ρ us h]
  | .tup vs, h => by simp only [LV.ren, LV.tr, trs_ren τ q ρ vs h]
  | .iface t v, h => by simp only [LV.ren, LV.tr, tr_ren τ q ρ v h]
  | .func f caps, h => by simp only [LV.ren, LV.tr, trs_ren τ q ρ caps h]
  | .any, _ => rfl
  | .undef, _ => rfl
  | .int _ _, _ => rfl
  | .bool _, _ => rfl
  | .str _, _ => rfl
  | .nilp, _ => rfl
  | .nils, _ => rfl
  | .nilfn, _ => rfl
  | .niliface, _ => rfl
  | .abs _, _ => rfl
theorem cells_ren (τ : Key → Option Key) (q : Key → Prop) (ρ : Key → Loc) : ∀ v : LV A, v.fit τ q → LV.cells (renρ τ ρ) v = LV.cells ρ (v.ren τ)
  | .ptr b o p, h => by obtain ⟨b', h1⟩ := ne_ex h.1; simp only [LV.ren, h1, LV.cells, renρ_some h1]
  | .slice b o p len cap, h => by obtain ⟨b', h1⟩ := ne_ex h.1; simp only [LV.ren, h1, LV.cells, renρ_some h1]
  | .vec b len, h => by
    cases hk : τ b with
    | none =>
      have := h.1 hk
      subst this
      simp [LV.ren, hk, LV.cells, renρ, vecV, Nat.beq_refl]
    | some k' => simp [LV.ren, hk, LV.cells, renρ]
  | .rows n z f, h => by
    simp only [LV.ren, LV.cells]
    have : ∀ i, cellsL (renρ τ ρ) (f i) = cellsL ρ (renL τ (f i)) := fun i => cellsL_ren τ q ρ (f i) (h i)
    simp only [this]
  | .agg us, h => by simp only [LV.ren, LV.cells, cellsL_ren τ q ρ us h]
  | .tup vs, h => rfl
  | .iface t v, h => by simp only [LV.ren, LV.cells, tr_ren τ q ρ v h]
  | .func f caps, h => by simp only [LV.ren, LV.cells, trs_ren τ q ρ caps h]
  | .any, _ => rfl
  | .undef, _ => rfl
  | .int _ _, _ => rfl
  | .bool _, _ => rfl
  | .str _, _ => rfl
  | .nilp, _ => rfl
  | .nils, _ => rfl
  | .nilfn, _ => rfl
  | .niliface, _ => rfl
  | .abs _, _ => rfl
theorem trs_ren (τ : Key → Option Key) (q : Key → Prop) (ρ : Key → Loc) : ∀ l : List (LV A), fitL τ q l → trs (renρ τ ρ) l = trs ρ (renL τ l)
  | [], _ => rfl
  | v :: l, h => by simp only [trs, renL, tr_ren τ q ρ v h.1, trs_ren τ q ρ l h.2]
theorem cellsL_ren (τ : Key → Option Key) (q : Key → Prop) (ρ : Key → Loc) : ∀ l : List (LV A), fitL τ q l → cellsL (renρ τ ρ) l = cellsL ρ (renL τ l)
  | [], _ => rfl
  | v :: l, h => by simp only [cellsL, renL, cells_ren τ q ρ v h.1, cellsL_ren τ q ρ l h.2]
end

/-- Is it there? -/
def there (m : Mem A) : Key → Prop
  | .own k => match m[k]? with
    | some (some _) => True
    | _ => False
  | .inp _ _ => True
theorem there_ex {m : Mem A} {k : Nat} (h : there m (.own k)) : ∃ bl, m[k]? = some (some bl) := by
  simp only [there] at h
  split at h
  · rename_i bl hb; exact ⟨bl, hb⟩
  · exact h.elim
theorem ex_there {m : Mem A} {k : Nat} {bl : Blk A} (h : m[k]? = some (some bl)) : there m (.own k) := by simp [there, h]

theorem okKey_ren {τ : Key → Option Key} {ρ : Key → Loc} {m m' : Mem A} {k k' : Key} {n : Nat} (h : τ k = some k') (hk : there m' k) (ho : okKey m ρ k' n) : okKey m' (renρ τ ρ) k n := by
  have hcap : n ≤ (ρ k').cap := by
    cases k' with
    | own _ => exact ho.2
    | inp _ _ => exact ho
  cases k with
  | own k => exact ⟨there_ex hk, by rw [renρ_some h]; exact hcap⟩
  | inp x y => show n ≤ (renρ τ ρ (.inp x y)).cap; rw [renρ_some h]; exact hcap
theorem okKey_nil {τ : Key → Option Key} {ρ : Key → Loc} {m' : Mem A} {k : Key} (hk : there m' k) : okKey m' (renρ τ ρ) k 0 := by
  cases k with
  | own k => exact ⟨there_ex hk, Nat.zero_le _⟩
  | inp x y => exact Nat.zero_le _

mutual
theorem kin_ren {τ : Key → Option Key} {ρ : Key → Loc} {m m' : Mem A} : ∀ v : LV A, v.fit τ (there m') → (v.ren τ).kin (okKey m ρ) → v.kin (okKey m' (renρ τ ρ))
  | .ptr b o p, h, hk => by obtain ⟨b', h1⟩ := ne_ex h.1; simp only [LV.ren, h1] at hk; exact okKey_ren h1 h.2 hk
  | .slice b o p len cap, h, hk => by obtain ⟨b', h1⟩ := ne_ex h.1; simp only [LV.ren, h1] at hk; exact okKey_ren h1 h.2 hk
  | .vec b len, h, hk => by
    cases hs : τ b with
    | none =>
      have := h.1 hs
      subst this
      exact okKey_nil h.2
    | some k' => simp only [LV.ren, hs] at hk; exact okKey_ren hs h.2 hk
  | .rows n z f, h, hk => fun i => kinL_ren (f i) (h i) (hk i)
  | .agg us, h, hk => kinL_ren us h hk
  | .tup vs, h, hk => kinL_ren vs h hk
  | .iface t v, h, hk => kin_ren v h hk
  | .func f caps, h, hk => kinL_ren caps h hk
  | .any, _, _ => trivial
  | .undef, _, _ => trivial
  | .int _ _, _, _ => trivial
  | .bool _, _, _ => trivial
  | .str _, _, _ => trivial
  | .nilp, _, _ => trivial
  | .nils, _, _ => trivial
  | .nilfn, _, _ => trivial
  | .niliface, _, _ => trivial
  | .abs _, _, _ => trivial
theorem kinL_ren {τ : Key → Option Key} {ρ : Key → Loc} {m m' : Mem A} : ∀ l : List (LV A), fitL τ (there m') l → kinL (okKey m ρ) (renL τ l) → kinL (okKey m' (renρ τ ρ)) l
  | [], _, _ => trivial
  | v :: l, h, hk => ⟨kin_ren v h.1 hk.1, kinL_ren l h.2 hk.2⟩
end
mutual
theorem csz_ren (τ : Key → Option Key) : ∀ v : LV A, csz (v.ren τ) = csz v
  | .ptr b o p => by cases hk : τ b <;> simp [LV.ren, hk, csz]
  | .slice b o p len cap => by cases hk : τ b <;> simp [LV.ren, hk, csz]
  | .vec b len => by cases hk : τ b <;> simp [LV.ren, hk, csz]
  | .rows n z f => rfl
  | .agg us => by simp only [LV.ren, csz, cszL_ren τ us]
  | .tup vs => rfl
  | .iface t v => rfl
  | .func f caps => rfl
  | .any => rfl
  | .undef => rfl
  | .int _ _ => rfl
  | .bool _ => rfl
  | .str _ => rfl
  | .nilp => rfl
  | .nils => rfl
  | .nilfn => rfl
  | .niliface => rfl
  | .abs _ => rfl
theorem cszL_ren (τ : Key → Option Key) : ∀ l : List (LV A), cszL (renL τ l) = cszL l
  | [] => rfl
  | v :: l => by simp only [renL, cszL, csz_ren τ v, cszL_ren τ l]
end

theorem ren_any {τ : Key → Option Key} {q : Key → Prop} {v : LV A} (h : v.fit τ q) (e : v.ren τ = .any) : v = .any := by
  cases v
  case ptr b o p => obtain ⟨b', h1⟩ := ne_ex h.1; simp [LV.ren, h1] at e
  case slice b o p len cap => obtain ⟨b', h1⟩ := ne_ex h.1; simp [LV.ren, h1] at e
  case vec b len => cases hb : τ b <;> simp [LV.ren, hb] at e
  case any => rfl
  all_goals simp [LV.ren] at e

mutual
/-- No block of the state's own is named. -/
def LV.alien : LV A → Prop
  | .ptr b _ _ => match b with
    | .own _ => False
    | .inp _ _ => True
  | .slice b _ _ _ _ => match b with
    | .own _ => False
    | .inp _ _ => True
  | .vec b _ => match b with
    | .own _ => False
    | .inp _ _ => True
  | .rows _ _ f => ∀ i, alienL (f i)
  | .agg us => alienL us
  | .tup vs => alienL vs
  | .iface _ v => LV.alien v
  | .func _ caps => alienL caps
  | _ => True
def alienL : List (LV A) → Prop
  | [] => True
  | v :: l => LV.alien v ∧ alienL l
end

/-- Own names changed alone. -/
def ownK (σ : Nat → Option Key) : Key → Option Key
  | .own k => σ k
  | .inp t i => some (.inp t i)

mutual
theorem alien_ren (σ : Nat → Option Key) (m : Mem A) : ∀ v : LV A, v.alien → v.ren (ownK σ) = v ∧ v.fit (ownK σ) (there m)
  | .ptr b o p, h => by
    cases b with
    | own k => exact h.elim
    | inp t i => exact ⟨rfl, by simp [ownK], trivial⟩
  | .slice b o p len cap, h => by
    cases b with
    | own k => exact h.elim
    | inp t i => exact ⟨rfl, by simp [ownK], trivial⟩
  | .vec b len, h => by
    cases b with
    | own k => exact h.elim
    | inp t i => exact ⟨rfl, by simp [ownK], trivial⟩
  | .rows n z f, h => by
    refine ⟨?_, fun i => (alienL_ren σ m (f i) (h i)).2⟩
    have : (fun i => renL (ownK σ) (f i)) = f := funext fun i => (alienL_ren σ m (f i) (h i)).1
    simp only [LV.ren, this]
  | .agg us, h => ⟨by simp only [LV.ren, (alienL_ren σ m us h).1], (alienL_ren σ m us h).2⟩
  | .tup vs, h => ⟨by simp only [LV.ren, (alienL_ren σ m vs h).1], (alienL_ren σ m vs h).2⟩
  | .iface t v, h => ⟨by simp only [LV.ren, (alien_ren σ m v h).1], (alien_ren σ m v h).2⟩
  | .func f caps, h => ⟨by simp only [LV.ren, (alienL_ren σ m caps h).1], (alienL_ren σ m caps h).2⟩
  | .any, _ => ⟨rfl, trivial⟩
  | .undef, _ => ⟨rfl, trivial⟩
  | .int _ _, _ => ⟨rfl, trivial⟩
  | .bool _, _ => ⟨rfl, trivial⟩
  | .str _, _ => ⟨rfl, trivial⟩
  | .nilp, _ => ⟨rfl, trivial⟩
  | .nils, _ => ⟨rfl, trivial⟩
  | .nilfn, _ => ⟨rfl, trivial⟩
  | .niliface, _ => ⟨rfl, trivial⟩
  | .abs _, _ => ⟨rfl, trivial⟩
theorem alienL_ren (σ : Nat → Option Key) (m : Mem A) : ∀ l : List (LV A), alienL l → renL (ownK σ) l = l ∧ fitL (ownK σ) (there m) l
  | [], _ => ⟨rfl, trivial⟩
  | v :: l, h => ⟨by simp only [renL, (alien_ren σ m v h.1).1, (alienL_ren σ m l h.2).1], (alien_ren σ m v h.1).2, (alienL_ren σ m l h.2).2⟩
end

/-! ## the same cells -/
structure Like (us us' : List (LV A)) : Prop where
  cells : ∀ ρ, cellsL ρ us = cellsL ρ us'
  kin : ∀ p, kinL p us → kinL p us'
theorem Like.refl (us : List (LV A)) : Like us us := ⟨fun _ => rfl, fun _ h => h⟩
theorem Like.of_eq {us us' : List (LV A)} (h : us = us') : Like us us' := h ▸ Like.refl us
theorem Like.cons {u u' : LV A} {us us' : List (LV A)} (h : Like [u] [u']) (k : Like us us') : Like (u :: us) (u' :: us') where
  cells ρ := by
    have h1 := h.cells ρ
    simp only [cellsL, List.append_nil] at h1
    simp only [cellsL, h1, k.cells ρ]
  kin p hk := ⟨(h.kin p ⟨hk.1, trivial⟩).1, k.kin p hk.2⟩
/-- Rows that are alike where there are any. -/
theorem Like.rows {n z : Nat} {f g : Nat → List (LV A)} (h : ∀ i, i < n → Like (f i) (g i)) (hk : ∀ i, n ≤ i → ∀ p, (∀ j, kinL p (f j)) → kinL p (g i)) : Like [LV.rows n z f] [LV.rows n z g] where
  cells ρ := by
    simp only [cellsL, LV.cells, List.append_nil]
    have key : ∀ m, m ≤ n → (List.range m).flatMap (fun i => fitTo z (cellsL ρ (f i))) = (List.range m).flatMap (fun i => fitTo z (cellsL ρ (g i))) := by
      intro m
      induction m with
      | zero => intro _; rfl
      | succ m ih =>
        intro hm
        rw [List.range_succ, List.flatMap_append, List.flatMap_append, ih (by omega)]
        simp [(h m (by omega)).cells ρ]
    exact key n (Nat.le_refl n)
  kin p hf := ⟨fun i => by
    rcases Nat.lt_or_ge i n with hi | hi
    · exact (h i hi).kin p (hf.1 i)
    · exact hk i hi p hf.1, trivial⟩
theorem Like.of_cells {us us' : List (LV A)} (h : ∀ ρ, cellsL ρ us = cellsL ρ us') (hk : ∀ p, kinL p us') : Like us us' := ⟨h, fun p _ => hk p⟩
theorem rowOk_rows (k : Kd) (n z : Nat) (f g : Nat → List (LV A)) : rowOk k [.rows n z f] [.rows n z g] = true := by
  cases k <;> simp [rowOk, Nat.beq_refl]
theorem blt_false {a b : Nat} (h : ¬ a < b) : Nat.blt a b = false := by
  cases hb : Nat.blt a b with
  | true => exact absurd (bltN hb) h
  | false => rfl
theorem rep_getD {α : Type} {n j : Nat} (x d : α) (h : j < n) : (List.replicate n x).getD j d = x := by
  rw [List.getD_eq_getElem?_getD, List.getElem?_replicate, if_pos h]; rfl
theorem cells_rows_congr (ρ : Key → Loc) {n z : Nat} {f g : Nat → List (LV A)} (h : ∀ i, i < n → cellsL ρ (f i) = cellsL ρ (g i)) : cellsL ρ [LV.rows n z f] = cellsL ρ [LV.rows n z g] := by
  simp only [cellsL, LV.cells, List.append_nil]
  have key : ∀ m, m ≤ n → (List.range m).flatMap (fun i => fitTo z (cellsL ρ (f i))) = (List.range m).flatMap (fun i => fitTo z (cellsL ρ (g i))) := by
    intro m
    induction m with
    | zero => intro _; rfl
    | succ m ih =>
      intro hm
      rw [List.range_succ, List.flatMap_append, List.flatMap_append, ih (by omega)]
      simp [h m (by omega)]
  exact key n (Nat.le_refl n)
/-- What may be written may be told as only read. -/
def KdFit (k k0 : Kd) : Prop := k = k0 ∨ (k0 = .ro ∧ isDead k = false)
theorem KdFit.refl (k : Kd) : KdFit k k := .inl rfl
theorem KdFit.wr {k k0 : Kd} (h : KdFit k k0) (hw : isWr k0 = true) : k = k0 := by
  rcases h with h | ⟨rfl, _⟩
  · exact h
  · cases hw
theorem KdFit.live {k k0 : Kd} (h : KdFit k k0) (hd : isDead k0 = false) : isDead k = false := by
  rcases h with rfl | ⟨_, h⟩
  · exact hd
  · exact h
theorem KdFit.row {k k0 : Kd} {e : TypeId} (h : KdFit k k0) (he : k0 = .row e) : k = .row e := by
  rcases h with rfl | ⟨rfl, _⟩
  · exact he
  · cases he
structure LikeB (τ : Key → Option Key) (b b0 : Blk A) : Prop where
  kd : KdFit b.kd b0.kd
  like : Like b.us (renL τ b0.us)
  row : rowOk b0.kd b.us (renL τ b0.us) = true
  dead : isDead b0.kd = true → b0.us = []

/-- The kind of a block that is none. -/
def nilK : Option TypeId → Kd
  | some e => .row e
  | none => .ro
theorem nilK_dead (e : Option TypeId) : isDead (nilK e) = false := by cases e <;> rfl
/-! ## a part of memory, told under other names -/
/-- The blocks of one memory among those of another. -/
structure Part (I0 I : Nat → Nat → List (LV A)) (τ : Key → Option Key) (mem0 mem : Mem A) : Prop where
  own : ∀ (j : Nat) (b0 : Blk A), mem0[j]? = some (some b0) → fitL τ (there mem0) b0.us ∧
    ((∃ k b, τ (.own j) = some k ∧ at? I mem k = some b ∧ LikeB τ b b0) ∨ (τ (.own j) = none ∧ ∃ e z f, b0 = ⟨nilK e, [.rows 0 z f]⟩ ∧ ∀ i p, kinL p (f i)))
  inp : ∀ x y, (τ (.inp x y) = none ∧ I0 x y = []) ∨ ∃ k bl, τ (.inp x y) = some k ∧ at? I mem k = some bl ∧ isDead bl.kd = false ∧ fitL τ (there mem0) (I0 x y) ∧ Like bl.us (renL τ (I0 x y))
  inj : ∀ (j : Nat) k' (b0 : Blk A), mem0[j]? = some (some b0) → isWr b0.kd = true → τ (.own j) ≠ none → τ k' = τ (.own j) → (∀ i, k' = .own i → i < mem0.length) → k' = .own j

theorem rowOk_form {k : Kd} {us us' : List (LV A)} (h : rowOk k us us' = true) {e : TypeId} (hk : k = .row e) {n z : Nat} {f : Nat → List (LV A)} (hu : us = [.rows n z f]) : ∃ g, us' = [.rows n z g] := by
  subst hk; subst hu
  simp only [rowOk] at h
  split at h
  · rename_i n1 z1 f1 n' z' g' heq
    simp only [List.cons.injEq, LV.rows.injEq, and_true] at heq
    obtain ⟨rfl, rfl, _⟩ := heq
    have h1 := beqN (both h).1
    have h2 := beqN (both h).2
    subst h1; subst h2
    exact ⟨g', rfl⟩
  · cases h

theorem ren_form {τ : Key → Option Key} {us : List (LV A)} {n z : Nat} {g : Nat → List (LV A)} (e1 : renL τ us = [.rows n z g]) : ∃ f', us = [.rows n z f'] := by
  match hu : us, e1 with
  | [u], e1 =>
    simp only [renL, List.cons.injEq, and_true] at e1
    cases u <;> simp only [LV.ren, reduceCtorEq] at e1 <;> try (split at e1 <;> cases e1)
    simp only [LV.rows.injEq] at e1
    obtain ⟨rfl, rfl, _⟩ := e1
    exact ⟨_, rfl⟩
  | [], e1 => simp [renL] at e1
  | _ :: _ :: _, e1 => simp [renL] at e1

theorem Part.mem [LawAb A] {I0 I : Nat → Nat → List (LV A)} {τ : Key → Option Key} {mem0 mem : Mem A} (h : Part I0 I τ mem0 mem) {ρ : Key → Loc} {w : World} (hm : MemRel I ρ mem w) : MemRel I0 (renρ τ ρ) mem0 w := by
  have lnk : ∀ (k0 : Key) (b0 : Blk A), at? I0 mem0 k0 = some b0 → (renρ τ ρ k0).none = false → ∃ k bl, τ k0 = some k ∧ at? I mem k = some bl ∧ (isDead b0.kd = false → isDead bl.kd = false) ∧ (isWr b0.kd = true → ∃ j k', k0 = .own j ∧ k = .own k' ∧ isWr bl.kd = true) := by
    intro k0 b0 hb hn
    cases k0 with
    | own j =>
      rcases (h.own j b0 (at_own' hb)).2 with ⟨k, bl, h1, h2, h3⟩ | ⟨h1, _⟩
      · refine ⟨k, bl, h1, h2, fun e => h3.kd.live e, fun e => ?_⟩
        cases k with
        | own k => exact ⟨j, k, rfl, rfl, by rw [h3.kd.wr e]; exact e⟩
        | inp x y =>
          simp only [at?, Option.some.injEq] at h2
          rw [← h3.kd.wr e, ← h2] at e; cases e
      · rw [renρ_none h1] at hn; cases hn
    | inp x y =>
      simp only [at?, Option.some.injEq] at hb
      subst hb
      rcases h.inp x y with ⟨h1, _⟩ | ⟨k, bl, h1, h2, h3, _⟩
      · rw [renρ_none h1] at hn; cases hn
      · exact ⟨k, bl, h1, h2, fun _ => h3, fun e => by cases e⟩
  constructor
  · intro k0 b0 hb i v hv
    cases k0 with
    | own j =>
      obtain ⟨h0, h1⟩ := h.own j b0 (at_own' hb)
      rw [cellsL_ren τ _ ρ b0.us h0] at hv
      rcases h1 with ⟨k, bl, h1, h2, h3⟩ | ⟨h1, e, z, f, rfl, _⟩
      · rw [← h3.like.cells ρ] at hv
        rw [renρ_some h1]; exact hm.cell _ _ h2 i v hv
      · simp [renL, LV.ren, cellsL, LV.cells] at hv
    | inp x y =>
      simp only [at?, Option.some.injEq] at hb
      subst hb
      rcases h.inp x y with ⟨_, h2⟩ | ⟨k, bl, h1, h2, h3, h4, h5⟩
      · simp only at hv; rw [h2] at hv; simp [cellsL] at hv
      · simp only at hv
        rw [cellsL_ren τ _ ρ _ h4, ← h5.cells ρ] at hv
        rw [renρ_some h1]; exact hm.cell k bl h2 i v hv
  · intro j b0 hb hw i hi
    obtain ⟨h0, h1⟩ := h.own j b0 hb
    rcases h1 with ⟨k, bl, h1, h2, h3⟩ | ⟨h1, e, z, f, rfl, _⟩
    · cases k with
      | own k =>
        rw [renρ_some h1]
        refine hm.free k _ (at_own' h2) (by rw [h3.kd.wr hw]; exact hw) i ?_
        rw [← len_cellsL ρ, h3.like.cells ρ, len_cellsL, cszL_ren]
        exact hi
      | inp x y =>
        simp only [at?, Option.some.injEq] at h2
        rw [← h3.kd.wr hw, ← h2] at hw; cases hw
    · simp [cszL, csz] at hi
  · intro j k0' b0 b0' hne hb hb' hw hd n1 n2
    obtain ⟨k, bl, e1, e2, e3, e4⟩ := lnk (.own j) b0 (at_own hb) n1
    obtain ⟨k', bl', e1', e2', e3', e4'⟩ := lnk k0' b0' hb' n2
    obtain ⟨j', kk, hj, rfl, hwb⟩ := e4 hw
    cases hj
    rw [renρ_some e1] at n1 ⊢
    rw [renρ_some e1'] at n2 ⊢
    refine hm.apart kk k' bl bl' ?_ (at_own' e2) e2' hwb (e3' hd) n1 n2
    rintro rfl
    refine hne (h.inj j k0' b0 hb hw (by rw [e1]; simp) (by rw [e1, e1']) ?_).symm
    rintro i rfl
    exact lt_of_get (at_own' hb')
  · intro k0 b0 hb hd hn
    obtain ⟨k, bl, e1, e2, e3, _⟩ := lnk k0 b0 hb hn
    rw [renρ_some e1] at hn ⊢
    exact hm.inb k bl e2 (e3 hd) hn
  · intro j b0 e hb he
    obtain ⟨h0, h1⟩ := h.own j b0 hb
    rcases h1 with ⟨k, bl, h1, h2, h3⟩ | ⟨h1, e', z, f, rfl, _⟩
    · have hko : ∃ q, k = .own q := by
        cases k with
        | own q => exact ⟨q, rfl⟩
        | inp x y =>
          simp only [at?, Option.some.injEq] at h2
          have := h3.kd.row he; rw [← h2] at this; cases this
      obtain ⟨k, rfl⟩ := hko
      have hke : bl.kd = .row e := h3.kd.row he
      obtain ⟨n, z, f, e1, e0, e2⟩ := hm.row k _ e (at_own' h2) hke
      obtain ⟨g, e4⟩ := rowOk_form h3.row he e1
      obtain ⟨f', e5⟩ := ren_form e4
      refine ⟨n, z, f', e5, by rw [renρ_some h1]; exact e0, ?_⟩
      rw [renρ_some h1, cellsL_ren τ _ ρ b0.us h0, ← h3.like.cells ρ]
      exact e2
    · cases e' with
      | none => cases he
      | some e' =>
      cases he
      refine ⟨0, z, f, rfl, by rw [renρ_none h1], ?_⟩
      rw [renρ_none h1]
      have : vecV ⟨0, 0, 0, true, none⟩ 0 = .slice none 0 0 := rfl
      rw [this]
      exact World.ownsRow_nil w 0 e z
  · intro k hn
    cases hs : τ k with
    | some k' => rw [renρ_some hs] at hn ⊢; exact hm.nilc _ hn
    | none => rw [renρ_none hs]
  · intro k0 b0 hb hn
    cases k0 with
    | own j =>
      obtain ⟨h0, h1⟩ := h.own j b0 (at_own' hb)
      rcases h1 with ⟨k, bl, h1, h2, h3⟩ | ⟨h1, e', z, f, rfl, _⟩
      · rw [renρ_some h1] at hn
        have := hm.empt _ _ h2 hn
        rw [← len_cellsL ρ, h3.like.cells ρ, len_cellsL, cszL_ren] at this
        exact this
      · simp [cszL, csz]
    | inp x y =>
      simp only [at?, Option.some.injEq] at hb
      subst hb
      rcases h.inp x y with ⟨_, h2⟩ | ⟨k, bl, h1, h2, h3, h4, h5⟩
      · simp only [h2]; rfl
      · rw [renρ_some h1] at hn
        have := hm.empt k bl h2 hn
        rw [← len_cellsL ρ, h5.cells ρ, len_cellsL, cszL_ren] at this
        exact this
  · intro j b0 hb hd
    obtain ⟨h0, h1⟩ := h.own j b0 hb
    rcases h1 with ⟨k, bl, h1, h2, h3⟩ | ⟨h1, e', z, f, rfl, _⟩
    · exact h3.dead hd
    · rw [show isDead (⟨nilK e', [.rows 0 z f]⟩ : Blk A).kd = isDead (nilK e') from rfl, nilK_dead] at hd; cases hd

theorem Part.kin [LawAb A] {I0 I : Nat → Nat → List (LV A)} {τ : Key → Option Key} {mem0 mem : Mem A} (h : Part I0 I τ mem0 mem) {ρ : Key → Loc} (hk : ∀ (k : Key) (bl : Blk A), at? I mem k = some bl → kinL (okKey mem ρ) bl.us) : ∀ (k : Key) (bl : Blk A), at? I0 mem0 k = some bl → kinL (okKey mem0 (renρ τ ρ)) bl.us := by
  intro k0 b0 hb
  cases k0 with
  | own j =>
    obtain ⟨h0, h1⟩ := h.own j b0 (at_own' hb)
    rcases h1 with ⟨k, bl, h1, h2, h3⟩ | ⟨h1, e', z, f, rfl, hff⟩
    · exact kinL_ren b0.us h0 (h3.like.kin _ (hk _ _ h2))
    · exact ⟨fun i => hff i _, trivial⟩
  | inp x y =>
    simp only [at?, Option.some.injEq] at hb
    subst hb
    rcases h.inp x y with ⟨_, h2⟩ | ⟨k, bl, h1, h2, h3, h4, h5⟩
    · simp only [h2]; trivial
    · exact kinL_ren _ h4 (h5.kin _ (hk k bl h2))

theorem Part.src {I0 I : Nat → Nat → List (LV A)} {τ : Key → Option Key} {mem0 mem : Mem A} (h : Part I0 I τ mem0 mem) {ρ : Key → Loc} {k0 : Key} {b0 : Blk A} (hb : at? I0 mem0 k0 = some b0) (hd : isDead b0.kd = false) (hn : (renρ τ ρ k0).none = false) : ∃ k bl, τ k0 = some k ∧ at? I mem k = some bl ∧ isDead bl.kd = false := by
  cases k0 with
  | own j =>
    rcases (h.own j b0 (at_own' hb)).2 with ⟨k, bl, h1, h2, h3⟩ | ⟨h1, _⟩
    · exact ⟨k, bl, h1, h2, h3.kd.live hd⟩
    · rw [renρ_none h1] at hn; cases hn
  | inp x y =>
    rcases h.inp x y with ⟨h1, _⟩ | ⟨k, bl, h1, h2, h3, _⟩
    · rw [renρ_none h1] at hn; cases hn
    · exact ⟨k, bl, h1, h2, h3⟩

theorem Part.mine {I0 I : Nat → Nat → List (LV A)} {τ : Key → Option Key} {mem0 mem : Mem A} (h : Part I0 I τ mem0 mem) {Own : Dom} {ρ : Key → Loc} (hm : Mine I Own ρ mem) : Mine I0 Own (renρ τ ρ) mem0 where
  own j b0 hb hw hn := by
    rcases (h.own j b0 hb).2 with ⟨k, bl, h1, h2, h3⟩ | ⟨h1, _⟩
    · cases k with
      | own k => rw [renρ_some h1] at hn ⊢; exact hm.own k _ (at_own' h2) (by rw [h3.kd.wr hw]; exact hw) hn
      | inp x y =>
        simp only [at?, Option.some.injEq] at h2
        rw [← h3.kd.wr hw, ← h2] at hw; cases hw
    · rw [renρ_none h1] at hn; cases hn
  src k0 b0 hb hd hn := by
    obtain ⟨k, bl, h1, h2, h3⟩ := h.src hb hd hn
    rw [renρ_some h1] at hn ⊢
    exact hm.src k bl h2 h3 hn

/-! ## a state that says the same -/
/-- A state that says the same under other names (and perhaps less). -/
structure Fits (I : Nat → Nat → List (LV A)) (t t' : LS A) (σ : Nat → Option Key) : Prop where
  len : t'.tmps.length = t.tmps.length
  tmps : ∀ (i : Nat) (v' : LV A), t'.tmps[i]? = some v' → v' = .any ∨ (t.tmps[i]? = some (v'.ren (ownK σ)) ∧ v'.fit (ownK σ) (there t'.mem))
  mem : ∀ (j : Nat) (b0 : Blk A), t'.mem[j]? = some (some b0) → fitL (ownK σ) (there t'.mem) b0.us ∧
    ((∃ k b, σ j = some k ∧ at? I t.mem k = some b ∧ LikeB (ownK σ) b b0) ∨ (σ j = none ∧ ∃ e z f, b0 = ⟨nilK e, [.rows 0 z f]⟩ ∧ ∀ i p, kinL p (f i)))
  inj : ∀ (k k' : Nat) j bl, t'.mem[k]? = some (some bl) → isWr bl.kd = true → k' < t'.mem.length → σ k = some j → σ k' = some j → k' = k
  inpo : ∀ k bl, t'.mem[k]? = some (some bl) → isWr bl.kd = true → ∀ x y, σ k ≠ some (.inp x y)

theorem Fits.part [LawAb A] (hI : ∀ x y, alienL (I x y)) {t t' : LS A} {σ : Nat → Option Key} (h : Fits I t t' σ) : Part I I (ownK σ) t'.mem t.mem where
  own := h.mem
  inp x y := by
    obtain ⟨e1, e2⟩ := alienL_ren σ t'.mem (I x y) (hI x y)
    exact .inr ⟨.inp x y, ⟨.ro, I x y⟩, rfl, rfl, rfl, e2, .of_eq e1.symm⟩
  inj j k' b0 hb hw hn e hk := by
    obtain ⟨y, hy⟩ := ne_ex hn
    have hy : σ j = some y := hy
    cases k' with
    | own i =>
      have e : σ i = σ j := e
      rw [h.inj j i y b0 hb hw (hk i rfl) hy (by rw [e, hy])]
    | inp x z =>
      have e : some (Key.inp x z) = σ j := e
      exact absurd e.symm (h.inpo j b0 hb hw x z)

theorem Fits.rl [LawAb A] (hI : ∀ x y, alienL (I x y)) {t t' : LS A} {σ : Nat → Option Key} (h : Fits I t t' σ) {Own : Dom} {w0 : World} {ρ : Key → Loc} {a : Act} {w : World} (hr : Rl I Own w0 ρ t a w) : Rl I Own w0 (renρ (ownK σ) ρ) t' a w where
  size := by rw [hr.size, h.len]
  val i v' hv := by
    rcases h.tmps i v' hv with e | ⟨h1, h2⟩
    · exact .inl e
    · rcases hr.val i _ h1 with e | e
      · exact .inl (ren_any h2 e)
      · right; rw [e, tr_ren _ _ ρ v' h2]
  defers := hr.defers
  mem := (h.part hI).mem hr.mem
  mine := (h.part hI).mine hr.mine
  new := hr.new
  keeps := hr.keeps
  occT i v' hv := by
    rcases h.tmps i v' hv with rfl | ⟨h1, h2⟩
    · trivial
    · exact kin_ren v' h2 (hr.occT i _ h1)
  occM := (h.part hI).kin hr.occM

/-! ## states written down -/
def lookT : List (Nat × LV A) → Nat → LV A
  | [], _ => .any
  | (j, v) :: l, i => match Nat.beq j i with
    | true => v
    | false => lookT l i
/-- So many temporaries, of which a few are told. -/
def tmL (l : List (Nat × LV A)) : Nat → Nat → List (LV A)
  | 0, _ => []
  | n + 1, i => lookT l i :: tmL l n (i + 1)
def tm (n : Nat) (l : List (Nat × LV A)) : List (LV A) := tmL l n 0
theorem tmL_get (l : List (Nat × LV A)) : ∀ (n i j : Nat) (v : LV A), (tmL l n i)[j]? = some v → v = lookT l (i + j)
  | 0, i, j, v, h => by simp [tmL] at h
  | n + 1, i, j, v, h => by
    cases j with
    | zero => simp only [tmL, List.getElem?_cons_zero, Option.some.injEq] at h; rw [← h, Nat.add_zero]
    | succ j =>
      simp only [tmL, List.getElem?_cons_succ] at h
      rw [tmL_get l n (i + 1) j v h]
      congr 1
      omega
theorem lookT_mem : ∀ (l : List (Nat × LV A)) (i : Nat), lookT l i = .any ∨ ∃ v, (i, v) ∈ l ∧ lookT l i = v
  | [], _ => .inl rfl
  | (j, v) :: l, i => by
    simp only [lookT]
    cases hb : Nat.beq j i with
    | true => exact .inr ⟨v, by rw [beqN hb]; simp, rfl⟩
    | false =>
      rcases lookT_mem l i with h | ⟨u, h1, h2⟩
      · exact .inl h
      · exact .inr ⟨u, List.mem_cons_of_mem _ h1, h2⟩
theorem tm_get {n : Nat} {l : List (Nat × LV A)} {i : Nat} {v : LV A} (h : (tm n l)[i]? = some v) : v = .any ∨ (i, v) ∈ l := by
  have := tmL_get l n 0 i v h
  rw [Nat.zero_add] at this
  rcases lookT_mem l i with e | ⟨u, h1, h2⟩
  · exact .inl (this.trans e)
  · right; rw [this, h2]; exact h1
theorem tm_len (n : Nat) (l : List (Nat × LV A)) : (tm n l).length = n := by
  have : ∀ n i, (tmL l n i).length = n := by
    intro n
    induction n with
    | zero => intro i; rfl
    | succ n ih => intro i; simp [tmL, ih]
  exact this n 0

/-- .. as what a run comes to. -/
theorem Fits.of {t : LS A} {n : Nat} {l : List (Nat × LV A)} {m' : Mem A} {cs : List Cnd} {σ : Nat → Option Key} (hn : t.tmps.length = n) (ht : ∀ p ∈ l, t.tmps[p.1]? = some (p.2.ren (ownK σ)) ∧ p.2.fit (ownK σ) (there m'))
    (hm : ∀ (j : Nat) (b0 : Blk A), m'[j]? = some (some b0) → fitL (ownK σ) (there m') b0.us ∧
      ((∃ k b, σ j = some k ∧ at? I t.mem k = some b ∧ LikeB (ownK σ) b b0) ∨ (σ j = none ∧ ∃ e z f, b0 = ⟨nilK e, [.rows 0 z f]⟩ ∧ ∀ i p, kinL p (f i))))
    (hi : ∀ (k k' : Nat) j bl, m'[k]? = some (some bl) → isWr bl.kd = true → k' < m'.length → σ k = some j → σ k' = some j → k' = k) (ho : ∀ k bl, m'[k]? = some (some bl) → isWr bl.kd = true → ∀ x y, σ k ≠ some (.inp x y)) : Fits I t ⟨tm n l, m', cs⟩ σ where
  len := by simp only [tm_len, hn]
  tmps i v' hv := by
    rcases tm_get hv with e | h
    · exact .inl e
    · exact .inr (ht _ h)
  mem := hm
  inj := hi
  inpo := ho

theorem Fits.ofI {t : LS A} {n : Nat} {l : List (Nat × LV A)} {m' : Mem A} {cs : List Cnd} {σ : Nat → Option Key} (hn : t.tmps.length = n) (ht : ∀ p ∈ l, t.tmps[p.1]? = some (p.2.ren (ownK σ)) ∧ p.2.fit (ownK σ) (there m'))
    (hm : ∀ (j : Nat) (b0 : Blk A), m'[j]? = some (some b0) → fitL (ownK σ) (there m') b0.us ∧
      ((∃ k b, σ j = some k ∧ at? I t.mem k = some b ∧ LikeB (ownK σ) b b0) ∨ (σ j = none ∧ ∃ e z f, b0 = ⟨nilK e, [.rows 0 z f]⟩ ∧ ∀ i p, kinL p (f i))))
    (hi : ∀ k k' j, k < m'.length → k' < m'.length → σ k = some j → σ k' = some j → k = k') (ho : ∀ k bl, m'[k]? = some (some bl) → isWr bl.kd = true → ∀ x y, σ k ≠ some (.inp x y)) : Fits I t ⟨tm n l, m', cs⟩ σ :=
  Fits.of hn ht hm (fun k k' j bl hb _ hk' e e' => (hi k k' j (lt_of_get hb) hk' e e').symm) ho

/-! ## executions of which a part of the names stays -/
def okB (B : Nat) : Key → Prop
  | .own k => k < B
  | .inp _ _ => True
structure ExB (B : Nat) (P : Program) (I : Nat → Nat → List (LV A)) (c : Code) (s : LS A) (o : Out) (t : LS A) : Prop where
  live : ∀ (k : Nat) (bl : Blk A), k < B → s.mem[k]? = some (some bl) → ∃ bl' : Blk A, t.mem[k]? = some (some bl')
  run : ∀ (Own : Dom) (w0 : World) (ρ : Key → Loc) (a : Act) (w : World) (Q : Exit → Act → World → Prop), Rl I Own w0 ρ s a w →
    (∀ ρ' a' w', (∀ k m, okB B k → okKey s.mem ρ k m → ρ k = ρ' k) → Rl I Own w0 ρ' t a' w' → Q o.toExit a' w') → c.wp P Q a w

theorem Ex.toB {c : Code} {s t : LS A} {o : Out} (h : Ex P I c s o t) (B : Nat) : ExB B P I c s o t :=
  ⟨fun k bl _ hb => h.live k bl hb, fun Own w0 ρ a w Q hr hQ => h.run Own w0 ρ a w Q hr fun ρ' a' w' he hr' => hQ ρ' a' w' (fun k m _ hk => he k m hk) hr'⟩
theorem ExB.toEx {B : Nat} {c : Code} {s t : LS A} {o : Out} (h : ExB B P I c s o t) (hB : ∀ (k : Nat) (bl : Blk A), s.mem[k]? = some (some bl) → k < B) : Ex P I c s o t := by
  refine ⟨fun k bl hb => h.live k bl (hB k bl hb) hb, fun Own w0 ρ a w Q hr hQ => h.run Own w0 ρ a w Q hr fun ρ' a' w' he hr' => hQ ρ' a' w' (fun k m hk => he k m ?_ hk) hr'⟩
  cases k with
  | own k => obtain ⟨⟨bl, hb⟩, _⟩ := hk; exact hB k bl hb
  | inp x y => trivial

theorem okKey_toB {B : Nat} {mem mem' : Mem A} {ρ ρ' : Key → Loc} (hl : ∀ (k : Nat) (bl : Blk A), k < B → mem[k]? = some (some bl) → ∃ bl' : Blk A, mem'[k]? = some (some bl')) {k : Key} {m : Nat} (hB : okB B k) (h : okKey mem ρ k m) (e : ρ k = ρ' k) : okKey mem' ρ' k m := by
  cases k with
  | own k => obtain ⟨⟨bl, hb⟩, hm⟩ := h; exact ⟨hl k bl hB hb, by rw [← e]; exact hm⟩
  | inp t i => show m ≤ (ρ' (.inp t i)).cap; rw [← e]; exact h

theorem ExB.seq {B : Nat} {x y : Code} {s s' t : LS A} {o : Out} (h1 : ExB B P I x s .normal s') (h2 : ExB B P I y s' o t) : ExB B P I (.seq x y) s o t := by
  refine ⟨fun k bl hk hb => ?_, fun Own w0 ρ a w Q hr hQ => wp_seq ?_⟩
  · obtain ⟨b1, hb1⟩ := h1.live k bl hk hb
    exact h2.live k b1 hk hb1
  refine h1.run Own w0 ρ a w _ hr fun ρ' a' w' he hr' => ?_
  show Code.wp P y Q a' w'
  exact h2.run Own w0 ρ' a' w' Q hr' fun ρ2 a2 w2 he2 hr2 => hQ ρ2 a2 w2 (fun k m hB hk => (he k m hB hk).trans (he2 k m hB (okKey_toB h1.live hB hk (he k m hB hk)))) hr2

/-- A loop: so many rounds that come to their end, and one that leaves. -/
theorem ExB.loop {B : Nat} {b : Code} {t : LS A} {o : Out} (ho : o ≠ .normal) (J : Nat → LS A) : ∀ (n : Nat), (∀ k, k < n → ExB B P I b (J k) .normal (J (k + 1))) → ExB B P I b (J n) o t → ExB B P I (.loop b) (J 0) o t := by
  intro n h hl
  have live : ∀ m, m ≤ n → ∀ (k : Nat) (bl : Blk A), k < B → (J (n - m)).mem[k]? = some (some bl) → ∃ bl' : Blk A, t.mem[k]? = some (some bl') := by
    intro m
    induction m with
    | zero => intro _; exact hl.live
    | succ m ih =>
      intro hm k bl hk hb
      have h1 := (h (n - (m + 1)) (by omega)).live k bl hk hb
      rw [show n - (m + 1) + 1 = n - m by omega] at h1
      obtain ⟨b1, hb1⟩ := h1
      exact ih (by omega) k b1 hk hb1
  refine ⟨by simpa using live n (Nat.le_refl _), fun Own w0 ρ a w Q hr hQ => ?_⟩
  refine wp_loop_rounds (n + 1) ?_
  have key : ∀ m, m ≤ n → ∀ ρ a w, Rl I Own w0 ρ (J (n - m)) a w → (∀ ρ' a' w', (∀ k q, okB B k → okKey (J (n - m)).mem ρ k q → ρ k = ρ' k) → Rl I Own w0 ρ' t a' w' → Q o.toExit a' w') → Code.rounds P b Q (m + 1) a w := by
    intro m
    induction m with
    | zero =>
      intro _ ρ a w hr hQ
      rw [rounds_succ]
      refine hl.run Own w0 ρ a w _ hr fun ρ' a' w' he hr' => ?_
      have := hQ ρ' a' w' he hr'
      cases o <;> first | exact absurd rfl ho | exact this
    | succ m ih =>
      intro hm ρ a w hr hQ
      rw [rounds_succ]
      have h1 := h (n - (m + 1)) (by omega)
      rw [show n - (m + 1) + 1 = n - m by omega] at h1
      refine h1.run Own w0 ρ a w _ hr fun ρ' a' w' he hr' => ?_
      show Code.rounds P b Q (m + 1) a' w'
      exact ih (by omega) ρ' a' w' hr' fun ρ2 a2 w2 he2 hr2 => hQ ρ2 a2 w2 (fun k q hB hk => (he k q hB hk).trans (he2 k q hB (okKey_toB h1.live hB hk (he k q hB hk)))) hr2
  exact key n (Nat.le_refl _) ρ a w (by simpa using hr) (by simpa using hQ)

/-- An execution's state, told under other names. -/
theorem ExB.fits [LawAb A] {B : Nat} (hI : ∀ x y, alienL (I x y)) {c : Code} {s t t' : LS A} {o : Out} {σ : Nat → Option Key} (h : ExB B P I c s o t) (hf : Fits I t t' σ) (hσ : ∀ (k : Nat) (bl : Blk A), k < B → s.mem[k]? = some (some bl) → σ k = some (.own k) ∧ there t'.mem (.own k)) : ExB B P I c s o t' := by
  refine ⟨fun k bl hk hb => there_ex (hσ k bl hk hb).2, fun Own w0 ρ a w Q hr hQ => h.run Own w0 ρ a w Q hr fun ρ' a' w' he hr' => hQ _ a' w' (fun k m hB hk => ?_) (hf.rl hI hr')⟩
  rw [he k m hB hk]
  cases k with
  | own k =>
    obtain ⟨⟨bl, hb⟩, _⟩ := hk
    exact (renρ_some (τ := ownK σ) (b := .own k) (hσ k bl hB hb).1).symm
  | inp x y => rfl
/-- .. and the state that it begins with. -/
theorem ExB.pre [LawAb A] {B : Nat} (hI : ∀ x y, alienL (I x y)) {c : Code} {s s' t : LS A} {o : Out} {σ : Nat → Option Key} (h : ExB B P I c s' o t) (hf : Fits I s s' σ) (hσ : ∀ (k : Nat) (bl : Blk A), k < B → s.mem[k]? = some (some bl) → σ k = some (.own k) ∧ there s'.mem (.own k)) : ExB B P I c s o t := by
  refine ⟨fun k bl hk hb => ?_, fun Own w0 ρ a w Q hr hQ => h.run Own w0 _ a w Q (hf.rl hI hr) fun ρ' a' w' he hr' => hQ ρ' a' w' (fun k m hB hk => ?_) hr'⟩
  · obtain ⟨b1, hb1⟩ := there_ex (hσ k bl hk hb).2
    exact h.live k b1 hk hb1
  · cases k with
    | own k =>
      obtain ⟨⟨bl, hb⟩, hm⟩ := hk
      have e : renρ (ownK σ) ρ (.own k) = ρ (.own k) := renρ_some (τ := ownK σ) (b := .own k) (hσ k bl hB hb).1
      rw [← e]
      exact he (.own k) m hB ⟨there_ex (hσ k bl hB hb).2, by rw [e]; exact hm⟩
    | inp x y => exact he (.inp x y) m trivial hk
end
end Go.Proofs.Ytjhjockdkpgpeaa.En
