/- DERIVED. Structs and arrays of whole numbers held against each other. -/
import Derived.Test.YtjhjockdkpgpeaaVS5
set_option linter.all false
namespace Go.Proofs.Ytjhjockdkpgpeaa.En
open Go Go.RowKit

def cmpV : Option Value → Option Value → Option Bool
  | some (.int k a), some (.int k' b) => if k = k' then some (a == b) else none
  | _, _ => none
/-- The cells at so many places held against each other. -/
def cmpAt (xs ys : Array Value) (off : Nat) : List Nat → Option Bool
  | [] => some true
  | l :: ls => match cmpV xs[off + l]? ys[off + l]?, cmpAt xs ys off ls with
    | some b, some r => some (b && r)
    | _, _ => none

theorem cmpAt_append (xs ys : Array Value) (off : Nat) : ∀ (l m : List Nat) (b : Bool), cmpAt xs ys off (l ++ m) = some b → ∃ b1 b2, cmpAt xs ys off l = some b1 ∧ cmpAt xs ys off m = some b2 ∧ b = (b1 && b2)
  | [], m, b, h => ⟨true, b, rfl, h, by simp⟩
  | x :: l, m, b, h => by
    simp only [List.cons_append, cmpAt] at h
    split at h
    · rename_i c r hc hr
      obtain ⟨b1, b2, h1, h2, rfl⟩ := cmpAt_append xs ys off l m r hr
      cases h
      exact ⟨c && b1, b2, by simp [cmpAt, hc, h1], h2, by simp [Bool.and_assoc]⟩
    · cases h
theorem cmpAt_shift (xs ys : Array Value) (off d : Nat) : ∀ l : List Nat, cmpAt xs ys off (l.map fun x => d + x) = cmpAt xs ys (off + d) l
  | [] => rfl
  | x :: l => by simp only [List.map_cons, cmpAt, cmpAt_shift xs ys off d l, Nat.add_assoc]
theorem cmpAt_extract (xs ys : Array Value) (off z : Nat) : ∀ l : List Nat, (∀ x ∈ l, x < z) → cmpAt (xs.extract off (off + z)) (ys.extract off (off + z)) 0 l = cmpAt xs ys off l
  | [], _ => rfl
  | x :: l, h => by
    have hx := h x (by simp)
    have e : ∀ zs : Array Value, (zs.extract off (off + z))[0 + x]? = zs[off + x]? := by
      intro zs
      rw [Array.getElem?_extract]
      simp
      omega
    simp only [cmpAt, cmpAt_extract xs ys off z l (fun y hy => h y (by simp [hy])), e]

section
variable {P : Program}

/-- The loop over an array's elements. -/
def eqElems (d : Nat) (e : TypeId) (n : Nat) (xs ys : Array Value) : List Nat → Sem Bool
  | [] => pure true
  | i :: is => do
    let a ← part e xs (i * n)
    let b ← part e ys (i * n)
    let r ← Op.equalIn d e a b
    if (!r) = true then pure false else eqElems d e n xs ys is

theorem run_equalIn_array (w : World) (d : Nat) (t e : TypeId) (len z : Nat) (xs ys : Array Value) (ht : P.underlying t = some (.array len e)) (hz : sizeT P e = some z) :
    (Op.equalIn (d + 1) t (.agg xs) (.agg ys)).run P w = (eqElems d e z xs ys (List.range len)).run P w := by
  simp only [Op.equalIn, Sem.run_bind, run_underlying ht, Result.andThen_ok, run_sizeOf w hz]
  rw [Std.Legacy.Range.forIn_eq_forIn_range']
  simp only [Std.Legacy.Range.size, Nat.sub_zero, Nat.add_sub_cancel, Nat.div_one, ← List.range_eq_range']
  generalize List.range len = is
  clear ht
  induction is generalizing w with
  | nil => simp [eqElems]
  | cons f fs ih =>
    simp only [List.forIn_cons, eqElems, Sem.run_bind]
    generalize (part e xs (f * z)).run P w = r1
    cases r1 with
    | ok a w1 =>
      simp only [Result.andThen_ok]
      generalize (part e ys (f * z)).run P w1 = r2
      cases r2 with
      | ok b w2 =>
        simp only [Result.andThen_ok]
        generalize (Op.equalIn d e a b).run P w2 = r3
        cases r3 with
        | ok r w3 =>
          cases r
          · simp
          · simp only [Result.andThen_ok, Bool.not_true, Bool.false_eq_true, if_false, Sem.run_pure]
            exact ih w3
        | halt x w3 => simp [Result.andThen]
      | halt x w2 => simp [Result.andThen]
    | halt x w1 => simp [Result.andThen]

/-- A part of either, and what holding them against each other gives. -/
def PartEq (P : Program) (d : Nat) (t : TypeId) (xs ys : Array Value) (off : Nat) (b : Bool) : Prop :=
  ∀ w, ∃ va vb, (part t xs off).run P w = .ok va w ∧ (part t ys off).run P w = .ok vb w ∧ (Op.equalIn d t va vb).run P w = .ok b w

theorem run_part_agg (w : World) {t : TypeId} {z : Nat} (h : agT P t = some true) (hz : sizeT P t = some z) (xs : Array Value) (off : Nat) : (part t xs off).run P w = .ok (.agg (xs.extract off (off + z))) w := by
  simp [part, run_isAgg w h, run_sizeOf w hz]

theorem eqElems_run {d : Nat} {e : TypeId} {z : Nat} {ls : List Nat} {xs ys : Array Value} (ih : ∀ off b, cmpAt xs ys off ls = some b → PartEq P d e xs ys off b) :
    ∀ (is : List Nat) (b : Bool), cmpAt xs ys 0 (is.flatMap fun i => ls.map fun l => i * z + l) = some b → ∀ w, (eqElems d e z xs ys is).run P w = .ok b w
  | [], b, h, w => by
    simp only [List.flatMap_nil, cmpAt, Option.some.injEq] at h
    subst h
    simp [eqElems]
  | i :: is, b, h, w => by
    rw [List.flatMap_cons] at h
    obtain ⟨b1, b2, h1, h2, rfl⟩ := cmpAt_append _ _ _ _ _ _ h
    rw [cmpAt_shift, Nat.zero_add] at h1
    obtain ⟨va, vb, e1, e2, e3⟩ := ih _ _ h1 w
    have e4 := eqElems_run ih is b2 h2 w
    simp only [eqElems, Sem.run_bind, e1, e2, e3, Result.andThen_ok]
    cases b1
    · simp
    · simp [e4]

theorem eqFields_run {d n : Nat} {xs ys : Array Value} (ih : ∀ t ls z, leavesT P n t = some ls → sizeT P t = some z → (∀ l ∈ ls, l < z) → ∀ off b, cmpAt xs ys off ls = some b → PartEq P d t xs ys off b) :
    ∀ (fs : List Field) (ls : List Nat) (b : Bool), fieldsL P (leavesT P n) fs = some ls → cmpAt xs ys 0 ls = some b → ∀ w, (Op.eqFields d xs ys fs).run P w = .ok b w
  | [], ls, b, hl, h, w => by
    simp only [fieldsL, Option.some.injEq] at hl
    subst hl
    simp only [cmpAt, Option.some.injEq] at h
    subst h
    simp [Op.eqFields]
  | f :: fs, ls, b, hl, h, w => by
    simp only [fieldsL] at hl
    split at hl
    · rename_i ls1 z r hn hl1 hz hr
      split at hl
      · rename_i hall
        cases hl
        obtain ⟨b1, b2, h1, h2, rfl⟩ := cmpAt_append _ _ _ _ _ _ h
        rw [cmpAt_shift, Nat.zero_add] at h1
        have hb : ∀ l ∈ ls1, l < z := by
          intro l hm
          have := List.all_eq_true.1 hall l hm
          exact Nat.le_of_ble_eq_true this
        obtain ⟨va, vb, e1, e2, e3⟩ := ih _ _ _ hl1 hz hb _ _ h1 w
        have e4 := eqFields_run ih fs r b2 hr h2 w
        have hne : f.name ≠ "_" := by simpa using hn
        simp only [Op.eqFields, Sem.run_ite, if_pos hne, Sem.run_bind, e1, e2, e3, Result.andThen_ok]
        cases b1
        · simp
        · simp [e4]
      · cases hl
    · cases hl

theorem agg_run : ∀ (n : Nat) (t : TypeId) (ls : List Nat), leavesT P n t = some ls → ∀ (d : Nat), n ≤ d →
    (∀ (z : Nat), sizeT P t = some z → (∀ l ∈ ls, l < z) → ∀ (xs ys : Array Value) (off : Nat) (b : Bool), cmpAt xs ys off ls = some b → PartEq P d t xs ys off b) ∧
    (agT P t = some true → ∀ (xs ys : Array Value) (b : Bool), cmpAt xs ys 0 ls = some b → ∀ w, (Op.equalIn d t (.agg xs) (.agg ys)).run P w = .ok b w)
  | 0, t, ls, h, _, _ => by simp [leavesT] at h
  | n + 1, t, ls, h, d, hd => by
    obtain ⟨d, rfl⟩ : ∃ e, d = e + 1 := ⟨d - 1, by omega⟩
    have hnd : n ≤ d := by omega
    have two : agT P t = some true → ∀ (xs ys : Array Value) (b : Bool), cmpAt xs ys 0 ls = some b → ∀ w, (Op.equalIn (d + 1) t (.agg xs) (.agg ys)).run P w = .ok b w := by
      intro hag xs ys b hb w
      simp only [leavesT] at h
      split at h
      · rename_i k hk; simp [agT, hk] at hag
      · rename_i len e he
        split at h
        · rename_i ls1 z hl1 hz
          split at h
          · rename_i hall
            cases h
            rw [run_equalIn_array w d t e len z xs ys he hz]
            have hb' : ∀ l ∈ ls1, l < z := fun l hm => Nat.le_of_ble_eq_true (List.all_eq_true.1 hall l hm)
            exact eqElems_run (fun off b hc => (agg_run n e ls1 hl1 d hnd).1 z hz hb' xs ys off b hc) _ _ hb w
          · cases h
        · cases h
      · rename_i fs hfs
        split at h
        · cases h
        · rename_i hst
          have e0 : P.fieldsOf t = fs := by simp [Program.fieldsOf, hfs]
          rw [run_equalIn_struct w d t xs ys (by rw [e0]; exact hfs) hst, e0]
          exact eqFields_run (fun t' ls' z' h1 h2 h3 off b hc => (agg_run n t' ls' h1 d hnd).1 z' h2 h3 xs ys off b hc) _ _ _ h hb w
      · cases h
    refine ⟨?_, two⟩
    intro z hz hlz xs ys off b hb w
    cases hag : agT P t with
    | none =>
      simp only [leavesT] at h
      unfold agT at hag
      split at h <;> simp_all
    | some ag =>
      cases ag with
      | true =>
        refine ⟨_, _, run_part_agg w hag hz xs off, run_part_agg w hag hz ys off, ?_⟩
        exact two hag _ _ _ (by rw [cmpAt_extract _ _ _ _ _ hlz]; exact hb) w
      | false =>
        simp only [leavesT] at h
        split at h
        · rename_i k hk
          cases h
          simp only [cmpAt, Nat.add_zero] at hb
          split at hb
          · rename_i c r hc hr
            cases hr
            cases hb
            unfold cmpV at hc
            split at hc
            · rename_i k1 a k2 b hx hy
              split at hc
              · rename_i hkk; subst hkk; cases hc
                refine ⟨.int k1 a, .int k1 b, ?_, ?_, ?_⟩
                · simp [part, run_isAgg w hag, hx]
                · simp [part, run_isAgg w hag, hy]
                · simp [run_equalIn_int w d t k1 k a b hk]
              · cases hc
            · cases hc
          · cases hb
        · rename_i he; simp [agT, he] at hag
        · rename_i he; simp [agT, he] at hag
        · cases h

/-! ## the executor's own comparison -/
def cmpLL : List Value → List Value → Option Bool
  | [], [] => some true
  | x :: l, y :: m => match cmpV (some x) (some y), cmpLL l m with
    | some b, some r => some (b && r)
    | _, _ => none
  | _, _ => none

theorem cmpLL_append : ∀ (l m l' m' : List Value) (b b' : Bool), cmpLL l m = some b → cmpLL l' m' = some b' → cmpLL (l ++ l') (m ++ m') = some (b && b')
  | [], [], l', m', b, b', h, h' => by simp only [cmpLL, Option.some.injEq] at h; subst h; simpa using h'
  | [], _ :: _, _, _, _, _, h, _ => by simp [cmpLL] at h
  | _ :: _, [], _, _, _, _, h, _ => by simp [cmpLL] at h
  | x :: l, y :: m, l', m', b, b', h, h' => by
    simp only [cmpLL] at h
    split at h
    · rename_i c r hc hr
      cases h
      simp [cmpLL, hc, cmpLL_append l m l' m' r b' hr h', Bool.and_assoc]
    · cases h

theorem cmpAt_range (pre pre' : List Value) (hp : pre.length = pre'.length) : ∀ (l m : List Value) (b : Bool), cmpLL l m = some b →
    ∀ (p p' : List Value), p.length = p'.length → cmpAt (p ++ l).toArray (p' ++ m).toArray 0 (List.range' p.length l.length) = some b
  | [], [], b, h, p, p', hl => by simp only [cmpLL, Option.some.injEq] at h; subst h; rfl
  | [], _ :: _, _, h, _, _, _ => by simp [cmpLL] at h
  | _ :: _, [], _, h, _, _, _ => by simp [cmpLL] at h
  | x :: l, y :: m, b, h, p, p', hl => by
    simp only [cmpLL] at h
    split at h
    · rename_i c r hc hr
      cases h
      have ih := cmpAt_range pre pre' hp l m r hr (p ++ [x]) (p' ++ [y]) (by simp [hl])
      simp only [List.append_assoc, List.singleton_append, List.length_append, List.length_singleton] at ih
      simp only [List.length_cons, List.range'_succ, cmpAt, ih]
      have e1 : (p ++ x :: l).toArray[0 + p.length]? = some x := by simp
      have e2 : (p' ++ y :: m).toArray[0 + p.length]? = some y := by simp [hl]
      rw [e1, e2, hc]
    · cases h

/-- What an abstract chunk's own comparison must be. -/
class LawEq (A : Type) [Ab A] : Prop where
  beq : ∀ (x y : A) (b : Bool), Ab.beq x y = some b → cmpLL (Ab.cells x) (Ab.cells y) = some b

theorem eqU_sound {A : Type} [Ab A] [LawEq A] (ρ : Key → Loc) : ∀ (us vs : List (LV A)) (b : Bool), eqU us vs = some b → cmpLL (cellsL ρ us) (cellsL ρ vs) = some b := by
  intro us
  induction us with
  | nil =>
    intro vs b h
    cases vs with
    | nil => exact h
    | cons v vs => simp [eqU] at h
  | cons u us ih =>
    intro vs b h
    unfold eqU at h
    split at h
    · rename_i hq; cases hq
    · rename_i k a l k' b' m heq
      cases heq
      split at h
      · rename_i hk
        subst hk
        split at h
        · rename_i r hr
          cases h
          exact cmpLL_append [.int k a] [.int k b'] _ _ _ _ (by simp [cmpLL, cmpV]) (ih _ _ hr)
        · cases h
      · cases h
    · rename_i x l y m heq
      cases heq
      split at h
      · rename_i c r hc hr
        cases h
        exact cmpLL_append _ _ _ _ _ _ (LawEq.beq x y c hc) (ih _ _ hr)
      · cases h
    · cases h

theorem flatR_sound {A : Type} [Ab A] [LawAb A] (ρ : Key → Loc) {fl : List (LV A) → Option (List (LV A))} (hfl : ∀ us vs, fl us = some vs → cellsL ρ vs = cellsL ρ us) (z : Nat) (f : Nat → List (LV A)) :
    ∀ (n i : Nat) (r : List (LV A)), flatR fl z f n i = some r → cellsL ρ r = (List.range' i n).flatMap fun i => fitTo z (cellsL ρ (f i))
  | 0, i, r, h => by simp only [flatR, Option.some.injEq] at h; subst h; rfl
  | n + 1, i, r, h => by
    simp only [flatR] at h
    split at h
    · rename_i us vs hb hus hvs
      cases h
      rw [cellsL_append, hfl _ _ hus, flatR_sound ρ hfl z f n (i + 1) vs hvs, List.range'_succ, List.flatMap_cons]
      rw [fitTo_eq (by rw [len_cellsL]; exact beqN hb)]
    · cases h
theorem flatL_sound {A : Type} [Ab A] [LawAb A] (ρ : Key → Loc) {fl : List (LV A) → Option (List (LV A))} (hfl : ∀ us vs, fl us = some vs → cellsL ρ vs = cellsL ρ us) :
    ∀ (us r : List (LV A)), flatL fl us = some r → cellsL ρ r = cellsL ρ us
  | [], r, h => by simp only [flatL, Option.some.injEq] at h; subst h; rfl
  | u :: us, r, h => by
    simp only [flatL] at h
    split at h
    · rename_i vs hvs
      have ih := flatL_sound ρ hfl us vs hvs
      split at h
      · rename_i n z f
        split at h
        · rename_i r' hr
          cases h
          rw [cellsL_append, ih, flatR_sound ρ hfl z f n 0 r' hr, ← List.range_eq_range']
          rfl
        · cases h
      · cases h
        simp only [cellsL, ih]
    · cases h
theorem flatD_sound {A : Type} [Ab A] [LawAb A] (ρ : Key → Loc) : ∀ (d : Nat) (us r : List (LV A)), flatD d us = some r → cellsL ρ r = cellsL ρ us
  | 0, us, r, h => by simp [flatD] at h
  | d + 1, us, r, h => flatL_sound ρ (fun us vs h => flatD_sound ρ d us vs h) us r h

theorem eqAgg_sound {A : Type} [Ab A] [LawAb A] [LawEq A] (ρ : Key → Loc) {t : TypeId} {us vs us' vs' : List (LV A)} {b : Bool} (hu : flatD 4 us = some us') (hv : flatD 4 vs = some vs') (hl : leavesT P 20 t = some (List.range (cszL us'))) (ha : agT P t = some true) (h : eqU us' vs' = some b) (w : World) :
    (Op.equalIn 10000 t (.agg (cellsL ρ us).toArray) (.agg (cellsL ρ vs).toArray)).run P w = .ok b w := by
  rw [← flatD_sound ρ 4 us us' hu, ← flatD_sound ρ 4 vs vs' hv]
  refine (agg_run 20 t _ hl 10000 (by omega)).2 ha _ _ _ ?_ w
  have := cmpAt_range [] [] rfl _ _ _ (eqU_sound ρ us' vs' b h) [] [] rfl
  rw [len_cellsL] at this
  rw [List.range_eq_range']
  exact this
end
end Go.Proofs.Ytjhjockdkpgpeaa.En
