/- DERIVED. The second executor's state against the model's frame and world. -/
import Derived.Test.YtjhjockdkpgpeaaVS3
set_option linter.all false
namespace Go.Proofs.Ytjhjockdkpgpeaa.En
open Go Go.RowKit

section
variable {A : Type} [Ab A]

/-! ## the relation -/
/-- A block that is there: own, or come in. -/
def at? (I : Nat → Nat → List (LV A)) (mem : Mem A) : Key → Option (Blk A)
  | .own k => match mem[k]? with
    | some (some b) => some b
    | _ => none
  | .inp t i => some ⟨.ro, I t i⟩
theorem getB_at (S : Sig A) (mem : Mem A) (k : Key) : getB S mem k = at? S.inp mem k := by cases k <;> rfl

structure MemRel (I : Nat → Nat → List (LV A)) (ρ : Key → Loc) (mem : Mem A) (w : World) : Prop where
  cell : ∀ k bl, at? I mem k = some bl → ∀ i v, (cellsL ρ bl.us)[i]? = some v → w.cell? ((ρ k).at i) = some v
  free : ∀ k bl, mem[k]? = some (some bl) → isWr bl.kd = true → ∀ i, i < cszL bl.us → w.frozen? ((ρ (.own k)).at i) = false
  apart : ∀ k k' bl bl', Key.own k ≠ k' → mem[k]? = some (some bl) → at? I mem k' = some bl' → isWr bl.kd = true → isDead bl'.kd = false → (ρ (.own k)).none = false → (ρ k').none = false → (ρ (.own k)).blk ≠ (ρ k').blk
  inb : ∀ k bl, at? I mem k = some bl → isDead bl.kd = false → (ρ k).none = false → (ρ k).blk < w.heap.size
  row : ∀ (k : Nat) (bl : Blk A) (e : TypeId), mem[k]? = some (some bl) → bl.kd = .row e → ∃ n z f, bl.us = [.rows n z f] ∧ (ρ (.own k)).at0 = none ∧ w.ownsRow 0 e z (vecV (ρ (.own k)) n) n (cellsL ρ bl.us)
  nilc : ∀ k, (ρ k).none = true → (ρ k).cap = 0
  empt : ∀ k bl, at? I mem k = some bl → (ρ k).none = true → cszL bl.us = 0
  dead : ∀ (k : Nat) (bl : Blk A), mem[k]? = some (some bl) → isDead bl.kd = true → bl.us = []

/-- The blocks that a call may write, and those that it may know of. -/
structure Dom where
  own : Nat → Prop
  src : Nat → Prop
instance : CoeFun Dom (fun _ => Nat → Prop) := ⟨Dom.own⟩

/-- The blocks lie where they may. -/
structure Mine (I : Nat → Nat → List (LV A)) (Own : Dom) (ρ : Key → Loc) (mem : Mem A) : Prop where
  own : ∀ (k : Nat) (bl : Blk A), mem[k]? = some (some bl) → isWr bl.kd = true → (ρ (.own k)).none = false → Own (ρ (.own k)).blk
  src : ∀ (k : Key) (bl : Blk A), at? I mem k = some bl → isDead bl.kd = false → (ρ k).none = false → Own.src (ρ k).blk
theorem Mine.sub {I : Nat → Nat → List (LV A)} {Own : Dom} {ρ : Key → Loc} {mem mem' : Mem A} (h : Mine I Own ρ mem) (hs : ∀ (k : Nat) bl, mem'[k]? = some (some bl) → mem[k]? = some (some bl)) : Mine I Own ρ mem' where
  own k bl hk := h.own k bl (hs k bl hk)
  src k bl hk := by
    refine h.src k bl ?_
    cases k with
    | own k =>
      simp only [at?] at hk ⊢
      split at hk
      · rename_i b' hb; cases hk; rw [hs k _ hb]
      · cases hk
    | inp t i => exact hk

/-- What is not the call's own stands as it stood. -/
structure Keeps (Own : Dom) (w w' : World) : Prop where
  os : w'.os = w.os
  tape : w'.tape = w.tape
  output : w'.output = w.output
  size : w.heap.size ≤ w'.heap.size
  block : ∀ k, k < w.heap.size → ¬ Own k → w'.heap[k]? = w.heap[k]?

theorem Keeps.refl (Own : Dom) (w : World) : Keeps Own w w := ⟨rfl, rfl, rfl, Nat.le_refl _, fun _ _ _ => rfl⟩
theorem Keeps.trans {Own : Dom} {a b c : World} (h : Keeps Own a b) (k : Keeps Own b c) : Keeps Own a c :=
  ⟨k.os.trans h.os, k.tape.trans h.tape, k.output.trans h.output, Nat.le_trans h.size k.size, fun i hi hn => (k.block i (Nat.lt_of_lt_of_le hi h.size) hn).trans (h.block i hi hn)⟩
theorem Keeps.of_below {Own : Dom} {w w' : World} (h : Below w.heap.size w w') : Keeps Own w w' := ⟨h.os, h.tape, h.output, h.size, fun k hk _ => h.block k hk⟩
theorem Keeps.below {w w' : World} (h : Keeps ⟨fun k => w.heap.size ≤ k, fun _ => True⟩ w w') : Below w.heap.size w w' := ⟨h.os, h.tape, h.output, h.size, fun k hk => h.block k hk (fun h' => absurd hk (Nat.not_lt.2 h'))⟩

/-- A key that may stand in a value, as a slice of so many. -/
def okKey (mem : Mem A) (ρ : Key → Loc) : Key → Nat → Prop
  | .own k, m => (∃ bl, mem[k]? = some (some bl)) ∧ m ≤ (ρ (.own k)).cap
  | .inp t i, m => m ≤ (ρ (.inp t i)).cap

/-- No slice is longer than its block's capacity. -/
def capOk (ρ : Key → Loc) (k : Key) (m : Nat) : Prop := m ≤ (ρ k).cap
theorem okKey_cap {mem : Mem A} {ρ : Key → Loc} (k : Key) (m : Nat) (h : okKey mem ρ k m) : capOk ρ k m := by
  cases k with
  | own k => exact h.2
  | inp t i => exact h

structure Rl (I : Nat → Nat → List (LV A)) (Own : Dom) (w0 : World) (ρ : Key → Loc) (s : LS A) (a : Act) (w : World) : Prop where
  size : a.tmps.size = s.tmps.length
  val : ∀ (i : Nat) (v : LV A), s.tmps[i]? = some v → v = .any ∨ a.tmps[i]? = some (LV.tr ρ v)
  defers : a.defers = []
  mem : MemRel I ρ s.mem w
  mine : Mine I Own ρ s.mem
  new : ∀ b, w0.heap.size ≤ b → Own b ∧ Own.src b
  keeps : Keeps Own w0 w
  occT : ∀ (i : Nat) (v : LV A), s.tmps[i]? = some v → v.kin (okKey s.mem ρ)
  occM : ∀ (k : Key) (bl : Blk A), at? I s.mem k = some bl → kinL (okKey s.mem ρ) bl.us

section
variable {I : Nat → Nat → List (LV A)} {Own : Dom} {w0 : World} {ρ : Key → Loc} {s : LS A} {a : Act} {w : World}

theorem ev_sound (h : Rl I Own w0 ρ s a w) {x : Operand} {v : LV A} (he : ev s.tmps x = some v) : a.eval x = LV.tr ρ v ∧ v.kin (okKey s.mem ρ) := by
  cases x with
  | tmp t =>
    simp only [ev, getT] at he
    split at he
    · cases he
    · rename_i u hne hu
      cases he
      rcases h.val t v hu with e | e
      · exact absurd e (by intro e; exact hne (e ▸ rfl))
      · refine ⟨?_, h.occT t v hu⟩
        show a.tmps.getD t Go.undef = _
        simp [e]
    · cases he
  | const c => exact ⟨(ofConst_sound ρ he).1.symm, (ofConst_sound ρ he).2 _⟩
  | global g => cases he
  | func f =>
    simp only [ev] at he; cases he
    exact ⟨rfl, trivial⟩
end
end
end Go.Proofs.Ytjhjockdkpgpeaa.En
