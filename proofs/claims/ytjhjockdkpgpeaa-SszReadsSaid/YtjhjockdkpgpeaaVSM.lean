/- DERIVED. Contracts put together. -/
import Derived.Test.YtjhjockdkpgpeaaVSL
set_option linter.all false
namespace Go.Proofs.Ytjhjockdkpgpeaa.En
open Go Go.RowKit

section
variable {A : Type} [Ab A]

abbrev Inp (A : Type) := Nat → Nat → List (LV A)
def InpOk (I : Inp A) : Prop := ∀ x y, alienL (I x y)

/-- A function of values alone. -/
structure ConP (P : Program) (A : Type) [Ab A] where
  f : FuncId
  fn : List (LV A) → Option (LV A)
  ent : ∀ args w, (callFunc f args).run P w = .ok (.enter f args) w
  kin : ∀ vs v, fn vs = some v → ∀ p, v.kin p
  call : ∀ vs v, fn vs = some v → ∀ ρ w, Calls P f (trs ρ vs).toArray w fun e w' => e = .returned (LV.tr ρ v) ∧ Below w.heap.size w w'
/-- One that reads. -/
structure ConR (P : Program) (A : Type) [Ab A] where
  f : FuncId
  fn : Inp A → List (LV A) → Mem A → Option (LV A)
  ent : ∀ args w, (callFunc f args).run P w = .ok (.enter f args) w
  kin : ∀ I vs mem v, fn I vs mem = some v → ∀ p, v.kin p
  call : ∀ I, InpOk I → ∀ vs mem v, fn I vs mem = some v → ∀ ρ w, MemRel I ρ mem w → kinL (capOk ρ) vs → (∀ (k : Key) (bl : Blk A), at? I mem k = some bl → kinL (capOk ρ) bl.us) → Calls P f (trs ρ vs).toArray w fun e w' => e = .returned (LV.tr ρ v) ∧ Below w.heap.size w w'
/-- One that writes. -/
structure ConC (P : Program) (A : Type) [Ab A] where
  f : FuncId
  fn : Inp A → List (LV A) → Mem A → Option (LV A × Mem A × Cnd)
  ent : ∀ args w, (callFunc f args).run P w = .ok (.enter f args) w
  grow : ∀ I vs mem v mem' c, fn I vs mem = some (v, mem', c) → mem.length ≤ mem'.length ∧ ∀ (k : Nat), k < mem.length → ((∃ bl, mem[k]? = some (some bl)) ↔ ∃ bl, mem'[k]? = some (some bl))
  call : ∀ I, InpOk I → ∀ vs mem v mem' c, fn I vs mem = some (v, mem', c) → condOk c → ∀ Own ρ w, Ahead I Own ρ mem vs w →
    Calls P f (trs ρ vs).toArray w fun e w' => ∃ ρ', e = .returned (LV.tr ρ' v) ∧ Left' I Own w mem ρ ρ' mem' v w'
/-- A loop, at one state of its beginning. -/
structure LoopF (P : Program) {A : Type} [Ab A] (I : Inp A) where
  f : FuncId
  p : List Nat
  s : LS A
  o : Out
  t : LS A
  len : t.tmps.length = s.tmps.length
  grow : s.mem.length ≤ t.mem.length ∧ ∀ (k : Nat), k < s.mem.length → ((∃ bl, s.mem[k]? = some (some bl)) ↔ ∃ bl, t.mem[k]? = some (some bl))
  ex : Ex P I (codeAt P f p) s o t

variable {P : Program}
def psOf : List (ConP P A) → FuncId → List (LV A) → Option (LV A)
  | [], _, _ => none
  | c :: cs, f, vs => match Nat.beq c.f f with
    | true => c.fn vs
    | false => psOf cs f vs
def rsOf (I : Inp A) : List (ConR P A) → FuncId → List (LV A) → Mem A → Option (LV A)
  | [], _, _, _ => none
  | c :: cs, f, vs, mem => match Nat.beq c.f f with
    | true => c.fn I vs mem
    | false => rsOf I cs f vs mem
def csOf (I : Inp A) : List (ConC P A) → FuncId → List (LV A) → Mem A → Option (LV A × Mem A × Cnd)
  | [], _, _, _ => none
  | c :: cs, f, vs, mem => match Nat.beq c.f f with
    | true => c.fn I vs mem
    | false => csOf I cs f vs mem
def eqP : List Nat → List Nat → Bool
  | [], [] => true
  | a :: l, b :: m => match Nat.beq a b with
    | true => eqP l m
    | false => false
  | _, _ => false
theorem eqP_spec : ∀ {l m : List Nat}, eqP l m = true → l = m
  | [], [], _ => rfl
  | [], _ :: _, h => by cases h
  | _ :: _, [], h => by cases h
  | a :: l, b :: m, h => by
    simp only [eqP] at h
    split at h
    · rename_i hb; rw [beqN hb, eqP_spec h]
    · cases h
def shapeM : Mem A → Mem A → Bool
  | [], [] => true
  | some _ :: l, some _ :: m => shapeM l m
  | none :: l, none :: m => shapeM l m
  | _, _ => false
theorem shapeM_spec : ∀ {l m : Mem A}, shapeM l m = true → l.length = m.length ∧ ∀ (k : Nat), (∃ bl, l[k]? = some (some bl)) ↔ ∃ bl, m[k]? = some (some bl)
  | [], [], _ => ⟨rfl, fun _ => Iff.rfl⟩
  | [], _ :: _, h => by simp [shapeM] at h
  | some _ :: _, [], h => by simp [shapeM] at h
  | none :: _, [], h => by simp [shapeM] at h
  | some a :: l, some b :: m, h => by
    obtain ⟨h1, h2⟩ := shapeM_spec (l := l) (m := m) h
    refine ⟨by simp [h1], fun k => ?_⟩
    cases k with
    | zero => simp
    | succ k => simpa using h2 k
  | none :: l, none :: m, h => by
    obtain ⟨h1, h2⟩ := shapeM_spec (l := l) (m := m) h
    refine ⟨by simp [h1], fun k => ?_⟩
    cases k with
    | zero => simp
    | succ k => simpa using h2 k
  | some _ :: _, none :: _, h => by simp [shapeM] at h
  | none :: _, some _ :: _, h => by simp [shapeM] at h
def LoopF.fn {I : Inp A} (c : LoopF P I) (s : LS A) : Option (Out × List (LV A) × Mem A × Cnd) := match Nat.beq s.tmps.length c.s.tmps.length && shapeM s.mem c.s.mem with
  | true => some (c.o, c.t.tmps, c.t.mem, some (s.tmps = c.s.tmps ∧ s.mem = c.s.mem))
  | false => none
def lpOf {I : Inp A} : List (LoopF P I) → FuncId → List Nat → Option (LS A → Option (Out × List (LV A) × Mem A × Cnd))
  | [], _, _ => none
  | c :: cs, f, p => match Nat.beq c.f f && eqP c.p p with
    | true => some c.fn
    | false => lpOf cs f p
def howOf (ps : List (ConP P A)) (rs : List (ConR P A)) (f : FuncId) : Kn := match ps.any (fun c => Nat.beq c.f f) with
  | true => .pure
  | false => match rs.any (fun c => Nat.beq c.f f) with
    | true => .look
    | false => .wr

/-- What is told beside the contracts. -/
structure Adv where
  il : FuncId → Bool
  dec : FuncId → Nat → Nat → Option Bool
  rc : FuncId → Nat → Nat → Bool
  fz : FuncId → Nat → Bool
  pl : FuncId → Nat → Bool := fun _ _ => false
  res : FuncId → Nat → Nat

def sigOf (ps : List (ConP P A)) (rs : List (ConR P A)) (cs : List (ConC P A)) {I : Inp A} (ls : List (LoopF P I)) (ms : TypeId → String → Option FuncId) (a : Adv) : Sig A where
  ps := psOf ps
  rs := rsOf I rs
  cs := csOf I cs
  il := a.il
  how := howOf ps rs
  ms := ms
  dec := a.dec
  rc := a.rc
  fz := fun f r => ⟨a.fz f r, a.pl f r⟩
  res := a.res
  inp := I
  lp := lpOf ls

theorem psOf_mem {ps : List (ConP P A)} {f : FuncId} {vs : List (LV A)} {v : LV A} (h : psOf ps f vs = some v) : ∃ c : ConP P A, c.f = f ∧ c.fn vs = some v := by
  induction ps with
  | nil => cases h
  | cons c cs ih =>
    simp only [psOf] at h
    split at h
    · rename_i hb; exact ⟨c, beqN hb, h⟩
    · exact ih h
theorem rsOf_mem {I : Inp A} {rs : List (ConR P A)} {f : FuncId} {vs : List (LV A)} {mem : Mem A} {v : LV A} (h : rsOf I rs f vs mem = some v) : ∃ c : ConR P A, c.f = f ∧ c.fn I vs mem = some v := by
  induction rs with
  | nil => cases h
  | cons c cs ih =>
    simp only [rsOf] at h
    split at h
    · rename_i hb; exact ⟨c, beqN hb, h⟩
    · exact ih h
theorem csOf_mem {I : Inp A} {rs : List (ConC P A)} {f : FuncId} {vs : List (LV A)} {mem : Mem A} {v : LV A × Mem A × Cnd} (h : csOf I rs f vs mem = some v) : ∃ c : ConC P A, c.f = f ∧ c.fn I vs mem = some v := by
  induction rs with
  | nil => cases h
  | cons c cs ih =>
    simp only [csOf] at h
    split at h
    · rename_i hb; exact ⟨c, beqN hb, h⟩
    · exact ih h
theorem lpOf_mem {I : Inp A} {ls : List (LoopF P I)} {f : FuncId} {p : List Nat} {h : LS A → Option (Out × List (LV A) × Mem A × Cnd)} (hl : lpOf ls f p = some h) : ∃ c : LoopF P I, c.f = f ∧ c.p = p ∧ c.fn = h := by
  induction ls with
  | nil => cases hl
  | cons c cs ih =>
    simp only [lpOf] at hl
    split at hl
    · rename_i hb; cases hl; exact ⟨c, beqN (both hb).1, eqP_spec (both hb).2, rfl⟩
    · exact ih hl
theorem LoopF.fn_grow {I : Inp A} (k : LoopF P I) {s : LS A} {o : Out} {tm : List (LV A)} {m : Mem A} {c : Cnd} (h : k.fn s = some (o, tm, m, c)) : tm.length = s.tmps.length ∧ s.mem.length ≤ m.length ∧ ∀ (k : Nat), k < s.mem.length → ((∃ bl, s.mem[k]? = some (some bl)) ↔ ∃ bl, m[k]? = some (some bl)) := by
  unfold LoopF.fn at h
  split at h
  · rename_i hb
    cases h
    obtain ⟨h1, h2⟩ := both hb
    have h1 := beqN h1
    obtain ⟨h3, h4⟩ := shapeM_spec h2
    refine ⟨k.len.trans h1.symm, by rw [h3]; exact k.grow.1, fun q hq => (h4 q).trans (k.grow.2 q (by rw [← h3]; exact hq))⟩
  · cases h
theorem LoopF.fn_run {I : Inp A} (k : LoopF P I) {s : LS A} {o : Out} {tm : List (LV A)} {m : Mem A} {c : Cnd} (h : k.fn s = some (o, tm, m, c)) (hc : condOk c) : Ex P I (codeAt P k.f k.p) s o ⟨tm, m, s.conds⟩ := by
  unfold LoopF.fn at h
  split at h
  · cases h
    obtain ⟨e1, e2⟩ := (hc : s.tmps = k.s.tmps ∧ s.mem = k.s.mem)
    refine ⟨fun q bl hb => ?_, fun Own w0 ρ a w Q hr hQ => k.ex.run Own w0 ρ a w Q { hr with size := by rw [← e1]; exact hr.size, val := by rw [← e1]; exact hr.val, mem := by rw [← e2]; exact hr.mem, mine := by rw [← e2]; exact hr.mine, occT := by rw [← e1, ← e2]; exact hr.occT, occM := by rw [← e2]; exact hr.occM } fun ρ' a' w' he hr' => hQ ρ' a' w' (fun q m hq => he q m (by rw [← e2]; exact hq)) { hr' with }⟩
    rw [e2] at hb
    exact k.ex.live q bl hb
  · cases h

theorem sigOf_ok (ps : List (ConP P A)) (rs : List (ConR P A)) (cs : List (ConC P A)) {I : Inp A} (ls : List (LoopF P I)) {ms : TypeId → String → Option FuncId} (hms : ∀ t m f, ms t m = some f → ∀ v w, (method (P.types.size + Made.depth) t v m).run P w = .ok (f, v) w) (a : Adv) (hI : InpOk I) : SigOk P (sigOf ps rs cs ls ms a) where
  psE f vs v h := by obtain ⟨c, rfl, _⟩ := psOf_mem h; exact c.ent
  psK f vs v h := by obtain ⟨c, rfl, h2⟩ := psOf_mem h; exact c.kin vs v h2
  psC f vs v h := by obtain ⟨c, rfl, h2⟩ := psOf_mem h; exact c.call vs v h2
  rsE f vs mem v h := by obtain ⟨c, rfl, _⟩ := rsOf_mem h; exact c.ent
  rsK f vs mem v h := by obtain ⟨c, rfl, h2⟩ := rsOf_mem h; exact c.kin I vs mem v h2
  rsC f vs mem v h := by obtain ⟨c, rfl, h2⟩ := rsOf_mem h; exact c.call I hI vs mem v h2
  ms := hms
  cs := {
    ent := fun f vs mem r h => by obtain ⟨c, rfl, _⟩ := csOf_mem h; exact c.ent
    grow := fun f vs mem v mem' cd h => by obtain ⟨c, rfl, h2⟩ := csOf_mem h; exact c.grow I vs mem v mem' cd h2
    call := fun f vs mem v mem' cd h => by obtain ⟨c, rfl, h2⟩ := csOf_mem h; exact c.call I hI vs mem v mem' cd h2 }
  lpG f p h s o tm m c hl hh := by obtain ⟨k, rfl, rfl, rfl⟩ := lpOf_mem hl; exact k.fn_grow hh
  lpC f p h s o tm m c hl hh hc := by obtain ⟨k, rfl, rfl, rfl⟩ := lpOf_mem hl; exact k.fn_run hh hc

/-! ## contracts out of the executor -/
theorem ent_of {f : FuncId} {fn : Func} {c : Code} (hf : P.funcs[f]? = some fn) (hb : fn.body = some c) (hn : (fn.name == "runtime.NumGoroutine") = false) : ∀ args w, (callFunc f args).run P w = .ok (.enter f args) w := by
  intro args w
  have hn : ¬ (fn.name = "runtime.NumGoroutine") := by
    intro e
    rw [e] at hn
    simp at hn
  simp [callFunc, hf, hb, hn]
end
end Go.Proofs.Ytjhjockdkpgpeaa.En
