/- DERIVED. What the tables of callees must be; an operation that touches no memory, in a walk. -/
import Derived.Test.YtjhjockdkpgpeaaVSQ
set_option linter.all false
namespace Go.Proofs.Ytjhjockdkpgpeaa.En
open Go Go.RowKit

section
variable {A : Type} [Ab A] {P : Program}

/-- The operation writes this value, and nothing that was there is turned. -/
def Does (P : Program) (o : Oper) (a : Act) (w : World) (u : Value) : Prop :=
  ∀ (K : Act → World → Prop) (Q : Exit → Act → World → Prop), (∀ w', Below w.heap.size w w' → K (a.put o.dst u) w') → o.wp P a w K Q

theorem does_value {o : Oper} {a : Act} {w : World} {u : Value} (h : (execOp a.eval o).run P w = .ok (.value u) w) : Does P o a w u := by
  intro K Q hk
  unfold Oper.wp
  rw [h]
  exact hk w (Below.refl _ _)

theorem does_call {o : Oper} {a : Act} {w : World} {u : Value} {f : FuncId} {args : Array Value} (h : (execOp a.eval o).run P w = .ok (.enter f args) w)
    (hc : Calls P f args w fun e w' => e = .returned u ∧ Below w.heap.size w w') : Does P o a w u := by
  intro K Q hk
  unfold Oper.wp
  rw [h, Oper.upon_enter]
  exact hc.mono fun e w' ⟨he, hb⟩ => by subst he; exact hk w' hb

/-- What a call that writes leaves. -/
structure Left' (I : Nat → Nat → List (LV A)) (Own : Dom) (w0 : World) (mem : Mem A) (ρ ρ' : Key → Loc) (mem' : Mem A) (v : LV A) (w' : World) : Prop where
  agree : ∀ k m, okKey mem ρ k m → ρ k = ρ' k
  mem : MemRel I ρ' mem' w'
  mine : Mine I Own ρ' mem'
  keeps : Keeps Own w0 w'
  kinV : v.kin (okKey mem' ρ')
  kinM : ∀ (k : Key) (bl : Blk A), at? I mem' k = some bl → kinL (okKey mem' ρ') bl.us

/-- What stands ahead of a call. -/
structure Ahead (I : Nat → Nat → List (LV A)) (Own : Dom) (ρ : Key → Loc) (m : Mem A) (vs : List (LV A)) (w : World) : Prop where
  mem : MemRel I ρ m w
  mine : Mine I Own ρ m
  new : ∀ b, w.heap.size ≤ b → Own b ∧ Own.src b
  kinV : kinL (okKey m ρ) vs
  kinM : ∀ (k : Key) (bl : Blk A), at? I m k = some bl → kinL (okKey m ρ) bl.us

/-- A table of calls that write says what is so. -/
structure CallOk (P : Program) (I : Nat → Nat → List (LV A)) (cr : CallR A) : Prop where
  ent : ∀ f vs mem r, cr f vs mem = some r → ∀ args w, (callFunc f args).run P w = .ok (.enter f args) w
  grow : ∀ f vs mem v mem' c, cr f vs mem = some (v, mem', c) → mem.length ≤ mem'.length ∧ ∀ (k : Nat), k < mem.length → ((∃ bl, mem[k]? = some (some bl)) ↔ ∃ bl, mem'[k]? = some (some bl))
  call : ∀ f vs mem v mem' c, cr f vs mem = some (v, mem', c) → condOk c → ∀ Own ρ w, Ahead I Own ρ mem vs w →
    Calls P f (trs ρ vs).toArray w fun e w' => ∃ ρ', e = .returned (LV.tr ρ' v) ∧ Left' I Own w mem ρ ρ' mem' v w'

def Out.toExit : Out → Exit
  | .normal => .normal
  | .exit id => .exit id
  | .ret => .ret

/-- What an execution says of the code. -/
structure Ex (P : Program) (I : Nat → Nat → List (LV A)) (c : Code) (s : LS A) (o : Out) (t : LS A) : Prop where
  live : ∀ (k : Nat) (bl : Blk A), s.mem[k]? = some (some bl) → ∃ bl' : Blk A, t.mem[k]? = some (some bl')
  run : ∀ (Own : Dom) (w0 : World) (ρ : Key → Loc) (a : Act) (w : World) (Q : Exit → Act → World → Prop), Rl I Own w0 ρ s a w →
    (∀ ρ' a' w', (∀ k m, okKey s.mem ρ k m → ρ k = ρ' k) → Rl I Own w0 ρ' t a' w' → Q o.toExit a' w') → c.wp P Q a w

/-- The tables of callees say what is so. -/
structure SigOk (P : Program) (S : Sig A) : Prop where
  psE : ∀ f vs v, S.ps f vs = some v → ∀ args w, (callFunc f args).run P w = .ok (.enter f args) w
  psK : ∀ f vs v, S.ps f vs = some v → ∀ p, v.kin p
  psC : ∀ f vs v, S.ps f vs = some v → ∀ ρ w, Calls P f (trs ρ vs).toArray w fun e w' => e = .returned (LV.tr ρ v) ∧ Below w.heap.size w w'
  rsE : ∀ f vs mem v, S.rs f vs mem = some v → ∀ args w, (callFunc f args).run P w = .ok (.enter f args) w
  rsK : ∀ f vs mem v, S.rs f vs mem = some v → ∀ p, v.kin p
  rsC : ∀ f vs mem v, S.rs f vs mem = some v → ∀ ρ w, MemRel S.inp ρ mem w → kinL (capOk ρ) vs → (∀ (k : Key) (bl : Blk A), at? S.inp mem k = some bl → kinL (capOk ρ) bl.us) → Calls P f (trs ρ vs).toArray w fun e w' => e = .returned (LV.tr ρ v) ∧ Below w.heap.size w w'
  ms : ∀ t m f, S.ms t m = some f → ∀ v w, (method (P.types.size + Made.depth) t v m).run P w = .ok (f, v) w
  cs : CallOk P S.inp S.cs
  lpG : ∀ f p h s o tm m c, S.lp f p = some h → h s = some (o, tm, m, c) → tm.length = s.tmps.length ∧ s.mem.length ≤ m.length ∧ ∀ (k : Nat), k < s.mem.length → ((∃ bl, s.mem[k]? = some (some bl)) ↔ ∃ bl, m[k]? = some (some bl))
  lpC : ∀ f p h s o tm m c, S.lp f p = some h → h s = some (o, tm, m, c) → condOk c → Ex P S.inp (codeAt P f p) s o ⟨tm, m, s.conds⟩
end
end Go.Proofs.Ytjhjockdkpgpeaa.En
