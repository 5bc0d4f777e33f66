/- DERIVED. Texts laid together: VSZ FR FS FS2 FT FU FV FW FX GA GB GC GD GE GF GH GI GJ GK. -/
import Derived.Test.YtcedljbapgmdmaaGreatZlC
import Derived.RangeFuncFrom
import Derived.RangeFuncLeaves
import Derived.RangeFuncBox
import Derived.Shelf.Abstract
import Derived.WalkKit
import Derived.OwnWalkIn
import Derived.TacticsInMore
import Derived.LoopNIn
import Derived.LoopIn
import Derived.Test.YtcedljbapgmdmaaGreatProg
/- DERIVED. A loop over a function's values: its rounds as executions. -/
set_option linter.all false
namespace Go.Proofs.YtcedljbapgmdmaaGreat.En
open Go Go.RowKit

mutual
theorem kin_and {A : Type} {p q : Key → Nat → Prop} : ∀ v : LV A, v.kin p → v.kin q → v.kin fun k m => p k m ∧ q k m
  | .ptr _ _ _, h, h' => ⟨h, h'⟩
  | .slice _ _ _ _ _, h, h' => ⟨h, h'⟩
  | .vec _ _, h, h' => ⟨h, h'⟩
  | .rows _ _ f, h, h' => fun i => kinL_and (f i) (h i) (h' i)
  | .agg us, h, h' => kinL_and us h h'
  | .tup vs, h, h' => kinL_and vs h h'
  | .iface _ v, h, h' => kin_and v h h'
  | .func _ caps, h, h' => kinL_and caps h h'
  | .any, _, _ => trivial
  | .undef, _, _ => trivial
  | .int _ _, _, _ => trivial
  | .bool _, _, _ => trivial
  | .str _, _, _ => trivial
  | .nilp, _, _ => trivial
  | .nils, _, _ => trivial
  | .nilfn, _, _ => trivial
  | .niliface, _, _ => trivial
  | .abs _, _, _ => trivial
theorem kinL_and {A : Type} {p q : Key → Nat → Prop} : ∀ l : List (LV A), kinL p l → kinL q l → kinL (fun k m => p k m ∧ q k m) l
  | [], _, _ => trivial
  | v :: l, h, h' => ⟨kin_and v h.1 h'.1, kinL_and l h.2 h'.2⟩
end

section
variable {A : Type} [Ab A] {P : Program} {I : Nat → Nat → List (LV A)}

/-- Own blocks with cells, none of them a row. -/
def flatB : Mem A → Bool
  | [] => true
  | none :: l => flatB l
  | some bl :: l => (match bl.kd with
    | .rw => Nat.blt 0 (cszL bl.us)
    | .row _ => false
    | _ => true) && flatB l
theorem flat_spec : ∀ {mem : Mem A}, flatB mem = true → ∀ (k : Nat) (bl : Blk A), mem[k]? = some (some bl) → isWr bl.kd = true → bl.kd = .rw ∧ 0 < cszL bl.us
  | [], _, k, bl, h, _ => by simp at h
  | none :: l, h, k, bl, hk, hw => by
    cases k with
    | zero => simp at hk
    | succ k => exact flat_spec (mem := l) h k bl (by simpa using hk) hw
  | some b :: l, h, k, bl, hk, hw => by
    simp only [flatB, Bool.and_eq_true] at h
    cases k with
    | zero =>
      have : b = bl := by simpa using hk
      subst this
      have h1 := h.1
      split at h1
      · rename_i e; exact ⟨e, by simpa using h1⟩
      · cases h1
      · rename_i h2 h3
        cases hkd : b.kd with
        | rw => exact absurd hkd h2
        | row e => exact absurd hkd (h3 e)
        | ro => rw [hkd] at hw; cases hw
        | dead => rw [hkd] at hw; cases hw
    | succ k => exact flat_spec (mem := l) h.2 k bl (by simpa using hk) hw
theorem memRel_grown [LawAb A] {ρ : Key → Loc} {mem : Mem A} {W W' : World} {row : Option Nat} (hf : flatB mem = true) (h : MemRel I ρ mem W) (hg : W.grownBy W' row) (hr : ∀ r, row = some r → ∃ o : Obj, W.heap[r]? = some o ∧ o.isCells = false) : MemRel I ρ mem W' where
  cell k bl hk i v hv := cell_kept (h.cell k bl hk i v hv) hg hr
  free k bl hk hw i hi := by
    obtain ⟨v, hl⟩ : ∃ v, (cellsL ρ bl.us)[i]? = some v := ⟨_, List.getElem?_eq_getElem (by rw [len_cellsL]; exact hi)⟩
    rw [frozen_kept (h.cell (.own k) bl (at_own hk) i v hl) hg hr]
    exact h.free k bl hk hw i hi
  apart := h.apart
  inb k bl hk hd hn := Nat.lt_of_lt_of_le (h.inb k bl hk hd hn) hg.size
  row k bl e hk he := by
    have := (flat_spec hf k bl hk (by rw [he]; rfl)).1
    rw [he] at this; cases this
  nilc := h.nilc
  empt := h.empt
  dead := h.dead

/-- All that is new since the call began. -/
def d0 (n0 : Nat) : Dom := ⟨fun k => n0 ≤ k, fun _ => True, []⟩
/-- .. but what is no cells. -/
def dW (n0 : Nat) (W : World) (ds : List Deferred) : Dom := ⟨fun b => n0 ≤ b ∧ ¬ ∃ o : Obj, W.heap[b]? = some o ∧ o.isCells = false, fun _ => True, ds⟩

/-- Between two rounds. -/
structure Btw (I : Nat → Nat → List (LV A)) (w0 : World) (B : Nat) (mem1 : Mem A) (ρ : Key → Loc) (ms : Mem A) (W : World) (ρ' : Key → Loc) : Prop where
  agree : ∀ k m, okB B k → okKey mem1 ρ k m → ρ k = ρ' k
  mem : MemRel I ρ' ms W
  mine : Mine I (d0 w0.heap.size) ρ' ms
  keeps : Keeps (d0 w0.heap.size) w0 W
  occM : ∀ (k : Key) (bl : Blk A), at? I ms k = some bl → kinL (okKey ms ρ') bl.us
theorem Keeps.wide {n0 : Nat} {W W' A0 : World} {ds : List Deferred} (h : Keeps (dW n0 A0 ds) W W') : Keeps (d0 n0) W W' :=
  ⟨h.os, h.tape, h.output, h.size, fun k hk hn => h.block k hk fun hd => hn hd.1⟩
theorem okB_key {B : Nat} {mem mem' : Mem A} {ρ ρ' : Key → Loc} (hl : ∀ (k : Nat) (bl : Blk A), k < B → mem[k]? = some (some bl) → ∃ bl', mem'[k]? = some (some bl')) {k : Key} {m : Nat} (hB : okB B k) (h : okKey mem ρ k m) (e : ρ k = ρ' k) : okKey mem' ρ' k m := by
  cases k with
  | own k => obtain ⟨⟨bl, hb⟩, hm⟩ := h; exact ⟨hl k bl hB hb, by rw [← e]; exact hm⟩
  | inp t i => show m ≤ _; rw [← e]; exact h
theorem Btw.rl [LawAb A] {w0 W : World} {B : Nat} {mem1 mem : Mem A} {ρ ρ' : Key → Loc} (h : Btw I w0 B mem1 ρ mem W ρ') (hf : flatB mem = true) (hl : ∀ (k : Nat) (bl : Blk A), k < B → mem1[k]? = some (some bl) → ∃ bl', mem[k]? = some (some bl'))
    {tmps : List (LV A)} {a : Act} (hs : a.tmps.size = tmps.length) (hv : ∀ (i : Nat) (v : LV A), tmps[i]? = some v → v = .any ∨ a.tmps[i]? = some (LV.tr ρ v)) (hk : ∀ (i : Nat) (v : LV A), tmps[i]? = some v → v.kin fun k m => okB B k ∧ okKey mem1 ρ k m) {ds : List Deferred} (hd : a.defers = ds) {cs : List Cnd} :
    Rl I (dW w0.heap.size W ds) W ρ' ⟨tmps, mem, cs⟩ a W where
  size := hs
  val i v hi := by
    rcases hv i v hi with e | e
    · exact .inl e
    · exact .inr (by rw [e, tr_congr (fun k m hkm => h.agree k m hkm.1 hkm.2) v (hk i v hi)])
  defers := hd
  mem := h.mem
  mine := ⟨fun k bl hb hw hn => ⟨h.mine.own k bl hb hw hn, fun ⟨o, ho, hc⟩ => by
    have hp := (flat_spec hf k bl hb hw).2
    obtain ⟨v, hl⟩ : ∃ v, (cellsL ρ' bl.us)[0]? = some v := ⟨_, List.getElem?_eq_getElem (by rw [len_cellsL]; exact hp)⟩
    obtain ⟨o', ho', hc'⟩ := cells_of_cell (h.mem.cell (.own k) bl (at_own hb) 0 v hl)
    have e : ((ρ' (.own k)).at 0).block = (ρ' (.own k)).blk := rfl
    rw [e, ho] at ho'
    cases ho'
    rw [hc] at hc'; cases hc'⟩, fun _ _ _ _ _ => trivial⟩
  new b hb := ⟨⟨Nat.le_trans h.keeps.size hb, fun ⟨o, ho, _⟩ => absurd (Array.getElem?_eq_some_iff.1 ho).1 (by omega)⟩, trivial⟩
  keeps := Keeps.refl _ _
  occT i v hi := kin_mono (fun k m hkm => okB_key hl hkm.1 hkm.2 (h.agree k m hkm.1 hkm.2)) v (hk i v hi)
  occM := h.occM
/-- What a round leaves. -/
theorem Btw.next [LawAb A] {w0 W W' : World} {B : Nat} {mem1 mem : Mem A} {ρ ρ' ρ'' : Key → Loc} (h : Btw I w0 B mem1 ρ mem W ρ') (hl : ∀ (k : Nat) (bl : Blk A), k < B → mem1[k]? = some (some bl) → ∃ bl', mem[k]? = some (some bl'))
    (he : ∀ k m, okB B k → okKey mem ρ' k m → ρ' k = ρ'' k) {t : LS A} {a : Act} {ds : List Deferred} (hr : Rl I (dW w0.heap.size W ds) W ρ'' t a W') : Btw I w0 B mem1 ρ t.mem W' ρ'' where
  agree k m hB hk := (h.agree k m hB hk).trans (he k m hB (okB_key hl hB hk (h.agree k m hB hk)))
  mem := hr.mem
  mine := ⟨fun k bl hb hw hn => (hr.mine.own k bl hb hw hn).1, fun _ _ _ _ _ => trivial⟩
  keeps := h.keeps.trans hr.keeps.wide
  occM := hr.occM
theorem Btw.grown [LawAb A] {w0 W W' : World} {B : Nat} {mem1 mem : Mem A} {ρ ρ' : Key → Loc} (h : Btw I w0 B mem1 ρ mem W ρ') (hf : flatB mem = true) {row : Option Nat} (hg : W.grownBy W' row) (hr : ∀ r, row = some r → w0.heap.size ≤ r ∧ ∃ o : Obj, W.heap[r]? = some o ∧ o.isCells = false) : Btw I w0 B mem1 ρ mem W' ρ' where
  agree := h.agree
  mem := memRel_grown hf h.mem hg fun r e => (hr r e).2
  mine := h.mine
  keeps := h.keeps.trans ⟨hg.os, hg.tape, hg.output, hg.size, fun k hk hn => hg.block k hk fun e => hn (hr k e.symm).1⟩
  occM := h.occM

/-- A loop over a function's values. -/
theorem range_run [LawAb A] {α : Type} {w0 : World} {ρ : Key → Loc} {s1 : LS A} {a : Act} {w : World} (hr : Rl I (d0 w0.heap.size) w0 ρ s1 a w) {g : Operand} {p d : Tmp} {rid : Nat} {o : Oper} {body : Code} {gf : FuncId} {caps : List (LV A)}
    (hg : ev s1.tmps g = some (.func gf caps)) (eg : ∀ args w, (callFunc gf args).run P w = .ok (.enter gf args) w)
    (ho : o.op = .assign (.tmp p) ∧ o.dst = some d ∧ o.guard = none) {enc : α → Value} {lv : α → LV A} (hlv : ∀ x ρ, LV.tr ρ (lv x) = enc x) (hkl : ∀ x p, LV.kin p (lv x)) {L : List α} {N n : Nat} (h1 : 1 ≤ n)
    (hp : p < s1.tmps.length)
    {B : Nat} (hT : ∀ (i : Nat) (v : LV A), s1.tmps[i]? = some v → v.kin fun k _ => okB B k)
    (M : List α → Mem A) (hM0 : M [] = s1.mem) (hMf : ∀ l, flatB (M l) = true) (hMl : ∀ l (k : Nat) (bl : Blk A), k < B → s1.mem[k]? = some (some bl) → ∃ bl', (M l)[k]? = some (some bl'))
    (hstep : ∀ l x, ∃ t, ExB B P I body ⟨(s1.tmps.set p (lv x)).set d (lv x), M l, []⟩ .normal t ∧ t.mem = M (l ++ [x]))
    {Sp : List α → Prop} (hseq : SeqStopsK Fence.wide (n - 1) P gf (trs ρ caps).toArray (fun x => #[enc x]) (Below w0.heap.size) (fun xs => xs = L) Sp N w)
    {Q : Exit → Act → World → Prop} (hQ : ∀ (D : Nat) (W : World) (ρ' : Key → Loc), Btw I w0 B s1.mem ρ (M L) W ρ' → w0.heap.size ≤ D → W.heap[D]? = some (.deferred (some [])) → Q .normal { a with defers := [{ target := .collected D, args := #[] }] } W) :
    (Code.rangeFunc g #[p] (.region rid #[o] false) body).wpIn Fence.wide n P Q a w := by
  have hb0 : Btw I w0 B s1.mem ρ (M []) w ρ := by
    rw [hM0]; exact ⟨fun _ _ _ _ => rfl, hr.mem, hr.mine, hr.keeps, hr.occM⟩
  have hok : ∀ (i : Nat) (v : LV A), s1.tmps[i]? = some v → v.kin fun k m => okB B k ∧ okKey s1.mem ρ k m := fun i v hv => kin_and v (hT i v hv) (hr.occT i v hv)
  refine wpIn_rangeFunc_ownF (F := Fence.wide) rfl h1 (gf := gf) (lb := (trs ρ caps).toArray) ?_ trivial eg hseq (fun h k => belowK_t h k)
    (fun W l o o' hl h _ _ => belowK_b hr.keeps.size W l o o' hl h (by assumption) (by assumption)) (Below.refl _ _) (fun _ => rfl)
    (fun l W => ∃ ρ', Btw I w0 B s1.mem ρ (M l) W ρ') (fun _ _ _ => False) ?_ (fun _ _ _ _ _ hs => hs.elim) ⟨ρ, hb0⟩
    (fun x => { tmps := (a.tmps.setIfInBounds p (enc x)).setIfInBounds d (enc x), defers := [] }) ?_ ?_ ?_ (fun _ _ _ _ _ _ hs => hs.elim)
  · have := (ev_sound hr hg).1
    rw [this]; rfl
  · rintro l W W' row ⟨ρ', hb⟩ hg hrow
    exact ⟨ρ', hb.grown (hMf l) hg fun r e => ⟨Nat.le_trans hr.keeps.size (hrow r e).1, (hrow r e).2⟩⟩
  · intro l x W K hK
    have h2 : wpR P (.region rid #[o] false) (Exit.then K fun _ _ _ => False) { tmps := a.tmps.setIfInBounds p (enc x), defers := [] } W := by
      refine wpR_region ?_
      show wpOpsR P #[o] _ [0] _ W
      refine wpOpsR_cons (wpOpR_of (o := o) rfl (fun _ c hc => by rw [ho.1] at hc; cases hc) ?_)
      have hw : Region.wanted o (yielded #[o] ((Act.mk (a.tmps.setIfInBounds p (enc x)) []).tmps)) = true := by simp [Region.wanted, ho.2.2]
      rw [if_pos hw]
      have he : (Act.mk (a.tmps.setIfInBounds p (enc x)) []).eval (.tmp p) = enc x := by
        show (a.tmps.setIfInBounds p (enc x)).getD p Go.undef = _
        have hpl : p < a.tmps.size := by rw [hr.size]; exact hp
        simp [hpl]
      have hrun : (execOp (Act.mk (a.tmps.setIfInBounds p (enc x)) []).eval o).run P W = .ok (.value (enc x)) W := by
        simp only [execOp, ho.1, he]
        rfl
      unfold Oper.wp
      rw [hrun, Oper.upon_value]
      refine wpOpsR_nil ?_
      rw [ho.2.1]
      exact hK
    have h3 := h2 (some l) (n - 1 - 1)
    have hz : (#[p].zip #[enc x]) = #[(p, enc x)] := by simp
    simp only [hz, List.foldl_toArray, List.foldl_cons, List.foldl_nil]
    exact h3
  · rintro l pre x W ⟨ρ', hb⟩ _
    obtain ⟨t, ht, htm⟩ := hstep pre x
    have hrl : Rl I (dW w0.heap.size W []) W ρ' ⟨(s1.tmps.set p (lv x)).set d (lv x), M pre, []⟩ { tmps := (a.tmps.setIfInBounds p (enc x)).setIfInBounds d (enc x), defers := [] } W := by
      refine hb.rl (tmps := (s1.tmps.set p (lv x)).set d (lv x)) (a := { tmps := (a.tmps.setIfInBounds p (enc x)).setIfInBounds d (enc x), defers := [] }) (hMf pre) (hMl pre) (by show ((a.tmps.setIfInBounds p (enc x)).setIfInBounds d (enc x)).size = ((s1.tmps.set p (lv x)).set d (lv x)).length; rw [Array.size_setIfInBounds, Array.size_setIfInBounds, List.length_set, List.length_set, hr.size]) (fun i v hi => ?_) (fun i v hi => ?_) rfl
      · by_cases e1 : d = i
        · subst e1
          by_cases hl : d < s1.tmps.length
          · have : v = lv x := by simpa [hl, eq_comm] using hi
            right
            have hl' : d < a.tmps.size := by rw [hr.size]; exact hl
            simp [hl', this, hlv]
          · simp [hl] at hi
        · rw [List.getElem?_set_ne e1] at hi
          by_cases e2 : p = i
          · subst e2
            have : v = lv x := by simpa [hp, eq_comm] using hi
            right
            have hl' : p < a.tmps.size := by rw [hr.size]; exact hp
            rw [Array.getElem?_setIfInBounds_ne e1]
            simp [hl', this, hlv]
          · rw [List.getElem?_set_ne e2] at hi
            rcases hr.val i v hi with e | e
            · exact .inl e
            · right
              rw [Array.getElem?_setIfInBounds_ne e1, Array.getElem?_setIfInBounds_ne e2]
              exact e
      · by_cases e1 : d = i
        · subst e1
          by_cases hl : d < s1.tmps.length
          · have : v = lv x := by simpa [hl, eq_comm] using hi
            subst this; exact hkl x _
          · simp [hl] at hi
        · rw [List.getElem?_set_ne e1] at hi
          by_cases e2 : p = i
          · subst e2
            have : v = lv x := by simpa [hp, eq_comm] using hi
            subst this; exact hkl x _
          · rw [List.getElem?_set_ne e2] at hi
            exact hok i v hi
    refine ht.run (dW w0.heap.size W []) W ρ' _ W _ hrl (fun ρ'' a' W' he hr' => ?_) (some l) _
    have hn := hb.next (hMl pre) he hr'
    rw [htm] at hn
    refine ⟨⟨hr'.keeps.size, fun k o hk hc => ?_⟩, ⟨hr'.keeps.os, hr'.keeps.tape, hr'.keeps.output, hr'.keeps.size, fun k hk => hr'.keeps.block k (Nat.lt_of_lt_of_le hk hb.keeps.size) fun hd => absurd hd.1 (by omega)⟩, ρ'', hn⟩
    rw [hr'.keeps.block k (Array.getElem?_eq_some_iff.1 hk).1 fun hd => hd.2 ⟨o, hk, hc⟩]
    exact hk
  · rintro D xs W hD rfl ⟨ρ', hb⟩ hdef
    have hd : a.defers = [] := hr.defers
    rw [hd]
    exact hQ D W ρ' hb (Nat.le_trans hr.keeps.size hD) hdef
/-- A function's end behind such a loop. -/
theorem range_end [LawAb A] {w0 W W' : World} {ρ : Key → Loc} {t : LS A} {a : Act} {D n : Nat} {fn : Func} {v : LV A} {cv : Cnd} {rc : Bool} (hf : flatB t.mem = true) (hr : Rl I (dW w0.heap.size W [{ target := .collected D, args := #[] }]) W ρ t a W') (hk : Keeps (d0 w0.heap.size) w0 W)
    (hD : W.heap[D]? = some (.deferred (some []))) (hn : w0.heap.size ≤ D) (hv : resF P rc fn t = some (v, cv)) (hc : condOk cv) : LeavesInM Fence.wide n P fn a.tmps (fun e w' => e = .returned (LV.tr ρ v) ∧ Below w0.heap.size w0 w') a.defers .returning W' := by
  have hd : a.defers = [{ target := .collected D, args := #[] }] := hr.defers
  rw [hd]
  have hlt := (Array.getElem?_eq_some_iff.1 hD).1
  have hD' : W'.heap[D]? = some (.deferred (some [])) := by
    rw [hr.keeps.block D hlt fun h => h.2 ⟨_, hD, rfl⟩]; exact hD
  have hg := grownBy_putObj' W' D (.deferred none)
  have hg2 : ∀ r, (some D : Option Nat) = some r → ∃ o : Obj, W'.heap[r]? = some o ∧ o.isCells = false := fun r e => by cases e; exact ⟨_, hD', rfl⟩
  refine ⟨by simp, .inl ⟨D, _, rfl, run_takeDeferred hD', ?_⟩⟩
  have hrl : Rl I ⟨fun _ => True, fun _ => True, a.defers⟩ (W'.putObj D (.deferred none)) ρ t a (W'.putObj D (.deferred none)) :=
    { size := hr.size, val := hr.val, defers := rfl, mem := memRel_grown hf hr.mem hg hg2, mine := ⟨fun _ _ _ _ _ => trivial, fun _ _ _ _ _ => trivial⟩, new := fun _ _ => ⟨trivial, trivial⟩, keeps := Keeps.refl _ _, occT := hr.occT, occM := hr.occM }
  refine ⟨_, (resF_sound hrl hv hc).1, rfl, ?_⟩
  have h1 := hk.trans hr.keeps.wide
  exact ⟨h1.os, h1.tape, h1.output, by simpa [World.putObj] using h1.size, fun k hk => by
    rw [World.putObj_heap_other (by omega)]
    exact h1.block k (Nat.lt_of_lt_of_le hk (Nat.le_refl _)) fun h => absurd h (Nat.not_le.2 hk)⟩
/-- No own block from B on is named. -/
def bdB (B : Nat) : LV A → Bool
  | .ptr k _ _ => okk k
  | .slice k _ _ _ _ => okk k
  | .vec k _ => okk k
  | .agg us => bdBs us
  | .tup us => bdBs us
  | .iface _ v => bdB B v
  | .func _ us => bdBs us
  | .rows _ _ _ => false
  | _ => true
where
  okk : Key → Bool
    | .own k => Nat.blt k B
    | .inp _ _ => true
  bdBs : List (LV A) → Bool
    | [] => true
    | v :: l => bdB B v && bdBs l
theorem okk_spec {B : Nat} : ∀ {k : Key}, bdB.okk B k = true → okB B k
  | .own k, h => by show k < B; simpa [bdB.okk] using h
  | .inp _ _, _ => trivial
mutual
theorem bd_kin {B : Nat} : ∀ v : LV A, bdB B v = true → v.kin fun k _ => okB B k
  | .ptr _ _ _, h => okk_spec h
  | .slice _ _ _ _ _, h => okk_spec h
  | .vec _ _, h => okk_spec h
  | .agg us, h => bds_kin us h
  | .tup us, h => bds_kin us h
  | .iface _ v, h => bd_kin v h
  | .func _ us, h => bds_kin us h
  | .rows _ _ _, h => nomatch h
  | .any, _ => trivial
  | .undef, _ => trivial
  | .int _ _, _ => trivial
  | .bool _, _ => trivial
  | .str _, _ => trivial
  | .nilp, _ => trivial
  | .nils, _ => trivial
  | .nilfn, _ => trivial
  | .niliface, _ => trivial
  | .abs _, _ => trivial
theorem bds_kin {B : Nat} : ∀ l : List (LV A), bdB.bdBs B l = true → kinL (fun k _ => okB B k) l
  | [], _ => trivial
  | v :: l, h => by
    have h : (bdB B v && bdB.bdBs B l) = true := h
    rw [Bool.and_eq_true] at h
    exact ⟨bd_kin v h.1, bds_kin l h.2⟩
end
theorem bds_at {B : Nat} {l : List (LV A)} (h : bdB.bdBs B l = true) (i : Nat) (v : LV A) (hv : l[i]? = some v) : v.kin fun k _ => okB B k := kinL_get (bds_kin l h) hv
end
end Go.Proofs.YtcedljbapgmdmaaGreat.En

/- DERIVED. All bits of bytes, one after the other, to whatever loop. -/
set_option linter.all false
namespace Go.Proofs.YtcedljbapgmdmaaGreat.En
open Go Go.RowKit Go.Shelf
attribute [local go_sem] Oper.semAt_some

def upto {α : Type} (f : Nat → α) (k : Nat) : List α := (List.range k).map f
theorem upto_succ {α : Type} (f : Nat → α) (k : Nat) : upto f (k + 1) = upto f k ++ [f k] := by simp [upto, List.range_succ]
theorem upto_length {α : Type} (f : Nat → α) (k : Nat) : (upto f k).length = k := by simp [upto]

/-- The bit number k of bytes, the highest of the first byte being number 0. -/
def bitAt (f : Nat → Int) (k : Nat) : Bool := (bits .and .u8 (f (k / 8) / 2 ^ (7 - k % 8)) 1 == 1)
set_option maxRecDepth 100000 in
set_option maxHeartbeats 4000000 in
theorem bb_in (F : Fence) (n : Nat) (h7 : F.fn 122) (hro : F.round = none) (hn : 1 ≤ n) (l Bs bo n₀ b off len cap : Nat) (zs : Nat → Int) (hz : ∀ j, j < len → 0 ≤ zs j ∧ zs j < 256) (hreach : len * 8 ≤ 140737488351232) (hb : b < n₀) (J Jx : List Bool → World → Prop)
    (hY : ∀ pre x W, J pre W → pre.length < 8 * len → YieldAt F (n - 1) Tryz.prog l #[.bool x] W fun e W' =>
      (e = .returned (.bool true) ∧ J (pre ++ [x]) W' ∧ Below n₀ W W') ∨ (e = .returned (.bool false) ∧ Jx (pre ++ [x]) W'))
    (W : World) (hBs : W.cell? ⟨Bs, bo, none⟩ = some (.slice (some ⟨b, off, none⟩) len cap)) (hc : ∀ j, j < len → W.cell? ⟨b, off + j, none⟩ = some (.int .u8 (zs j))) (h0 : J [] W) :
    CallsIn F n Tryz.prog 122 #[.func (.yield l) #[] #[], .pointer (some ⟨Bs, bo, none⟩)] W fun e W' => (∃ v, e = .returned v) ∧
      ((∃ ys, ys = upto (bitAt zs) (8 * len) ∧ J ys W') ∨ (∃ pre, True ∧ Jx pre W')) := by
  refine callsIn_of_wp Tryz.func122 rfl h7 ?_ hro
  simp only [Tryz.ntmps122, List.size_toArray, List.length_cons, List.length_nil, Nat.reduceAdd, Nat.reduceSub, Array.replicate_succ, Array.replicate_zero, List.push_toArray, List.append_toArray, List.nil_append, List.cons_append]
  gi_wp2
  gi_loopw [8] (fun i wr => ∃ k : Nat, k ≤ len ∧ i = .int .i64 k ∧ J (upto (bitAt zs) (8 * k)) wr ∧ Below n₀ W wr) (fun i _ => len - (intOf i).toNat)
  case atStart => exact ⟨0, Nat.zero_le _, rfl, h0, Below.refl _ _⟩
  case round =>
    obtain ⟨k, hk, rfl, hJs, hnx⟩ := hrel
    by_cases hlt : k < len
    · have hcx := (hnx.cell (p := ⟨b, off + k, none⟩) hb).trans (hc k hlt)
      gi_wp2
      gi_loopw [5] (fun i wr => ∃ m : Nat, m ≤ 8 ∧ i = .int .i64 (7 - (m : Int)) ∧ J (upto (bitAt zs) (8 * k + m)) wr ∧ Below n₀ W wr) (fun i _ => (intOf i + 1).toNat)
      case atStart => exact ⟨0, by omega, by simp, by simpa using hJs, hnx⟩
      case round =>
        obtain ⟨m, hm, rfl, hJm, hnm⟩ := hrel
        by_cases hm8 : m < 8
        · have hxe : (bits .and .u8 (zs k / 2 ^ (7 - m)) 1 == 1) = bitAt zs (8 * k + m) := by
            unfold bitAt
            rw [show (8 * k + m) / 8 = k by omega, show (8 * k + m) % 8 = m by omega]
          obtain ⟨fn, tmps, assign, body, hy, hR⟩ := hY _ (bitAt zs (8 * k + m)) wr hJm (by rw [upto_length]; omega)
          gi_wp2
          refine hR.mono ?_
          rintro e W3 (⟨rfl, hJ3, hk3⟩ | ⟨rfl, hJx3⟩)
          · gi_wp2
            go_roundw
            case rel => exact ⟨m + 1, by omega, by congr 1; omega, by rw [← Nat.add_assoc, upto_succ]; exact hJ3, hnm.trans hk3⟩
            case measure => simp [intOf]; omega
          · gi_wp2
            refine bodyPost_ret (results_none rfl _ _ _) rfl ?_
            exact ⟨⟨_, rfl⟩, .inr ⟨_, trivial, by rw [← upto_succ] at hJx3; exact hJx3⟩⟩
        · obtain rfl : m = 8 := by omega
          gi_wp2
          go_roundw
          case rel => exact ⟨k + 1, by omega, by simp, by rw [show 8 * (k + 1) = 8 * k + 8 by omega]; exact hJm, hnm⟩
          case measure => simp [intOf]; omega
    · obtain rfl : k = len := by omega
      gi_wp2
      go_end0
      exact ⟨⟨_, rfl⟩, .inl ⟨_, rfl, hJs⟩⟩
set_option maxRecDepth 100000 in
set_option maxHeartbeats 1000000 in
theorem bb_nil (F : Fence) (n : Nat) (h7 : F.fn 122) (hro : F.round = none) (l Bs bo cap : Nat) (ad : Option Addr) (J : List Bool → World → Prop) (W : World) (hBs : W.cell? ⟨Bs, bo, none⟩ = some (.slice ad 0 cap)) (h0 : J [] W) :
    CallsIn F n Tryz.prog 122 #[.func (.yield l) #[] #[], .pointer (some ⟨Bs, bo, none⟩)] W fun e W' => (∃ v, e = .returned v) ∧ J [] W' := by
  refine callsIn_of_wp Tryz.func122 rfl h7 ?_ hro
  simp only [Tryz.ntmps122, List.size_toArray, List.length_cons, List.length_nil, Nat.reduceAdd, Nat.reduceSub, Array.replicate_succ, Array.replicate_zero, List.push_toArray, List.append_toArray, List.nil_append, List.cons_append]
  gi_wp2
  gi_loopw [8] (fun i wr => i = .int .i64 0 ∧ J [] wr) (fun _ _ => 0)
  case atStart => exact ⟨rfl, h0⟩
  case round =>
    obtain ⟨rfl, hJs⟩ := hrel
    gi_wp2
    go_end0
    exact ⟨⟨_, rfl⟩, hJs⟩
/-- A slice's bytes, below n₀. -/
def BytesAt (n₀ : Nat) (W : World) (sv : Value) (len : Nat) (zs : Nat → Int) : Prop :=
  (∃ ad cap, sv = .slice ad 0 cap ∧ len = 0) ∨ ∃ b off cap, sv = .slice (some ⟨b, off, none⟩) len cap ∧ b < n₀ ∧ ∀ j, j < len → W.cell? ⟨b, off + j, none⟩ = some (.int .u8 (zs j))
theorem BytesAt.below {n₀ : Nat} {X Y : World} (h : Below n₀ X Y) {sv : Value} {len : Nat} {zs : Nat → Int} : BytesAt n₀ X sv len zs → BytesAt n₀ Y sv len zs
  | .inl e => .inl e
  | .inr ⟨b, off, cap, e, hb, hc⟩ => .inr ⟨b, off, cap, e, hb, fun j hj => (h.cell (p := ⟨b, off + j, none⟩) hb).trans (hc j hj)⟩
/-- All bits of bytes, to whatever loop that leaves what lay below n₀. -/
theorem bb_stops (F : Fence) (n : Nat) (h7 : F.fn 122) (hro : F.round = none) (hn : 1 ≤ n) (Bs bo n₀ : Nat) (sv : Value) (len : Nat) (zs : Nat → Int) (hz : ∀ j, j < len → 0 ≤ zs j ∧ zs j < 256) (hreach : len * 8 ≤ 140737488351232) (w : World) (hBs : Bs < w.heap.size) (hn₀ : n₀ ≤ w.heap.size)
    (hc : w.cell? ⟨Bs, bo, none⟩ = some sv) (hI : BytesAt n₀ w sv len zs) :
    SeqStopsK F n Tryz.prog 122 #[.pointer (some ⟨Bs, bo, none⟩)] (fun x : Bool => #[Value.bool x]) (Below n₀) (fun ys => ys = upto (bitAt zs) (8 * len)) (fun _ => True) (8 * len) w := fun l J Jx W hW _ _ hY h0 => by
  have hc' := (hW.cell (p := ⟨Bs, bo, none⟩) hBs).trans hc
  rcases hI.below (hW.mono hn₀) with ⟨ad, cap, rfl, rfl⟩ | ⟨b, off, cap, rfl, hb, hcs⟩
  · exact (bb_nil F n h7 hro l Bs bo cap ad J W hc' h0).mono fun e W' ⟨he, hj⟩ => ⟨he, .inl ⟨_, rfl, hj⟩⟩
  · exact bb_in F n h7 hro hn l Bs bo n₀ b off len cap zs hz hreach hb J Jx hY W hc' hcs h0
end Go.Proofs.YtcedljbapgmdmaaGreat.En

/- DERIVED. So many times a point, as bytes say. -/
set_option linter.all false
namespace Go.Proofs.YtcedljbapgmdmaaGreat.En
open Go Go.RowKit

noncomputable abbrev SMul (us0 : List (LV Fe)) : Sig Fe := sigOf (P := Tryz.prog) [conDouble, conCAdd] [] [] (I := inOf [us0]) [] msF (advF noD)
theorem SMul_ok (us0 : List (LV Fe)) (h : plainL us0) : SigOk Tryz.prog (SMul us0) := sigOf_ok _ [] [] [] msF_ok _ (inOf_ok fun l hl => by rw [List.mem_singleton] at hl; subst hl; exact h)
abbrev zB : List (LV Fe) := [.int .u64 0, .int .u64 0, .int .u64 0, .int .u64 0, .int .u64 0, .int .u64 0, .int .u64 0, .int .u64 0, .int .u64 0, .int .u64 0, .int .u64 0, .int .u64 0, .int .u64 0, .int .u64 0, .int .u64 0, .int .u64 0, .int .u64 0, .int .u64 0]
abbrev pB (p : Pt) : List (LV Fe) := [.abs p.1, .abs p.2.1, .abs p.2.2]
abbrev mulM (a b c : Fe) (x : LV Fe) (k : List (LV Fe)) : Mem Fe := [some ⟨.rw, [.abs a, .abs b, .abs c]⟩, some ⟨.rw, zB⟩, some ⟨.rw, k⟩, some ⟨.rw, [x]⟩]
abbrev mulA (a b c : Fe) (x : LV Fe) : LS Fe := ⟨tm 17 [(1, x), (2, .ptr (.own 0) 0 []), (4, .ptr (.own 1) 0 [])], [some ⟨.rw, [.abs a, .abs b, .abs c]⟩, some ⟨.rw, zB⟩], []⟩
abbrev mulB (a b c : Fe) (x : LV Fe) : LS Fe := ⟨tm 17 [(1, x), (2, .ptr (.own 0) 0 []), (4, .ptr (.own 1) 0 []), (5, .ptr (.own 2) 0 [])], [some ⟨.rw, [.abs a, .abs b, .abs c]⟩, some ⟨.rw, zB⟩, some ⟨.rw, zB⟩], []⟩
abbrev mulTs : List (Nat × LV Fe) := [(2, .ptr (.own 0) 0 []), (4, .ptr (.own 1) 0 []), (5, .ptr (.own 2) 0 []), (8, .func 122 [.ptr (.own 3) 0 []])]
abbrev mulJ (a b c : Fe) (x : LV Fe) (t : Bool) (k : List (LV Fe)) : LS Fe := ⟨((tm 17 mulTs).set 9 (.bool t)).set 6 (.bool t), mulM a b c x k, []⟩
--@pre attribute [local irreducible] dblF paddF
def stepP (p o : Pt) (s : Bool) : Pt := bif s then paddF (dblF o) p else dblF o
--@gen mulV0 (us0 : List (LV Fe)) (a b c : Fe) (n : Nat) := runG Tryz.prog (SMul us0) 60 46 [0] (startS Tryz.f46 [bF [a, b, c], (.vec (.inp 0 0) n)] []) .normal 0 [some (.own 0), some (.own 1)] 17 [(1, (.vec (.inp 0 0) n)), (2, .ptr (.own 0) 0 []), (4, .ptr (.own 1) 0 [])] (mulA a b c (.vec (.inp 0 0) n)).mem
--@[
set_option maxRecDepth 100000 in
def mulV0_G (us0 : List (LV Fe)) (a b c : Fe) (n : Nat) : Prop := (0 = 0 ∧ n = n) ∧ (a = a ∧ b = b ∧ c = c) ∧ (0 : Int) = (0 : Int) ∧ (0 : Int) = (0 : Int) ∧ (0 : Int) = (0 : Int) ∧ (0 : Int) = (0 : Int) ∧ (0 : Int) = (0 : Int) ∧ (0 : Int) = (0 : Int) ∧ (0 : Int) = (0 : Int) ∧ (0 : Int) = (0 : Int) ∧ (0 : Int) = (0 : Int) ∧ (0 : Int) = (0 : Int) ∧ (0 : Int) = (0 : Int) ∧ (0 : Int) = (0 : Int) ∧ (0 : Int) = (0 : Int) ∧ (0 : Int) = (0 : Int) ∧ (0 : Int) = (0 : Int) ∧ (0 : Int) = (0 : Int) ∧ (0 : Int) = (0 : Int) ∧ (0 : Int) = (0 : Int)
set_option maxRecDepth 100000 in
theorem mulV0 (us0 : List (LV Fe)) (a b c : Fe) (n : Nat) : runG Tryz.prog (SMul us0) 60 46 [0] (startS Tryz.f46 [bF [a, b, c], (.vec (.inp 0 0) n)] []) .normal 0 [some (.own 0), some (.own 1)] 17 [(1, (.vec (.inp 0 0) n)), (2, .ptr (.own 0) 0 []), (4, .ptr (.own 1) 0 [])] (mulA a b c (.vec (.inp 0 0) n)).mem = some (some ((mulV0_G us0 a b c n))) := by kernel_rfl
--@]
--@gen mulV1 (us0 : List (LV Fe)) (a b c : Fe) (n : Nat) := runG Tryz.prog (SMul us0) 60 46 [0, 1] (mulA a b c (.vec (.inp 0 0) n)) .normal 2 [some (.own 0), some (.own 1), some (.own 2)] 17 [(1, (.vec (.inp 0 0) n)), (2, .ptr (.own 0) 0 []), (4, .ptr (.own 1) 0 []), (5, .ptr (.own 2) 0 [])] (mulB a b c (.vec (.inp 0 0) n)).mem
--@[
set_option maxRecDepth 100000 in
def mulV1_G (us0 : List (LV Fe)) (a b c : Fe) (n : Nat) : Prop := (0 = 0 ∧ n = n) ∧ (a = a ∧ b = b ∧ c = c) ∧ ((0 : Int) = (0 : Int) ∧ (0 : Int) = (0 : Int) ∧ (0 : Int) = (0 : Int) ∧ (0 : Int) = (0 : Int) ∧ (0 : Int) = (0 : Int) ∧ (0 : Int) = (0 : Int) ∧ (0 : Int) = (0 : Int) ∧ (0 : Int) = (0 : Int) ∧ (0 : Int) = (0 : Int) ∧ (0 : Int) = (0 : Int) ∧ (0 : Int) = (0 : Int) ∧ (0 : Int) = (0 : Int) ∧ (0 : Int) = (0 : Int) ∧ (0 : Int) = (0 : Int) ∧ (0 : Int) = (0 : Int) ∧ (0 : Int) = (0 : Int) ∧ (0 : Int) = (0 : Int) ∧ (0 : Int) = (0 : Int)) ∧ (0 : Int) = (0 : Int) ∧ (0 : Int) = (0 : Int) ∧ (0 : Int) = (0 : Int) ∧ (0 : Int) = (0 : Int) ∧ (0 : Int) = (0 : Int) ∧ (0 : Int) = (0 : Int) ∧ (0 : Int) = (0 : Int) ∧ (0 : Int) = (0 : Int) ∧ (0 : Int) = (0 : Int) ∧ (0 : Int) = (0 : Int) ∧ (0 : Int) = (0 : Int) ∧ (0 : Int) = (0 : Int) ∧ (0 : Int) = (0 : Int) ∧ (0 : Int) = (0 : Int) ∧ (0 : Int) = (0 : Int) ∧ (0 : Int) = (0 : Int) ∧ (0 : Int) = (0 : Int) ∧ (0 : Int) = (0 : Int)
set_option maxRecDepth 100000 in
theorem mulV1 (us0 : List (LV Fe)) (a b c : Fe) (n : Nat) : runG Tryz.prog (SMul us0) 60 46 [0, 1] (mulA a b c (.vec (.inp 0 0) n)) .normal 2 [some (.own 0), some (.own 1), some (.own 2)] 17 [(1, (.vec (.inp 0 0) n)), (2, .ptr (.own 0) 0 []), (4, .ptr (.own 1) 0 []), (5, .ptr (.own 2) 0 [])] (mulB a b c (.vec (.inp 0 0) n)).mem = some (some ((mulV1_G us0 a b c n))) := by kernel_rfl
--@]
--@gen mulV2 (us0 : List (LV Fe)) (a b c : Fe) (n : Nat) := runG Tryz.prog (SMul us0) 60 46 [0, 0, 1, 1] (mulB a b c (.vec (.inp 0 0) n)) .normal 3 [some (.own 0), some (.own 1), some (.own 2), some (.own 3)] 17 mulTs (mulM a b c (.vec (.inp 0 0) n) zB)
--@[
set_option maxRecDepth 100000 in
def mulV2_G (us0 : List (LV Fe)) (a b c : Fe) (n : Nat) : Prop := (a = a ∧ b = b ∧ c = c) ∧ ((0 : Int) = (0 : Int) ∧ (0 : Int) = (0 : Int) ∧ (0 : Int) = (0 : Int) ∧ (0 : Int) = (0 : Int) ∧ (0 : Int) = (0 : Int) ∧ (0 : Int) = (0 : Int) ∧ (0 : Int) = (0 : Int) ∧ (0 : Int) = (0 : Int) ∧ (0 : Int) = (0 : Int) ∧ (0 : Int) = (0 : Int) ∧ (0 : Int) = (0 : Int) ∧ (0 : Int) = (0 : Int) ∧ (0 : Int) = (0 : Int) ∧ (0 : Int) = (0 : Int) ∧ (0 : Int) = (0 : Int) ∧ (0 : Int) = (0 : Int) ∧ (0 : Int) = (0 : Int) ∧ (0 : Int) = (0 : Int)) ∧ ((0 : Int) = (0 : Int) ∧ (0 : Int) = (0 : Int) ∧ (0 : Int) = (0 : Int) ∧ (0 : Int) = (0 : Int) ∧ (0 : Int) = (0 : Int) ∧ (0 : Int) = (0 : Int) ∧ (0 : Int) = (0 : Int) ∧ (0 : Int) = (0 : Int) ∧ (0 : Int) = (0 : Int) ∧ (0 : Int) = (0 : Int) ∧ (0 : Int) = (0 : Int) ∧ (0 : Int) = (0 : Int) ∧ (0 : Int) = (0 : Int) ∧ (0 : Int) = (0 : Int) ∧ (0 : Int) = (0 : Int) ∧ (0 : Int) = (0 : Int) ∧ (0 : Int) = (0 : Int) ∧ (0 : Int) = (0 : Int)) ∧ 0 = 0 ∧ n = n
set_option maxRecDepth 100000 in
theorem mulV2 (us0 : List (LV Fe)) (a b c : Fe) (n : Nat) : runG Tryz.prog (SMul us0) 60 46 [0, 0, 1, 1] (mulB a b c (.vec (.inp 0 0) n)) .normal 3 [some (.own 0), some (.own 1), some (.own 2), some (.own 3)] 17 mulTs (mulM a b c (.vec (.inp 0 0) n) zB) = some (some ((mulV2_G us0 a b c n))) := by kernel_rfl
--@]
--@gen mulV3t (us0 : List (LV Fe)) (a b c : Fe) (n : Nat) := runG Tryz.prog (SMul us0) 60 46 [1, 0, 1, 0, 1, 1] (mulJ a b c (.vec (.inp 0 0) n) true zB) .normal 4 [some (.own 0), some (.own 1), some (.own 2), some (.own 3)] 17 [] (mulM a b c (.vec (.inp 0 0) n) (pB (stepP (a, b, c) zPt true)))
--@[
set_option maxRecDepth 100000 in
def mulV3t_G (us0 : List (LV Fe)) (a b c : Fe) (n : Nat) : Prop := (true = true ∧ true = true) ∧ (a = a ∧ b = b ∧ c = c) ∧ ((0 : Int) = (0 : Int) ∧ (0 : Int) = (0 : Int) ∧ (0 : Int) = (0 : Int) ∧ (0 : Int) = (0 : Int) ∧ (0 : Int) = (0 : Int) ∧ (0 : Int) = (0 : Int) ∧ (0 : Int) = (0 : Int) ∧ (0 : Int) = (0 : Int) ∧ (0 : Int) = (0 : Int) ∧ (0 : Int) = (0 : Int) ∧ (0 : Int) = (0 : Int) ∧ (0 : Int) = (0 : Int) ∧ (0 : Int) = (0 : Int) ∧ (0 : Int) = (0 : Int) ∧ (0 : Int) = (0 : Int) ∧ (0 : Int) = (0 : Int) ∧ (0 : Int) = (0 : Int) ∧ (0 : Int) = (0 : Int)) ∧ (a = a ∧ b = b ∧ c = c) ∧ 0 = 0 ∧ n = n
set_option maxRecDepth 100000 in
theorem mulV3t (us0 : List (LV Fe)) (a b c : Fe) (n : Nat) : runG Tryz.prog (SMul us0) 60 46 [1, 0, 1, 0, 1, 1] (mulJ a b c (.vec (.inp 0 0) n) true zB) .normal 4 [some (.own 0), some (.own 1), some (.own 2), some (.own 3)] 17 [] (mulM a b c (.vec (.inp 0 0) n) (pB (stepP (a, b, c) zPt true))) = some (some ((mulV3t_G us0 a b c n))) := by kernel_rfl
--@]
--@gen mulV3f (us0 : List (LV Fe)) (a b c : Fe) (n : Nat) := runG Tryz.prog (SMul us0) 60 46 [1, 0, 1, 0, 1, 1] (mulJ a b c (.vec (.inp 0 0) n) false zB) .normal 4 [some (.own 0), some (.own 1), some (.own 2), some (.own 3)] 17 [] (mulM a b c (.vec (.inp 0 0) n) (pB (stepP (a, b, c) zPt false)))
--@[
set_option maxRecDepth 100000 in
def mulV3f_G (us0 : List (LV Fe)) (a b c : Fe) (n : Nat) : Prop := true = true ∧ (a = a ∧ b = b ∧ c = c) ∧ ((0 : Int) = (0 : Int) ∧ (0 : Int) = (0 : Int) ∧ (0 : Int) = (0 : Int) ∧ (0 : Int) = (0 : Int) ∧ (0 : Int) = (0 : Int) ∧ (0 : Int) = (0 : Int) ∧ (0 : Int) = (0 : Int) ∧ (0 : Int) = (0 : Int) ∧ (0 : Int) = (0 : Int) ∧ (0 : Int) = (0 : Int) ∧ (0 : Int) = (0 : Int) ∧ (0 : Int) = (0 : Int) ∧ (0 : Int) = (0 : Int) ∧ (0 : Int) = (0 : Int) ∧ (0 : Int) = (0 : Int) ∧ (0 : Int) = (0 : Int) ∧ (0 : Int) = (0 : Int) ∧ (0 : Int) = (0 : Int)) ∧ (Prod.fst (stepP (a, b, c) zPt false) = Prod.fst (stepP (a, b, c) zPt false) ∧ Prod.fst (Prod.snd (stepP (a, b, c) zPt false)) = Prod.fst (Prod.snd (stepP (a, b, c) zPt false)) ∧ Prod.snd (Prod.snd (stepP (a, b, c) zPt false)) = Prod.snd (Prod.snd (stepP (a, b, c) zPt false))) ∧ 0 = 0 ∧ n = n
set_option maxRecDepth 100000 in
theorem mulV3f (us0 : List (LV Fe)) (a b c : Fe) (n : Nat) : runG Tryz.prog (SMul us0) 60 46 [1, 0, 1, 0, 1, 1] (mulJ a b c (.vec (.inp 0 0) n) false zB) .normal 4 [some (.own 0), some (.own 1), some (.own 2), some (.own 3)] 17 [] (mulM a b c (.vec (.inp 0 0) n) (pB (stepP (a, b, c) zPt false))) = some (some ((mulV3f_G us0 a b c n))) := by kernel_rfl
--@]
--@gen mulV4t (us0 : List (LV Fe)) (a b c : Fe) (n : Nat) (p : Pt) := runG Tryz.prog (SMul us0) 60 46 [1, 0, 1, 0, 1, 1] (mulJ a b c (.vec (.inp 0 0) n) true (pB p)) .normal 4 [some (.own 0), some (.own 1), some (.own 2), some (.own 3)] 17 [] (mulM a b c (.vec (.inp 0 0) n) (pB (stepP (a, b, c) p true)))
--@[
set_option maxRecDepth 100000 in
def mulV4t_G (us0 : List (LV Fe)) (a b c : Fe) (n : Nat) (p : Pt) : Prop := (true = true ∧ true = true) ∧ (a = a ∧ b = b ∧ c = c) ∧ ((0 : Int) = (0 : Int) ∧ (0 : Int) = (0 : Int) ∧ (0 : Int) = (0 : Int) ∧ (0 : Int) = (0 : Int) ∧ (0 : Int) = (0 : Int) ∧ (0 : Int) = (0 : Int) ∧ (0 : Int) = (0 : Int) ∧ (0 : Int) = (0 : Int) ∧ (0 : Int) = (0 : Int) ∧ (0 : Int) = (0 : Int) ∧ (0 : Int) = (0 : Int) ∧ (0 : Int) = (0 : Int) ∧ (0 : Int) = (0 : Int) ∧ (0 : Int) = (0 : Int) ∧ (0 : Int) = (0 : Int) ∧ (0 : Int) = (0 : Int) ∧ (0 : Int) = (0 : Int) ∧ (0 : Int) = (0 : Int)) ∧ (Prod.fst (stepP (a, b, c) p true) = Prod.fst (stepP (a, b, c) p true) ∧ Prod.fst (Prod.snd (stepP (a, b, c) p true)) = Prod.fst (Prod.snd (stepP (a, b, c) p true)) ∧ Prod.snd (Prod.snd (stepP (a, b, c) p true)) = Prod.snd (Prod.snd (stepP (a, b, c) p true))) ∧ 0 = 0 ∧ n = n
set_option maxRecDepth 100000 in
theorem mulV4t (us0 : List (LV Fe)) (a b c : Fe) (n : Nat) (p : Pt) : runG Tryz.prog (SMul us0) 60 46 [1, 0, 1, 0, 1, 1] (mulJ a b c (.vec (.inp 0 0) n) true (pB p)) .normal 4 [some (.own 0), some (.own 1), some (.own 2), some (.own 3)] 17 [] (mulM a b c (.vec (.inp 0 0) n) (pB (stepP (a, b, c) p true))) = some (some ((mulV4t_G us0 a b c n p))) := by kernel_rfl
--@]
--@gen mulV4f (us0 : List (LV Fe)) (a b c : Fe) (n : Nat) (p : Pt) := runG Tryz.prog (SMul us0) 60 46 [1, 0, 1, 0, 1, 1] (mulJ a b c (.vec (.inp 0 0) n) false (pB p)) .normal 4 [some (.own 0), some (.own 1), some (.own 2), some (.own 3)] 17 [] (mulM a b c (.vec (.inp 0 0) n) (pB (stepP (a, b, c) p false)))
--@[
set_option maxRecDepth 100000 in
def mulV4f_G (us0 : List (LV Fe)) (a b c : Fe) (n : Nat) (p : Pt) : Prop := true = true ∧ (a = a ∧ b = b ∧ c = c) ∧ ((0 : Int) = (0 : Int) ∧ (0 : Int) = (0 : Int) ∧ (0 : Int) = (0 : Int) ∧ (0 : Int) = (0 : Int) ∧ (0 : Int) = (0 : Int) ∧ (0 : Int) = (0 : Int) ∧ (0 : Int) = (0 : Int) ∧ (0 : Int) = (0 : Int) ∧ (0 : Int) = (0 : Int) ∧ (0 : Int) = (0 : Int) ∧ (0 : Int) = (0 : Int) ∧ (0 : Int) = (0 : Int) ∧ (0 : Int) = (0 : Int) ∧ (0 : Int) = (0 : Int) ∧ (0 : Int) = (0 : Int) ∧ (0 : Int) = (0 : Int) ∧ (0 : Int) = (0 : Int) ∧ (0 : Int) = (0 : Int)) ∧ (Prod.fst (stepP (a, b, c) p false) = Prod.fst (stepP (a, b, c) p false) ∧ Prod.fst (Prod.snd (stepP (a, b, c) p false)) = Prod.fst (Prod.snd (stepP (a, b, c) p false)) ∧ Prod.snd (Prod.snd (stepP (a, b, c) p false)) = Prod.snd (Prod.snd (stepP (a, b, c) p false))) ∧ 0 = 0 ∧ n = n
set_option maxRecDepth 100000 in
theorem mulV4f (us0 : List (LV Fe)) (a b c : Fe) (n : Nat) (p : Pt) : runG Tryz.prog (SMul us0) 60 46 [1, 0, 1, 0, 1, 1] (mulJ a b c (.vec (.inp 0 0) n) false (pB p)) .normal 4 [some (.own 0), some (.own 1), some (.own 2), some (.own 3)] 17 [] (mulM a b c (.vec (.inp 0 0) n) (pB (stepP (a, b, c) p false))) = some (some ((mulV4f_G us0 a b c n p))) := by kernel_rfl
--@]
--@gen mulV5 (us0 : List (LV Fe)) (a b c : Fe) (n : Nat) := runG Tryz.prog (SMul us0) 60 46 [1, 1, 1] ⟨tm 17 mulTs, mulM a b c (.vec (.inp 0 0) n) zB, []⟩ .ret 2 [some (.own 0), some (.own 1)] 17 [(4, .ptr (.own 1) 0 [])] [some ⟨.rw, [.abs a, .abs b, .abs c]⟩, some ⟨.rw, zB⟩]
--@[
set_option maxRecDepth 100000 in
def mulV5_G (us0 : List (LV Fe)) (a b c : Fe) (n : Nat) : Prop := true = true ∧ (a = a ∧ b = b ∧ c = c) ∧ (0 : Int) = (0 : Int) ∧ (0 : Int) = (0 : Int) ∧ (0 : Int) = (0 : Int) ∧ (0 : Int) = (0 : Int) ∧ (0 : Int) = (0 : Int) ∧ (0 : Int) = (0 : Int) ∧ (0 : Int) = (0 : Int) ∧ (0 : Int) = (0 : Int) ∧ (0 : Int) = (0 : Int) ∧ (0 : Int) = (0 : Int) ∧ (0 : Int) = (0 : Int) ∧ (0 : Int) = (0 : Int) ∧ (0 : Int) = (0 : Int) ∧ (0 : Int) = (0 : Int) ∧ (0 : Int) = (0 : Int) ∧ (0 : Int) = (0 : Int) ∧ (0 : Int) = (0 : Int) ∧ (0 : Int) = (0 : Int)
set_option maxRecDepth 100000 in
theorem mulV5 (us0 : List (LV Fe)) (a b c : Fe) (n : Nat) : runG Tryz.prog (SMul us0) 60 46 [1, 1, 1] ⟨tm 17 mulTs, mulM a b c (.vec (.inp 0 0) n) zB, []⟩ .ret 2 [some (.own 0), some (.own 1)] 17 [(4, .ptr (.own 1) 0 [])] [some ⟨.rw, [.abs a, .abs b, .abs c]⟩, some ⟨.rw, zB⟩] = some (some ((mulV5_G us0 a b c n))) := by kernel_rfl
--@]
--@gen mulV6 (us0 : List (LV Fe)) (a b c : Fe) (n : Nat) (p : Pt) := runG Tryz.prog (SMul us0) 60 46 [1, 1, 1] ⟨tm 17 mulTs, mulM a b c (.vec (.inp 0 0) n) (pB p), []⟩ .ret 2 [some (.own 0), some (.own 1)] 17 [(4, .ptr (.own 1) 0 [])] [some ⟨.rw, [.abs a, .abs b, .abs c]⟩, some ⟨.rw, (pB p)⟩]
--@[
set_option maxRecDepth 100000 in
def mulV6_G (us0 : List (LV Fe)) (a b c : Fe) (n : Nat) (p : Pt) : Prop := true = true ∧ (a = a ∧ b = b ∧ c = c) ∧ Prod.fst p = Prod.fst p ∧ Prod.fst (Prod.snd p) = Prod.fst (Prod.snd p) ∧ Prod.snd (Prod.snd p) = Prod.snd (Prod.snd p)
set_option maxRecDepth 100000 in
theorem mulV6 (us0 : List (LV Fe)) (a b c : Fe) (n : Nat) (p : Pt) : runG Tryz.prog (SMul us0) 60 46 [1, 1, 1] ⟨tm 17 mulTs, mulM a b c (.vec (.inp 0 0) n) (pB p), []⟩ .ret 2 [some (.own 0), some (.own 1)] 17 [(4, .ptr (.own 1) 0 [])] [some ⟨.rw, [.abs a, .abs b, .abs c]⟩, some ⟨.rw, (pB p)⟩] = some (some ((mulV6_G us0 a b c n p))) := by kernel_rfl
--@]
--@gen mulS0 (us0 : List (LV Fe)) (a b c : Fe) (len cap : Nat) := runG Tryz.prog (SMul us0) 60 46 [0] (startS Tryz.f46 [bF [a, b, c], (.slice (.inp 0 0) 0 [] len cap)] []) .normal 0 [some (.own 0), some (.own 1)] 17 [(1, (.slice (.inp 0 0) 0 [] len cap)), (2, .ptr (.own 0) 0 []), (4, .ptr (.own 1) 0 [])] (mulA a b c (.slice (.inp 0 0) 0 [] len cap)).mem
--@[
set_option maxRecDepth 100000 in
def mulS0_G (us0 : List (LV Fe)) (a b c : Fe) (len cap : Nat) : Prop := (0 = 0 ∧ ([] : List Stp) = [] ∧ len = len ∧ cap = cap) ∧ (a = a ∧ b = b ∧ c = c) ∧ (0 : Int) = (0 : Int) ∧ (0 : Int) = (0 : Int) ∧ (0 : Int) = (0 : Int) ∧ (0 : Int) = (0 : Int) ∧ (0 : Int) = (0 : Int) ∧ (0 : Int) = (0 : Int) ∧ (0 : Int) = (0 : Int) ∧ (0 : Int) = (0 : Int) ∧ (0 : Int) = (0 : Int) ∧ (0 : Int) = (0 : Int) ∧ (0 : Int) = (0 : Int) ∧ (0 : Int) = (0 : Int) ∧ (0 : Int) = (0 : Int) ∧ (0 : Int) = (0 : Int) ∧ (0 : Int) = (0 : Int) ∧ (0 : Int) = (0 : Int) ∧ (0 : Int) = (0 : Int) ∧ (0 : Int) = (0 : Int)
set_option maxRecDepth 100000 in
theorem mulS0 (us0 : List (LV Fe)) (a b c : Fe) (len cap : Nat) : runG Tryz.prog (SMul us0) 60 46 [0] (startS Tryz.f46 [bF [a, b, c], (.slice (.inp 0 0) 0 [] len cap)] []) .normal 0 [some (.own 0), some (.own 1)] 17 [(1, (.slice (.inp 0 0) 0 [] len cap)), (2, .ptr (.own 0) 0 []), (4, .ptr (.own 1) 0 [])] (mulA a b c (.slice (.inp 0 0) 0 [] len cap)).mem = some (some ((mulS0_G us0 a b c len cap))) := by kernel_rfl
--@]
--@gen mulS1 (us0 : List (LV Fe)) (a b c : Fe) (len cap : Nat) := runG Tryz.prog (SMul us0) 60 46 [0, 1] (mulA a b c (.slice (.inp 0 0) 0 [] len cap)) .normal 2 [some (.own 0), some (.own 1), some (.own 2)] 17 [(1, (.slice (.inp 0 0) 0 [] len cap)), (2, .ptr (.own 0) 0 []), (4, .ptr (.own 1) 0 []), (5, .ptr (.own 2) 0 [])] (mulB a b c (.slice (.inp 0 0) 0 [] len cap)).mem
--@[
set_option maxRecDepth 100000 in
def mulS1_G (us0 : List (LV Fe)) (a b c : Fe) (len cap : Nat) : Prop := (0 = 0 ∧ ([] : List Stp) = [] ∧ len = len ∧ cap = cap) ∧ (a = a ∧ b = b ∧ c = c) ∧ ((0 : Int) = (0 : Int) ∧ (0 : Int) = (0 : Int) ∧ (0 : Int) = (0 : Int) ∧ (0 : Int) = (0 : Int) ∧ (0 : Int) = (0 : Int) ∧ (0 : Int) = (0 : Int) ∧ (0 : Int) = (0 : Int) ∧ (0 : Int) = (0 : Int) ∧ (0 : Int) = (0 : Int) ∧ (0 : Int) = (0 : Int) ∧ (0 : Int) = (0 : Int) ∧ (0 : Int) = (0 : Int) ∧ (0 : Int) = (0 : Int) ∧ (0 : Int) = (0 : Int) ∧ (0 : Int) = (0 : Int) ∧ (0 : Int) = (0 : Int) ∧ (0 : Int) = (0 : Int) ∧ (0 : Int) = (0 : Int)) ∧ (0 : Int) = (0 : Int) ∧ (0 : Int) = (0 : Int) ∧ (0 : Int) = (0 : Int) ∧ (0 : Int) = (0 : Int) ∧ (0 : Int) = (0 : Int) ∧ (0 : Int) = (0 : Int) ∧ (0 : Int) = (0 : Int) ∧ (0 : Int) = (0 : Int) ∧ (0 : Int) = (0 : Int) ∧ (0 : Int) = (0 : Int) ∧ (0 : Int) = (0 : Int) ∧ (0 : Int) = (0 : Int) ∧ (0 : Int) = (0 : Int) ∧ (0 : Int) = (0 : Int) ∧ (0 : Int) = (0 : Int) ∧ (0 : Int) = (0 : Int) ∧ (0 : Int) = (0 : Int) ∧ (0 : Int) = (0 : Int)
set_option maxRecDepth 100000 in
theorem mulS1 (us0 : List (LV Fe)) (a b c : Fe) (len cap : Nat) : runG Tryz.prog (SMul us0) 60 46 [0, 1] (mulA a b c (.slice (.inp 0 0) 0 [] len cap)) .normal 2 [some (.own 0), some (.own 1), some (.own 2)] 17 [(1, (.slice (.inp 0 0) 0 [] len cap)), (2, .ptr (.own 0) 0 []), (4, .ptr (.own 1) 0 []), (5, .ptr (.own 2) 0 [])] (mulB a b c (.slice (.inp 0 0) 0 [] len cap)).mem = some (some ((mulS1_G us0 a b c len cap))) := by kernel_rfl
--@]
--@gen mulS2 (us0 : List (LV Fe)) (a b c : Fe) (len cap : Nat) := runG Tryz.prog (SMul us0) 60 46 [0, 0, 1, 1] (mulB a b c (.slice (.inp 0 0) 0 [] len cap)) .normal 3 [some (.own 0), some (.own 1), some (.own 2), some (.own 3)] 17 mulTs (mulM a b c (.slice (.inp 0 0) 0 [] len cap) zB)
--@[
set_option maxRecDepth 100000 in
def mulS2_G (us0 : List (LV Fe)) (a b c : Fe) (len cap : Nat) : Prop := (a = a ∧ b = b ∧ c = c) ∧ ((0 : Int) = (0 : Int) ∧ (0 : Int) = (0 : Int) ∧ (0 : Int) = (0 : Int) ∧ (0 : Int) = (0 : Int) ∧ (0 : Int) = (0 : Int) ∧ (0 : Int) = (0 : Int) ∧ (0 : Int) = (0 : Int) ∧ (0 : Int) = (0 : Int) ∧ (0 : Int) = (0 : Int) ∧ (0 : Int) = (0 : Int) ∧ (0 : Int) = (0 : Int) ∧ (0 : Int) = (0 : Int) ∧ (0 : Int) = (0 : Int) ∧ (0 : Int) = (0 : Int) ∧ (0 : Int) = (0 : Int) ∧ (0 : Int) = (0 : Int) ∧ (0 : Int) = (0 : Int) ∧ (0 : Int) = (0 : Int)) ∧ ((0 : Int) = (0 : Int) ∧ (0 : Int) = (0 : Int) ∧ (0 : Int) = (0 : Int) ∧ (0 : Int) = (0 : Int) ∧ (0 : Int) = (0 : Int) ∧ (0 : Int) = (0 : Int) ∧ (0 : Int) = (0 : Int) ∧ (0 : Int) = (0 : Int) ∧ (0 : Int) = (0 : Int) ∧ (0 : Int) = (0 : Int) ∧ (0 : Int) = (0 : Int) ∧ (0 : Int) = (0 : Int) ∧ (0 : Int) = (0 : Int) ∧ (0 : Int) = (0 : Int) ∧ (0 : Int) = (0 : Int) ∧ (0 : Int) = (0 : Int) ∧ (0 : Int) = (0 : Int) ∧ (0 : Int) = (0 : Int)) ∧ 0 = 0 ∧ ([] : List Stp) = [] ∧ len = len ∧ cap = cap
set_option maxRecDepth 100000 in
theorem mulS2 (us0 : List (LV Fe)) (a b c : Fe) (len cap : Nat) : runG Tryz.prog (SMul us0) 60 46 [0, 0, 1, 1] (mulB a b c (.slice (.inp 0 0) 0 [] len cap)) .normal 3 [some (.own 0), some (.own 1), some (.own 2), some (.own 3)] 17 mulTs (mulM a b c (.slice (.inp 0 0) 0 [] len cap) zB) = some (some ((mulS2_G us0 a b c len cap))) := by kernel_rfl
--@]
--@gen mulS3t (us0 : List (LV Fe)) (a b c : Fe) (len cap : Nat) := runG Tryz.prog (SMul us0) 60 46 [1, 0, 1, 0, 1, 1] (mulJ a b c (.slice (.inp 0 0) 0 [] len cap) true zB) .normal 4 [some (.own 0), some (.own 1), some (.own 2), some (.own 3)] 17 [] (mulM a b c (.slice (.inp 0 0) 0 [] len cap) (pB (stepP (a, b, c) zPt true)))
--@[
set_option maxRecDepth 100000 in
def mulS3t_G (us0 : List (LV Fe)) (a b c : Fe) (len cap : Nat) : Prop := (true = true ∧ true = true) ∧ (a = a ∧ b = b ∧ c = c) ∧ ((0 : Int) = (0 : Int) ∧ (0 : Int) = (0 : Int) ∧ (0 : Int) = (0 : Int) ∧ (0 : Int) = (0 : Int) ∧ (0 : Int) = (0 : Int) ∧ (0 : Int) = (0 : Int) ∧ (0 : Int) = (0 : Int) ∧ (0 : Int) = (0 : Int) ∧ (0 : Int) = (0 : Int) ∧ (0 : Int) = (0 : Int) ∧ (0 : Int) = (0 : Int) ∧ (0 : Int) = (0 : Int) ∧ (0 : Int) = (0 : Int) ∧ (0 : Int) = (0 : Int) ∧ (0 : Int) = (0 : Int) ∧ (0 : Int) = (0 : Int) ∧ (0 : Int) = (0 : Int) ∧ (0 : Int) = (0 : Int)) ∧ (a = a ∧ b = b ∧ c = c) ∧ 0 = 0 ∧ ([] : List Stp) = [] ∧ len = len ∧ cap = cap
set_option maxRecDepth 100000 in
theorem mulS3t (us0 : List (LV Fe)) (a b c : Fe) (len cap : Nat) : runG Tryz.prog (SMul us0) 60 46 [1, 0, 1, 0, 1, 1] (mulJ a b c (.slice (.inp 0 0) 0 [] len cap) true zB) .normal 4 [some (.own 0), some (.own 1), some (.own 2), some (.own 3)] 17 [] (mulM a b c (.slice (.inp 0 0) 0 [] len cap) (pB (stepP (a, b, c) zPt true))) = some (some ((mulS3t_G us0 a b c len cap))) := by kernel_rfl
--@]
--@gen mulS3f (us0 : List (LV Fe)) (a b c : Fe) (len cap : Nat) := runG Tryz.prog (SMul us0) 60 46 [1, 0, 1, 0, 1, 1] (mulJ a b c (.slice (.inp 0 0) 0 [] len cap) false zB) .normal 4 [some (.own 0), some (.own 1), some (.own 2), some (.own 3)] 17 [] (mulM a b c (.slice (.inp 0 0) 0 [] len cap) (pB (stepP (a, b, c) zPt false)))
--@[
set_option maxRecDepth 100000 in
def mulS3f_G (us0 : List (LV Fe)) (a b c : Fe) (len cap : Nat) : Prop := true = true ∧ (a = a ∧ b = b ∧ c = c) ∧ ((0 : Int) = (0 : Int) ∧ (0 : Int) = (0 : Int) ∧ (0 : Int) = (0 : Int) ∧ (0 : Int) = (0 : Int) ∧ (0 : Int) = (0 : Int) ∧ (0 : Int) = (0 : Int) ∧ (0 : Int) = (0 : Int) ∧ (0 : Int) = (0 : Int) ∧ (0 : Int) = (0 : Int) ∧ (0 : Int) = (0 : Int) ∧ (0 : Int) = (0 : Int) ∧ (0 : Int) = (0 : Int) ∧ (0 : Int) = (0 : Int) ∧ (0 : Int) = (0 : Int) ∧ (0 : Int) = (0 : Int) ∧ (0 : Int) = (0 : Int) ∧ (0 : Int) = (0 : Int) ∧ (0 : Int) = (0 : Int)) ∧ (Prod.fst (stepP (a, b, c) zPt false) = Prod.fst (stepP (a, b, c) zPt false) ∧ Prod.fst (Prod.snd (stepP (a, b, c) zPt false)) = Prod.fst (Prod.snd (stepP (a, b, c) zPt false)) ∧ Prod.snd (Prod.snd (stepP (a, b, c) zPt false)) = Prod.snd (Prod.snd (stepP (a, b, c) zPt false))) ∧ 0 = 0 ∧ ([] : List Stp) = [] ∧ len = len ∧ cap = cap
set_option maxRecDepth 100000 in
theorem mulS3f (us0 : List (LV Fe)) (a b c : Fe) (len cap : Nat) : runG Tryz.prog (SMul us0) 60 46 [1, 0, 1, 0, 1, 1] (mulJ a b c (.slice (.inp 0 0) 0 [] len cap) false zB) .normal 4 [some (.own 0), some (.own 1), some (.own 2), some (.own 3)] 17 [] (mulM a b c (.slice (.inp 0 0) 0 [] len cap) (pB (stepP (a, b, c) zPt false))) = some (some ((mulS3f_G us0 a b c len cap))) := by kernel_rfl
--@]
--@gen mulS4t (us0 : List (LV Fe)) (a b c : Fe) (len cap : Nat) (p : Pt) := runG Tryz.prog (SMul us0) 60 46 [1, 0, 1, 0, 1, 1] (mulJ a b c (.slice (.inp 0 0) 0 [] len cap) true (pB p)) .normal 4 [some (.own 0), some (.own 1), some (.own 2), some (.own 3)] 17 [] (mulM a b c (.slice (.inp 0 0) 0 [] len cap) (pB (stepP (a, b, c) p true)))
--@[
set_option maxRecDepth 100000 in
def mulS4t_G (us0 : List (LV Fe)) (a b c : Fe) (len cap : Nat) (p : Pt) : Prop := (true = true ∧ true = true) ∧ (a = a ∧ b = b ∧ c = c) ∧ ((0 : Int) = (0 : Int) ∧ (0 : Int) = (0 : Int) ∧ (0 : Int) = (0 : Int) ∧ (0 : Int) = (0 : Int) ∧ (0 : Int) = (0 : Int) ∧ (0 : Int) = (0 : Int) ∧ (0 : Int) = (0 : Int) ∧ (0 : Int) = (0 : Int) ∧ (0 : Int) = (0 : Int) ∧ (0 : Int) = (0 : Int) ∧ (0 : Int) = (0 : Int) ∧ (0 : Int) = (0 : Int) ∧ (0 : Int) = (0 : Int) ∧ (0 : Int) = (0 : Int) ∧ (0 : Int) = (0 : Int) ∧ (0 : Int) = (0 : Int) ∧ (0 : Int) = (0 : Int) ∧ (0 : Int) = (0 : Int)) ∧ (Prod.fst (stepP (a, b, c) p true) = Prod.fst (stepP (a, b, c) p true) ∧ Prod.fst (Prod.snd (stepP (a, b, c) p true)) = Prod.fst (Prod.snd (stepP (a, b, c) p true)) ∧ Prod.snd (Prod.snd (stepP (a, b, c) p true)) = Prod.snd (Prod.snd (stepP (a, b, c) p true))) ∧ 0 = 0 ∧ ([] : List Stp) = [] ∧ len = len ∧ cap = cap
set_option maxRecDepth 100000 in
theorem mulS4t (us0 : List (LV Fe)) (a b c : Fe) (len cap : Nat) (p : Pt) : runG Tryz.prog (SMul us0) 60 46 [1, 0, 1, 0, 1, 1] (mulJ a b c (.slice (.inp 0 0) 0 [] len cap) true (pB p)) .normal 4 [some (.own 0), some (.own 1), some (.own 2), some (.own 3)] 17 [] (mulM a b c (.slice (.inp 0 0) 0 [] len cap) (pB (stepP (a, b, c) p true))) = some (some ((mulS4t_G us0 a b c len cap p))) := by kernel_rfl
--@]
--@gen mulS4f (us0 : List (LV Fe)) (a b c : Fe) (len cap : Nat) (p : Pt) := runG Tryz.prog (SMul us0) 60 46 [1, 0, 1, 0, 1, 1] (mulJ a b c (.slice (.inp 0 0) 0 [] len cap) false (pB p)) .normal 4 [some (.own 0), some (.own 1), some (.own 2), some (.own 3)] 17 [] (mulM a b c (.slice (.inp 0 0) 0 [] len cap) (pB (stepP (a, b, c) p false)))
--@[
set_option maxRecDepth 100000 in
def mulS4f_G (us0 : List (LV Fe)) (a b c : Fe) (len cap : Nat) (p : Pt) : Prop := true = true ∧ (a = a ∧ b = b ∧ c = c) ∧ ((0 : Int) = (0 : Int) ∧ (0 : Int) = (0 : Int) ∧ (0 : Int) = (0 : Int) ∧ (0 : Int) = (0 : Int) ∧ (0 : Int) = (0 : Int) ∧ (0 : Int) = (0 : Int) ∧ (0 : Int) = (0 : Int) ∧ (0 : Int) = (0 : Int) ∧ (0 : Int) = (0 : Int) ∧ (0 : Int) = (0 : Int) ∧ (0 : Int) = (0 : Int) ∧ (0 : Int) = (0 : Int) ∧ (0 : Int) = (0 : Int) ∧ (0 : Int) = (0 : Int) ∧ (0 : Int) = (0 : Int) ∧ (0 : Int) = (0 : Int) ∧ (0 : Int) = (0 : Int) ∧ (0 : Int) = (0 : Int)) ∧ (Prod.fst (stepP (a, b, c) p false) = Prod.fst (stepP (a, b, c) p false) ∧ Prod.fst (Prod.snd (stepP (a, b, c) p false)) = Prod.fst (Prod.snd (stepP (a, b, c) p false)) ∧ Prod.snd (Prod.snd (stepP (a, b, c) p false)) = Prod.snd (Prod.snd (stepP (a, b, c) p false))) ∧ 0 = 0 ∧ ([] : List Stp) = [] ∧ len = len ∧ cap = cap
set_option maxRecDepth 100000 in
theorem mulS4f (us0 : List (LV Fe)) (a b c : Fe) (len cap : Nat) (p : Pt) : runG Tryz.prog (SMul us0) 60 46 [1, 0, 1, 0, 1, 1] (mulJ a b c (.slice (.inp 0 0) 0 [] len cap) false (pB p)) .normal 4 [some (.own 0), some (.own 1), some (.own 2), some (.own 3)] 17 [] (mulM a b c (.slice (.inp 0 0) 0 [] len cap) (pB (stepP (a, b, c) p false))) = some (some ((mulS4f_G us0 a b c len cap p))) := by kernel_rfl
--@]
--@gen mulS5 (us0 : List (LV Fe)) (a b c : Fe) (len cap : Nat) := runG Tryz.prog (SMul us0) 60 46 [1, 1, 1] ⟨tm 17 mulTs, mulM a b c (.slice (.inp 0 0) 0 [] len cap) zB, []⟩ .ret 2 [some (.own 0), some (.own 1)] 17 [(4, .ptr (.own 1) 0 [])] [some ⟨.rw, [.abs a, .abs b, .abs c]⟩, some ⟨.rw, zB⟩]
--@[
set_option maxRecDepth 100000 in
def mulS5_G (us0 : List (LV Fe)) (a b c : Fe) (len cap : Nat) : Prop := true = true ∧ (a = a ∧ b = b ∧ c = c) ∧ (0 : Int) = (0 : Int) ∧ (0 : Int) = (0 : Int) ∧ (0 : Int) = (0 : Int) ∧ (0 : Int) = (0 : Int) ∧ (0 : Int) = (0 : Int) ∧ (0 : Int) = (0 : Int) ∧ (0 : Int) = (0 : Int) ∧ (0 : Int) = (0 : Int) ∧ (0 : Int) = (0 : Int) ∧ (0 : Int) = (0 : Int) ∧ (0 : Int) = (0 : Int) ∧ (0 : Int) = (0 : Int) ∧ (0 : Int) = (0 : Int) ∧ (0 : Int) = (0 : Int) ∧ (0 : Int) = (0 : Int) ∧ (0 : Int) = (0 : Int) ∧ (0 : Int) = (0 : Int) ∧ (0 : Int) = (0 : Int)
set_option maxRecDepth 100000 in
theorem mulS5 (us0 : List (LV Fe)) (a b c : Fe) (len cap : Nat) : runG Tryz.prog (SMul us0) 60 46 [1, 1, 1] ⟨tm 17 mulTs, mulM a b c (.slice (.inp 0 0) 0 [] len cap) zB, []⟩ .ret 2 [some (.own 0), some (.own 1)] 17 [(4, .ptr (.own 1) 0 [])] [some ⟨.rw, [.abs a, .abs b, .abs c]⟩, some ⟨.rw, zB⟩] = some (some ((mulS5_G us0 a b c len cap))) := by kernel_rfl
--@]
--@gen mulS6 (us0 : List (LV Fe)) (a b c : Fe) (len cap : Nat) (p : Pt) := runG Tryz.prog (SMul us0) 60 46 [1, 1, 1] ⟨tm 17 mulTs, mulM a b c (.slice (.inp 0 0) 0 [] len cap) (pB p), []⟩ .ret 2 [some (.own 0), some (.own 1)] 17 [(4, .ptr (.own 1) 0 [])] [some ⟨.rw, [.abs a, .abs b, .abs c]⟩, some ⟨.rw, (pB p)⟩]
--@[
set_option maxRecDepth 100000 in
def mulS6_G (us0 : List (LV Fe)) (a b c : Fe) (len cap : Nat) (p : Pt) : Prop := true = true ∧ (a = a ∧ b = b ∧ c = c) ∧ Prod.fst p = Prod.fst p ∧ Prod.fst (Prod.snd p) = Prod.fst (Prod.snd p) ∧ Prod.snd (Prod.snd p) = Prod.snd (Prod.snd p)
set_option maxRecDepth 100000 in
theorem mulS6 (us0 : List (LV Fe)) (a b c : Fe) (len cap : Nat) (p : Pt) : runG Tryz.prog (SMul us0) 60 46 [1, 1, 1] ⟨tm 17 mulTs, mulM a b c (.slice (.inp 0 0) 0 [] len cap) (pB p), []⟩ .ret 2 [some (.own 0), some (.own 1)] 17 [(4, .ptr (.own 1) 0 [])] [some ⟨.rw, [.abs a, .abs b, .abs c]⟩, some ⟨.rw, (pB p)⟩] = some (some ((mulS6_G us0 a b c len cap p))) := by kernel_rfl
--@]
--@gen mulQ0 (us0 : List (LV Fe)) (a b c : Fe) (i len cap : Nat) := runG Tryz.prog (SMul us0) 60 46 [0] (startS Tryz.f46 [bF [a, b, c], (.slice (.inp 0 0) 0 [⟨i, 1, 0⟩] len cap)] []) .normal 0 [some (.own 0), some (.own 1)] 17 [(1, (.slice (.inp 0 0) 0 [⟨i, 1, 0⟩] len cap)), (2, .ptr (.own 0) 0 []), (4, .ptr (.own 1) 0 [])] (mulA a b c (.slice (.inp 0 0) 0 [⟨i, 1, 0⟩] len cap)).mem
--@[
set_option maxRecDepth 100000 in
def mulQ0_G (us0 : List (LV Fe)) (a b c : Fe) (i len cap : Nat) : Prop := (0 = 0 ∧ [(⟨i, 1, 0⟩ : Stp)] = [(⟨i, 1, 0⟩ : Stp)] ∧ len = len ∧ cap = cap) ∧ (a = a ∧ b = b ∧ c = c) ∧ (0 : Int) = (0 : Int) ∧ (0 : Int) = (0 : Int) ∧ (0 : Int) = (0 : Int) ∧ (0 : Int) = (0 : Int) ∧ (0 : Int) = (0 : Int) ∧ (0 : Int) = (0 : Int) ∧ (0 : Int) = (0 : Int) ∧ (0 : Int) = (0 : Int) ∧ (0 : Int) = (0 : Int) ∧ (0 : Int) = (0 : Int) ∧ (0 : Int) = (0 : Int) ∧ (0 : Int) = (0 : Int) ∧ (0 : Int) = (0 : Int) ∧ (0 : Int) = (0 : Int) ∧ (0 : Int) = (0 : Int) ∧ (0 : Int) = (0 : Int) ∧ (0 : Int) = (0 : Int) ∧ (0 : Int) = (0 : Int)
set_option maxRecDepth 100000 in
theorem mulQ0 (us0 : List (LV Fe)) (a b c : Fe) (i len cap : Nat) : runG Tryz.prog (SMul us0) 60 46 [0] (startS Tryz.f46 [bF [a, b, c], (.slice (.inp 0 0) 0 [⟨i, 1, 0⟩] len cap)] []) .normal 0 [some (.own 0), some (.own 1)] 17 [(1, (.slice (.inp 0 0) 0 [⟨i, 1, 0⟩] len cap)), (2, .ptr (.own 0) 0 []), (4, .ptr (.own 1) 0 [])] (mulA a b c (.slice (.inp 0 0) 0 [⟨i, 1, 0⟩] len cap)).mem = some (some ((mulQ0_G us0 a b c i len cap))) := by kernel_rfl
--@]
--@gen mulQ1 (us0 : List (LV Fe)) (a b c : Fe) (i len cap : Nat) := runG Tryz.prog (SMul us0) 60 46 [0, 1] (mulA a b c (.slice (.inp 0 0) 0 [⟨i, 1, 0⟩] len cap)) .normal 2 [some (.own 0), some (.own 1), some (.own 2)] 17 [(1, (.slice (.inp 0 0) 0 [⟨i, 1, 0⟩] len cap)), (2, .ptr (.own 0) 0 []), (4, .ptr (.own 1) 0 []), (5, .ptr (.own 2) 0 [])] (mulB a b c (.slice (.inp 0 0) 0 [⟨i, 1, 0⟩] len cap)).mem
--@[
set_option maxRecDepth 100000 in
def mulQ1_G (us0 : List (LV Fe)) (a b c : Fe) (i len cap : Nat) : Prop := (0 = 0 ∧ [(⟨i, 1, 0⟩ : Stp)] = [(⟨i, 1, 0⟩ : Stp)] ∧ len = len ∧ cap = cap) ∧ (a = a ∧ b = b ∧ c = c) ∧ ((0 : Int) = (0 : Int) ∧ (0 : Int) = (0 : Int) ∧ (0 : Int) = (0 : Int) ∧ (0 : Int) = (0 : Int) ∧ (0 : Int) = (0 : Int) ∧ (0 : Int) = (0 : Int) ∧ (0 : Int) = (0 : Int) ∧ (0 : Int) = (0 : Int) ∧ (0 : Int) = (0 : Int) ∧ (0 : Int) = (0 : Int) ∧ (0 : Int) = (0 : Int) ∧ (0 : Int) = (0 : Int) ∧ (0 : Int) = (0 : Int) ∧ (0 : Int) = (0 : Int) ∧ (0 : Int) = (0 : Int) ∧ (0 : Int) = (0 : Int) ∧ (0 : Int) = (0 : Int) ∧ (0 : Int) = (0 : Int)) ∧ (0 : Int) = (0 : Int) ∧ (0 : Int) = (0 : Int) ∧ (0 : Int) = (0 : Int) ∧ (0 : Int) = (0 : Int) ∧ (0 : Int) = (0 : Int) ∧ (0 : Int) = (0 : Int) ∧ (0 : Int) = (0 : Int) ∧ (0 : Int) = (0 : Int) ∧ (0 : Int) = (0 : Int) ∧ (0 : Int) = (0 : Int) ∧ (0 : Int) = (0 : Int) ∧ (0 : Int) = (0 : Int) ∧ (0 : Int) = (0 : Int) ∧ (0 : Int) = (0 : Int) ∧ (0 : Int) = (0 : Int) ∧ (0 : Int) = (0 : Int) ∧ (0 : Int) = (0 : Int) ∧ (0 : Int) = (0 : Int)
set_option maxRecDepth 100000 in
theorem mulQ1 (us0 : List (LV Fe)) (a b c : Fe) (i len cap : Nat) : runG Tryz.prog (SMul us0) 60 46 [0, 1] (mulA a b c (.slice (.inp 0 0) 0 [⟨i, 1, 0⟩] len cap)) .normal 2 [some (.own 0), some (.own 1), some (.own 2)] 17 [(1, (.slice (.inp 0 0) 0 [⟨i, 1, 0⟩] len cap)), (2, .ptr (.own 0) 0 []), (4, .ptr (.own 1) 0 []), (5, .ptr (.own 2) 0 [])] (mulB a b c (.slice (.inp 0 0) 0 [⟨i, 1, 0⟩] len cap)).mem = some (some ((mulQ1_G us0 a b c i len cap))) := by kernel_rfl
--@]
--@gen mulQ2 (us0 : List (LV Fe)) (a b c : Fe) (i len cap : Nat) := runG Tryz.prog (SMul us0) 60 46 [0, 0, 1, 1] (mulB a b c (.slice (.inp 0 0) 0 [⟨i, 1, 0⟩] len cap)) .normal 3 [some (.own 0), some (.own 1), some (.own 2), some (.own 3)] 17 mulTs (mulM a b c (.slice (.inp 0 0) 0 [⟨i, 1, 0⟩] len cap) zB)
--@[
set_option maxRecDepth 100000 in
def mulQ2_G (us0 : List (LV Fe)) (a b c : Fe) (i len cap : Nat) : Prop := (a = a ∧ b = b ∧ c = c) ∧ ((0 : Int) = (0 : Int) ∧ (0 : Int) = (0 : Int) ∧ (0 : Int) = (0 : Int) ∧ (0 : Int) = (0 : Int) ∧ (0 : Int) = (0 : Int) ∧ (0 : Int) = (0 : Int) ∧ (0 : Int) = (0 : Int) ∧ (0 : Int) = (0 : Int) ∧ (0 : Int) = (0 : Int) ∧ (0 : Int) = (0 : Int) ∧ (0 : Int) = (0 : Int) ∧ (0 : Int) = (0 : Int) ∧ (0 : Int) = (0 : Int) ∧ (0 : Int) = (0 : Int) ∧ (0 : Int) = (0 : Int) ∧ (0 : Int) = (0 : Int) ∧ (0 : Int) = (0 : Int) ∧ (0 : Int) = (0 : Int)) ∧ ((0 : Int) = (0 : Int) ∧ (0 : Int) = (0 : Int) ∧ (0 : Int) = (0 : Int) ∧ (0 : Int) = (0 : Int) ∧ (0 : Int) = (0 : Int) ∧ (0 : Int) = (0 : Int) ∧ (0 : Int) = (0 : Int) ∧ (0 : Int) = (0 : Int) ∧ (0 : Int) = (0 : Int) ∧ (0 : Int) = (0 : Int) ∧ (0 : Int) = (0 : Int) ∧ (0 : Int) = (0 : Int) ∧ (0 : Int) = (0 : Int) ∧ (0 : Int) = (0 : Int) ∧ (0 : Int) = (0 : Int) ∧ (0 : Int) = (0 : Int) ∧ (0 : Int) = (0 : Int) ∧ (0 : Int) = (0 : Int)) ∧ 0 = 0 ∧ [(⟨i, 1, 0⟩ : Stp)] = [(⟨i, 1, 0⟩ : Stp)] ∧ len = len ∧ cap = cap
set_option maxRecDepth 100000 in
theorem mulQ2 (us0 : List (LV Fe)) (a b c : Fe) (i len cap : Nat) : runG Tryz.prog (SMul us0) 60 46 [0, 0, 1, 1] (mulB a b c (.slice (.inp 0 0) 0 [⟨i, 1, 0⟩] len cap)) .normal 3 [some (.own 0), some (.own 1), some (.own 2), some (.own 3)] 17 mulTs (mulM a b c (.slice (.inp 0 0) 0 [⟨i, 1, 0⟩] len cap) zB) = some (some ((mulQ2_G us0 a b c i len cap))) := by kernel_rfl
--@]
--@gen mulQ3t (us0 : List (LV Fe)) (a b c : Fe) (i len cap : Nat) := runG Tryz.prog (SMul us0) 60 46 [1, 0, 1, 0, 1, 1] (mulJ a b c (.slice (.inp 0 0) 0 [⟨i, 1, 0⟩] len cap) true zB) .normal 4 [some (.own 0), some (.own 1), some (.own 2), some (.own 3)] 17 [] (mulM a b c (.slice (.inp 0 0) 0 [⟨i, 1, 0⟩] len cap) (pB (stepP (a, b, c) zPt true)))
--@[
set_option maxRecDepth 100000 in
def mulQ3t_G (us0 : List (LV Fe)) (a b c : Fe) (i len cap : Nat) : Prop := (true = true ∧ true = true) ∧ (a = a ∧ b = b ∧ c = c) ∧ ((0 : Int) = (0 : Int) ∧ (0 : Int) = (0 : Int) ∧ (0 : Int) = (0 : Int) ∧ (0 : Int) = (0 : Int) ∧ (0 : Int) = (0 : Int) ∧ (0 : Int) = (0 : Int) ∧ (0 : Int) = (0 : Int) ∧ (0 : Int) = (0 : Int) ∧ (0 : Int) = (0 : Int) ∧ (0 : Int) = (0 : Int) ∧ (0 : Int) = (0 : Int) ∧ (0 : Int) = (0 : Int) ∧ (0 : Int) = (0 : Int) ∧ (0 : Int) = (0 : Int) ∧ (0 : Int) = (0 : Int) ∧ (0 : Int) = (0 : Int) ∧ (0 : Int) = (0 : Int) ∧ (0 : Int) = (0 : Int)) ∧ (a = a ∧ b = b ∧ c = c) ∧ 0 = 0 ∧ [(⟨i, 1, 0⟩ : Stp)] = [(⟨i, 1, 0⟩ : Stp)] ∧ len = len ∧ cap = cap
set_option maxRecDepth 100000 in
theorem mulQ3t (us0 : List (LV Fe)) (a b c : Fe) (i len cap : Nat) : runG Tryz.prog (SMul us0) 60 46 [1, 0, 1, 0, 1, 1] (mulJ a b c (.slice (.inp 0 0) 0 [⟨i, 1, 0⟩] len cap) true zB) .normal 4 [some (.own 0), some (.own 1), some (.own 2), some (.own 3)] 17 [] (mulM a b c (.slice (.inp 0 0) 0 [⟨i, 1, 0⟩] len cap) (pB (stepP (a, b, c) zPt true))) = some (some ((mulQ3t_G us0 a b c i len cap))) := by kernel_rfl
--@]
--@gen mulQ3f (us0 : List (LV Fe)) (a b c : Fe) (i len cap : Nat) := runG Tryz.prog (SMul us0) 60 46 [1, 0, 1, 0, 1, 1] (mulJ a b c (.slice (.inp 0 0) 0 [⟨i, 1, 0⟩] len cap) false zB) .normal 4 [some (.own 0), some (.own 1), some (.own 2), some (.own 3)] 17 [] (mulM a b c (.slice (.inp 0 0) 0 [⟨i, 1, 0⟩] len cap) (pB (stepP (a, b, c) zPt false)))
--@[
set_option maxRecDepth 100000 in
def mulQ3f_G (us0 : List (LV Fe)) (a b c : Fe) (i len cap : Nat) : Prop := true = true ∧ (a = a ∧ b = b ∧ c = c) ∧ ((0 : Int) = (0 : Int) ∧ (0 : Int) = (0 : Int) ∧ (0 : Int) = (0 : Int) ∧ (0 : Int) = (0 : Int) ∧ (0 : Int) = (0 : Int) ∧ (0 : Int) = (0 : Int) ∧ (0 : Int) = (0 : Int) ∧ (0 : Int) = (0 : Int) ∧ (0 : Int) = (0 : Int) ∧ (0 : Int) = (0 : Int) ∧ (0 : Int) = (0 : Int) ∧ (0 : Int) = (0 : Int) ∧ (0 : Int) = (0 : Int) ∧ (0 : Int) = (0 : Int) ∧ (0 : Int) = (0 : Int) ∧ (0 : Int) = (0 : Int) ∧ (0 : Int) = (0 : Int) ∧ (0 : Int) = (0 : Int)) ∧ (Prod.fst (stepP (a, b, c) zPt false) = Prod.fst (stepP (a, b, c) zPt false) ∧ Prod.fst (Prod.snd (stepP (a, b, c) zPt false)) = Prod.fst (Prod.snd (stepP (a, b, c) zPt false)) ∧ Prod.snd (Prod.snd (stepP (a, b, c) zPt false)) = Prod.snd (Prod.snd (stepP (a, b, c) zPt false))) ∧ 0 = 0 ∧ [(⟨i, 1, 0⟩ : Stp)] = [(⟨i, 1, 0⟩ : Stp)] ∧ len = len ∧ cap = cap
set_option maxRecDepth 100000 in
theorem mulQ3f (us0 : List (LV Fe)) (a b c : Fe) (i len cap : Nat) : runG Tryz.prog (SMul us0) 60 46 [1, 0, 1, 0, 1, 1] (mulJ a b c (.slice (.inp 0 0) 0 [⟨i, 1, 0⟩] len cap) false zB) .normal 4 [some (.own 0), some (.own 1), some (.own 2), some (.own 3)] 17 [] (mulM a b c (.slice (.inp 0 0) 0 [⟨i, 1, 0⟩] len cap) (pB (stepP (a, b, c) zPt false))) = some (some ((mulQ3f_G us0 a b c i len cap))) := by kernel_rfl
--@]
--@gen mulQ4t (us0 : List (LV Fe)) (a b c : Fe) (i len cap : Nat) (p : Pt) := runG Tryz.prog (SMul us0) 60 46 [1, 0, 1, 0, 1, 1] (mulJ a b c (.slice (.inp 0 0) 0 [⟨i, 1, 0⟩] len cap) true (pB p)) .normal 4 [some (.own 0), some (.own 1), some (.own 2), some (.own 3)] 17 [] (mulM a b c (.slice (.inp 0 0) 0 [⟨i, 1, 0⟩] len cap) (pB (stepP (a, b, c) p true)))
--@[
set_option maxRecDepth 100000 in
def mulQ4t_G (us0 : List (LV Fe)) (a b c : Fe) (i len cap : Nat) (p : Pt) : Prop := (true = true ∧ true = true) ∧ (a = a ∧ b = b ∧ c = c) ∧ ((0 : Int) = (0 : Int) ∧ (0 : Int) = (0 : Int) ∧ (0 : Int) = (0 : Int) ∧ (0 : Int) = (0 : Int) ∧ (0 : Int) = (0 : Int) ∧ (0 : Int) = (0 : Int) ∧ (0 : Int) = (0 : Int) ∧ (0 : Int) = (0 : Int) ∧ (0 : Int) = (0 : Int) ∧ (0 : Int) = (0 : Int) ∧ (0 : Int) = (0 : Int) ∧ (0 : Int) = (0 : Int) ∧ (0 : Int) = (0 : Int) ∧ (0 : Int) = (0 : Int) ∧ (0 : Int) = (0 : Int) ∧ (0 : Int) = (0 : Int) ∧ (0 : Int) = (0 : Int) ∧ (0 : Int) = (0 : Int)) ∧ (Prod.fst (stepP (a, b, c) p true) = Prod.fst (stepP (a, b, c) p true) ∧ Prod.fst (Prod.snd (stepP (a, b, c) p true)) = Prod.fst (Prod.snd (stepP (a, b, c) p true)) ∧ Prod.snd (Prod.snd (stepP (a, b, c) p true)) = Prod.snd (Prod.snd (stepP (a, b, c) p true))) ∧ 0 = 0 ∧ [(⟨i, 1, 0⟩ : Stp)] = [(⟨i, 1, 0⟩ : Stp)] ∧ len = len ∧ cap = cap
set_option maxRecDepth 100000 in
theorem mulQ4t (us0 : List (LV Fe)) (a b c : Fe) (i len cap : Nat) (p : Pt) : runG Tryz.prog (SMul us0) 60 46 [1, 0, 1, 0, 1, 1] (mulJ a b c (.slice (.inp 0 0) 0 [⟨i, 1, 0⟩] len cap) true (pB p)) .normal 4 [some (.own 0), some (.own 1), some (.own 2), some (.own 3)] 17 [] (mulM a b c (.slice (.inp 0 0) 0 [⟨i, 1, 0⟩] len cap) (pB (stepP (a, b, c) p true))) = some (some ((mulQ4t_G us0 a b c i len cap p))) := by kernel_rfl
--@]
--@gen mulQ4f (us0 : List (LV Fe)) (a b c : Fe) (i len cap : Nat) (p : Pt) := runG Tryz.prog (SMul us0) 60 46 [1, 0, 1, 0, 1, 1] (mulJ a b c (.slice (.inp 0 0) 0 [⟨i, 1, 0⟩] len cap) false (pB p)) .normal 4 [some (.own 0), some (.own 1), some (.own 2), some (.own 3)] 17 [] (mulM a b c (.slice (.inp 0 0) 0 [⟨i, 1, 0⟩] len cap) (pB (stepP (a, b, c) p false)))
--@[
set_option maxRecDepth 100000 in
def mulQ4f_G (us0 : List (LV Fe)) (a b c : Fe) (i len cap : Nat) (p : Pt) : Prop := true = true ∧ (a = a ∧ b = b ∧ c = c) ∧ ((0 : Int) = (0 : Int) ∧ (0 : Int) = (0 : Int) ∧ (0 : Int) = (0 : Int) ∧ (0 : Int) = (0 : Int) ∧ (0 : Int) = (0 : Int) ∧ (0 : Int) = (0 : Int) ∧ (0 : Int) = (0 : Int) ∧ (0 : Int) = (0 : Int) ∧ (0 : Int) = (0 : Int) ∧ (0 : Int) = (0 : Int) ∧ (0 : Int) = (0 : Int) ∧ (0 : Int) = (0 : Int) ∧ (0 : Int) = (0 : Int) ∧ (0 : Int) = (0 : Int) ∧ (0 : Int) = (0 : Int) ∧ (0 : Int) = (0 : Int) ∧ (0 : Int) = (0 : Int) ∧ (0 : Int) = (0 : Int)) ∧ (Prod.fst (stepP (a, b, c) p false) = Prod.fst (stepP (a, b, c) p false) ∧ Prod.fst (Prod.snd (stepP (a, b, c) p false)) = Prod.fst (Prod.snd (stepP (a, b, c) p false)) ∧ Prod.snd (Prod.snd (stepP (a, b, c) p false)) = Prod.snd (Prod.snd (stepP (a, b, c) p false))) ∧ 0 = 0 ∧ [(⟨i, 1, 0⟩ : Stp)] = [(⟨i, 1, 0⟩ : Stp)] ∧ len = len ∧ cap = cap
set_option maxRecDepth 100000 in
theorem mulQ4f (us0 : List (LV Fe)) (a b c : Fe) (i len cap : Nat) (p : Pt) : runG Tryz.prog (SMul us0) 60 46 [1, 0, 1, 0, 1, 1] (mulJ a b c (.slice (.inp 0 0) 0 [⟨i, 1, 0⟩] len cap) false (pB p)) .normal 4 [some (.own 0), some (.own 1), some (.own 2), some (.own 3)] 17 [] (mulM a b c (.slice (.inp 0 0) 0 [⟨i, 1, 0⟩] len cap) (pB (stepP (a, b, c) p false))) = some (some ((mulQ4f_G us0 a b c i len cap p))) := by kernel_rfl
--@]
--@gen mulQ5 (us0 : List (LV Fe)) (a b c : Fe) (i len cap : Nat) := runG Tryz.prog (SMul us0) 60 46 [1, 1, 1] ⟨tm 17 mulTs, mulM a b c (.slice (.inp 0 0) 0 [⟨i, 1, 0⟩] len cap) zB, []⟩ .ret 2 [some (.own 0), some (.own 1)] 17 [(4, .ptr (.own 1) 0 [])] [some ⟨.rw, [.abs a, .abs b, .abs c]⟩, some ⟨.rw, zB⟩]
--@[
set_option maxRecDepth 100000 in
def mulQ5_G (us0 : List (LV Fe)) (a b c : Fe) (i len cap : Nat) : Prop := true = true ∧ (a = a ∧ b = b ∧ c = c) ∧ (0 : Int) = (0 : Int) ∧ (0 : Int) = (0 : Int) ∧ (0 : Int) = (0 : Int) ∧ (0 : Int) = (0 : Int) ∧ (0 : Int) = (0 : Int) ∧ (0 : Int) = (0 : Int) ∧ (0 : Int) = (0 : Int) ∧ (0 : Int) = (0 : Int) ∧ (0 : Int) = (0 : Int) ∧ (0 : Int) = (0 : Int) ∧ (0 : Int) = (0 : Int) ∧ (0 : Int) = (0 : Int) ∧ (0 : Int) = (0 : Int) ∧ (0 : Int) = (0 : Int) ∧ (0 : Int) = (0 : Int) ∧ (0 : Int) = (0 : Int) ∧ (0 : Int) = (0 : Int) ∧ (0 : Int) = (0 : Int)
set_option maxRecDepth 100000 in
theorem mulQ5 (us0 : List (LV Fe)) (a b c : Fe) (i len cap : Nat) : runG Tryz.prog (SMul us0) 60 46 [1, 1, 1] ⟨tm 17 mulTs, mulM a b c (.slice (.inp 0 0) 0 [⟨i, 1, 0⟩] len cap) zB, []⟩ .ret 2 [some (.own 0), some (.own 1)] 17 [(4, .ptr (.own 1) 0 [])] [some ⟨.rw, [.abs a, .abs b, .abs c]⟩, some ⟨.rw, zB⟩] = some (some ((mulQ5_G us0 a b c i len cap))) := by kernel_rfl
--@]
--@gen mulQ6 (us0 : List (LV Fe)) (a b c : Fe) (i len cap : Nat) (p : Pt) := runG Tryz.prog (SMul us0) 60 46 [1, 1, 1] ⟨tm 17 mulTs, mulM a b c (.slice (.inp 0 0) 0 [⟨i, 1, 0⟩] len cap) (pB p), []⟩ .ret 2 [some (.own 0), some (.own 1)] 17 [(4, .ptr (.own 1) 0 [])] [some ⟨.rw, [.abs a, .abs b, .abs c]⟩, some ⟨.rw, (pB p)⟩]
--@[
set_option maxRecDepth 100000 in
def mulQ6_G (us0 : List (LV Fe)) (a b c : Fe) (i len cap : Nat) (p : Pt) : Prop := true = true ∧ (a = a ∧ b = b ∧ c = c) ∧ Prod.fst p = Prod.fst p ∧ Prod.fst (Prod.snd p) = Prod.fst (Prod.snd p) ∧ Prod.snd (Prod.snd p) = Prod.snd (Prod.snd p)
set_option maxRecDepth 100000 in
theorem mulQ6 (us0 : List (LV Fe)) (a b c : Fe) (i len cap : Nat) (p : Pt) : runG Tryz.prog (SMul us0) 60 46 [1, 1, 1] ⟨tm 17 mulTs, mulM a b c (.slice (.inp 0 0) 0 [⟨i, 1, 0⟩] len cap) (pB p), []⟩ .ret 2 [some (.own 0), some (.own 1)] 17 [(4, .ptr (.own 1) 0 [])] [some ⟨.rw, [.abs a, .abs b, .abs c]⟩, some ⟨.rw, (pB p)⟩] = some (some ((mulQ6_G us0 a b c i len cap p))) := by kernel_rfl
--@]
end Go.Proofs.YtcedljbapgmdmaaGreat.En

/- DERIVED. So many times a point, as bytes say: no bytes. -/
set_option linter.all false
namespace Go.Proofs.YtcedljbapgmdmaaGreat.En
open Go Go.RowKit
--@gen mulN0 (us0 : List (LV Fe)) (a b c : Fe)  := runG Tryz.prog (SMul us0) 60 46 [0] (startS Tryz.f46 [bF [a, b, c], .nils] []) .normal 0 [some (.own 0), some (.own 1)] 17 [(1, .nils), (2, .ptr (.own 0) 0 []), (4, .ptr (.own 1) 0 [])] (mulA a b c .nils).mem
--@[
set_option maxRecDepth 100000 in
def mulN0_G (us0 : List (LV Fe)) (a b c : Fe)  : Prop := (a = a ∧ b = b ∧ c = c) ∧ (0 : Int) = (0 : Int) ∧ (0 : Int) = (0 : Int) ∧ (0 : Int) = (0 : Int) ∧ (0 : Int) = (0 : Int) ∧ (0 : Int) = (0 : Int) ∧ (0 : Int) = (0 : Int) ∧ (0 : Int) = (0 : Int) ∧ (0 : Int) = (0 : Int) ∧ (0 : Int) = (0 : Int) ∧ (0 : Int) = (0 : Int) ∧ (0 : Int) = (0 : Int) ∧ (0 : Int) = (0 : Int) ∧ (0 : Int) = (0 : Int) ∧ (0 : Int) = (0 : Int) ∧ (0 : Int) = (0 : Int) ∧ (0 : Int) = (0 : Int) ∧ (0 : Int) = (0 : Int) ∧ (0 : Int) = (0 : Int)
set_option maxRecDepth 100000 in
theorem mulN0 (us0 : List (LV Fe)) (a b c : Fe)  : runG Tryz.prog (SMul us0) 60 46 [0] (startS Tryz.f46 [bF [a, b, c], .nils] []) .normal 0 [some (.own 0), some (.own 1)] 17 [(1, .nils), (2, .ptr (.own 0) 0 []), (4, .ptr (.own 1) 0 [])] (mulA a b c .nils).mem = some (some ((mulN0_G us0 a b c))) := by kernel_rfl
--@]
--@gen mulN1 (us0 : List (LV Fe)) (a b c : Fe)  := runG Tryz.prog (SMul us0) 60 46 [0, 1] (mulA a b c .nils) .normal 2 [some (.own 0), some (.own 1), some (.own 2)] 17 [(1, .nils), (2, .ptr (.own 0) 0 []), (4, .ptr (.own 1) 0 []), (5, .ptr (.own 2) 0 [])] (mulB a b c .nils).mem
--@[
set_option maxRecDepth 100000 in
def mulN1_G (us0 : List (LV Fe)) (a b c : Fe)  : Prop := (a = a ∧ b = b ∧ c = c) ∧ ((0 : Int) = (0 : Int) ∧ (0 : Int) = (0 : Int) ∧ (0 : Int) = (0 : Int) ∧ (0 : Int) = (0 : Int) ∧ (0 : Int) = (0 : Int) ∧ (0 : Int) = (0 : Int) ∧ (0 : Int) = (0 : Int) ∧ (0 : Int) = (0 : Int) ∧ (0 : Int) = (0 : Int) ∧ (0 : Int) = (0 : Int) ∧ (0 : Int) = (0 : Int) ∧ (0 : Int) = (0 : Int) ∧ (0 : Int) = (0 : Int) ∧ (0 : Int) = (0 : Int) ∧ (0 : Int) = (0 : Int) ∧ (0 : Int) = (0 : Int) ∧ (0 : Int) = (0 : Int) ∧ (0 : Int) = (0 : Int)) ∧ (0 : Int) = (0 : Int) ∧ (0 : Int) = (0 : Int) ∧ (0 : Int) = (0 : Int) ∧ (0 : Int) = (0 : Int) ∧ (0 : Int) = (0 : Int) ∧ (0 : Int) = (0 : Int) ∧ (0 : Int) = (0 : Int) ∧ (0 : Int) = (0 : Int) ∧ (0 : Int) = (0 : Int) ∧ (0 : Int) = (0 : Int) ∧ (0 : Int) = (0 : Int) ∧ (0 : Int) = (0 : Int) ∧ (0 : Int) = (0 : Int) ∧ (0 : Int) = (0 : Int) ∧ (0 : Int) = (0 : Int) ∧ (0 : Int) = (0 : Int) ∧ (0 : Int) = (0 : Int) ∧ (0 : Int) = (0 : Int)
set_option maxRecDepth 100000 in
theorem mulN1 (us0 : List (LV Fe)) (a b c : Fe)  : runG Tryz.prog (SMul us0) 60 46 [0, 1] (mulA a b c .nils) .normal 2 [some (.own 0), some (.own 1), some (.own 2)] 17 [(1, .nils), (2, .ptr (.own 0) 0 []), (4, .ptr (.own 1) 0 []), (5, .ptr (.own 2) 0 [])] (mulB a b c .nils).mem = some (some ((mulN1_G us0 a b c))) := by kernel_rfl
--@]
--@gen mulN2 (us0 : List (LV Fe)) (a b c : Fe)  := runG Tryz.prog (SMul us0) 60 46 [0, 0, 1, 1] (mulB a b c .nils) .normal 3 [some (.own 0), some (.own 1), some (.own 2), some (.own 3)] 17 mulTs (mulM a b c .nils zB)
--@[
set_option maxRecDepth 100000 in
def mulN2_G (us0 : List (LV Fe)) (a b c : Fe)  : Prop := (a = a ∧ b = b ∧ c = c) ∧ ((0 : Int) = (0 : Int) ∧ (0 : Int) = (0 : Int) ∧ (0 : Int) = (0 : Int) ∧ (0 : Int) = (0 : Int) ∧ (0 : Int) = (0 : Int) ∧ (0 : Int) = (0 : Int) ∧ (0 : Int) = (0 : Int) ∧ (0 : Int) = (0 : Int) ∧ (0 : Int) = (0 : Int) ∧ (0 : Int) = (0 : Int) ∧ (0 : Int) = (0 : Int) ∧ (0 : Int) = (0 : Int) ∧ (0 : Int) = (0 : Int) ∧ (0 : Int) = (0 : Int) ∧ (0 : Int) = (0 : Int) ∧ (0 : Int) = (0 : Int) ∧ (0 : Int) = (0 : Int) ∧ (0 : Int) = (0 : Int)) ∧ (0 : Int) = (0 : Int) ∧ (0 : Int) = (0 : Int) ∧ (0 : Int) = (0 : Int) ∧ (0 : Int) = (0 : Int) ∧ (0 : Int) = (0 : Int) ∧ (0 : Int) = (0 : Int) ∧ (0 : Int) = (0 : Int) ∧ (0 : Int) = (0 : Int) ∧ (0 : Int) = (0 : Int) ∧ (0 : Int) = (0 : Int) ∧ (0 : Int) = (0 : Int) ∧ (0 : Int) = (0 : Int) ∧ (0 : Int) = (0 : Int) ∧ (0 : Int) = (0 : Int) ∧ (0 : Int) = (0 : Int) ∧ (0 : Int) = (0 : Int) ∧ (0 : Int) = (0 : Int) ∧ (0 : Int) = (0 : Int)
set_option maxRecDepth 100000 in
theorem mulN2 (us0 : List (LV Fe)) (a b c : Fe)  : runG Tryz.prog (SMul us0) 60 46 [0, 0, 1, 1] (mulB a b c .nils) .normal 3 [some (.own 0), some (.own 1), some (.own 2), some (.own 3)] 17 mulTs (mulM a b c .nils zB) = some (some ((mulN2_G us0 a b c))) := by kernel_rfl
--@]
--@gen mulN3t (us0 : List (LV Fe)) (a b c : Fe)  := runG Tryz.prog (SMul us0) 60 46 [1, 0, 1, 0, 1, 1] (mulJ a b c .nils true zB) .normal 4 [some (.own 0), some (.own 1), some (.own 2), some (.own 3)] 17 [] (mulM a b c .nils (pB (stepP (a, b, c) zPt true)))
--@[
set_option maxRecDepth 100000 in
def mulN3t_G (us0 : List (LV Fe)) (a b c : Fe)  : Prop := (true = true ∧ true = true) ∧ (a = a ∧ b = b ∧ c = c) ∧ ((0 : Int) = (0 : Int) ∧ (0 : Int) = (0 : Int) ∧ (0 : Int) = (0 : Int) ∧ (0 : Int) = (0 : Int) ∧ (0 : Int) = (0 : Int) ∧ (0 : Int) = (0 : Int) ∧ (0 : Int) = (0 : Int) ∧ (0 : Int) = (0 : Int) ∧ (0 : Int) = (0 : Int) ∧ (0 : Int) = (0 : Int) ∧ (0 : Int) = (0 : Int) ∧ (0 : Int) = (0 : Int) ∧ (0 : Int) = (0 : Int) ∧ (0 : Int) = (0 : Int) ∧ (0 : Int) = (0 : Int) ∧ (0 : Int) = (0 : Int) ∧ (0 : Int) = (0 : Int) ∧ (0 : Int) = (0 : Int)) ∧ a = a ∧ b = b ∧ c = c
set_option maxRecDepth 100000 in
theorem mulN3t (us0 : List (LV Fe)) (a b c : Fe)  : runG Tryz.prog (SMul us0) 60 46 [1, 0, 1, 0, 1, 1] (mulJ a b c .nils true zB) .normal 4 [some (.own 0), some (.own 1), some (.own 2), some (.own 3)] 17 [] (mulM a b c .nils (pB (stepP (a, b, c) zPt true))) = some (some ((mulN3t_G us0 a b c))) := by kernel_rfl
--@]
--@gen mulN3f (us0 : List (LV Fe)) (a b c : Fe)  := runG Tryz.prog (SMul us0) 60 46 [1, 0, 1, 0, 1, 1] (mulJ a b c .nils false zB) .normal 4 [some (.own 0), some (.own 1), some (.own 2), some (.own 3)] 17 [] (mulM a b c .nils (pB (stepP (a, b, c) zPt false)))
--@[
set_option maxRecDepth 100000 in
def mulN3f_G (us0 : List (LV Fe)) (a b c : Fe)  : Prop := true = true ∧ (a = a ∧ b = b ∧ c = c) ∧ ((0 : Int) = (0 : Int) ∧ (0 : Int) = (0 : Int) ∧ (0 : Int) = (0 : Int) ∧ (0 : Int) = (0 : Int) ∧ (0 : Int) = (0 : Int) ∧ (0 : Int) = (0 : Int) ∧ (0 : Int) = (0 : Int) ∧ (0 : Int) = (0 : Int) ∧ (0 : Int) = (0 : Int) ∧ (0 : Int) = (0 : Int) ∧ (0 : Int) = (0 : Int) ∧ (0 : Int) = (0 : Int) ∧ (0 : Int) = (0 : Int) ∧ (0 : Int) = (0 : Int) ∧ (0 : Int) = (0 : Int) ∧ (0 : Int) = (0 : Int) ∧ (0 : Int) = (0 : Int) ∧ (0 : Int) = (0 : Int)) ∧ Prod.fst (stepP (a, b, c) zPt false) = Prod.fst (stepP (a, b, c) zPt false) ∧ Prod.fst (Prod.snd (stepP (a, b, c) zPt false)) = Prod.fst (Prod.snd (stepP (a, b, c) zPt false)) ∧ Prod.snd (Prod.snd (stepP (a, b, c) zPt false)) = Prod.snd (Prod.snd (stepP (a, b, c) zPt false))
set_option maxRecDepth 100000 in
theorem mulN3f (us0 : List (LV Fe)) (a b c : Fe)  : runG Tryz.prog (SMul us0) 60 46 [1, 0, 1, 0, 1, 1] (mulJ a b c .nils false zB) .normal 4 [some (.own 0), some (.own 1), some (.own 2), some (.own 3)] 17 [] (mulM a b c .nils (pB (stepP (a, b, c) zPt false))) = some (some ((mulN3f_G us0 a b c))) := by kernel_rfl
--@]
--@gen mulN4t (us0 : List (LV Fe)) (a b c : Fe)  (p : Pt) := runG Tryz.prog (SMul us0) 60 46 [1, 0, 1, 0, 1, 1] (mulJ a b c .nils true (pB p)) .normal 4 [some (.own 0), some (.own 1), some (.own 2), some (.own 3)] 17 [] (mulM a b c .nils (pB (stepP (a, b, c) p true)))
--@[
set_option maxRecDepth 100000 in
def mulN4t_G (us0 : List (LV Fe)) (a b c : Fe)  (p : Pt) : Prop := (true = true ∧ true = true) ∧ (a = a ∧ b = b ∧ c = c) ∧ ((0 : Int) = (0 : Int) ∧ (0 : Int) = (0 : Int) ∧ (0 : Int) = (0 : Int) ∧ (0 : Int) = (0 : Int) ∧ (0 : Int) = (0 : Int) ∧ (0 : Int) = (0 : Int) ∧ (0 : Int) = (0 : Int) ∧ (0 : Int) = (0 : Int) ∧ (0 : Int) = (0 : Int) ∧ (0 : Int) = (0 : Int) ∧ (0 : Int) = (0 : Int) ∧ (0 : Int) = (0 : Int) ∧ (0 : Int) = (0 : Int) ∧ (0 : Int) = (0 : Int) ∧ (0 : Int) = (0 : Int) ∧ (0 : Int) = (0 : Int) ∧ (0 : Int) = (0 : Int) ∧ (0 : Int) = (0 : Int)) ∧ Prod.fst (stepP (a, b, c) p true) = Prod.fst (stepP (a, b, c) p true) ∧ Prod.fst (Prod.snd (stepP (a, b, c) p true)) = Prod.fst (Prod.snd (stepP (a, b, c) p true)) ∧ Prod.snd (Prod.snd (stepP (a, b, c) p true)) = Prod.snd (Prod.snd (stepP (a, b, c) p true))
set_option maxRecDepth 100000 in
theorem mulN4t (us0 : List (LV Fe)) (a b c : Fe)  (p : Pt) : runG Tryz.prog (SMul us0) 60 46 [1, 0, 1, 0, 1, 1] (mulJ a b c .nils true (pB p)) .normal 4 [some (.own 0), some (.own 1), some (.own 2), some (.own 3)] 17 [] (mulM a b c .nils (pB (stepP (a, b, c) p true))) = some (some ((mulN4t_G us0 a b c p))) := by kernel_rfl
--@]
--@gen mulN4f (us0 : List (LV Fe)) (a b c : Fe)  (p : Pt) := runG Tryz.prog (SMul us0) 60 46 [1, 0, 1, 0, 1, 1] (mulJ a b c .nils false (pB p)) .normal 4 [some (.own 0), some (.own 1), some (.own 2), some (.own 3)] 17 [] (mulM a b c .nils (pB (stepP (a, b, c) p false)))
--@[
set_option maxRecDepth 100000 in
def mulN4f_G (us0 : List (LV Fe)) (a b c : Fe)  (p : Pt) : Prop := true = true ∧ (a = a ∧ b = b ∧ c = c) ∧ ((0 : Int) = (0 : Int) ∧ (0 : Int) = (0 : Int) ∧ (0 : Int) = (0 : Int) ∧ (0 : Int) = (0 : Int) ∧ (0 : Int) = (0 : Int) ∧ (0 : Int) = (0 : Int) ∧ (0 : Int) = (0 : Int) ∧ (0 : Int) = (0 : Int) ∧ (0 : Int) = (0 : Int) ∧ (0 : Int) = (0 : Int) ∧ (0 : Int) = (0 : Int) ∧ (0 : Int) = (0 : Int) ∧ (0 : Int) = (0 : Int) ∧ (0 : Int) = (0 : Int) ∧ (0 : Int) = (0 : Int) ∧ (0 : Int) = (0 : Int) ∧ (0 : Int) = (0 : Int) ∧ (0 : Int) = (0 : Int)) ∧ Prod.fst (stepP (a, b, c) p false) = Prod.fst (stepP (a, b, c) p false) ∧ Prod.fst (Prod.snd (stepP (a, b, c) p false)) = Prod.fst (Prod.snd (stepP (a, b, c) p false)) ∧ Prod.snd (Prod.snd (stepP (a, b, c) p false)) = Prod.snd (Prod.snd (stepP (a, b, c) p false))
set_option maxRecDepth 100000 in
theorem mulN4f (us0 : List (LV Fe)) (a b c : Fe)  (p : Pt) : runG Tryz.prog (SMul us0) 60 46 [1, 0, 1, 0, 1, 1] (mulJ a b c .nils false (pB p)) .normal 4 [some (.own 0), some (.own 1), some (.own 2), some (.own 3)] 17 [] (mulM a b c .nils (pB (stepP (a, b, c) p false))) = some (some ((mulN4f_G us0 a b c p))) := by kernel_rfl
--@]
--@gen mulN5 (us0 : List (LV Fe)) (a b c : Fe)  := runG Tryz.prog (SMul us0) 60 46 [1, 1, 1] ⟨tm 17 mulTs, mulM a b c .nils zB, []⟩ .ret 2 [some (.own 0), some (.own 1)] 17 [(4, .ptr (.own 1) 0 [])] [some ⟨.rw, [.abs a, .abs b, .abs c]⟩, some ⟨.rw, zB⟩]
--@[
set_option maxRecDepth 100000 in
def mulN5_G (us0 : List (LV Fe)) (a b c : Fe)  : Prop := true = true ∧ (a = a ∧ b = b ∧ c = c) ∧ (0 : Int) = (0 : Int) ∧ (0 : Int) = (0 : Int) ∧ (0 : Int) = (0 : Int) ∧ (0 : Int) = (0 : Int) ∧ (0 : Int) = (0 : Int) ∧ (0 : Int) = (0 : Int) ∧ (0 : Int) = (0 : Int) ∧ (0 : Int) = (0 : Int) ∧ (0 : Int) = (0 : Int) ∧ (0 : Int) = (0 : Int) ∧ (0 : Int) = (0 : Int) ∧ (0 : Int) = (0 : Int) ∧ (0 : Int) = (0 : Int) ∧ (0 : Int) = (0 : Int) ∧ (0 : Int) = (0 : Int) ∧ (0 : Int) = (0 : Int) ∧ (0 : Int) = (0 : Int) ∧ (0 : Int) = (0 : Int)
set_option maxRecDepth 100000 in
theorem mulN5 (us0 : List (LV Fe)) (a b c : Fe)  : runG Tryz.prog (SMul us0) 60 46 [1, 1, 1] ⟨tm 17 mulTs, mulM a b c .nils zB, []⟩ .ret 2 [some (.own 0), some (.own 1)] 17 [(4, .ptr (.own 1) 0 [])] [some ⟨.rw, [.abs a, .abs b, .abs c]⟩, some ⟨.rw, zB⟩] = some (some ((mulN5_G us0 a b c))) := by kernel_rfl
--@]
--@gen mulN6 (us0 : List (LV Fe)) (a b c : Fe)  (p : Pt) := runG Tryz.prog (SMul us0) 60 46 [1, 1, 1] ⟨tm 17 mulTs, mulM a b c .nils (pB p), []⟩ .ret 2 [some (.own 0), some (.own 1)] 17 [(4, .ptr (.own 1) 0 [])] [some ⟨.rw, [.abs a, .abs b, .abs c]⟩, some ⟨.rw, (pB p)⟩]
--@[
set_option maxRecDepth 100000 in
def mulN6_G (us0 : List (LV Fe)) (a b c : Fe)  (p : Pt) : Prop := true = true ∧ (a = a ∧ b = b ∧ c = c) ∧ Prod.fst p = Prod.fst p ∧ Prod.fst (Prod.snd p) = Prod.fst (Prod.snd p) ∧ Prod.snd (Prod.snd p) = Prod.snd (Prod.snd p)
set_option maxRecDepth 100000 in
theorem mulN6 (us0 : List (LV Fe)) (a b c : Fe)  (p : Pt) : runG Tryz.prog (SMul us0) 60 46 [1, 1, 1] ⟨tm 17 mulTs, mulM a b c .nils (pB p), []⟩ .ret 2 [some (.own 0), some (.own 1)] 17 [(4, .ptr (.own 1) 0 [])] [some ⟨.rw, [.abs a, .abs b, .abs c]⟩, some ⟨.rw, (pB p)⟩] = some (some ((mulN6_G us0 a b c p))) := by kernel_rfl
--@]
end Go.Proofs.YtcedljbapgmdmaaGreat.En

/- DERIVED. So many times a point, as bytes say: the call. -/
set_option linter.all false
namespace Go.Proofs.YtcedljbapgmdmaaGreat.En
open Go Go.RowKit

def mulL (p : Pt) (l : List Bool) : Pt := l.foldl (stepP p) zPt
theorem mulL_snoc (p : Pt) (l : List Bool) (t : Bool) : mulL p (l ++ [t]) = stepP p (mulL p l) t := by simp [mulL]
/-- So many times as bytes say. -/
def mulF (p : Pt) (len : Nat) (zs : Nat → Int) : Pt := mulL p (upto (bitAt zs) (8 * len))
abbrev mulK (p : Pt) : List Bool → List (LV Fe)
  | [] => zB
  | t :: l => pB (mulL p (t :: l))
noncomputable abbrev cdM (p : List Nat) : Code := codeAt Tryz.prog 46 p
structure MulRuns (us0 : List (LV Fe)) (x : LV Fe) : Prop where
  r0 : ∀ a b c, ExB 0 Tryz.prog (inOf [us0]) (cdM [0]) (startS Tryz.f46 [bF [a, b, c], x] []) .normal (mulA a b c x)
  r1 : ∀ a b c, ExB 2 Tryz.prog (inOf [us0]) (cdM [0, 1]) (mulA a b c x) .normal (mulB a b c x)
  r2 : ∀ a b c, ExB 3 Tryz.prog (inOf [us0]) (cdM [0, 0, 1, 1]) (mulB a b c x) .normal ⟨tm 17 mulTs, mulM a b c x zB, []⟩
  sz : ∀ a b c t, ExB 4 Tryz.prog (inOf [us0]) (cdM [1, 0, 1, 0, 1, 1]) (mulJ a b c x t zB) .normal ⟨tm 17 [], mulM a b c x (pB (stepP (a, b, c) zPt t)), []⟩
  sp : ∀ a b c t p, ExB 4 Tryz.prog (inOf [us0]) (cdM [1, 0, 1, 0, 1, 1]) (mulJ a b c x t (pB p)) .normal ⟨tm 17 [], mulM a b c x (pB (stepP (a, b, c) p t)), []⟩
  ez : ∀ a b c, ExB 2 Tryz.prog (inOf [us0]) (cdM [1, 1, 1]) ⟨tm 17 mulTs, mulM a b c x zB, []⟩ .ret ⟨tm 17 [(4, .ptr (.own 1) 0 [])], [some ⟨.rw, [.abs a, .abs b, .abs c]⟩, some ⟨.rw, zB⟩], []⟩
  ep : ∀ a b c p, ExB 2 Tryz.prog (inOf [us0]) (cdM [1, 1, 1]) ⟨tm 17 mulTs, mulM a b c x (pB p), []⟩ .ret ⟨tm 17 [(4, .ptr (.own 1) 0 [])], [some ⟨.rw, [.abs a, .abs b, .abs c]⟩, some ⟨.rw, pB p⟩], []⟩
  fz : ∀ a b c, flatB (mulM a b c x zB) = true
  fp : ∀ a b c p, flatB (mulM a b c x (pB p)) = true
  cell : ∀ ρ, cellsL ρ [x] = [LV.tr ρ x]
  kin : ∀ p : Key → Nat → Prop, (∀ t i m, p (.inp t i) m) → x.kin p
set_option maxRecDepth 100000 in
theorem entBB1 : ∀ args w, (callFunc 122 args).run Tryz.prog w = .ok (.enter 122 args) w := ent_of (f := 122) (P := Tryz.prog) rfl rfl rfl
set_option maxRecDepth 100000 in
theorem entCMul : ∀ args w, (callFunc 46 args).run Tryz.prog w = .ok (.enter 46 args) w := ent_of (f := 46) (P := Tryz.prog) rfl rfl rfl
def oMul : Oper := { dst := some 6, op := .assign (.tmp 9), type := 4, pos := "curve.go:85", after := #[], guard := none }
set_option maxRecDepth 100000 in
theorem f46_body : Tryz.f46.body = some (.seq (cdM [0]) (.seq (cdM [0, 1]) (.seq (.seq (cdM [0, 0, 1, 1]) (.block 0 (.rangeFunc (.tmp 8) #[9] (.region 3 #[oMul] false) (cdM [1, 0, 1, 0, 1, 1])))) (cdM [1, 1, 1])))) := by kernel_rfl
theorem follows_mixed : Tryz.prog.follows .mixedOrders = true := mixed
/-- A call that reads, told of a memory with nothing of its own. -/
theorem told_below {f : FuncId} {us : List (List (LV Fe))} {args : List (LV Fe)} {v : LV Fe} (hv : plainB v = true)
    (h : ∀ (ρ : Key → Loc) (w : World), Ahead (inOf us) (d0 w.heap.size) ρ [] args w → Calls Tryz.prog f (trs ρ args).toArray w fun e w' => e = .returned (LV.tr ρ v) ∧ Below w.heap.size w w') : Told Tryz.prog f us args v [] := by
  intro D ρ w ha
  have ha' : Ahead (inOf us) (d0 w.heap.size) ρ [] args w := ⟨ha.mem, ⟨fun k bl hb => by simp at hb, fun _ _ _ _ _ => trivial⟩, fun b hb => ⟨hb, trivial⟩, ha.kinV, ha.kinM⟩
  refine (h ρ w ha').mono ?_
  rintro e w' ⟨rfl, hb⟩
  exact ⟨ρ, rfl, fun _ _ _ => rfl, ha.mem.below hb, ⟨fun k bl hb => by simp at hb, ha.mine.src⟩, Keeps.of_below hb, pv_kin _ v hv, ha.kinM⟩
set_option maxRecDepth 100000 in
theorem f46_rz (a b c : Fe) : resF Tryz.prog false Tryz.f46 ⟨tm 17 [(4, .ptr (.own 1) 0 [])], [some ⟨.rw, [.abs a, .abs b, .abs c]⟩, some ⟨.rw, zB⟩], []⟩ = some (.agg zB, none) := by kernel_rfl
set_option maxRecDepth 100000 in
theorem f46_rp (a b c : Fe) (p : Pt) : resF Tryz.prog false Tryz.f46 ⟨tm 17 [(4, .ptr (.own 1) 0 [])], [some ⟨.rw, [.abs a, .abs b, .abs c]⟩, some ⟨.rw, pB p⟩], []⟩ = some (ptV p, none) := by kernel_rfl
theorem lt_of_cell {w : World} {a : Addr} {v : Value} (h : w.cell? a = some v) : a.block < w.heap.size := by
  obtain ⟨o, ho, _⟩ := cells_of_cell h
  exact (Array.getElem?_eq_some_iff.1 ho).1
theorem mul_told {us0 : List (LV Fe)} {x : LV Fe} (hR : MulRuns us0 x) {len : Nat} {zs : Nat → Int} (hz : ∀ j, j < len → 0 ≤ zs j ∧ zs j < 256) (hreach : len * 8 ≤ 140737488351232)
    (hB : ∀ (ρ : Key → Loc) (w : World), MemRel (inOf [us0]) ρ [] w → BytesAt w.heap.size w (LV.tr ρ x) len zs) (a b c : Fe) :
    Told Tryz.prog 46 [us0] [bF [a, b, c], x] (ptV (mulF (a, b, c) len zs)) [] := by
  refine told_below rfl fun ρ w ha => ?_
  refine (callsIn_wide (n := 3)).1 (callsIn_of_wp_marks Tryz.func46 f46_body trivial ?_)
  have h0 := start_rl (fn := Tryz.f46) ha rfl
  refine wpIn_seq ((hR.r0 a b c).run _ _ _ _ _ _ h0 (fun ρ1 a1 w1 he1 hr1 => ?_) none 3)
  refine wpIn_seq ((hR.r1 a b c).run _ _ _ _ _ _ hr1 (fun ρ2 a2 w2 he2 hr2 => ?_) none 3)
  refine wpIn_seq (wpIn_seq ((hR.r2 a b c).run _ _ _ _ _ _ hr2 (fun ρ3 a3 w3 he3 hr3 => ?_) none 3))
  refine wpIn_block ?_
  -- where the bytes lie
  have hin : ∀ t i, ρ (.inp t i) = ρ3 (.inp t i) := fun t i =>
    ((he1 (.inp t i) 0 trivial (Nat.zero_le _)).trans (he2 (.inp t i) 0 trivial (Nat.zero_le _))).trans (he3 (.inp t i) 0 trivial (Nat.zero_le _))
  have hx : LV.tr ρ x = LV.tr ρ3 x := tr_congr (p := fun k _ => ∃ t i, k = .inp t i) (fun k m ⟨t, i, e⟩ => by subst e; exact hin t i) x (hR.kin _ fun t i _ => ⟨t, i, rfl⟩)
  have hkeep : Below w.heap.size w w3 := hr3.keeps.below
  have hsv : BytesAt w.heap.size w3 (LV.tr ρ3 x) len zs := by rw [← hx]; exact (hB ρ w ha.mem).below hkeep
  have hcell := hr3.mem.cell (.own 3) ⟨.rw, [x]⟩ rfl 0 (LV.tr ρ3 x) (by rw [hR.cell]; rfl)
  have hseq := bb_stops Fence.wide (3 - 1) trivial rfl (by omega) (ρ3 (.own 3)).blk ((ρ3 (.own 3)).off + 0) w.heap.size (LV.tr ρ3 x) len zs hz hreach w3 (lt_of_cell hcell) hkeep.size hcell hsv
  refine range_run (I := inOf [us0]) hr3 (gf := 122) (caps := [.ptr (.own 3) 0 []]) rfl entBB1 (o := oMul) ⟨rfl, rfl, rfl⟩ (enc := fun t => .bool t) (lv := fun t => .bool t) (fun _ _ => rfl) (fun _ _ => trivial) (by omega) (Nat.lt_of_sub_eq_succ rfl) (B := 4) (bds_at rfl)
    (fun l => mulM a b c x (mulK (a, b, c) l)) rfl (fun l => ?_) (fun l k bl hk _ => ?_) (fun l t => ?_) hseq (fun D W ρ' hb hD hdef => ?_)
  · cases l with
    | nil => exact hR.fz a b c
    | cons t l => exact hR.fp a b c _
  · match k, hk with
    | 0, _ => exact ⟨_, rfl⟩
    | 1, _ => exact ⟨_, rfl⟩
    | 2, _ => exact ⟨_, rfl⟩
    | 3, _ => exact ⟨_, rfl⟩
  · cases l with
    | nil => exact ⟨_, hR.sz a b c t, rfl⟩
    | cons s l =>
      refine ⟨_, hR.sp a b c t (mulL (a, b, c) (s :: l)), ?_⟩
      show mulM a b c x (pB _) = mulM a b c x (pB (mulL (a, b, c) ((s :: l) ++ [t])))
      rw [mulL_snoc]
  · have hok : ∀ (i : Nat) (v : LV Fe), (tm 17 mulTs)[i]? = some v → v.kin fun k m => okB 4 k ∧ okKey (mulM a b c x zB) ρ3 k m := fun i v hv => kin_and v (bds_at rfl i v hv) (hr3.occT i v hv)
    have hl : ∀ l (k : Nat) (bl : Blk Fe), k < 4 → (mulM a b c x zB)[k]? = some (some bl) → ∃ bl', (mulM a b c x (mulK (a, b, c) l))[k]? = some (some bl') := fun l k bl hk _ => by
      match k, hk with
      | 0, _ => exact ⟨_, rfl⟩
      | 1, _ => exact ⟨_, rfl⟩
      | 2, _ => exact ⟨_, rfl⟩
      | 3, _ => exact ⟨_, rfl⟩
    have hf : flatB (mulM a b c x (mulK (a, b, c) (upto (bitAt zs) (8 * len)))) = true := by
      cases upto (bitAt zs) (8 * len) with
      | nil => exact hR.fz a b c
      | cons t l => exact hR.fp a b c _
    have hrl : Rl (inOf [us0]) (dW w.heap.size W [{ target := .collected D, args := #[] }]) W ρ' ⟨tm 17 mulTs, mulM a b c x (mulK (a, b, c) (upto (bitAt zs) (8 * len))), []⟩ { a3 with defers := [{ target := .collected D, args := #[] }] } W :=
      hb.rl (tmps := tm 17 mulTs) (a := { a3 with defers := [{ target := .collected D, args := #[] }] }) hf (hl _) hr3.size hr3.val hok rfl
    show (cdM [1, 1, 1]).wpIn Fence.wide 3 _ _ _ W
    unfold mulF
    generalize upto (bitAt zs) (8 * len) = L at hrl
    cases L with
    | nil =>
      refine (hR.ez a b c).run _ _ _ _ _ _ hrl (fun ρ'' a' W' he hr' => ?_) none 3
      have := range_end (P := Tryz.prog) (n := 3) rfl hr' hb.keeps hdef hD (f46_rz a b c) trivial
      rw [show LV.tr ρ'' (.agg zB : LV Fe) = LV.tr ρ (ptV zPt) from zPt_tr ρ] at this
      exact this
    | cons t l =>
      refine (hR.ep a b c (mulL (a, b, c) (t :: l))).run _ _ _ _ _ _ hrl (fun ρ'' a' W' he hr' => ?_) none 3
      have := range_end (P := Tryz.prog) (n := 3) rfl hr' hb.keeps hdef hD (f46_rp a b c _) trivial
      rw [pv_tr _ rfl ρ'' ρ] at this
      exact this
end Go.Proofs.YtcedljbapgmdmaaGreat.En

/- DERIVED. So many times a point as a contract. -/
set_option linter.all false
namespace Go.Proofs.YtcedljbapgmdmaaGreat.En
open Go Go.RowKit

theorem inOf1_ok {us0 : List (LV Fe)} (h : plainL us0) : InpOk (inOf [us0]) := inOf_ok fun l hl => by rw [List.mem_singleton] at hl; subst hl; exact h
set_option maxRecDepth 100000 in
theorem mulN_runs (us0 : List (LV Fe)) (h : plainL us0) : MulRuns us0 .nils where
  r0 a b c := ExB.auto (SMul_ok us0 h) (inOf1_ok h) rfl mixed 60 [some (.own 0), some (.own 1)] (mulN0 us0 a b c) (by unfold condOk mulN0_G; and_intros <;> first | with_reducible rfl | assumption)
  r1 a b c := ExB.auto (SMul_ok us0 h) (inOf1_ok h) rfl mixed 60 [some (.own 0), some (.own 1), some (.own 2)] (mulN1 us0 a b c) (by unfold condOk mulN1_G; and_intros <;> first | with_reducible rfl | assumption)
  r2 a b c := ExB.auto (SMul_ok us0 h) (inOf1_ok h) rfl mixed 60 [some (.own 0), some (.own 1), some (.own 2), some (.own 3)] (mulN2 us0 a b c) (by unfold condOk mulN2_G; and_intros <;> first | with_reducible rfl | assumption)
  sz a b c t := by
    cases t
    · exact ExB.auto (SMul_ok us0 h) (inOf1_ok h) rfl mixed 60 [some (.own 0), some (.own 1), some (.own 2), some (.own 3)] (mulN3f us0 a b c) (by unfold condOk mulN3f_G; and_intros <;> first | with_reducible rfl | assumption)
    · exact ExB.auto (SMul_ok us0 h) (inOf1_ok h) rfl mixed 60 [some (.own 0), some (.own 1), some (.own 2), some (.own 3)] (mulN3t us0 a b c) (by unfold condOk mulN3t_G; and_intros <;> first | with_reducible rfl | assumption)
  sp a b c t p := by
    cases t
    · exact ExB.auto (SMul_ok us0 h) (inOf1_ok h) rfl mixed 60 [some (.own 0), some (.own 1), some (.own 2), some (.own 3)] (mulN4f us0 a b c p) (by unfold condOk mulN4f_G; and_intros <;> first | with_reducible rfl | assumption)
    · exact ExB.auto (SMul_ok us0 h) (inOf1_ok h) rfl mixed 60 [some (.own 0), some (.own 1), some (.own 2), some (.own 3)] (mulN4t us0 a b c p) (by unfold condOk mulN4t_G; and_intros <;> first | with_reducible rfl | assumption)
  ez a b c := ExB.auto (SMul_ok us0 h) (inOf1_ok h) rfl mixed 60 [some (.own 0), some (.own 1)] (mulN5 us0 a b c) (by unfold condOk mulN5_G; and_intros <;> first | with_reducible rfl | assumption)
  ep a b c p := ExB.auto (SMul_ok us0 h) (inOf1_ok h) rfl mixed 60 [some (.own 0), some (.own 1)] (mulN6 us0 a b c p) (by unfold condOk mulN6_G; and_intros <;> first | with_reducible rfl | assumption)
  fz _ _ _ := rfl
  fp _ _ _ _ := rfl
  cell _ := rfl
  kin p hp := trivial
set_option maxRecDepth 100000 in
theorem mulV_runs (us0 : List (LV Fe)) (h : plainL us0) (n : Nat) : MulRuns us0 (.vec (.inp 0 0) n) where
  r0 a b c := ExB.auto (SMul_ok us0 h) (inOf1_ok h) rfl mixed 60 [some (.own 0), some (.own 1)] (mulV0 us0 a b c n) (by unfold condOk mulV0_G; and_intros <;> first | with_reducible rfl | assumption)
  r1 a b c := ExB.auto (SMul_ok us0 h) (inOf1_ok h) rfl mixed 60 [some (.own 0), some (.own 1), some (.own 2)] (mulV1 us0 a b c n) (by unfold condOk mulV1_G; and_intros <;> first | with_reducible rfl | assumption)
  r2 a b c := ExB.auto (SMul_ok us0 h) (inOf1_ok h) rfl mixed 60 [some (.own 0), some (.own 1), some (.own 2), some (.own 3)] (mulV2 us0 a b c n) (by unfold condOk mulV2_G; and_intros <;> first | with_reducible rfl | assumption)
  sz a b c t := by
    cases t
    · exact ExB.auto (SMul_ok us0 h) (inOf1_ok h) rfl mixed 60 [some (.own 0), some (.own 1), some (.own 2), some (.own 3)] (mulV3f us0 a b c n) (by unfold condOk mulV3f_G; and_intros <;> first | with_reducible rfl | assumption)
    · exact ExB.auto (SMul_ok us0 h) (inOf1_ok h) rfl mixed 60 [some (.own 0), some (.own 1), some (.own 2), some (.own 3)] (mulV3t us0 a b c n) (by unfold condOk mulV3t_G; and_intros <;> first | with_reducible rfl | assumption)
  sp a b c t p := by
    cases t
    · exact ExB.auto (SMul_ok us0 h) (inOf1_ok h) rfl mixed 60 [some (.own 0), some (.own 1), some (.own 2), some (.own 3)] (mulV4f us0 a b c n p) (by unfold condOk mulV4f_G; and_intros <;> first | with_reducible rfl | assumption)
    · exact ExB.auto (SMul_ok us0 h) (inOf1_ok h) rfl mixed 60 [some (.own 0), some (.own 1), some (.own 2), some (.own 3)] (mulV4t us0 a b c n p) (by unfold condOk mulV4t_G; and_intros <;> first | with_reducible rfl | assumption)
  ez a b c := ExB.auto (SMul_ok us0 h) (inOf1_ok h) rfl mixed 60 [some (.own 0), some (.own 1)] (mulV5 us0 a b c n) (by unfold condOk mulV5_G; and_intros <;> first | with_reducible rfl | assumption)
  ep a b c p := ExB.auto (SMul_ok us0 h) (inOf1_ok h) rfl mixed 60 [some (.own 0), some (.own 1)] (mulV6 us0 a b c n p) (by unfold condOk mulV6_G; and_intros <;> first | with_reducible rfl | assumption)
  fz _ _ _ := rfl
  fp _ _ _ _ := rfl
  cell _ := rfl
  kin p hp := hp _ _ _
set_option maxRecDepth 100000 in
theorem mulS_runs (us0 : List (LV Fe)) (h : plainL us0) (len cap : Nat) : MulRuns us0 (.slice (.inp 0 0) 0 [] len cap) where
  r0 a b c := ExB.auto (SMul_ok us0 h) (inOf1_ok h) rfl mixed 60 [some (.own 0), some (.own 1)] (mulS0 us0 a b c len cap) (by unfold condOk mulS0_G; and_intros <;> first | with_reducible rfl | assumption)
  r1 a b c := ExB.auto (SMul_ok us0 h) (inOf1_ok h) rfl mixed 60 [some (.own 0), some (.own 1), some (.own 2)] (mulS1 us0 a b c len cap) (by unfold condOk mulS1_G; and_intros <;> first | with_reducible rfl | assumption)
  r2 a b c := ExB.auto (SMul_ok us0 h) (inOf1_ok h) rfl mixed 60 [some (.own 0), some (.own 1), some (.own 2), some (.own 3)] (mulS2 us0 a b c len cap) (by unfold condOk mulS2_G; and_intros <;> first | with_reducible rfl | assumption)
  sz a b c t := by
    cases t
    · exact ExB.auto (SMul_ok us0 h) (inOf1_ok h) rfl mixed 60 [some (.own 0), some (.own 1), some (.own 2), some (.own 3)] (mulS3f us0 a b c len cap) (by unfold condOk mulS3f_G; and_intros <;> first | with_reducible rfl | assumption)
    · exact ExB.auto (SMul_ok us0 h) (inOf1_ok h) rfl mixed 60 [some (.own 0), some (.own 1), some (.own 2), some (.own 3)] (mulS3t us0 a b c len cap) (by unfold condOk mulS3t_G; and_intros <;> first | with_reducible rfl | assumption)
  sp a b c t p := by
    cases t
    · exact ExB.auto (SMul_ok us0 h) (inOf1_ok h) rfl mixed 60 [some (.own 0), some (.own 1), some (.own 2), some (.own 3)] (mulS4f us0 a b c len cap p) (by unfold condOk mulS4f_G; and_intros <;> first | with_reducible rfl | assumption)
    · exact ExB.auto (SMul_ok us0 h) (inOf1_ok h) rfl mixed 60 [some (.own 0), some (.own 1), some (.own 2), some (.own 3)] (mulS4t us0 a b c len cap p) (by unfold condOk mulS4t_G; and_intros <;> first | with_reducible rfl | assumption)
  ez a b c := ExB.auto (SMul_ok us0 h) (inOf1_ok h) rfl mixed 60 [some (.own 0), some (.own 1)] (mulS5 us0 a b c len cap) (by unfold condOk mulS5_G; and_intros <;> first | with_reducible rfl | assumption)
  ep a b c p := ExB.auto (SMul_ok us0 h) (inOf1_ok h) rfl mixed 60 [some (.own 0), some (.own 1)] (mulS6 us0 a b c len cap p) (by unfold condOk mulS6_G; and_intros <;> first | with_reducible rfl | assumption)
  fz _ _ _ := rfl
  fp _ _ _ _ := rfl
  cell _ := rfl
  kin p hp := hp _ _ _
set_option maxRecDepth 100000 in
theorem mulQ_runs (us0 : List (LV Fe)) (h : plainL us0) (i len cap : Nat) : MulRuns us0 (.slice (.inp 0 0) 0 [⟨i, 1, 0⟩] len cap) where
  r0 a b c := ExB.auto (SMul_ok us0 h) (inOf1_ok h) rfl mixed 60 [some (.own 0), some (.own 1)] (mulQ0 us0 a b c i len cap) (by unfold condOk mulQ0_G; and_intros <;> first | with_reducible rfl | assumption)
  r1 a b c := ExB.auto (SMul_ok us0 h) (inOf1_ok h) rfl mixed 60 [some (.own 0), some (.own 1), some (.own 2)] (mulQ1 us0 a b c i len cap) (by unfold condOk mulQ1_G; and_intros <;> first | with_reducible rfl | assumption)
  r2 a b c := ExB.auto (SMul_ok us0 h) (inOf1_ok h) rfl mixed 60 [some (.own 0), some (.own 1), some (.own 2), some (.own 3)] (mulQ2 us0 a b c i len cap) (by unfold condOk mulQ2_G; and_intros <;> first | with_reducible rfl | assumption)
  sz a b c t := by
    cases t
    · exact ExB.auto (SMul_ok us0 h) (inOf1_ok h) rfl mixed 60 [some (.own 0), some (.own 1), some (.own 2), some (.own 3)] (mulQ3f us0 a b c i len cap) (by unfold condOk mulQ3f_G; and_intros <;> first | with_reducible rfl | assumption)
    · exact ExB.auto (SMul_ok us0 h) (inOf1_ok h) rfl mixed 60 [some (.own 0), some (.own 1), some (.own 2), some (.own 3)] (mulQ3t us0 a b c i len cap) (by unfold condOk mulQ3t_G; and_intros <;> first | with_reducible rfl | assumption)
  sp a b c t p := by
    cases t
    · exact ExB.auto (SMul_ok us0 h) (inOf1_ok h) rfl mixed 60 [some (.own 0), some (.own 1), some (.own 2), some (.own 3)] (mulQ4f us0 a b c i len cap p) (by unfold condOk mulQ4f_G; and_intros <;> first | with_reducible rfl | assumption)
    · exact ExB.auto (SMul_ok us0 h) (inOf1_ok h) rfl mixed 60 [some (.own 0), some (.own 1), some (.own 2), some (.own 3)] (mulQ4t us0 a b c i len cap p) (by unfold condOk mulQ4t_G; and_intros <;> first | with_reducible rfl | assumption)
  ez a b c := ExB.auto (SMul_ok us0 h) (inOf1_ok h) rfl mixed 60 [some (.own 0), some (.own 1)] (mulQ5 us0 a b c i len cap) (by unfold condOk mulQ5_G; and_intros <;> first | with_reducible rfl | assumption)
  ep a b c p := ExB.auto (SMul_ok us0 h) (inOf1_ok h) rfl mixed 60 [some (.own 0), some (.own 1)] (mulQ6 us0 a b c i len cap p) (by unfold condOk mulQ6_G; and_intros <;> first | with_reducible rfl | assumption)
  fz _ _ _ := rfl
  fp _ _ _ _ := rfl
  cell _ := rfl
  kin p hp := hp _ _ _

theorem bytesAt_of {us0 : List (LV Fe)} {ρ : Key → Loc} {w : World} (hm : MemRel (inOf [us0]) ρ [] w) {i len cap : Nat} {zs : Nat → Int} (hc : ∀ j, j < len → (cellsL ρ us0)[i + j]? = some (.int .u8 (zs j))) : BytesAt w.heap.size w (.slice (some ((ρ (.inp 0 0)).at i)) len cap) len zs := by
  rcases Nat.eq_zero_or_pos len with rfl | hp
  · exact .inl ⟨_, _, rfl, rfl⟩
  · have h0 := hc 0 hp
    have hlt := (List.getElem?_eq_some_iff.1 h0).1
    rw [len_cellsL] at hlt
    have hn : (ρ (.inp 0 0)).none = false := by
      cases hn : (ρ (.inp 0 0)).none with
      | false => rfl
      | true =>
        have : cszL us0 = 0 := hm.empt (.inp 0 0) ⟨.ro, us0⟩ rfl hn
        omega
    refine .inr ⟨_, _, _, rfl, hm.inb (.inp 0 0) ⟨.ro, us0⟩ rfl rfl hn, fun j hj => ?_⟩
    have := hm.cell (.inp 0 0) ⟨.ro, us0⟩ rfl (i + j) _ (hc j hj)
    rw [show (ρ (.inp 0 0)).at (i + j) = ⟨(ρ (.inp 0 0)).blk, (ρ (.inp 0 0)).off + i + j, none⟩ by show (⟨_, _, _⟩ : Addr) = _; rw [Nat.add_assoc]] at this
    exact this
theorem rows_cell (ρ : Key → Loc) {n : Nat} {f : Nat → Int} {j : Nat} (h : j < n) : (cellsL ρ [(.rows n 1 fun j => [.int .u8 (f j)] : LV Fe)])[j]? = some (.int .u8 (f j)) := by
  rw [cellsL_rows]
  have := get_rows 1 (fun j => fitTo 1 (cellsL ρ [(.int .u8 (f j) : LV Fe)])) (fun _ => len_fitTo _ _) n j 0 h (by omega)
  rw [Nat.mul_one, Nat.add_zero] at this
  exact this
end Go.Proofs.YtcedljbapgmdmaaGreat.En

/- DERIVED. So many times a point, as bytes say: the contract. -/
set_option linter.all false
namespace Go.Proofs.YtcedljbapgmdmaaGreat.En
open Go Go.RowKit

/-! ## bytes in a block -/
def flatI (k : IntKind) : List (LV Fe) → Option (List Int)
  | [] => some []
  | .int k' x :: l => match decide (k' = k), flatI k l with
    | true, some t => some (x :: t)
    | _, _ => none
  | _ => none
theorem flatI_some {k : IntKind} : ∀ {us : List (LV Fe)} {l : List Int}, flatI k us = some l → us = l.map fun x => .int k x
  | [], l, h => by cases h; rfl
  | .int k' x :: us, l, h => by
    simp only [flatI] at h
    split at h
    · rename_i t hk ht
      cases h
      have hk := of_decide_eq_true hk
      subst hk
      rw [flatI_some ht]; rfl
    · cases h
  | .any :: _, _, h => by cases h
  | .undef :: _, _, h => by cases h
  | .bool _ :: _, _, h => by cases h
  | .str _ :: _, _, h => by cases h
  | .ptr _ _ _ :: _, _, h => by cases h
  | .nilp :: _, _, h => by cases h
  | .slice _ _ _ _ _ :: _, _, h => by cases h
  | .vec _ _ :: _, _, h => by cases h
  | .nils :: _, _, h => by cases h
  | .nilfn :: _, _, h => by cases h
  | .niliface :: _, _, h => by cases h
  | .abs _ :: _, _, h => by cases h
  | .rows _ _ _ :: _, _, h => by cases h
  | .agg _ :: _, _, h => by cases h
  | .tup _ :: _, _, h => by cases h
  | .iface _ _ :: _, _, h => by cases h
  | .func _ _ :: _, _, h => by cases h
theorem plain_ints (k : IntKind) : ∀ l : List Int, plainL (l.map fun x => (.int k x : LV Fe))
  | [] => trivial
  | _ :: l => ⟨trivial, plain_ints k l⟩
theorem cells_flat (ρ : Key → Loc) (k : IntKind) : ∀ l : List Int, cellsL ρ (l.map fun x => (.int k x : LV Fe)) = l.map fun x => .int k x
  | [] => rfl
  | x :: l => by simp [cellsL, LV.cells, cells_flat ρ k l]
/-- A block of bytes: what it holds, told plainly. -/
structure Bys where
  us : List (LV Fe)
  n : Nat
  f : Nat → Int
  c : Prop
def bysU (us : List (LV Fe)) : Option Bys := match flatI .u8 us with
  | some l => some ⟨us, l.length, fun j => l.getD j 0, true = true⟩
  | none => match us with
    | [.rows n z g] => match Nat.beq z 1 with
      | true => some ⟨[.rows n 1 fun j => [.int .u8 (byteOf (g j))]], n, fun j => byteOf (g j), ∀ j, j < n → Like (g j) [.int .u8 (byteOf (g j))]⟩
      | false => none
    | _ => none
def bysOf (I : Inp Fe) (mem : Mem Fe) (k : Key) : Option Bys := match at? I mem k with
  | some bl => match isDead bl.kd with
    | false => bysU bl.us
    | true => none
  | none => none
theorem bysU_ok {us : List (LV Fe)} {b : Bys} (h : bysU us = some b) (hc : b.c) : plainL b.us ∧ Like us b.us ∧ ∀ ρ j, j < b.n → (cellsL ρ b.us)[j]? = some (.int .u8 (b.f j)) := by
  unfold bysU at h
  split at h
  · rename_i l hl
    cases h
    have e := flatI_some hl
    refine ⟨by rw [e]; exact plain_ints _ l, Like.refl _, fun ρ j hj => ?_⟩
    show (cellsL ρ us)[j]? = _
    rw [e, cells_flat, List.getElem?_map]
    have hj : j < l.length := hj
    simp [hj]
  · split at h
    · rename_i n z g _
      split at h
      · rename_i hz
        cases h
        have hz := beqN hz
        subst hz
        exact ⟨⟨fun _ => ⟨trivial, trivial⟩, trivial⟩, Like.rows hc fun i _ p _ => ⟨trivial, trivial⟩, fun ρ j hj => rows_cell ρ hj⟩
      · cases h
    · cases h
theorem bysOf_ok {I : Inp Fe} {mem : Mem Fe} {k : Key} {b : Bys} (h : bysOf I mem k = some b) (hc : b.c) : ∃ bl, at? I mem k = some bl ∧ isDead bl.kd = false ∧ plainL b.us ∧ Like bl.us b.us ∧ ∀ ρ j, j < b.n → (cellsL ρ b.us)[j]? = some (.int .u8 (b.f j)) := by
  unfold bysOf at h
  split at h
  · rename_i bl hb
    split at h
    · rename_i hd
      obtain ⟨h1, h2, h3⟩ := bysU_ok h hc
      exact ⟨bl, hb, hd, h1, h2, h3⟩
    · cases h
  · cases h
def rngB (f : Nat → Int) (i len : Nat) : Prop := ∀ j, j < len → 0 ≤ f (i + j) ∧ f (i + j) < 256

/-! ## groups of elements are plain -/
theorem pF_plain {l t : List (LV Fe)} {a : Fe} (h : pF l = some (a, t)) (ht : plainL t) : plainL l := by
  unfold pF at h
  split at h
  · cases h; exact ⟨trivial, ht⟩
  · split at h
    · cases h; exact ⟨trivial, trivial, trivial, trivial, trivial, trivial, ht⟩
    · cases h
  · cases h
theorem pFs_plain : ∀ (n : Nat) (l : List (LV Fe)) (t : List Fe), pFs n l = some t → plainL l
  | 0, [], _, _ => trivial
  | 0, _ :: _, t, h => by simp [pFs] at h
  | n + 1, l, t, h => by
    simp only [pFs] at h
    split at h
    · rename_i a r hp
      split at h
      · rename_i t' ht
        exact pF_plain hp (pFs_plain n r t' ht)
      · cases h
    · cases h
theorem pA_plain : ∀ (ks : List Nat) (vs : List (LV Fe)) (xs : List (List Fe)), pA ks vs = some xs → plainL vs
  | [], vs, xs, h => by
    unfold pA at h
    split at h
    · trivial
    · cases h
  | k :: ks, vs, xs, h => by
    unfold pA at h
    split at h
    · rename_i l t
      split at h
      · rename_i a ha
        split at h
        · rename_i b hb
          exact ⟨pFs_plain k l a ha, pA_plain ks t b hb⟩
        · cases h
      · cases h
    · cases h
theorem told_group {f : FuncId} {us : List (List (LV Fe))} {u x : LV Fe} {k : Nat} {xs : List Fe} {v : LV Fe} {bls : List (Blk Fe)} (hu : pA [k] [u] = some [xs]) (h : Told Tryz.prog f us [bF xs, x] v bls) : Told Tryz.prog f us [u, x] v bls := by
  intro D ρ w ha
  have e := (pA_trs _ _ _ hu).2 ρ
  have e : LV.tr ρ u = LV.tr ρ (bF xs) := by
    have : [LV.tr ρ u] = [LV.tr ρ (bF xs)] := e
    exact List.head_eq_of_cons_eq this
  have e2 : trs ρ [u, x] = trs ρ [bF xs, x] := by simp only [trs, e]
  rw [e2]
  refine h D ρ w ⟨ha.mem, ha.mine, ha.new, ⟨?_, ha.kinV.2⟩, ha.kinM⟩
  have : ∀ l : List Fe, plainL (absL l) := fun l => by
    induction l with
    | nil => trivial
    | cons a l ih => exact ⟨trivial, ih⟩
  exact plain_kin _ _ (show LV.plain (bF xs) from this xs)

/-! ## the contract -/
def cmulC (I : Inp Fe) (vs : List (LV Fe)) (mem : Mem Fe) : Option (RdC Fe) := match vs with
  | [u, x] => match pA [3] [u] with
    | some [[a, b, c]] => match x with
      | .nils => some ⟨[], [], [u, .nils], ptV (mulF (a, b, c) 0 fun _ => 0), [], true = true⟩
      | .vec k n => match bysOf I mem k with
        | some y => some ⟨[y.us], [k], [u, .vec (.inp 0 0) n], ptV (mulF (a, b, c) n y.f), [], y.c ∧ y.n = n ∧ rngB y.f 0 n ∧ n * 8 ≤ 140737488351232⟩
        | none => none
      | .slice k o q len cap => match o, q with
        | 0, [] => match bysOf I mem k with
          | some y => some ⟨[y.us], [k], [u, .slice (.inp 0 0) 0 [] len cap], ptV (mulF (a, b, c) len y.f), [], y.c ∧ len ≤ y.n ∧ rngB y.f 0 len ∧ len * 8 ≤ 140737488351232⟩
          | none => none
        | 0, [s] => match Nat.beq s.z 1, Nat.beq s.o 0, bysOf I mem k with
          | true, true, some y => some ⟨[y.us], [k], [u, .slice (.inp 0 0) 0 [⟨s.i, 1, 0⟩] len cap], ptV (mulF (a, b, c) len fun j => y.f (s.i + j)), [], y.c ∧ s.i + len ≤ y.n ∧ rngB y.f s.i len ∧ len * 8 ≤ 140737488351232⟩
          | _, _, _ => none
        | _, _ => none
      | _ => none
    | _ => none
  | _ => none
theorem nil_bytes (ρ : Key → Loc) (w : World) (n0 : Nat) : BytesAt n0 w (LV.tr ρ (.nils : LV Fe)) 0 fun _ => 0 := .inl ⟨none, 0, rfl, rfl⟩
/-- What a contract of one group and one slice owes. -/
theorem rdOk_gs {f : FuncId} {I : Inp Fe} {mem : Mem Fe} {u x x' : LV Fe} {k : Key} {y : Bys} {v : LV Fe} {c : Prop} (hu : plainL [u]) (hv : LV.plain v) (hx : x'.ren (keyMap [] (ιOf [k])) = x ∧ x'.fit (keyMap [] (ιOf [k])) (there ([] : Mem Fe))) (hy : bysOf I mem k = some y) (hc : y.c) (h : Told Tryz.prog f [y.us] [u, x'] v []) :
    RdOk Tryz.prog f I [u, x] mem ⟨[y.us], [k], [u, x'], v, [], c⟩ where
  args := by
    show [u.ren _, x'.ren _] = [u, x]
    rw [(plain_ren _ (fun _ => True) u hu.1).1, hx.1]
  fit := ⟨(plain_ren _ _ u hu.1).2, hx.2, trivial⟩
  len := rfl
  blk j k' us hk hus := by
    match j with
    | 0 =>
      cases hk; cases hus
      obtain ⟨bl, h1, h2, h3, h4, _⟩ := bysOf_ok hy hc
      exact ⟨bl, h1, h2, h3, h4⟩
    | j + 1 => simp at hk
  told := h
  fitv := (plain_ren _ _ v hv).2
  fitb b hb := absurd hb List.not_mem_nil
theorem cmul_ok : ∀ I vs mem r, cmulC I vs mem = some r → r.c → RdOk Tryz.prog 46 I vs mem r := by
  intro I vs mem r h hc
  unfold cmulC at h
  split at h
  · rename_i u x
    split at h
    · rename_i a b c hu
      have hpu := pA_plain _ _ _ hu
      split at h
      · cases h
        have ht : Told Tryz.prog 46 [[]] [u, .nils] (ptV (mulF (a, b, c) 0 fun _ => 0)) [] := told_group hu (mul_told (mulN_runs [] trivial) (fun j hj => absurd hj (Nat.not_lt_zero j)) (by omega) (fun ρ w _ => nil_bytes ρ w _) a b c)
        have e : inOf (A := Fe) [[]] = inOf [] := by
          funext t i
          cases t with
          | zero => cases i <;> rfl
          | succ t => rfl
        unfold Told at ht
        rw [e] at ht
        exact {
          args := by
            show [u.ren _, _] = [u, _]
            rw [(plain_ren _ (fun _ => True) u hpu.1).1]; rfl
          fit := ⟨(plain_ren _ _ u hpu.1).2, trivial, trivial⟩
          len := rfl
          blk := fun j k us hk hus => by simp at hk
          told := ht
          fitv := (plain_ren _ _ _ (show LV.plain (ptV _) from ⟨trivial, trivial, trivial, trivial⟩)).2
          fitb := fun b hb => absurd hb List.not_mem_nil }
      · rename_i k n
        split at h
        · rename_i y hy
          cases h
          obtain ⟨h1, h2, h3, h4⟩ := hc
          obtain ⟨bl, _, _, hpl, _, hcell⟩ := bysOf_ok hy h1
          refine rdOk_gs hpu ⟨trivial, trivial, trivial, trivial⟩ ⟨rfl, ⟨fun e => by simp [keyMap, ιOf] at e, trivial⟩⟩ hy h1 (told_group hu (mul_told (mulV_runs y.us hpl n) (fun j hj => by simpa using h3 j hj) h4 (fun ρ w hm => ?_) a b c))
          subst h2
          show BytesAt w.heap.size w (vecV (ρ (.inp 0 0)) y.n) y.n y.f
          unfold vecV
          split
          · rename_i hv
            simp only [Bool.and_eq_true] at hv
            exact .inl ⟨_, 0, rfl, beqN hv.2⟩
          · exact bytesAt_of hm fun j hj => by rw [Nat.zero_add]; exact hcell ρ j hj
        · cases h
      · rename_i k o q len cap
        split at h
        · split at h
          · rename_i y hy
            cases h
            obtain ⟨h1, h2, h3, h4⟩ := hc
            obtain ⟨bl, _, _, hpl, _, hcell⟩ := bysOf_ok hy h1
            refine rdOk_gs hpu ⟨trivial, trivial, trivial, trivial⟩ ⟨rfl, ⟨by simp [keyMap, ιOf], trivial⟩⟩ hy h1 (told_group hu (mul_told (mulS_runs y.us hpl len cap) (fun j hj => by simpa using h3 j hj) h4 (fun ρ w hm => ?_) a b c))
            exact bytesAt_of (i := 0) hm fun j hj => by rw [Nat.zero_add]; exact hcell ρ j (by omega)
          · cases h
        · rename_i s
          split at h
          · rename_i y hz ho hy
            cases h
            obtain ⟨h1, h2, h3, h4⟩ := hc
            obtain ⟨bl, _, _, hpl, _, hcell⟩ := bysOf_ok hy h1
            have hz := beqN hz
            have ho := beqN ho
            obtain ⟨si, sz, so⟩ := s
            subst hz; subst ho
            refine rdOk_gs hpu ⟨trivial, trivial, trivial, trivial⟩ ⟨rfl, ⟨by simp [keyMap, ιOf], trivial⟩⟩ hy h1 (told_group hu (mul_told (mulQ_runs y.us hpl si len cap) h3 h4 (fun ρ w hm => ?_) a b c))
            exact bytesAt_of (i := 0 + si * 1 + 0) hm fun j hj => by rw [show 0 + si * 1 + 0 + j = si + j by omega]; exact hcell ρ (si + j) (by have h2 : si + len ≤ y.n := h2; omega)
          · cases h
        · cases h
      · cases h
    · cases h
  · cases h
noncomputable def conCMul : ConC Tryz.prog Fe := conRd 46 entCMul cmulC cmul_ok
end Go.Proofs.YtcedljbapgmdmaaGreat.En

/- DERIVED. Powers of an element by written digits. -/
set_option linter.all false
namespace Go.Proofs.YtcedljbapgmdmaaGreat.En
open Go Go.RowKit

def fone : Fe := ofSix 0x760900000002fffd 0xebf4000bc40c0002 0x5f48985753c758ba 0x77ce585370525745 0x5c071a97a256ec6d 0x15f65ec3fa80e493
def sq4 (o : Fe) : Fe :=
  let x := fmul o o
  let y := fmul x x
  let z := fmul y y
  fmul z z
def tabF (a : Fe) : Nat → Fe
  | 0 => fone
  | n + 1 => fmul (tabF a n) a
def digF (a o : Fe) : Nat → Fe
  | 0 => o
  | d + 1 => fmul o (tabF a (d + 1))
def powG (a : Fe) : List Nat → Fe → Fe
  | [], o => o
  | d :: l, o => powG a l (digF a (sq4 o) d)
def powF (a : Fe) : List Nat → Fe
  | [] => fone
  | d :: l => powG a l (digF a fone d)
/-- Hexadecimal digits. -/
def hexD : List UInt8 → List Nat
  | [] => []
  | c :: l => (match Nat.ble 97 c.toNat with
    | true => c.toNat - 87
    | false => c.toNat - 48) :: hexD l
def sLess2 : List UInt8 := [49, 97, 48, 49, 49, 49, 101, 97, 51, 57, 55, 102, 101, 54, 57, 97, 52, 98, 49, 98, 97, 55, 98, 54, 52, 51, 52, 98, 97, 99, 100, 55, 54, 52, 55, 55, 52, 98, 56, 52, 102, 51, 56, 53, 49, 50, 98, 102, 54, 55, 51, 48, 100, 50, 97, 48, 102, 54, 98, 48, 102, 54, 50, 52, 49, 101, 97, 98, 102, 102, 102, 101, 98, 49, 53, 51, 102, 102, 102, 102, 98, 57, 102, 101, 102, 102, 102, 102, 102, 102, 102, 102, 97, 97, 97, 57]
def sQuarter : List UInt8 := [54, 56, 48, 52, 52, 55, 97, 56, 101, 53, 102, 102, 57, 97, 54, 57, 50, 99, 54, 101, 57, 101, 100, 57, 48, 100, 50, 101, 98, 51, 53, 100, 57, 49, 100, 100, 50, 101, 49, 51, 99, 101, 49, 52, 52, 97, 102, 100, 57, 99, 99, 51, 52, 97, 56, 51, 100, 97, 99, 51, 100, 56, 57, 48, 55, 97, 97, 102, 102, 102, 102, 97, 99, 53, 52, 102, 102, 102, 102, 101, 101, 55, 102, 98, 102, 102, 102, 102, 102, 102, 102, 101, 97, 97, 98]
--@run powA (a : Fe) := callF Tryz.prog SG1 300 100 [bF [a], .str ⟨⟨sLess2⟩⟩] [] => .agg [.abs (powF a (hexD sLess2))]
--@[
set_option maxRecDepth 100000 in
def powA_G (a : Fe) : Prop := (true = true ∧ true = true ∧ true = true) ∧ (true = true ∧ true = true ∧ true = true) ∧ (true = true ∧ true = true ∧ true = true) ∧ (true = true ∧ true = true ∧ true = true) ∧ (true = true ∧ true = true ∧ true = true) ∧ (true = true ∧ true = true ∧ true = true) ∧ (true = true ∧ true = true ∧ true = true) ∧ (true = true ∧ true = true ∧ true = true) ∧ (true = true ∧ true = true ∧ true = true) ∧ (true = true ∧ true = true ∧ true = true) ∧ (true = true ∧ true = true ∧ true = true) ∧ (true = true ∧ true = true ∧ true = true) ∧ (true = true ∧ true = true ∧ true = true) ∧ (true = true ∧ true = true ∧ true = true) ∧ (true = true ∧ true = true ∧ true = true) ∧ (true = true ∧ true = true ∧ true = true) ∧ (true = true ∧ true = true) ∧ (true = true ∧ true = true) ∧ true = true ∧ (true = true ∧ true = true) ∧ true = true ∧ true = true ∧ (true = true ∧ true = true) ∧ true = true ∧ (true = true ∧ true = true) ∧ true = true ∧ (true = true ∧ true = true) ∧ true = true ∧ (true = true ∧ true = true) ∧ true = true ∧ (true = true ∧ true = true) ∧ true = true ∧ (true = true ∧ true = true) ∧ true = true ∧ (true = true ∧ true = true) ∧ true = true ∧ (true = true ∧ true = true) ∧ true = true ∧ (true = true ∧ true = true) ∧ true = true ∧ (true = true ∧ true = true) ∧ true = true ∧ (true = true ∧ true = true) ∧ true = true ∧ (true = true ∧ true = true) ∧ true = true ∧ (true = true ∧ true = true) ∧ true = true ∧ (true = true ∧ true = true) ∧ true = true ∧ (true = true ∧ true = true) ∧ true = true ∧ (true = true ∧ true = true) ∧ true = true ∧ (true = true ∧ true = true) ∧ true = true ∧ (true = true ∧ true = true) ∧ true = true ∧ (true = true ∧ true = true) ∧ true = true ∧ (true = true ∧ true = true) ∧ true = true ∧ (true = true ∧ true = true) ∧ true = true ∧ (true = true ∧ true = true) ∧ true = true ∧ (true = true ∧ true = true) ∧ true = true ∧ (true = true ∧ true = true) ∧ true = true ∧ (true = true ∧ true = true) ∧ true = true ∧ (true = true ∧ true = true) ∧ true = true ∧ (true = true ∧ true = true) ∧ true = true ∧ (true = true ∧ true = true) ∧ true = true ∧ (true = true ∧ true = true) ∧ true = true ∧ (true = true ∧ true = true) ∧ true = true ∧ (true = true ∧ true = true) ∧ true = true ∧ (true = true ∧ true = true) ∧ true = true ∧ (true = true ∧ true = true) ∧ true = true ∧ (true = true ∧ true = true) ∧ true = true ∧ (true = true ∧ true = true) ∧ true = true ∧ (true = true ∧ true = true) ∧ true = true ∧ (true = true ∧ true = true) ∧ true = true ∧ (true = true ∧ true = true) ∧ true = true ∧ (true = true ∧ true = true) ∧ true = true ∧ (true = true ∧ true = true) ∧ true = true ∧ (true = true ∧ true = true) ∧ true = true ∧ (true = true ∧ true = true) ∧ true = true ∧ (true = true ∧ true = true) ∧ true = true ∧ (true = true ∧ true = true) ∧ true = true ∧ (true = true ∧ true = true) ∧ true = true ∧ (true = true ∧ true = true) ∧ true = true ∧ (true = true ∧ true = true) ∧ true = true ∧ (true = true ∧ true = true) ∧ true = true ∧ true = true ∧ (true = true ∧ true = true) ∧ true = true ∧ (true = true ∧ true = true) ∧ true = true ∧ (true = true ∧ true = true) ∧ true = true ∧ true = true ∧ (true = true ∧ true = true) ∧ true = true ∧ (true = true ∧ true = true) ∧ true = true ∧ (true = true ∧ true = true) ∧ true = true ∧ true = true ∧ (true = true ∧ true = true) ∧ true = true ∧ (true = true ∧ true = true) ∧ true = true ∧ (true = true ∧ true = true) ∧ true = true ∧ (true = true ∧ true = true) ∧ true = true ∧ (true = true ∧ true = true) ∧ true = true ∧ (true = true ∧ true = true) ∧ true = true ∧ (true = true ∧ true = true) ∧ true = true ∧ (true = true ∧ true = true) ∧ true = true ∧ (true = true ∧ true = true) ∧ true = true ∧ (true = true ∧ true = true) ∧ true = true ∧ (true = true ∧ true = true) ∧ true = true ∧ (true = true ∧ true = true) ∧ true = true ∧ (true = true ∧ true = true) ∧ true = true ∧ (true = true ∧ true = true) ∧ true = true ∧ (true = true ∧ true = true) ∧ true = true ∧ (true = true ∧ true = true) ∧ true = true ∧ (true = true ∧ true = true) ∧ true = true ∧ (true = true ∧ true = true) ∧ true = true ∧ (true = true ∧ true = true) ∧ true = true ∧ (true = true ∧ true = true) ∧ true = true ∧ (true = true ∧ true = true) ∧ true = true ∧ (true = true ∧ true = true) ∧ true = true ∧ (true = true ∧ true = true) ∧ true = true ∧ (true = true ∧ true = true) ∧ true = true ∧ (true = true ∧ true = true) ∧ true = true ∧ (true = true ∧ true = true) ∧ true = true ∧ (true = true ∧ true = true) ∧ true = true ∧ (true = true ∧ true = true) ∧ true = true ∧ (true = true ∧ true = true) ∧ true = true ∧ (true = true ∧ true = true) ∧ true = true ∧ (true = true ∧ true = true) ∧ true = true ∧ (true = true ∧ true = true) ∧ true = true ∧ (true = true ∧ true = true) ∧ true = true ∧ (true = true ∧ true = true) ∧ true = true ∧ (true = true ∧ true = true) ∧ true = true ∧ (true = true ∧ true = true) ∧ true = true
set_option maxRecDepth 100000 in
theorem powA (a : Fe) : (callF Tryz.prog SG1 300 100 [bF [a], .str ⟨⟨sLess2⟩⟩] []).map (fun r => (r.1, r.2.2)) = some (.agg [.abs (powF a (hexD sLess2))], some (powA_G a)) := by kernel_rfl
--@]
--@run powB (a : Fe) := callF Tryz.prog SG1 300 100 [bF [a], .str ⟨⟨sQuarter⟩⟩] [] => .agg [.abs (powF a (hexD sQuarter))]
--@[
set_option maxRecDepth 100000 in
def powB_G (a : Fe) : Prop := (true = true ∧ true = true ∧ true = true) ∧ (true = true ∧ true = true ∧ true = true) ∧ (true = true ∧ true = true ∧ true = true) ∧ (true = true ∧ true = true ∧ true = true) ∧ (true = true ∧ true = true ∧ true = true) ∧ (true = true ∧ true = true ∧ true = true) ∧ (true = true ∧ true = true ∧ true = true) ∧ (true = true ∧ true = true ∧ true = true) ∧ (true = true ∧ true = true ∧ true = true) ∧ (true = true ∧ true = true ∧ true = true) ∧ (true = true ∧ true = true ∧ true = true) ∧ (true = true ∧ true = true ∧ true = true) ∧ (true = true ∧ true = true ∧ true = true) ∧ (true = true ∧ true = true ∧ true = true) ∧ (true = true ∧ true = true ∧ true = true) ∧ (true = true ∧ true = true ∧ true = true) ∧ (true = true ∧ true = true) ∧ (true = true ∧ true = true) ∧ true = true ∧ (true = true ∧ true = true) ∧ true = true ∧ true = true ∧ (true = true ∧ true = true) ∧ true = true ∧ (true = true ∧ true = true) ∧ true = true ∧ (true = true ∧ true = true) ∧ true = true ∧ (true = true ∧ true = true) ∧ true = true ∧ (true = true ∧ true = true) ∧ true = true ∧ (true = true ∧ true = true) ∧ true = true ∧ (true = true ∧ true = true) ∧ true = true ∧ (true = true ∧ true = true) ∧ true = true ∧ (true = true ∧ true = true) ∧ true = true ∧ (true = true ∧ true = true) ∧ true = true ∧ (true = true ∧ true = true) ∧ true = true ∧ (true = true ∧ true = true) ∧ true = true ∧ (true = true ∧ true = true) ∧ true = true ∧ (true = true ∧ true = true) ∧ true = true ∧ (true = true ∧ true = true) ∧ true = true ∧ (true = true ∧ true = true) ∧ true = true ∧ (true = true ∧ true = true) ∧ true = true ∧ (true = true ∧ true = true) ∧ true = true ∧ (true = true ∧ true = true) ∧ true = true ∧ (true = true ∧ true = true) ∧ true = true ∧ (true = true ∧ true = true) ∧ true = true ∧ true = true ∧ (true = true ∧ true = true) ∧ true = true ∧ (true = true ∧ true = true) ∧ true = true ∧ (true = true ∧ true = true) ∧ true = true ∧ (true = true ∧ true = true) ∧ true = true ∧ (true = true ∧ true = true) ∧ true = true ∧ (true = true ∧ true = true) ∧ true = true ∧ (true = true ∧ true = true) ∧ true = true ∧ (true = true ∧ true = true) ∧ true = true ∧ (true = true ∧ true = true) ∧ true = true ∧ (true = true ∧ true = true) ∧ true = true ∧ (true = true ∧ true = true) ∧ true = true ∧ (true = true ∧ true = true) ∧ true = true ∧ (true = true ∧ true = true) ∧ true = true ∧ (true = true ∧ true = true) ∧ true = true ∧ (true = true ∧ true = true) ∧ true = true ∧ (true = true ∧ true = true) ∧ true = true ∧ (true = true ∧ true = true) ∧ true = true ∧ (true = true ∧ true = true) ∧ true = true ∧ (true = true ∧ true = true) ∧ true = true ∧ (true = true ∧ true = true) ∧ true = true ∧ (true = true ∧ true = true) ∧ true = true ∧ (true = true ∧ true = true) ∧ true = true ∧ (true = true ∧ true = true) ∧ true = true ∧ (true = true ∧ true = true) ∧ true = true ∧ (true = true ∧ true = true) ∧ true = true ∧ (true = true ∧ true = true) ∧ true = true ∧ (true = true ∧ true = true) ∧ true = true ∧ (true = true ∧ true = true) ∧ true = true ∧ (true = true ∧ true = true) ∧ true = true ∧ (true = true ∧ true = true) ∧ true = true ∧ (true = true ∧ true = true) ∧ true = true ∧ (true = true ∧ true = true) ∧ true = true ∧ (true = true ∧ true = true) ∧ true = true ∧ (true = true ∧ true = true) ∧ true = true ∧ (true = true ∧ true = true) ∧ true = true ∧ (true = true ∧ true = true) ∧ true = true ∧ (true = true ∧ true = true) ∧ true = true ∧ (true = true ∧ true = true) ∧ true = true ∧ true = true ∧ (true = true ∧ true = true) ∧ true = true ∧ (true = true ∧ true = true) ∧ true = true ∧ (true = true ∧ true = true) ∧ true = true ∧ (true = true ∧ true = true) ∧ true = true ∧ (true = true ∧ true = true) ∧ true = true ∧ (true = true ∧ true = true) ∧ true = true ∧ (true = true ∧ true = true) ∧ true = true ∧ (true = true ∧ true = true) ∧ true = true ∧ (true = true ∧ true = true) ∧ true = true ∧ (true = true ∧ true = true) ∧ true = true ∧ (true = true ∧ true = true) ∧ true = true ∧ (true = true ∧ true = true) ∧ true = true ∧ (true = true ∧ true = true) ∧ true = true ∧ (true = true ∧ true = true) ∧ true = true ∧ (true = true ∧ true = true) ∧ true = true ∧ (true = true ∧ true = true) ∧ true = true ∧ (true = true ∧ true = true) ∧ true = true ∧ (true = true ∧ true = true) ∧ true = true ∧ (true = true ∧ true = true) ∧ true = true ∧ (true = true ∧ true = true) ∧ true = true ∧ (true = true ∧ true = true) ∧ true = true ∧ (true = true ∧ true = true) ∧ true = true ∧ (true = true ∧ true = true) ∧ true = true ∧ (true = true ∧ true = true) ∧ true = true ∧ (true = true ∧ true = true) ∧ true = true ∧ (true = true ∧ true = true) ∧ true = true ∧ (true = true ∧ true = true) ∧ true = true ∧ (true = true ∧ true = true) ∧ true = true ∧ (true = true ∧ true = true) ∧ true = true ∧ (true = true ∧ true = true) ∧ true = true ∧ (true = true ∧ true = true) ∧ true = true
set_option maxRecDepth 100000 in
theorem powB (a : Fe) : (callF Tryz.prog SG1 300 100 [bF [a], .str ⟨⟨sQuarter⟩⟩] []).map (fun r => (r.1, r.2.2)) = some (.agg [.abs (powF a (hexD sQuarter))], some (powB_G a)) := by kernel_rfl
--@]
end Go.Proofs.YtcedljbapgmdmaaGreat.En

/- DERIVED. Powers, inverses, the curve's numbers as contracts. -/
set_option linter.all false
namespace Go.Proofs.YtcedljbapgmdmaaGreat.En
open Go Go.RowKit

theorem eqBs_list {l m : List UInt8} (h : eqBs l m = true) : l = m := by
  rw [eqBs_spec] at h
  exact beq_iff_eq.1 h
/-- The powers that the program takes. -/
def fnPow : List (LV Fe) → Option (LV Fe)
  | [u, .str s] => match pA [1] [u] with
    | some [[a]] => match eqBs s.data.toList sLess2 with
      | true => some (.agg [.abs (powF a (hexD sLess2))])
      | false => match eqBs s.data.toList sQuarter with
        | true => some (.agg [.abs (powF a (hexD sQuarter))])
        | false => none
    | _ => none
  | _ => none
theorem fnPow_some {vs : List (LV Fe)} {v : LV Fe} (h : fnPow vs = some v) : ∃ (u : LV Fe) (a : Fe) (l : List UInt8), vs = [u, .str ⟨⟨l⟩⟩] ∧ pA [1] [u] = some [[a]] ∧ v = .agg [.abs (powF a (hexD l))] ∧ (l = sLess2 ∨ l = sQuarter) := by
  unfold fnPow at h
  split at h
  · rename_i u s
    split at h
    · rename_i a hu
      have es : ∀ l, s.data.toList = l → s = ⟨⟨l⟩⟩ := fun l e => by subst e; rfl
      split at h
      · rename_i e
        cases h
        have e := eqBs_list e
        exact ⟨u, a, _, by rw [← es _ e], hu, rfl, .inl rfl⟩
      · split at h
        · rename_i e
          cases h
          have e := eqBs_list e
          exact ⟨u, a, _, by rw [← es _ e], hu, rfl, .inr rfl⟩
        · cases h
    · cases h
  · cases h
set_option maxRecDepth 100000 in
theorem entPow : ∀ args w, (callFunc 100 args).run Tryz.prog w = .ok (.enter 100 args) w := ent_of (f := 100) (P := Tryz.prog) rfl rfl rfl
set_option maxRecDepth 100000 in
theorem powA_ok (a : Fe) : condOk (some (powA_G a)) := by unfold powA_G condOk; and_intros <;> rfl
set_option maxRecDepth 100000 in
theorem powB_ok (a : Fe) : condOk (some (powB_G a)) := by unfold powB_G condOk; and_intros <;> rfl
theorem plainStr (a : Fe) (s : ByteArray) : plainL [bF [a], (.str s : LV Fe)] := ⟨⟨trivial, trivial⟩, trivial, trivial⟩
theorem pow_call {a : Fe} {l : List UInt8} (hl : l = sLess2 ∨ l = sQuarter) (ρ : Key → Loc) (w : World) : Calls Tryz.prog 100 (trs ρ [bF [a], (.str ⟨⟨l⟩⟩ : LV Fe)]).toArray w fun e w' => e = .returned (LV.tr ρ (.agg [.abs (powF a (hexD l))] : LV Fe)) ∧ Below w.heap.size w w' := by
  rcases hl with rfl | rfl
  · exact plain_callF SG1_ok rfl (powA a) (powA_ok a) (fun _ _ => rfl) (plainStr _ _) (fun _ _ => rfl) ρ w
  · exact plain_callF SG1_ok rfl (powB a) (powB_ok a) (fun _ _ => rfl) (plainStr _ _) (fun _ _ => rfl) ρ w
noncomputable def conPow : ConP Tryz.prog Fe where
  f := 100
  fn := fnPow
  ent := entPow
  kin vs v h p := by
    obtain ⟨u, a, l, _, _, rfl, _⟩ := fnPow_some h
    exact ⟨trivial, trivial⟩
  call vs v h ρ w := by
    obtain ⟨u, a, l, rfl, hu, rfl, hl⟩ := fnPow_some h
    have e : LV.tr ρ u = LV.tr ρ (bF [a]) := List.head_eq_of_cons_eq (show [LV.tr ρ u] = [LV.tr ρ (bF [a])] from (pA_trs _ _ _ hu).2 ρ)
    have e2 : trs ρ [u, (.str ⟨⟨l⟩⟩ : LV Fe)] = trs ρ [bF [a], .str ⟨⟨l⟩⟩] := by simp only [trs, e]
    rw [e2]
    exact pow_call hl ρ w
noncomputable abbrev psG : List (ConP Tryz.prog Fe) := [conDouble, conInfinite, conCNeg, conCAdd, conCEqual, conPow, conGEqual, conGAdd, conGNeg, conGInf, conGDouble]
noncomputable abbrev SGa (d : FuncId → Nat → Nat → Option Bool) (ps : List (ConP Tryz.prog Fe)) : Sig Fe := SCd d (psG ++ ps)
theorem SGa_ok (d : FuncId → Nat → Nat → Option Bool) (ps : List (ConP Tryz.prog Fe)) : SigOk Tryz.prog (SGa d ps) := SCd_ok _ _
def invF (a : Fe) : Fe := powF a (hexD sLess2)
set_option maxRecDepth 100000 in
theorem entInv : ∀ args w, (callFunc 153 args).run Tryz.prog w = .ok (.enter 153 args) w := ent_of (f := 153) (P := Tryz.prog) rfl rfl rfl
--@run invV (a : Fe) := callF Tryz.prog (SGa noD []) 60 153 [bF [a]] [] => .agg [.abs (invF a)]
--@[
set_option maxRecDepth 100000 in
def invV_G (a : Fe) : Prop := true = true
set_option maxRecDepth 100000 in
theorem invV (a : Fe) : (callF Tryz.prog (SGa noD []) 60 153 [bF [a]] []).map (fun r => (r.1, r.2.2)) = some (.agg [.abs (invF a)], some (invV_G a)) := by kernel_rfl
set_option maxRecDepth 100000 in
theorem invV_ok (a : Fe) : condOk (some (invV_G a)) := by unfold invV_G condOk; and_intros <;> rfl
--@]
noncomputable def conInv : ConP Tryz.prog Fe := mkP 153 entInv [1] (fun a => .agg [.abs (invF a)]) fun a => .of (SGa_ok _ _) rfl (invV a) (invV_ok a) rfl rfl
def xyX (p : Pt) : Fe := fmul p.1 (fmul (invF p.2.2) (invF p.2.2))
def xyY (p : Pt) : Fe := fmul (fmul p.2.1 (fmul (invF p.2.2) (invF p.2.2))) (invF p.2.2)
set_option maxRecDepth 100000 in
theorem entCXY : ∀ args w, (callFunc 118 args).run Tryz.prog w = .ok (.enter 118 args) w := ent_of (f := 118) (P := Tryz.prog) rfl rfl rfl
--@run cxyV (a b c : Fe) := callF Tryz.prog (SGa noD [conInv]) 60 118 [bF [a, b, c]] [] => .tup [.agg [.abs (xyX (a, b, c))], .agg [.abs (xyY (a, b, c))]]
--@[
set_option maxRecDepth 100000 in
def cxyV_G (a b c : Fe) : Prop := true = true ∧ true = true ∧ true = true ∧ true = true
set_option maxRecDepth 100000 in
theorem cxyV (a b c : Fe) : (callF Tryz.prog (SGa noD [conInv]) 60 118 [bF [a, b, c]] []).map (fun r => (r.1, r.2.2)) = some (.tup [.agg [.abs (xyX (a, b, c))], .agg [.abs (xyY (a, b, c))]], some (cxyV_G a b c)) := by kernel_rfl
set_option maxRecDepth 100000 in
theorem cxyV_ok (a b c : Fe) : condOk (some (cxyV_G a b c)) := by unfold cxyV_G condOk; and_intros <;> rfl
--@]
noncomputable def conCXY : ConP Tryz.prog Fe := mkP 118 entCXY [3] (fun a b c => .tup [.agg [.abs (xyX (a, b, c))], .agg [.abs (xyY (a, b, c))]]) fun a b c => .of (SGa_ok _ _) rfl (cxyV a b c) (cxyV_ok a b c) rfl rfl
end Go.Proofs.YtcedljbapgmdmaaGreat.En

/- DERIVED. The document's product without 2^384: its rows. -/
set_option linter.all false
namespace Go.Proofs.YtcedljbapgmdmaaGreat.En
open Go Go.RowKit

/-- One part of a row: what is carried, what stands. -/
def rH (a x w t : Int) : Int := IntKind.u64.wrap (IntKind.u64.wrap (m0H a x + adC (m0L a x) w 0) + adC t (adS (m0L a x) w 0) 0)
def rL (a x w t : Int) : Int := adS t (adS (m0L a x) w 0) 0
def rW (x : Int) (a t : Nat → Int) : Nat → Int
  | 0 => IntKind.u64.wrap (m0H (a 0) x + adC (t 0) (m0L (a 0) x) 0)
  | k + 1 => rH (a (k + 1)) x (rW x a t k) (t (k + 1))
def rT (x : Int) (a t : Nat → Int) : Nat → Int
  | 0 => adS (t 0) (m0L (a 0) x) 0
  | k + 1 => rL (a (k + 1)) x (rW x a t k) (t (k + 1))
def rQ (x : Int) (a t : Nat → Int) : Int := IntKind.u64.wrap (rT x a t 0 * 9940570264628428797)
/-- The second pass: its own multiple's low part stands first. -/
def rP (q : Int) (t : Nat → Int) : Nat → Int
  | 0 => IntKind.u64.wrap (m0H q (lm pN 0) + adC (t 0) (m0L q (lm pN 0)) 0)
  | k + 1 => rH q (lm pN (k + 1)) (rP q t k) (t (k + 1))
def rX (x : Int) (a t : Nat → Int) (k : Nat) : Int := rL (rQ x a t) (lm pN (k + 1)) (rP (rQ x a t) (rT x a t) k) (rT x a t (k + 1))
def rX5 (x : Int) (a t : Nat → Int) : Int := IntKind.u64.wrap (rW x a t 5 + rP (rQ x a t) (rT x a t) 5)
noncomputable abbrev moM (a b : Nat → Int) : Mem Empty := [some ⟨.rw, lim a⟩, some ⟨.rw, lim b⟩, some ⟨.rw, lim fun _ => 0⟩]
noncomputable abbrev moT (t0 t1 t2 t3 t4 t5 k : Int) : List (Nat × LV Empty) := [(2, .ptr (.own 0) 0 []), (3, .ptr (.own 1) 0 []), (4, .ptr (.own 2) 0 []), (5, .int .u64 t0), (6, .int .u64 t1), (7, .int .u64 t2), (8, .int .u64 t3), (9, .int .u64 t4), (10, .int .u64 t5), (11, .int .i64 k)]
noncomputable abbrev moJ (a b t : Nat → Int) (k : Int) : LS Empty := ⟨tm 322 (moT (t 0) (t 1) (t 2) (t 3) (t 4) (t 5) k), moM a b, []⟩
noncomputable abbrev moP : List Nat := [0, 0, 1, 0, 1, 1]
noncomputable abbrev moR (a b t : Nat → Int) (x k k1 : Int) : Option Cnd := runG Tryz.prog SM 200 128 moP (moJ a b t k) .normal 3 [some (.own 0), some (.own 1), some (.own 2)] 322 (moT (rX x a t 0) (rX x a t 1) (rX x a t 2) (rX x a t 3) (rX x a t 4) (rX5 x a t) k1) (moM a b)
def moC (a b t : Nat → Int) (x k k1 : Int) : Prop := (true = true ∧ (true = true ∧ in64 (a 0) ∧ in64 x) ∧ (0 : Nat) ≤ 1 ∧ (true = true ∧ in64 (a 1) ∧ in64 x) ∧ (0 : Nat) ≤ 1 ∧ (0 : Nat) ≤ 1 ∧ (true = true ∧ in64 (a 2) ∧ in64 x) ∧ (0 : Nat) ≤ 1 ∧ (0 : Nat) ≤ 1 ∧ (true = true ∧ in64 (a 3) ∧ in64 x) ∧ (0 : Nat) ≤ 1 ∧ (0 : Nat) ≤ 1 ∧ (true = true ∧ in64 (a 4) ∧ in64 x) ∧ (0 : Nat) ≤ 1 ∧ (0 : Nat) ≤ 1 ∧ (true = true ∧ in64 (a 5) ∧ in64 x) ∧ (0 : Nat) ≤ 1 ∧ (0 : Nat) ≤ 1 ∧ (in64 (rQ x a t) ∧ in64 (lm pN 0)) ∧ (0 : Nat) ≤ 1 ∧ (in64 (rQ x a t) ∧ in64 (lm pN 1)) ∧ (0 : Nat) ≤ 1 ∧ (0 : Nat) ≤ 1 ∧ (in64 (rQ x a t) ∧ in64 (lm pN 2)) ∧ (0 : Nat) ≤ 1 ∧ (0 : Nat) ≤ 1 ∧ (in64 (rQ x a t) ∧ in64 (lm pN 3)) ∧ (0 : Nat) ≤ 1 ∧ (0 : Nat) ≤ 1 ∧ (in64 (rQ x a t) ∧ in64 (lm pN 4)) ∧ (0 : Nat) ≤ 1 ∧ (0 : Nat) ≤ 1 ∧ (in64 (rQ x a t) ∧ in64 (lm pN 5)) ∧ (0 : Nat) ≤ 1 ∧ (0 : Nat) ≤ 1) ∧ (rX x a t 0 = rX x a t 0 ∧ rX x a t 1 = rX x a t 1 ∧ rX x a t 2 = rX x a t 2 ∧ rX x a t 3 = rX x a t 3 ∧ rX x a t 4 = rX x a t 4 ∧ rX5 x a t = rX5 x a t ∧ IntKind.wrap IntKind.i64 (k + 1) = k1) ∧ (a 0 = a 0 ∧ a 1 = a 1 ∧ a 2 = a 2 ∧ a 3 = a 3 ∧ a 4 = a 4 ∧ a 5 = a 5) ∧ (b 0 = b 0 ∧ b 1 = b 1 ∧ b 2 = b 2 ∧ b 3 = b 3 ∧ b 4 = b 4 ∧ b 5 = b 5) ∧ (0 : Int) = (0 : Int) ∧ (0 : Int) = (0 : Int) ∧ (0 : Int) = (0 : Int) ∧ (0 : Int) = (0 : Int) ∧ (0 : Int) = (0 : Int) ∧ (0 : Int) = (0 : Int)
theorem moC_of {a b t : Nat → Int} {x k k1 : Int} (hx : in64 x) (ha : ∀ j, in64 (a j)) (hq : in64 (rQ x a t)) (hp : ∀ j, in64 (lm pN j)) (hk : IntKind.wrap IntKind.i64 (k + 1) = k1) : moC a b t x k k1 :=
  ⟨⟨rfl, ⟨rfl, ha 0, hx⟩, Nat.zero_le _, ⟨rfl, ha 1, hx⟩, Nat.zero_le _, Nat.zero_le _, ⟨rfl, ha 2, hx⟩, Nat.zero_le _, Nat.zero_le _, ⟨rfl, ha 3, hx⟩, Nat.zero_le _, Nat.zero_le _, ⟨rfl, ha 4, hx⟩, Nat.zero_le _, Nat.zero_le _, ⟨rfl, ha 5, hx⟩, Nat.zero_le _, Nat.zero_le _, ⟨hq, hp 0⟩, Nat.zero_le _, ⟨hq, hp 1⟩, Nat.zero_le _, Nat.zero_le _, ⟨hq, hp 2⟩, Nat.zero_le _, Nat.zero_le _, ⟨hq, hp 3⟩, Nat.zero_le _, Nat.zero_le _, ⟨hq, hp 4⟩, Nat.zero_le _, Nat.zero_le _, ⟨hq, hp 5⟩, Nat.zero_le _, Nat.zero_le _⟩, ⟨rfl, rfl, rfl, rfl, rfl, rfl, hk⟩, ⟨rfl, rfl, rfl, rfl, rfl, rfl⟩, ⟨rfl, rfl, rfl, rfl, rfl, rfl⟩, rfl, rfl, rfl, rfl, rfl, rfl⟩
set_option maxRecDepth 100000 in
theorem mo0 (a b t : Nat → Int) : moR a b t (b 0) 0 1 = some (some (moC a b t (b 0) 0 1)) := by kernel_rfl
set_option maxRecDepth 100000 in
theorem mo1 (a b t : Nat → Int) : moR a b t (b 1) 1 2 = some (some (moC a b t (b 1) 1 2)) := by kernel_rfl
set_option maxRecDepth 100000 in
theorem mo2 (a b t : Nat → Int) : moR a b t (b 2) 2 3 = some (some (moC a b t (b 2) 2 3)) := by kernel_rfl
set_option maxRecDepth 100000 in
theorem mo3 (a b t : Nat → Int) : moR a b t (b 3) 3 4 = some (some (moC a b t (b 3) 3 4)) := by kernel_rfl
set_option maxRecDepth 100000 in
theorem mo4 (a b t : Nat → Int) : moR a b t (b 4) 4 5 = some (some (moC a b t (b 4) 4 5)) := by kernel_rfl
set_option maxRecDepth 100000 in
theorem mo5 (a b t : Nat → Int) : moR a b t (b 5) 5 6 = some (some (moC a b t (b 5) 5 6)) := by kernel_rfl
end Go.Proofs.YtcedljbapgmdmaaGreat.En

/- DERIVED. The document's product without 2^384: its rows on numbers, its loop, its call. -/
set_option linter.all false
namespace Go.Proofs.YtcedljbapgmdmaaGreat.En
open Go Go.RowKit

/-! ## on numbers -/
theorem row_vals (a x w t : Nat) (ha : a < 18446744073709551616) (hx : x < 18446744073709551616) (hw : w < 18446744073709551616) (ht : t < 18446744073709551616) :
    rH (a : Int) x w t = mdHi x a t w ∧ rL (a : Int) x w t = mdLo x a t w := by
  have hP := mul_le64 ha hx
  unfold rH rL mdHi mdLo adS adC m0H m0L
  simp only [Int.toNat_natCast, show (0 : Int).toNat = 0 from rfl]
  rw [Nat.mul_comm x a]
  generalize a * x = Q at *
  refine ⟨?_, ?_⟩
  · have h1 : IntKind.u64.wrap (((Q / 18446744073709551616 : Nat) : Int) + (((Q % 18446744073709551616 + w + 0) / 18446744073709551616 : Nat) : Int)) = ((Q / 18446744073709551616 + (Q % 18446744073709551616 + w + 0) / 18446744073709551616 : Nat) : Int) := by
      rw [← Int.natCast_add]; exact wuN _ (by omega)
    rw [h1, ← Int.natCast_add]
    have h2 := wuN (Q / 18446744073709551616 + (Q % 18446744073709551616 + w + 0) / 18446744073709551616 + (t + (Q % 18446744073709551616 + w + 0) % 18446744073709551616 + 0) / 18446744073709551616) (by omega)
    refine Eq.trans h2 ?_
    congr 1
    omega
  · congr 1
    omega
theorem row_val0 (a x t : Nat) (ha : a < 18446744073709551616) (hx : x < 18446744073709551616) (ht : t < 18446744073709551616) :
    IntKind.u64.wrap (m0H (a : Int) x + adC (t : Int) (m0L (a : Int) x) 0) = mdHi x a t ((0 : Nat) : Int) ∧ adS (t : Int) (m0L (a : Int) x) 0 = mdLo x a t ((0 : Nat) : Int) := by
  have hP := mul_le64 ha hx
  unfold mdHi mdLo adS adC m0H m0L
  simp only [Int.toNat_natCast, show (0 : Int).toNat = 0 from rfl]
  rw [Nat.mul_comm x a]
  generalize a * x = Q at *
  refine ⟨?_, ?_⟩
  · rw [← Int.natCast_add]
    refine Eq.trans (wuN _ (by omega)) ?_
    congr 1
    omega
  · congr 1
    omega
theorem lmN_lt64 (n k : Nat) : lmN n k < 18446744073709551616 := lm_lt n k
theorem cM_lt64 {x : Nat} (b T k : Nat) (hx : x < BB) : cM x b T k < 18446744073709551616 := cM_lt b T k hx
theorem m0H_comm (a b : Int) : m0H a b = m0H b a := by unfold m0H; rw [Nat.mul_comm]
theorem m0L_comm (a b : Int) : m0L a b = m0L b a := by unfold m0L; rw [Nat.mul_comm]
theorem rH_comm (a b w t : Int) : rH a b w t = rH b a w t := by unfold rH; rw [m0H_comm, m0L_comm]
theorem rL_comm (a b w t : Int) : rL a b w t = rL b a w t := by unfold rL; rw [m0L_comm]
theorem rW_lm {x : Nat} (n T : Nat) (hx : x < BB) : ∀ k, rW (x : Int) (lm n) (lm T) k = ((cM x n T (k + 1) : Nat) : Int)
  | 0 => by
    refine Eq.trans ?_ (mdHi_lm x n T 0)
    rw [cM_zero]
    exact (row_val0 (lmN n 0) x (lmN T 0) (lmN_lt64 n 0) hx (lmN_lt64 T 0)).1
  | k + 1 => by
    rw [rW, rW_lm n T hx k]
    refine Eq.trans ?_ (mdHi_lm x n T (k + 1))
    exact (row_vals (lmN n (k + 1)) x (cM x n T (k + 1)) (lmN T (k + 1)) (lmN_lt64 _ _) hx (cM_lt64 n T _ hx) (lmN_lt64 _ _)).1
theorem rT_lm {x : Nat} (n T : Nat) (hx : x < BB) : rT (x : Int) (lm n) (lm T) = lm (x * n + T) := by
  funext k
  refine Eq.trans ?_ (mdLo_lm x n T k)
  cases k with
  | zero =>
    rw [cM_zero]
    exact (row_val0 (lmN n 0) x (lmN T 0) (lmN_lt64 n 0) hx (lmN_lt64 T 0)).2
  | succ k =>
    rw [rT, rW_lm n T hx k]
    exact (row_vals (lmN n (k + 1)) x (cM x n T (k + 1)) (lmN T (k + 1)) (lmN_lt64 _ _) hx (cM_lt64 n T _ hx) (lmN_lt64 _ _)).2
theorem rQ_lm {x : Nat} (n T : Nat) (hx : x < BB) : rQ (x : Int) (lm n) (lm T) = ((qN (x * n + T) : Nat) : Int) := by
  unfold rQ
  rw [rT_lm n T hx]
  show IntKind.u64.wrap (((lmN (x * n + T) 0 : Nat) : Int) * ((9940570264628428797 : Nat) : Int)) = _
  rw [← Int.natCast_mul]
  exact wuM _
/-- The second pass over any number. -/
theorem rPw (q : Int) (t : Nat → Int) (p : Nat → Int) (hp : p = lm pN) : ∀ k, rP q t k = rW q p t k
  | 0 => by subst hp; unfold rP rW; rw [m0H_comm, m0L_comm]
  | k + 1 => by
    have ih := rPw q t p hp k
    subst hp
    unfold rP rW
    rw [ih, rH_comm]
theorem rP_lm {q : Nat} (L : Nat) (hq : q < BB) (k : Nat) : rP (q : Int) (lm L) k = ((cM q pN L (k + 1) : Nat) : Int) := by
  rw [rPw _ _ _ rfl, rW_lm pN L hq]
theorem rX_gen {q : Nat} (n L j : Nat) (hq : q < BB) : rL (q : Int) (lm n (j + 1)) ((cM q n L (j + 1) : Nat) : Int) (lm L (j + 1)) = lm (q * n + L) (j + 1) := by
  rw [rL_comm]
  refine Eq.trans ?_ (mdLo_lm q n L (j + 1))
  exact (row_vals (lmN n (j + 1)) q (cM q n L (j + 1)) (lmN L (j + 1)) (lmN_lt64 _ _) hq (cM_lt64 n L _ hq) (lmN_lt64 _ _)).2
theorem rX_lm {x : Nat} (n T j : Nat) (hx : x < BB) : rX (x : Int) (lm n) (lm T) j = lm (rowT x n (qN (x * n + T)) T) j := by
  unfold rX
  rw [rQ_lm n T hx, rT_lm n T hx, rP_lm _ (qN_lt _), lm_row]
  exact rX_gen pN _ j (qN_lt _)
theorem rX5_lm {x n T : Nat} (hx : x < BB) (hn : n < pN) (hT : T < n + pN) : rX5 (x : Int) (lm n) (lm T) = lm (rowT x n (qN (x * n + T)) T) 5 := by
  unfold rX5
  rw [rQ_lm n T hx, rT_lm n T hx, rW_lm n T hx, rP_lm _ (qN_lt _)]
  obtain ⟨h1, h2⟩ := row_top hx (qN_lt (x * n + T)) hn hT
  rw [← h1, ← Int.natCast_add]
  exact wuN _ h2
theorem mrow_ok {x n T : Nat} {b : Nat → Int} {k k1 : Int} (hx : x < BB) (hk : IntKind.wrap IntKind.i64 (k + 1) = k1) : moC (lm n) b (lm T) (x : Int) k k1 := by
  refine moC_of ?_ (lm_in64 n) ?_ (lm_in64 pN) hk
  · have : x < 18446744073709551616 := hx
    constructor <;> omega
  · rw [rQ_lm n T hx]
    have : qN (x * n + T) < 18446744073709551616 := qN_lt _
    constructor <;> omega

/-! ## the loop -/
noncomputable abbrev moQ : List Nat := [0, 1, 0, 1, 1]
noncomputable def moJn (m n k : Nat) : LS Empty := moJ (lm n) (lm m) (lm (seqT m n k)) ((k : Nat) : Int)
theorem mo_step (m n k : Nat) (hk : k < 6) (hn : n < pN) : ExB 3 Tryz.prog noI (codeAt Tryz.prog 128 moP) (moJn m n k) .normal (moJn m n (k + 1)) := by
  have hT := seqT_lt m (n := n) k
  have hx := lm_lt m k
  have e : ∀ j, rX (lm m k) (lm n) (lm (seqT m n k)) j = lm (seqT m n (k + 1)) j := fun j => rX_lm _ _ _ hx
  have e5 : rX5 (lm m k) (lm n) (lm (seqT m n k)) = lm (seqT m n (k + 1)) 5 := rX5_lm hx hn hT
  have hr : moR (lm n) (lm m) (lm (seqT m n k)) (lm m k) ((k : Nat) : Int) ((k + 1 : Nat) : Int) = some (some (moC (lm n) (lm m) (lm (seqT m n k)) (lm m k) ((k : Nat) : Int) ((k + 1 : Nat) : Int))) := by
    rcases (show k = 0 ∨ k = 1 ∨ k = 2 ∨ k = 3 ∨ k = 4 ∨ k = 5 by omega) with rfl | rfl | rfl | rfl | rfl | rfl
    · exact mo0 _ _ _
    · exact mo1 _ _ _
    · exact mo2 _ _ _
    · exact mo3 _ _ _
    · exact mo4 _ _ _
    · exact mo5 _ _ _
  have hc : moC (lm n) (lm m) (lm (seqT m n k)) (lm m k) ((k : Nat) : Int) ((k + 1 : Nat) : Int) := mrow_ok hx (by rw [IntWalk.i64_in _ (by omega)]; omega)
  have := ExB.auto (cs := []) SM_ok noI_ok rfl mixed 200 _ hr hc
  rw [e, e, e, e, e, e5] at this
  exact this
noncomputable abbrev moZT (t : Nat → Int) : List (Nat × LV Empty) := [(2, .ptr (.own 0) 0 []), (3, .ptr (.own 1) 0 []), (4, .ptr (.own 2) 0 []), (5, .int .u64 (t 0)), (6, .int .u64 (t 1)), (7, .int .u64 (t 2)), (8, .int .u64 (t 3)), (9, .int .u64 (t 4)), (10, .int .u64 (t 5))]
--@gen moEnd (a b t : Nat → Int) := runG Tryz.prog SM 200 128 moP (moJ a b t 6) (.exit 0) 3 [some (.own 0), some (.own 1), some (.own 2)] 322 (moZT t) (moM a b)
--@[
set_option maxRecDepth 100000 in
def moEnd_G (a b t : Nat → Int) : Prop := (t 0 = t 0 ∧ t 1 = t 1 ∧ t 2 = t 2 ∧ t 3 = t 3 ∧ t 4 = t 4 ∧ t 5 = t 5) ∧ (a 0 = a 0 ∧ a 1 = a 1 ∧ a 2 = a 2 ∧ a 3 = a 3 ∧ a 4 = a 4 ∧ a 5 = a 5) ∧ (b 0 = b 0 ∧ b 1 = b 1 ∧ b 2 = b 2 ∧ b 3 = b 3 ∧ b 4 = b 4 ∧ b 5 = b 5) ∧ (0 : Int) = (0 : Int) ∧ (0 : Int) = (0 : Int) ∧ (0 : Int) = (0 : Int) ∧ (0 : Int) = (0 : Int) ∧ (0 : Int) = (0 : Int) ∧ (0 : Int) = (0 : Int)
set_option maxRecDepth 100000 in
theorem moEnd (a b t : Nat → Int) : runG Tryz.prog SM 200 128 moP (moJ a b t 6) (.exit 0) 3 [some (.own 0), some (.own 1), some (.own 2)] 322 (moZT t) (moM a b) = some (some ((moEnd_G a b t))) := by kernel_rfl
--@]
noncomputable def moE (a b : Nat → Int) : LS Empty := entry Tryz.prog SM 60 128 moQ [.agg (lim a), .agg (lim b)] []
--@gen moI (a b : Nat → Int) := mS noI [some (.own 0), some (.own 1), some (.own 2)] (moE a b) 322 (moT 0 0 0 0 0 0 0) (moM a b)
--@[
set_option maxRecDepth 100000 in
def moI_G (a b : Nat → Int) : Prop := ((0 : Int) = (0 : Int) ∧ (0 : Int) = (0 : Int) ∧ (0 : Int) = (0 : Int) ∧ (0 : Int) = (0 : Int) ∧ (0 : Int) = (0 : Int) ∧ (0 : Int) = (0 : Int) ∧ (0 : Int) = (0 : Int)) ∧ (a 0 = a 0 ∧ a 1 = a 1 ∧ a 2 = a 2 ∧ a 3 = a 3 ∧ a 4 = a 4 ∧ a 5 = a 5) ∧ (b 0 = b 0 ∧ b 1 = b 1 ∧ b 2 = b 2 ∧ b 3 = b 3 ∧ b 4 = b 4 ∧ b 5 = b 5) ∧ (0 : Int) = (0 : Int) ∧ (0 : Int) = (0 : Int) ∧ (0 : Int) = (0 : Int) ∧ (0 : Int) = (0 : Int) ∧ (0 : Int) = (0 : Int) ∧ (0 : Int) = (0 : Int)
set_option maxRecDepth 100000 in
theorem moI (a b : Nat → Int) : mS noI [some (.own 0), some (.own 1), some (.own 2)] (moE a b) 322 (moT 0 0 0 0 0 0 0) (moM a b) = some (some ((moI_G a b))) := by kernel_rfl
--@]
set_option maxRecDepth 100000 in
theorem mo_code : codeAt Tryz.prog 128 moQ = .loop (codeAt Tryz.prog 128 moP) := by kernel_rfl
theorem mo_loop (m n : Nat) (hn : n < pN) : ExB 3 Tryz.prog noI (codeAt Tryz.prog 128 moQ) (moE (lm n) (lm m)) (.exit 0) ⟨tm 322 (moZT (lm (seqT m n 6))), moM (lm n) (lm m), []⟩ := by
  refine ExB.enter (cs := []) noI_ok _ ?_ (moI _ _) (by unfold condOk moI_G; and_intros <;> rfl) rfl
  rw [mo_code]
  have h0 : moJn m n 0 = ⟨tm 322 (moT 0 0 0 0 0 0 0), moM (lm n) (lm m), []⟩ := by
    have : ∀ j, lm (seqT m n 0) j = 0 := fun j => by simp [seqT, lm, lmN]
    simp only [moJn, moJ, this]
    rfl
  rw [← h0]
  exact ExB.loop (by simp) (moJn m n) 6 (fun k hk => mo_step m n k hk hn) (ExB.auto SM_ok noI_ok rfl mixed 200 _ (moEnd _ _ _) (by unfold condOk moEnd_G; and_intros <;> rfl))
set_option maxRecDepth 100000 in
theorem mo_grow (a b t : Nat → Int) : growB (moE a b) ⟨tm 322 (moZT t), moM a b, []⟩ = true := by kernel_rfl
set_option maxRecDepth 100000 in
theorem mo_three (a b : Nat → Int) : Nat.ble (moE a b).mem.length 3 = true := by kernel_rfl
theorem mo_loopT (m n T : Nat) (hn : n < pN) (hT : seqT m n 6 = T) : ExB 3 Tryz.prog noI (codeAt Tryz.prog 128 moQ) (moE (lm n) (lm m)) (.exit 0) ⟨tm 322 (moZT (lm T)), moM (lm n) (lm m), []⟩ := by
  subst hT
  exact mo_loop m n hn
noncomputable def moL (m n T : Nat) (hn : n < pN) (hT : seqT m n 6 = T) : LoopF Tryz.prog noI := LoopF.of (mo_loopT m n T hn hT) (mo_grow ..) (mo_three ..)
/-- How the test behind the loop turns out. -/
def dMo (b : Bool) : FuncId → Nat → Nat → Option Bool := fun f r i => match Nat.beq f 128, r, i with
  | true, 68, 1 => some b
  | _, _, _ => none
noncomputable abbrev SMo (b : Bool) (ls : List (LoopF Tryz.prog noI)) : Sig Empty := sigQ [conAdd64, conSub64, conMul64] (sigOf (P := Tryz.prog) [] [] [] ls noMs (advF (dMo b)))
theorem SMo_ok (b : Bool) (ls : List (LoopF Tryz.prog noI)) : SigOk Tryz.prog (SMo b ls) := sigQ_ok _ (sigOf_ok [] [] [] ls (noMs_ok _) _ noI_ok)
end Go.Proofs.YtcedljbapgmdmaaGreat.En

/- DERIVED. The document's difference of six parts; its product, called. -/
set_option linter.all false
namespace Go.Proofs.YtcedljbapgmdmaaGreat.En
open Go Go.RowKit

/-- Six parts as a sequence. -/
def six (a b c d e f : Int) : Nat → Int
  | 0 => a
  | 1 => b
  | 2 => c
  | 3 => d
  | 4 => e
  | 5 => f
  | _ => 0
def sixOf {A : Type} : LV A → Option (Nat → Int)
  | .agg [.int .u64 a, .int .u64 b, .int .u64 c, .int .u64 d, .int .u64 e, .int .u64 f] => some (six a b c d e f)
  | _ => none
abbrev limA {A : Type} (a : Nat → Int) : LV A := .agg [.int .u64 (a 0), .int .u64 (a 1), .int .u64 (a 2), .int .u64 (a 3), .int .u64 (a 4), .int .u64 (a 5)]
theorem sixOf_some {A : Type} {v : LV A} {a : Nat → Int} (h : sixOf v = some a) : v = limA a := by
  unfold sixOf at h
  split at h
  · cases h; rfl
  · cases h
def six2 {A : Type} (g : (Nat → Int) → (Nat → Int) → LV A) : List (LV A) → Option (LV A)
  | [u, v] => match sixOf u, sixOf v with
    | some a, some b => some (g a b)
    | _, _ => none
  | _ => none
theorem six2_some {A : Type} {g : (Nat → Int) → (Nat → Int) → LV A} {vs : List (LV A)} {v : LV A} (h : six2 g vs = some v) : ∃ a b, vs = [limA a, limA b] ∧ v = g a b := by
  unfold six2 at h
  split at h
  · split at h
    · rename_i a b ha hb
      cases h
      exact ⟨a, b, by rw [sixOf_some ha, sixOf_some hb], rfl⟩
    · cases h
  · cases h
--@gen rsbG (a b : Nat → Int) := (callF Tryz.prog (SF fun _ _ _ => none) 60 129 [.agg (lim a), .agg (lim b)] []).map (fun r => r.2.2)
--@[
set_option maxRecDepth 100000 in
def rsbG_G (a b : Nat → Int) : Prop := (true = true ∧ true = true ∧ 0 ≤ 1 ∧ true = true ∧ true = true) ∧ (true = true ∧ true = true ∧ Int.toNat (sbB (a 0) (b 0) ((0 : Int))) ≤ 1 ∧ true = true ∧ true = true) ∧ (true = true ∧ true = true ∧ Int.toNat (sbB (a 1) (b 1) (sbB (a 0) (b 0) ((0 : Int)))) ≤ 1 ∧ true = true ∧ true = true) ∧ (true = true ∧ true = true ∧ Int.toNat (sbB (a 2) (b 2) (sbB (a 1) (b 1) (sbB (a 0) (b 0) ((0 : Int))))) ≤ 1 ∧ true = true ∧ true = true) ∧ (true = true ∧ true = true ∧ Int.toNat (sbB (a 3) (b 3) (sbB (a 2) (b 2) (sbB (a 1) (b 1) (sbB (a 0) (b 0) ((0 : Int)))))) ≤ 1 ∧ true = true ∧ true = true) ∧ (true = true ∧ true = true ∧ Int.toNat (sbB (a 4) (b 4) (sbB (a 3) (b 3) (sbB (a 2) (b 2) (sbB (a 1) (b 1) (sbB (a 0) (b 0) ((0 : Int))))))) ≤ 1 ∧ true = true ∧ true = true) ∧ true = true
set_option maxRecDepth 100000 in
theorem rsbG (a b : Nat → Int) : (callF Tryz.prog (SF fun _ _ _ => none) 60 129 [.agg (lim a), .agg (lim b)] []).map (fun r => r.2.2) = some (some ((rsbG_G a b))) := by kernel_rfl
--@]
theorem sbB_le (x y b : Int) : (sbB x y b).toNat ≤ 1 := by
  unfold sbB
  split <;> decide
set_option maxRecDepth 100000 in
theorem rsbV (a b : Nat → Int) : (callF Tryz.prog (SF fun _ _ _ => none) 60 129 [.agg (lim a), .agg (lim b)] []).map (fun r => (r.1, r.2.2)) = some (.tup [.agg (lim (dB a b)), .int .u64 (cB a b 6)], some (rsbG_G a b)) := by kernel_rfl
theorem rsb_ok (a b : Nat → Int) : condOk (some (rsbG_G a b)) := by
  unfold condOk rsbG_G
  and_intros <;> first | with_reducible rfl | exact sbB_le _ _ _ | exact Nat.zero_le _
set_option maxRecDepth 100000 in
theorem entRSub : ∀ args w, (callFunc 129 args).run Tryz.prog w = .ok (.enter 129 args) w := ent_of (f := 129) (P := Tryz.prog) rfl rfl rfl
set_option maxRecDepth 100000 in
theorem entRP : ∀ args w, (callFunc 131 args).run Tryz.prog w = .ok (.enter 131 args) w := ent_of (f := 131) (P := Tryz.prog) rfl rfl rfl
theorem rsb_call (a b : Nat → Int) (ρ : Key → Loc) (w : World) : Calls Tryz.prog 129 (trs ρ [(.agg (lim a) : LV Empty), .agg (lim b)]).toArray w fun e w' => e = .returned (LV.tr ρ (.tup [.agg (lim (dB a b)), .int .u64 (cB a b 6)] : LV Empty)) ∧ Below w.heap.size w w' :=
  plain_call (SF_ok _) rfl (rsbV a b) (rsb_ok a b) (fun _ _ => rfl) ⟨⟨trivial, trivial, trivial, trivial, trivial, trivial, trivial⟩, ⟨trivial, trivial, trivial, trivial, trivial, trivial, trivial⟩, trivial⟩ (fun ρ ρ' => rfl) ρ w
noncomputable def conRSub {A : Type} [Ab A] : ConP Tryz.prog A where
  f := 129
  fn := six2 fun a b => .tup [limA (dB a b), .int .u64 (cB a b 6)]
  ent := entRSub
  kin vs v h p := by
    obtain ⟨a, b, _, rfl⟩ := six2_some h
    exact ⟨⟨trivial, trivial, trivial, trivial, trivial, trivial, trivial⟩, trivial, trivial⟩
  call vs v h ρ w := by
    obtain ⟨a, b, rfl, rfl⟩ := six2_some h
    exact rsb_call a b ρ w
set_option maxRecDepth 100000 in
theorem rpV : (callF Tryz.prog (SF fun _ _ _ => none) 60 131 [] []).map (fun r => (r.1, r.2.2)) = some (.agg (lim (lm pN)), some (true = true)) := by kernel_rfl
theorem rp_call (ρ : Key → Loc) (w : World) : Calls Tryz.prog 131 (trs ρ ([] : List (LV Empty))).toArray w fun e w' => e = .returned (LV.tr ρ (.agg (lim (lm pN)) : LV Empty)) ∧ Below w.heap.size w w' :=
  plain_call (SF_ok _) rfl rpV rfl (fun _ _ => rfl) trivial (fun ρ ρ' => rfl) ρ w
def nilFn {A : Type} (v : LV A) : List (LV A) → Option (LV A)
  | [] => some v
  | _ => none
theorem nilFn_some {A : Type} {u v : LV A} {vs : List (LV A)} (h : nilFn u vs = some v) : vs = [] ∧ v = u := by
  unfold nilFn at h
  split at h
  · cases h; exact ⟨rfl, rfl⟩
  · cases h
noncomputable def conRP {A : Type} [Ab A] : ConP Tryz.prog A where
  f := 131
  fn := nilFn (limA (lm pN))
  ent := entRP
  kin vs v h p := by
    obtain ⟨_, rfl⟩ := nilFn_some h
    exact ⟨trivial, trivial, trivial, trivial, trivial, trivial, trivial⟩
  call vs v h ρ w := by
    obtain ⟨rfl, rfl⟩ := nilFn_some h
    exact rp_call ρ w
noncomputable abbrev SMp (b : Bool) (ls : List (LoopF Tryz.prog noI)) : Sig Empty := sigQ [conAdd64, conSub64, conMul64] (sigOf (P := Tryz.prog) [conRSub, conRP] [] [] ls noMs (advF (dMo b)))
theorem SMp_ok (b : Bool) (ls : List (LoopF Tryz.prog noI)) : SigOk Tryz.prog (SMp b ls) := sigQ_ok _ (sigOf_ok [conRSub, conRP] [] [] ls (noMs_ok _) _ noI_ok)
end Go.Proofs.YtcedljbapgmdmaaGreat.En

/- DERIVED. The document's product without 2^384: its call; products, sums, differences of its field as contracts. -/
set_option linter.all false
namespace Go.Proofs.YtcedljbapgmdmaaGreat.En
open Go Go.RowKit

def momL (m n T : Nat) (hn : n < pN) (hT : seqT m n 6 = T) : Prop := (moL m n T hn hT).s.tmps = (moL m n T hn hT).s.tmps ∧ (moL m n T hn hT).s.mem = (moL m n T hn hT).s.mem
set_option maxRecDepth 100000 in
theorem momTV (m n T : Nat) (hn : n < pN) (hT : seqT m n 6 = T) : (callF Tryz.prog (SMp true [moL m n T hn hT]) 100 128 [.agg (lim (lm n)), .agg (lim (lm m))] []).map (fun r => (r.1, r.2.2)) = some (.agg (lim (dB (lm T) (lm pN))), some (momL m n T hn hT ∧ true = true ∧ true = true ∧ (cB (lm T) (lm pN) 6 == 0) = true ∧ true = true ∧ true = true)) := by kernel_rfl
set_option maxRecDepth 100000 in
theorem momFV (m n T : Nat) (hn : n < pN) (hT : seqT m n 6 = T) : (callF Tryz.prog (SMp false [moL m n T hn hT]) 100 128 [.agg (lim (lm n)), .agg (lim (lm m))] []).map (fun r => (r.1, r.2.2)) = some (.agg (lim (lm T)), some (momL m n T hn hT ∧ true = true ∧ true = true ∧ (cB (lm T) (lm pN) 6 == 0) = false ∧ true = true)) := by kernel_rfl
theorem mom_callT (m n T : Nat) (hn : n < pN) (hE : seqT m n 6 = T) (hT : T < n + pN) (ρ : Key → Loc) (w : World) :
    Calls Tryz.prog 128 (trs ρ [(.agg (lim (lm n)) : LV Empty), .agg (lim (lm m))]).toArray w fun e w' => e = .returned (LV.tr ρ (.agg (lim (lm (T % pN))) : LV Empty)) ∧ Below w.heap.size w w' := by
  have hp := pN_lt
  have e6 : cB (lm (T)) (lm pN) 6 = if T < pN then 1 else 0 := by
    rw [cB_lm, bw_six (by omega) (by omega)]
    split <;> rfl
  by_cases h : T < pN
  · rw [Nat.mod_eq_of_lt h]
    refine plain_call (SMp_ok _ _) rfl (momFV m n T hn hE) ⟨⟨rfl, rfl⟩, rfl, rfl, ?_, rfl⟩ (fun _ _ => rfl) ⟨⟨trivial, trivial, trivial, trivial, trivial, trivial, trivial⟩, ⟨trivial, trivial, trivial, trivial, trivial, trivial, trivial⟩, trivial⟩ (fun ρ ρ' => rfl) ρ w
    rw [e6, if_pos h]; rfl
  · have h2 : T % pN = T - pN := by rw [Nat.mod_eq_sub_mod (by omega), Nat.mod_eq_of_lt (by omega)]
    rw [h2]
    have ed : ∀ k, k < 6 → dB (lm (T)) (lm pN) k = lm (T - pN) k := fun k hk => by
      rw [dB_lm _ _ _ hk (by omega), show T + BB ^ 6 - pN = (T - pN) + BB ^ 6 by omega, lm_six _ _ hk]
    refine plain_call (SMp_ok _ _) rfl (momTV m n T hn hE) ⟨⟨rfl, rfl⟩, rfl, rfl, ?_, rfl, rfl⟩ (fun _ _ => rfl) ⟨⟨trivial, trivial, trivial, trivial, trivial, trivial, trivial⟩, ⟨trivial, trivial, trivial, trivial, trivial, trivial, trivial⟩, trivial⟩ (fun ρ ρ' => by rw [lim_congr ed]; rfl) ρ w
    rw [e6, if_neg h]; rfl
theorem mom_call (m n : Nat) (hn : n < pN) (ρ : Key → Loc) (w : World) :
    Calls Tryz.prog 128 (trs ρ [(.agg (lim (lm n)) : LV Empty), .agg (lim (lm m))]).toArray w fun e w' => e = .returned (LV.tr ρ (.agg (lim (lm (seqT m n 6 % pN))) : LV Empty)) ∧ Below w.heap.size w w' :=
  mom_callT m n (seqT m n 6) hn rfl (seqT_lt m 6) ρ w
set_option maxRecDepth 100000 in
theorem entMont : ∀ args w, (callFunc 128 args).run Tryz.prog w = .ok (.enter 128 args) w := ent_of (f := 128) (P := Tryz.prog) rfl rfl rfl
theorem fmul_comm (a b : Fe) : fmul a b = fmul b a := by unfold fmul; rw [Nat.mul_comm]
theorem mont_runs (a b : Fe) : Runs 128 [bF [a], bF [b]] (.agg [.abs (fmul a b)]) := by
  refine ⟨rfl, fun ρ w => ?_⟩
  have := mom_call (mo (fv b)) (mo (fv a)) (mo_lt _) ρ w
  rw [mo_mul, ← mo_red (fv b * fv a)] at this
  rw [fmul_comm]
  have e : trs ρ [bF [a], bF [b]] = trs ρ [(.agg (lim (lm (mo (fv a)))) : LV Empty), .agg (lim (lm (mo (fv b))))] := trs_fe a b ρ
  rw [e]
  simp only [tr_fe, fv_mul]
  exact this
noncomputable def conMont : ConP Tryz.prog Fe := mkP 128 entMont [1, 1] (fun a b => .agg [.abs (fmul a b)]) mont_runs
end Go.Proofs.YtcedljbapgmdmaaGreat.En

/- DERIVED. The document's sums, differences, opposites of its field as contracts. -/
set_option linter.all false
namespace Go.Proofs.YtcedljbapgmdmaaGreat.En
open Go Go.RowKit

--@gen raddG (a b : Nat → Int) := (callF Tryz.prog (SF fun _ _ _ => none) 60 130 [.agg (lim a), .agg (lim b)] []).map (fun r => r.2.2)
--@[
set_option maxRecDepth 100000 in
def raddG_G (a b : Nat → Int) : Prop := (true = true ∧ true = true ∧ 0 ≤ 1 ∧ true = true ∧ true = true) ∧ (true = true ∧ true = true ∧ Int.toNat (adC (a 0) (b 0) ((0 : Int))) ≤ 1 ∧ true = true ∧ true = true) ∧ (true = true ∧ true = true ∧ Int.toNat (adC (a 1) (b 1) (adC (a 0) (b 0) ((0 : Int)))) ≤ 1 ∧ true = true ∧ true = true) ∧ (true = true ∧ true = true ∧ Int.toNat (adC (a 2) (b 2) (adC (a 1) (b 1) (adC (a 0) (b 0) ((0 : Int))))) ≤ 1 ∧ true = true ∧ true = true) ∧ (true = true ∧ true = true ∧ Int.toNat (adC (a 3) (b 3) (adC (a 2) (b 2) (adC (a 1) (b 1) (adC (a 0) (b 0) ((0 : Int)))))) ≤ 1 ∧ true = true ∧ true = true) ∧ (true = true ∧ true = true ∧ Int.toNat (adC (a 4) (b 4) (adC (a 3) (b 3) (adC (a 2) (b 2) (adC (a 1) (b 1) (adC (a 0) (b 0) ((0 : Int))))))) ≤ 1 ∧ true = true ∧ true = true) ∧ true = true
set_option maxRecDepth 100000 in
theorem raddG (a b : Nat → Int) : (callF Tryz.prog (SF fun _ _ _ => none) 60 130 [.agg (lim a), .agg (lim b)] []).map (fun r => r.2.2) = some (some ((raddG_G a b))) := by kernel_rfl
--@]
set_option maxRecDepth 100000 in
theorem raddV (a b : Nat → Int) : (callF Tryz.prog (SF fun _ _ _ => none) 60 130 [.agg (lim a), .agg (lim b)] []).map (fun r => (r.1, r.2.2)) = some (.tup [.agg (lim (sA a b)), .int .u64 (cA a b 6)], some (raddG_G a b)) := by kernel_rfl
/-- What is carried is 0 or 1. -/
def caOk (a b : Nat → Int) : Prop := ∀ k, k < 6 → (cA a b k).toNat ≤ 1
theorem raddG_ok {a b : Nat → Int} (h : caOk a b) : condOk (some (raddG_G a b)) := by
  unfold condOk raddG_G
  and_intros <;> first | with_reducible rfl | exact Nat.zero_le _ | exact h 0 (by omega) | exact h 1 (by omega) | exact h 2 (by omega) | exact h 3 (by omega) | exact h 4 (by omega) | exact h 5 (by omega)
set_option maxRecDepth 100000 in
theorem entRAdd : ∀ args w, (callFunc 130 args).run Tryz.prog w = .ok (.enter 130 args) w := ent_of (f := 130) (P := Tryz.prog) rfl rfl rfl
theorem radd_call (a b : Nat → Int) (h : caOk a b) (ρ : Key → Loc) (w : World) : Calls Tryz.prog 130 (trs ρ [(.agg (lim a) : LV Empty), .agg (lim b)]).toArray w fun e w' => e = .returned (LV.tr ρ (.tup [.agg (lim (sA a b)), .int .u64 (cA a b 6)] : LV Empty)) ∧ Below w.heap.size w w' :=
  plain_call (SF_ok _) rfl (raddV a b) (raddG_ok h) (fun _ _ => rfl) ⟨⟨trivial, trivial, trivial, trivial, trivial, trivial, trivial⟩, ⟨trivial, trivial, trivial, trivial, trivial, trivial, trivial⟩, trivial⟩ (fun ρ ρ' => rfl) ρ w
def raddFn {A : Type} : List (LV A) → Option (LV A × Cnd)
  | [u, v] => match sixOf u, sixOf v with
    | some a, some b => some (.tup [limA (sA a b), .int .u64 (cA a b 6)], some (caOk a b))
    | _, _ => none
  | _ => none
noncomputable def conRAdd {A : Type} [Ab A] : ConQ Tryz.prog A where
  f := 130
  fn := raddFn
  kin vs v c h p := by
    unfold raddFn at h
    split at h
    · split at h
      · cases h; exact ⟨⟨trivial, trivial, trivial, trivial, trivial, trivial, trivial⟩, trivial, trivial⟩
      · cases h
    · cases h
  call vs v c h hc ρ w := by
    unfold raddFn at h
    split at h
    · split at h
      · rename_i a b ha hb
        cases h
        rw [sixOf_some ha, sixOf_some hb]
        exact .inl ⟨entRAdd _ w, radd_call a b hc ρ w⟩
      · cases h
    · cases h
noncomputable abbrev SRf (d : FuncId → Nat → Nat → Option Bool) : Sig Empty := sigQ [conRAdd] (sigOf (P := Tryz.prog) [conRSub, conRP] [] [] (I := noI) [] noMs (advF d))
theorem SRf_ok (d : FuncId → Nat → Nat → Option Bool) : SigOk Tryz.prog (SRf d) := sigQ_ok _ (sigOf_ok [conRSub, conRP] [] [] [] (noMs_ok _) _ noI_ok)
/-! ## the runs -/
theorem plain2 (a b : Nat → Int) : plainL [(.agg (lim a) : LV Empty), .agg (lim b)] := ⟨⟨trivial, trivial, trivial, trivial, trivial, trivial, trivial⟩, ⟨trivial, trivial, trivial, trivial, trivial, trivial, trivial⟩, trivial⟩
--@gen rfa1 (a b : Nat → Int) := (callF Tryz.prog (SRf (dci 105 [(2, 2, false)])) 60 105 [.agg (lim a), .agg (lim b)] []).map (fun r => r.2.2)
--@[
set_option maxRecDepth 100000 in
def rfa1_G (a b : Nat → Int) : Prop := (caOk (six (a 0) (a 1) (a 2) (a 3) (a 4) (a 5)) (six (b 0) (b 1) (b 2) (b 3) (b 4) (b 5)) ∧ true = true) ∧ (true = true ∧ decide ((1873798617647539866 : Int) ≤ sA (six (a 0) (a 1) (a 2) (a 3) (a 4) (a 5)) (six (b 0) (b 1) (b 2) (b 3) (b 4) (b 5)) 5) = false) ∧ true = true
set_option maxRecDepth 100000 in
theorem rfa1 (a b : Nat → Int) : (callF Tryz.prog (SRf (dci 105 [(2, 2, false)])) 60 105 [.agg (lim a), .agg (lim b)] []).map (fun r => r.2.2) = some (some ((rfa1_G a b))) := by kernel_rfl
--@]
--@gen rfa2 (a b : Nat → Int) := (callF Tryz.prog (SRf (dci 105 [(2, 2, true), (4, 1, true)])) 60 105 [.agg (lim a), .agg (lim b)] []).map (fun r => r.2.2)
--@[
set_option maxRecDepth 100000 in
def rfa2_G (a b : Nat → Int) : Prop := (caOk (six (a 0) (a 1) (a 2) (a 3) (a 4) (a 5)) (six (b 0) (b 1) (b 2) (b 3) (b 4) (b 5)) ∧ true = true) ∧ (true = true ∧ decide ((1873798617647539866 : Int) ≤ sA (six (a 0) (a 1) (a 2) (a 3) (a 4) (a 5)) (six (b 0) (b 1) (b 2) (b 3) (b 4) (b 5)) 5) = true) ∧ true = true ∧ (cB (six (sA (six (a 0) (a 1) (a 2) (a 3) (a 4) (a 5)) (six (b 0) (b 1) (b 2) (b 3) (b 4) (b 5)) 0) (sA (six (a 0) (a 1) (a 2) (a 3) (a 4) (a 5)) (six (b 0) (b 1) (b 2) (b 3) (b 4) (b 5)) 1) (sA (six (a 0) (a 1) (a 2) (a 3) (a 4) (a 5)) (six (b 0) (b 1) (b 2) (b 3) (b 4) (b 5)) 2) (sA (six (a 0) (a 1) (a 2) (a 3) (a 4) (a 5)) (six (b 0) (b 1) (b 2) (b 3) (b 4) (b 5)) 3) (sA (six (a 0) (a 1) (a 2) (a 3) (a 4) (a 5)) (six (b 0) (b 1) (b 2) (b 3) (b 4) (b 5)) 4) (sA (six (a 0) (a 1) (a 2) (a 3) (a 4) (a 5)) (six (b 0) (b 1) (b 2) (b 3) (b 4) (b 5)) 5)) (six (lm pN 0) (lm pN 1) (lm pN 2) (lm pN 3) (lm pN 4) (lm pN 5)) 6 == (0 : Int)) = true ∧ true = true ∧ true = true
set_option maxRecDepth 100000 in
theorem rfa2 (a b : Nat → Int) : (callF Tryz.prog (SRf (dci 105 [(2, 2, true), (4, 1, true)])) 60 105 [.agg (lim a), .agg (lim b)] []).map (fun r => r.2.2) = some (some ((rfa2_G a b))) := by kernel_rfl
--@]
--@gen rfa3 (a b : Nat → Int) := (callF Tryz.prog (SRf (dci 105 [(2, 2, true), (4, 1, false)])) 60 105 [.agg (lim a), .agg (lim b)] []).map (fun r => r.2.2)
--@[
set_option maxRecDepth 100000 in
def rfa3_G (a b : Nat → Int) : Prop := (caOk (six (a 0) (a 1) (a 2) (a 3) (a 4) (a 5)) (six (b 0) (b 1) (b 2) (b 3) (b 4) (b 5)) ∧ true = true) ∧ (true = true ∧ decide ((1873798617647539866 : Int) ≤ sA (six (a 0) (a 1) (a 2) (a 3) (a 4) (a 5)) (six (b 0) (b 1) (b 2) (b 3) (b 4) (b 5)) 5) = true) ∧ true = true ∧ (cB (six (sA (six (a 0) (a 1) (a 2) (a 3) (a 4) (a 5)) (six (b 0) (b 1) (b 2) (b 3) (b 4) (b 5)) 0) (sA (six (a 0) (a 1) (a 2) (a 3) (a 4) (a 5)) (six (b 0) (b 1) (b 2) (b 3) (b 4) (b 5)) 1) (sA (six (a 0) (a 1) (a 2) (a 3) (a 4) (a 5)) (six (b 0) (b 1) (b 2) (b 3) (b 4) (b 5)) 2) (sA (six (a 0) (a 1) (a 2) (a 3) (a 4) (a 5)) (six (b 0) (b 1) (b 2) (b 3) (b 4) (b 5)) 3) (sA (six (a 0) (a 1) (a 2) (a 3) (a 4) (a 5)) (six (b 0) (b 1) (b 2) (b 3) (b 4) (b 5)) 4) (sA (six (a 0) (a 1) (a 2) (a 3) (a 4) (a 5)) (six (b 0) (b 1) (b 2) (b 3) (b 4) (b 5)) 5)) (six (lm pN 0) (lm pN 1) (lm pN 2) (lm pN 3) (lm pN 4) (lm pN 5)) 6 == (0 : Int)) = false ∧ true = true
set_option maxRecDepth 100000 in
theorem rfa3 (a b : Nat → Int) : (callF Tryz.prog (SRf (dci 105 [(2, 2, true), (4, 1, false)])) 60 105 [.agg (lim a), .agg (lim b)] []).map (fun r => r.2.2) = some (some ((rfa3_G a b))) := by kernel_rfl
--@]
--@gen rfs1 (a b : Nat → Int) := (callF Tryz.prog (SRf (dci 104 [(2, 1, false)])) 60 104 [.agg (lim a), .agg (lim b)] []).map (fun r => r.2.2)
--@[
set_option maxRecDepth 100000 in
def rfs1_G (a b : Nat → Int) : Prop := true = true ∧ (cB (six (a 0) (a 1) (a 2) (a 3) (a 4) (a 5)) (six (b 0) (b 1) (b 2) (b 3) (b 4) (b 5)) 6 == (1 : Int)) = false ∧ true = true
set_option maxRecDepth 100000 in
theorem rfs1 (a b : Nat → Int) : (callF Tryz.prog (SRf (dci 104 [(2, 1, false)])) 60 104 [.agg (lim a), .agg (lim b)] []).map (fun r => r.2.2) = some (some ((rfs1_G a b))) := by kernel_rfl
--@]
--@gen rfs2 (a b : Nat → Int) := (callF Tryz.prog (SRf (dci 104 [(2, 1, true)])) 60 104 [.agg (lim a), .agg (lim b)] []).map (fun r => r.2.2)
--@[
set_option maxRecDepth 100000 in
def rfs2_G (a b : Nat → Int) : Prop := true = true ∧ (cB (six (a 0) (a 1) (a 2) (a 3) (a 4) (a 5)) (six (b 0) (b 1) (b 2) (b 3) (b 4) (b 5)) 6 == (1 : Int)) = true ∧ (caOk (six (dB (six (a 0) (a 1) (a 2) (a 3) (a 4) (a 5)) (six (b 0) (b 1) (b 2) (b 3) (b 4) (b 5)) 0) (dB (six (a 0) (a 1) (a 2) (a 3) (a 4) (a 5)) (six (b 0) (b 1) (b 2) (b 3) (b 4) (b 5)) 1) (dB (six (a 0) (a 1) (a 2) (a 3) (a 4) (a 5)) (six (b 0) (b 1) (b 2) (b 3) (b 4) (b 5)) 2) (dB (six (a 0) (a 1) (a 2) (a 3) (a 4) (a 5)) (six (b 0) (b 1) (b 2) (b 3) (b 4) (b 5)) 3) (dB (six (a 0) (a 1) (a 2) (a 3) (a 4) (a 5)) (six (b 0) (b 1) (b 2) (b 3) (b 4) (b 5)) 4) (dB (six (a 0) (a 1) (a 2) (a 3) (a 4) (a 5)) (six (b 0) (b 1) (b 2) (b 3) (b 4) (b 5)) 5)) (six (lm pN 0) (lm pN 1) (lm pN 2) (lm pN 3) (lm pN 4) (lm pN 5)) ∧ true = true) ∧ true = true
set_option maxRecDepth 100000 in
theorem rfs2 (a b : Nat → Int) : (callF Tryz.prog (SRf (dci 104 [(2, 1, true)])) 60 104 [.agg (lim a), .agg (lim b)] []).map (fun r => r.2.2) = some (some ((rfs2_G a b))) := by kernel_rfl
--@]
--@gen rfz (a : Nat → Int) := (callF Tryz.prog (SRf noD) 60 71 [.agg (lim a)] []).map (fun r => r.2.2)
--@[
set_option maxRecDepth 100000 in
theorem rfz (a : Nat → Int) : (callF Tryz.prog (SRf noD) 60 71 [.agg (lim a)] []).map (fun r => r.2.2) = some (none) := by kernel_rfl
--@]
abbrev S6 (a : Nat → Int) : Nat → Int := six (a 0) (a 1) (a 2) (a 3) (a 4) (a 5)
set_option maxRecDepth 100000 in
theorem rfa1V (a b : Nat → Int) : (callF Tryz.prog (SRf (dci 105 [(2, 2, false)])) 60 105 [.agg (lim a), .agg (lim b)] []).map (fun r => (r.1, r.2.2)) = some (.agg (lim (sA (S6 a) (S6 b))), some (rfa1_G a b)) := by kernel_rfl
set_option maxRecDepth 100000 in
theorem rfa2V (a b : Nat → Int) : (callF Tryz.prog (SRf (dci 105 [(2, 2, true), (4, 1, true)])) 60 105 [.agg (lim a), .agg (lim b)] []).map (fun r => (r.1, r.2.2)) = some (.agg (lim (dB (S6 (sA (S6 a) (S6 b))) (S6 (lm pN)))), some (rfa2_G a b)) := by kernel_rfl
set_option maxRecDepth 100000 in
theorem rfa3V (a b : Nat → Int) : (callF Tryz.prog (SRf (dci 105 [(2, 2, true), (4, 1, false)])) 60 105 [.agg (lim a), .agg (lim b)] []).map (fun r => (r.1, r.2.2)) = some (.agg (lim (sA (S6 a) (S6 b))), some (rfa3_G a b)) := by kernel_rfl
set_option maxRecDepth 100000 in
theorem rfs1V (a b : Nat → Int) : (callF Tryz.prog (SRf (dci 104 [(2, 1, false)])) 60 104 [.agg (lim a), .agg (lim b)] []).map (fun r => (r.1, r.2.2)) = some (.agg (lim (dB (S6 a) (S6 b))), some (rfs1_G a b)) := by kernel_rfl
set_option maxRecDepth 100000 in
theorem rfs2V (a b : Nat → Int) : (callF Tryz.prog (SRf (dci 104 [(2, 1, true)])) 60 104 [.agg (lim a), .agg (lim b)] []).map (fun r => (r.1, r.2.2)) = some (.agg (lim (sA (S6 (dB (S6 a) (S6 b))) (S6 (lm pN)))), some (rfs2_G a b)) := by kernel_rfl
theorem S6_eq (a : Nat → Int) : ∀ k, k < 6 → S6 a k = a k := by
  intro k hk
  rcases (show k = 0 ∨ k = 1 ∨ k = 2 ∨ k = 3 ∨ k = 4 ∨ k = 5 by omega) with rfl | rfl | rfl | rfl | rfl | rfl <;> rfl
theorem cA_cg {a a' b b' : Nat → Int} (h : ∀ k, k < 6 → a k = a' k) (h' : ∀ k, k < 6 → b k = b' k) : ∀ k, k ≤ 6 → cA a b k = cA a' b' k
  | 0, _ => rfl
  | k + 1, hk => by rw [cA, cA, cA_cg h h' k (by omega), h k (by omega), h' k (by omega)]
theorem sA_cg {a a' b b' : Nat → Int} (h : ∀ k, k < 6 → a k = a' k) (h' : ∀ k, k < 6 → b k = b' k) (k : Nat) (hk : k < 6) : sA a b k = sA a' b' k := by
  unfold sA; rw [cA_cg h h' k (by omega), h k hk, h' k hk]
theorem cB_cg {a a' b b' : Nat → Int} (h : ∀ k, k < 6 → a k = a' k) (h' : ∀ k, k < 6 → b k = b' k) : ∀ k, k ≤ 6 → cB a b k = cB a' b' k
  | 0, _ => rfl
  | k + 1, hk => by rw [cB, cB, cB_cg h h' k (by omega), h k (by omega), h' k (by omega)]
theorem dB_cg {a a' b b' : Nat → Int} (h : ∀ k, k < 6 → a k = a' k) (h' : ∀ k, k < 6 → b k = b' k) (k : Nat) (hk : k < 6) : dB a b k = dB a' b' k := by
  unfold dB; rw [cB_cg h h' k (by omega), h k hk, h' k hk]
/-- The parts of a sum and of a difference, of six parts. -/
theorem sS (m n k : Nat) (hk : k < 6) : sA (S6 (lm m)) (S6 (lm n)) k = lm (m + n) k := by rw [sA_cg (S6_eq _) (S6_eq _) k hk, sA_lm]
theorem dS6 (m n k : Nat) (hk : k < 6) (h : n ≤ m + BB ^ 6) : dB (S6 (lm m)) (S6 (lm n)) k = lm (m + BB ^ 6 - n) k := by rw [dB_cg (S6_eq _) (S6_eq _) k hk, dB_lm m n k hk h]
theorem caOk_lm (m n : Nat) : caOk (S6 (lm m)) (S6 (lm n)) := fun k hk => by
  rw [cA_cg (S6_eq _) (S6_eq _) k (by omega), cA_lm]; exact cy_le m n k
theorem cB6 (m n : Nat) (hm : m < BB ^ 6) (hn : n < BB ^ 6) : cB (S6 (lm m)) (S6 (lm n)) 6 = if m < n then 1 else 0 := by
  rw [cB_cg (S6_eq _) (S6_eq _) 6 (by omega), cB_lm, bw_six hm hn]
  split <;> rfl
theorem S6_cg {a b : Nat → Int} (h : ∀ k, k < 6 → a k = b k) : S6 a = S6 b := by
  unfold S6
  rw [h 0 (by omega), h 1 (by omega), h 2 (by omega), h 3 (by omega), h 4 (by omega), h 5 (by omega)]
theorem top_part : pN / BB ^ 5 = 1873798617647539866 := by decide +kernel
theorem rfa_call (m n : Nat) (hm : m < pN) (hn : n < pN) (ρ : Key → Loc) (w : World) :
    Calls Tryz.prog 105 (trs ρ [(.agg (lim (lm m)) : LV Empty), .agg (lim (lm n))]).toArray w fun e w' => e = .returned (LV.tr ρ (.agg (lim (lm ((m + n) % pN))) : LV Empty)) ∧ Below w.heap.size w w' := by
  have hp := pN_lt
  have es : ∀ k, k < 6 → sA (S6 (lm m)) (S6 (lm n)) k = lm (m + n) k := fun k hk => sS m n k hk
  have e5 : sA (S6 (lm m)) (S6 (lm n)) 5 = (((m + n) / BB ^ 5 : Nat) : Int) := by
    rw [es 5 (by omega)]
    unfold lm lmN
    rw [Nat.mod_eq_of_lt (show (m + n) / BB ^ 5 < BB from (Nat.div_lt_iff_lt_mul (BB_pos 5)).2 (by rw [← Nat.pow_succ']; show m + n < BB ^ 6; omega))]
  by_cases ht : (m + n) / BB ^ 5 < 1873798617647539866
  · have h : m + n < pN := by
      have := (Nat.div_lt_iff_lt_mul (BB_pos 5)).1 (show (m + n) / BB ^ 5 < pN / BB ^ 5 by rw [top_part]; exact ht)
      exact Nat.lt_of_lt_of_le this (Nat.div_mul_le_self pN (BB ^ 5))
    rw [Nat.mod_eq_of_lt h]
    refine plain_call (SRf_ok _) rfl (rfa1V _ _) ?_ (fun _ _ => rfl) (plain2 _ _) (fun ρ ρ' => by rw [lim_congr es]; rfl) ρ w
    refine ⟨⟨caOk_lm m n, rfl⟩, ⟨rfl, ?_⟩, rfl⟩
    rw [decide_eq_false_iff_not, e5]
    omega
  · have hge : decide ((1873798617647539866 : Int) ≤ sA (S6 (lm m)) (S6 (lm n)) 5) = true := by
      rw [decide_eq_true_eq, e5]
      omega
    have eS : S6 (sA (S6 (lm m)) (S6 (lm n))) = S6 (lm (m + n)) := S6_cg es
    by_cases h : m + n < pN
    · rw [Nat.mod_eq_of_lt h]
      refine plain_call (SRf_ok _) rfl (rfa3V _ _) ?_ (fun _ _ => rfl) (plain2 _ _) (fun ρ ρ' => by rw [lim_congr es]; rfl) ρ w
      refine ⟨⟨caOk_lm m n, rfl⟩, ⟨rfl, hge⟩, rfl, ?_, ?_⟩
      · show (cB (S6 (sA (S6 (lm m)) (S6 (lm n)))) (S6 (lm pN)) 6 == 0) = false
        rw [eS, cB6 _ _ (by omega) (by omega), if_pos h]; rfl
      · rfl
    · have h2 : (m + n) % pN = m + n - pN := by rw [Nat.mod_eq_sub_mod (by omega), Nat.mod_eq_of_lt (by omega)]
      rw [h2]
      have ed : ∀ k, k < 6 → dB (S6 (sA (S6 (lm m)) (S6 (lm n)))) (S6 (lm pN)) k = lm (m + n - pN) k := fun k hk => by
        rw [eS, dS6 _ _ k hk (by omega), show m + n + BB ^ 6 - pN = (m + n - pN) + BB ^ 6 by omega, lm_six _ _ hk]
      refine plain_call (SRf_ok _) rfl (rfa2V _ _) ?_ (fun _ _ => rfl) (plain2 _ _) (fun ρ ρ' => by rw [lim_congr ed]; rfl) ρ w
      refine ⟨⟨caOk_lm m n, rfl⟩, ⟨rfl, hge⟩, rfl, ?_, ?_⟩
      · show (cB (S6 (sA (S6 (lm m)) (S6 (lm n)))) (S6 (lm pN)) 6 == 0) = true
        rw [eS, cB6 _ _ (by omega) (by omega), if_neg h]; rfl
      · and_intros <;> rfl
theorem rfs_call (m n : Nat) (hm : m < pN) (hn : n < pN) (ρ : Key → Loc) (w : World) :
    Calls Tryz.prog 104 (trs ρ [(.agg (lim (lm m)) : LV Empty), .agg (lim (lm n))]).toArray w fun e w' => e = .returned (LV.tr ρ (.agg (lim (lm ((m + (pN - n)) % pN))) : LV Empty)) ∧ Below w.heap.size w w' := by
  have hp := pN_lt
  have e6 := cB6 m n (by omega) (by omega)
  by_cases h : m < n
  · have h2 : (m + (pN - n)) % pN = m + pN - n := by rw [Nat.mod_eq_of_lt (by omega)]; omega
    rw [h2]
    have ed : ∀ k, k < 6 → dB (S6 (lm m)) (S6 (lm n)) k = lm (m + BB ^ 6 - n) k := fun k hk => dS6 m n k hk (by omega)
    have eS : S6 (dB (S6 (lm m)) (S6 (lm n))) = S6 (lm (m + BB ^ 6 - n)) := S6_cg ed
    have ef : ∀ k, k < 6 → sA (S6 (dB (S6 (lm m)) (S6 (lm n)))) (S6 (lm pN)) k = lm (m + pN - n) k := fun k hk => by
      rw [eS, sS _ _ k hk, show m + BB ^ 6 - n + pN = (m + pN - n) + BB ^ 6 by omega, lm_six _ _ hk]
    refine plain_call (SRf_ok _) rfl (rfs2V _ _) ?_ (fun _ _ => rfl) (plain2 _ _) (fun ρ ρ' => by rw [lim_congr ef]; rfl) ρ w
    have hc : caOk (S6 (dB (S6 (lm m)) (S6 (lm n)))) (S6 (lm pN)) := by rw [eS]; exact caOk_lm _ _
    refine ⟨rfl, ?_, ?_⟩
    · show (cB (S6 (lm m)) (S6 (lm n)) 6 == 1) = true
      rw [e6, if_pos h]; rfl
    · and_intros <;> first | rfl | exact hc
  · have h2 : (m + (pN - n)) % pN = m - n := by
      rw [show m + (pN - n) = m - n + pN by omega, Nat.add_mod_right, Nat.mod_eq_of_lt (by omega)]
    rw [h2]
    have ed : ∀ k, k < 6 → dB (S6 (lm m)) (S6 (lm n)) k = lm (m - n) k := fun k hk => by
      rw [dS6 m n k hk (by omega), show m + BB ^ 6 - n = (m - n) + BB ^ 6 by omega, lm_six _ _ hk]
    refine plain_call (SRf_ok _) rfl (rfs1V _ _) ?_ (fun _ _ => rfl) (plain2 _ _) (fun ρ ρ' => by rw [lim_congr ed]; rfl) ρ w
    refine ⟨rfl, ?_, rfl⟩
    show (cB (S6 (lm m)) (S6 (lm n)) 6 == 1) = false
    rw [e6, if_neg h]; rfl
end Go.Proofs.YtcedljbapgmdmaaGreat.En

/- DERIVED. The document's field as contracts. -/
set_option linter.all false
namespace Go.Proofs.YtcedljbapgmdmaaGreat.En
open Go Go.RowKit

theorem runs2 {f : FuncId} {op : Nat → Nat → Nat} {g : Fe → Fe → Fe} (he : ∀ a b, op (mo (fv a)) (mo (fv b)) = mo (fv (g a b)))
    (h : ∀ m n, m < pN → n < pN → ∀ (ρ : Key → Loc) (w : World), Calls Tryz.prog f (trs ρ [(.agg (lim (lm m)) : LV Empty), .agg (lim (lm n))]).toArray w fun e w' => e = .returned (LV.tr ρ (.agg (lim (lm (op m n))) : LV Empty)) ∧ Below w.heap.size w w') (a b : Fe) : Runs f [bF [a], bF [b]] (.agg [.abs (g a b)]) := by
  refine ⟨rfl, fun ρ w => ?_⟩
  have := h (mo (fv a)) (mo (fv b)) (mo_lt _) (mo_lt _) ρ w
  rw [he] at this
  have e : trs ρ [bF [a], bF [b]] = trs ρ [(.agg (lim (lm (mo (fv a)))) : LV Empty), .agg (lim (lm (mo (fv b))))] := trs_fe a b ρ
  rw [e]
  simp only [tr_fe]
  exact this
theorem mo_fadd (a b : Fe) : (mo (fv a) + mo (fv b)) % pN = mo (fv (fadd a b)) := by rw [fv_add, mo_red, mo_add]
theorem mo_fsub (a b : Fe) : (mo (fv a) + (pN - mo (fv b))) % pN = mo (fv (fsub a b)) := by rw [fv_sub, mo_red, mo_sub]
set_option maxRecDepth 100000 in
theorem entRFAdd : ∀ args w, (callFunc 105 args).run Tryz.prog w = .ok (.enter 105 args) w := ent_of (f := 105) (P := Tryz.prog) rfl rfl rfl
set_option maxRecDepth 100000 in
theorem entRFSub : ∀ args w, (callFunc 104 args).run Tryz.prog w = .ok (.enter 104 args) w := ent_of (f := 104) (P := Tryz.prog) rfl rfl rfl
set_option maxRecDepth 100000 in
theorem entRFIsZero : ∀ args w, (callFunc 71 args).run Tryz.prog w = .ok (.enter 71 args) w := ent_of (f := 71) (P := Tryz.prog) rfl rfl rfl
noncomputable def conRFAdd : ConP Tryz.prog Fe := mkP 105 entRFAdd [1, 1] (fun a b => .agg [.abs (fadd a b)]) (runs2 (op := fun m n => (m + n) % pN) mo_fadd fun m n hm hn ρ w => rfa_call m n hm hn ρ w)
noncomputable def conRFSub : ConP Tryz.prog Fe := mkP 104 entRFSub [1, 1] (fun a b => .agg [.abs (fsub a b)]) (runs2 (op := fun m n => (m + (pN - n)) % pN) mo_fsub fun m n hm hn ρ w => rfs_call m n hm hn ρ w)
/-! ## is it nought; the opposite -/
def z6 (t : Nat → Int) : Bool := t 0 == 0 && (t 1 == 0 && (t 2 == 0 && (t 3 == 0 && (t 4 == 0 && (t 5 == 0 && true)))))
set_option maxRecDepth 100000 in
theorem rfzV (t : Nat → Int) : (callF Tryz.prog (SRf noD) 60 71 [.agg (lim t)] []).map (fun r => (r.1, r.2.2)) = some (.bool (z6 t), none) := by kernel_rfl
theorem rfz_call (t : Nat → Int) (ρ : Key → Loc) (w : World) : Calls Tryz.prog 71 (trs ρ [(.agg (lim t) : LV Empty)]).toArray w fun e w' => e = .returned (LV.tr ρ (.bool (z6 t) : LV Empty)) ∧ Below w.heap.size w w' :=
  plain_call (SRf_ok _) rfl (rfzV t) trivial (fun _ _ => rfl) ⟨⟨trivial, trivial, trivial, trivial, trivial, trivial, trivial⟩, trivial⟩ (fun ρ ρ' => rfl) ρ w
def six1 {A : Type} (g : (Nat → Int) → LV A) : List (LV A) → Option (LV A)
  | [u] => match sixOf u with
    | some a => some (g a)
    | _ => none
  | _ => none
theorem six1_some {A : Type} {g : (Nat → Int) → LV A} {vs : List (LV A)} {v : LV A} (h : six1 g vs = some v) : ∃ a, vs = [limA a] ∧ v = g a := by
  unfold six1 at h
  split at h
  · split at h
    · rename_i a ha
      cases h
      exact ⟨a, by rw [sixOf_some ha], rfl⟩
    · cases h
  · cases h
noncomputable def conRZr : ConP Tryz.prog Empty where
  f := 71
  fn := six1 fun a => .bool (z6 a)
  ent := entRFIsZero
  kin vs v h p := by
    obtain ⟨a, _, rfl⟩ := six1_some h
    exact trivial
  call vs v h ρ w := by
    obtain ⟨a, rfl, rfl⟩ := six1_some h
    exact rfz_call a ρ w
theorem rfz_runs (a : Fe) : Runs 71 [bF [a]] (.bool (isz a)) := by
  refine ⟨rfl, fun ρ w => ?_⟩
  have := rfz_call (lm (mo (fv a))) ρ w
  have e : z6 (lm (mo (fv a))) = isz a := iz_eq (fv a)
  rw [e] at this
  have e2 : trs ρ [bF [a]] = trs ρ [(.agg (lim (lm (mo (fv a)))) : LV Empty)] := by simp only [trs, bF, absL, tr_fe]
  rw [e2]
  exact this
noncomputable def conRFIsZero : ConP Tryz.prog Fe := mkP 71 entRFIsZero [1] (fun a => .bool (isz a)) rfz_runs
noncomputable abbrev SRn (b : Bool) : Sig Empty := sigQ [conRAdd] (sigOf (P := Tryz.prog) [conRSub, conRP, conRZr] [] [] (I := noI) [] noMs (advF (dci 108 [(1, 1, b)])))
theorem SRn_ok (b : Bool) : SigOk Tryz.prog (SRn b) := sigQ_ok _ (sigOf_ok [conRSub, conRP, conRZr] [] [] [] (noMs_ok _) _ noI_ok)
--@pre set_option maxRecDepth 100000
--@gen rfn1 (a : Nat → Int) := (callF Tryz.prog (SRn true) 60 108 [.agg (lim a)] []).map (fun r => r.2.2)
--@[
set_option maxRecDepth 100000 in
def rfn1_G (a : Nat → Int) : Prop := z6 (six (a 0) (a 1) (a 2) (a 3) (a 4) (a 5)) = true ∧ true = true
set_option maxRecDepth 100000 in
theorem rfn1 (a : Nat → Int) : (callF Tryz.prog (SRn true) 60 108 [.agg (lim a)] []).map (fun r => r.2.2) = some (some ((rfn1_G a))) := by kernel_rfl
--@]
--@gen rfn2 (a : Nat → Int) := (callF Tryz.prog (SRn false) 60 108 [.agg (lim a)] []).map (fun r => r.2.2)
--@[
set_option maxRecDepth 100000 in
def rfn2_G (a : Nat → Int) : Prop := z6 (six (a 0) (a 1) (a 2) (a 3) (a 4) (a 5)) = false ∧ true = true ∧ true = true
set_option maxRecDepth 100000 in
theorem rfn2 (a : Nat → Int) : (callF Tryz.prog (SRn false) 60 108 [.agg (lim a)] []).map (fun r => r.2.2) = some (some ((rfn2_G a))) := by kernel_rfl
--@]
set_option maxRecDepth 100000 in
theorem rfn1V (a : Nat → Int) : (callF Tryz.prog (SRn true) 60 108 [.agg (lim a)] []).map (fun r => (r.1, r.2.2)) = some (.agg (lim a), some (rfn1_G a)) := by kernel_rfl
set_option maxRecDepth 100000 in
theorem rfn2V (a : Nat → Int) : (callF Tryz.prog (SRn false) 60 108 [.agg (lim a)] []).map (fun r => (r.1, r.2.2)) = some (.agg (lim (dB (S6 (lm pN)) (S6 a))), some (rfn2_G a)) := by kernel_rfl
theorem fv_zE : fv (ofSix 0 0 0 0 0 0) = 0 := by decide +kernel
theorem mo_fneg (a : Fe) : (pN - mo (fv a)) % pN = mo (fv (fneg a)) := by
  have := mo_fsub (ofSix 0 0 0 0 0 0) a
  rw [fv_zE, mo_zero, Nat.zero_add] at this
  exact this
set_option maxRecDepth 100000 in
theorem entRFNeg : ∀ args w, (callFunc 108 args).run Tryz.prog w = .ok (.enter 108 args) w := ent_of (f := 108) (P := Tryz.prog) rfl rfl rfl
theorem rfn_runs (a : Fe) : Runs 108 [bF [a]] (.agg [.abs (fneg a)]) := by
  refine ⟨rfl, fun ρ w => ?_⟩
  have hp := pN_lt
  have hm := mo_lt (fv a)
  have e2 : trs ρ [bF [a]] = trs ρ [(.agg (lim (lm (mo (fv a)))) : LV Empty)] := by simp only [trs, bF, absL, tr_fe]
  rw [e2]
  simp only [tr_fe]
  rw [← mo_fneg]
  have hz : z6 (lm (mo (fv a))) = isz a := iz_eq (fv a)
  have pl : plainL [(.agg (lim (lm (mo (fv a)))) : LV Empty)] := ⟨⟨trivial, trivial, trivial, trivial, trivial, trivial, trivial⟩, trivial⟩
  cases h : isz a with
  | true =>
    have h0 : mo (fv a) = 0 := by
      unfold isz at h
      rw [← mo_red, beqN h, mo_zero]
    rw [h0, Nat.sub_zero, Nat.mod_self]
    refine plain_call (SRn_ok _) rfl (rfn1V _) ⟨?_, rfl⟩ (fun _ _ => rfl) ⟨⟨trivial, trivial, trivial, trivial, trivial, trivial, trivial⟩, trivial⟩ (fun _ _ => rfl) ρ w
    decide
  | false =>
    have hne : mo (fv a) ≠ 0 := fun e => by
      unfold isz at h
      have : fv a % pN = 0 % pN := mo_inj (by rw [e, mo_zero])
      rw [this, Nat.zero_mod] at h
      cases h
    rw [Nat.mod_eq_of_lt (by omega)]
    have ed : ∀ k, k < 6 → dB (S6 (lm pN)) (S6 (lm (mo (fv a)))) k = lm (pN - mo (fv a)) k := fun k hk => by
      rw [dS6 _ _ k hk (by omega), show pN + BB ^ 6 - mo (fv a) = (pN - mo (fv a)) + BB ^ 6 by omega, lm_six _ _ hk]
    refine plain_call (SRn_ok _) rfl (rfn2V _) ⟨?_, rfl, rfl⟩ (fun _ _ => rfl) pl (fun _ _ => by rw [lim_congr ed]; rfl) ρ w
    show z6 (lm (mo (fv a))) = false
    rw [hz, h]
noncomputable def conRFNeg : ConP Tryz.prog Fe := mkP 108 entRFNeg [1] (fun a => .agg [.abs (fneg a)]) rfn_runs
/-! ## products, numbers -/
noncomputable abbrev SRF (d : FuncId → Nat → Nat → Option Bool) (ps : List (ConP Tryz.prog Fe)) : Sig Fe := sigOf (P := Tryz.prog) ([conMont, conRFAdd, conRFSub, conRFNeg, conRFIsZero] ++ ps) [] [] (I := noIF) [] msF (advF d)
theorem SRF_ok (d : FuncId → Nat → Nat → Option Bool) (ps : List (ConP Tryz.prog Fe)) : SigOk Tryz.prog (SRF d ps) := sigOf_ok _ [] [] [] msF_ok _ noIF_ok
set_option maxRecDepth 100000 in
theorem entRFMul : ∀ args w, (callFunc 103 args).run Tryz.prog w = .ok (.enter 103 args) w := ent_of (f := 103) (P := Tryz.prog) rfl rfl rfl
--@run rfmV (a b : Fe) := callF Tryz.prog (SRF noD []) 60 103 [bF [a], bF [b]] [] => .agg [.abs (fmul a b)]
--@[
set_option maxRecDepth 100000 in
def rfmV_G (a b : Fe) : Prop := true = true
set_option maxRecDepth 100000 in
theorem rfmV (a b : Fe) : (callF Tryz.prog (SRF noD []) 60 103 [bF [a], bF [b]] []).map (fun r => (r.1, r.2.2)) = some (.agg [.abs (fmul a b)], some (rfmV_G a b)) := by kernel_rfl
set_option maxRecDepth 100000 in
theorem rfmV_ok (a b : Fe) : condOk (some (rfmV_G a b)) := by unfold rfmV_G condOk; and_intros <;> rfl
--@]
noncomputable def conRFMul : ConP Tryz.prog Fe := mkP 103 entRFMul [1, 1] (fun a b => .agg [.abs (fmul a b)]) fun a b => .of (SRF_ok _ _) rfl (rfmV a b) (rfmV_ok a b) rfl rfl
def ftwo : Fe := ofSix 0xf4df1f341c341746 0xa76e6a609d104f1 0x8de5476c4c95b6d5 0x67eb88a9939d83c0 0x9a793e85b519952d 0x11988fe592cae3aa
def frone : Fe := ofSix 1 0 0 0 0 0
set_option maxRecDepth 100000 in
theorem entRTwo : ∀ args w, (callFunc 136 args).run Tryz.prog w = .ok (.enter 136 args) w := ent_of (f := 136) (P := Tryz.prog) rfl rfl rfl
set_option maxRecDepth 100000 in
theorem entROne : ∀ args w, (callFunc 137 args).run Tryz.prog w = .ok (.enter 137 args) w := ent_of (f := 137) (P := Tryz.prog) rfl rfl rfl
abbrev vTwo : LV Fe := .agg [.int .u64 0xf4df1f341c341746, .int .u64 0xa76e6a609d104f1, .int .u64 0x8de5476c4c95b6d5, .int .u64 0x67eb88a9939d83c0, .int .u64 0x9a793e85b519952d, .int .u64 0x11988fe592cae3aa]
abbrev vOne : LV Fe := .agg [.int .u64 0x760900000002fffd, .int .u64 0xebf4000bc40c0002, .int .u64 0x5f48985753c758ba, .int .u64 0x77ce585370525745, .int .u64 0x5c071a97a256ec6d, .int .u64 0x15f65ec3fa80e493]
--@run rtwV := callF Tryz.prog (SRF noD []) 60 136 [] [] => vTwo
--@[
set_option maxRecDepth 100000 in
def rtwV_G  : Prop := true = true
set_option maxRecDepth 100000 in
theorem rtwV  : (callF Tryz.prog (SRF noD []) 60 136 [] []).map (fun r => (r.1, r.2.2)) = some (vTwo, some (rtwV_G )) := by kernel_rfl
set_option maxRecDepth 100000 in
theorem rtwV_ok  : condOk (some (rtwV_G )) := by unfold rtwV_G condOk; and_intros <;> rfl
--@]
--@run ronV := callF Tryz.prog (SRF noD []) 60 137 [] [] => vOne
--@[
set_option maxRecDepth 100000 in
def ronV_G  : Prop := true = true
set_option maxRecDepth 100000 in
theorem ronV  : (callF Tryz.prog (SRF noD []) 60 137 [] []).map (fun r => (r.1, r.2.2)) = some (vOne, some (ronV_G )) := by kernel_rfl
set_option maxRecDepth 100000 in
theorem ronV_ok  : condOk (some (ronV_G )) := by unfold ronV_G condOk; and_intros <;> rfl
--@]
noncomputable def mk0 (f : FuncId) (ent : ∀ args w, (callFunc f args).run Tryz.prog w = .ok (.enter f args) w) (v : LV Fe) (run : Runs f [] v) : ConP Tryz.prog Fe where
  f := f
  fn := nilFn v
  ent := ent
  kin vs v' h p := by
    obtain ⟨_, rfl⟩ := nilFn_some h
    exact pv_kin p _ run.plain
  call vs v' h ρ w := by
    obtain ⟨rfl, rfl⟩ := nilFn_some h
    exact run.run ρ w
noncomputable def conRTwo : ConP Tryz.prog Fe := mk0 136 entRTwo vTwo (.of (SRF_ok _ _) rfl rtwV rtwV_ok rfl rfl)
noncomputable def conROne : ConP Tryz.prog Fe := mk0 137 entROne vOne (.of (SRF_ok _ _) rfl ronV ronV_ok rfl rfl)
set_option maxRecDepth 100000 in
theorem entROf : ∀ args w, (callFunc 115 args).run Tryz.prog w = .ok (.enter 115 args) w := ent_of (f := 115) (P := Tryz.prog) rfl rfl rfl
--@run rofV (a : Fe) := callF Tryz.prog (SRF noD [conRTwo]) 60 115 [bF [a]] [] => .agg [.abs (fmul a ftwo)]
--@[
set_option maxRecDepth 100000 in
def rofV_G (a : Fe) : Prop := true = true
set_option maxRecDepth 100000 in
theorem rofV (a : Fe) : (callF Tryz.prog (SRF noD [conRTwo]) 60 115 [bF [a]] []).map (fun r => (r.1, r.2.2)) = some (.agg [.abs (fmul a ftwo)], some (rofV_G a)) := by kernel_rfl
set_option maxRecDepth 100000 in
theorem rofV_ok (a : Fe) : condOk (some (rofV_G a)) := by unfold rofV_G condOk; and_intros <;> rfl
--@]
noncomputable def conROf : ConP Tryz.prog Fe := mkP 115 entROf [1] (fun a => .agg [.abs (fmul a ftwo)]) fun a => .of (SRF_ok _ _) rfl (rofV a) (rofV_ok a) rfl rfl
set_option maxRecDepth 100000 in
theorem entRNum : ∀ args w, (callFunc 135 args).run Tryz.prog w = .ok (.enter 135 args) w := ent_of (f := 135) (P := Tryz.prog) rfl rfl rfl
--@run rnuV (a : Fe) := callF Tryz.prog (SRF noD []) 60 135 [bF [a]] [] => .agg [.abs (fmul a frone)]
--@[
set_option maxRecDepth 100000 in
def rnuV_G (a : Fe) : Prop := true = true
set_option maxRecDepth 100000 in
theorem rnuV (a : Fe) : (callF Tryz.prog (SRF noD []) 60 135 [bF [a]] []).map (fun r => (r.1, r.2.2)) = some (.agg [.abs (fmul a frone)], some (rnuV_G a)) := by kernel_rfl
set_option maxRecDepth 100000 in
theorem rnuV_ok (a : Fe) : condOk (some (rnuV_G a)) := by unfold rnuV_G condOk; and_intros <;> rfl
--@]
noncomputable def conRNum : ConP Tryz.prog Fe := mkP 135 entRNum [1] (fun a => .agg [.abs (fmul a frone)]) fun a => .of (SRF_ok _ _) rfl (rnuV a) (rnuV_ok a) rfl rfl
end Go.Proofs.YtcedljbapgmdmaaGreat.En

/- DERIVED. The document's extension as contracts. -/
set_option linter.all false
namespace Go.Proofs.YtcedljbapgmdmaaGreat.En
open Go Go.RowKit

abbrev E2 := Fe × Fe
def eV (x : E2) : LV Fe := .agg [.abs x.1, .abs x.2]
def eadd (x y : E2) : E2 := (fadd x.1 y.1, fadd x.2 y.2)
def esub (x y : E2) : E2 := (fsub x.1 y.1, fsub x.2 y.2)
def eneg (x : E2) : E2 := (fneg x.1, fneg x.2)
def eisz (x : E2) : Bool := isz x.1 && isz x.2
def emulN (x y : E2) : E2 :=
  let u := fmul x.1 y.1
  let v := fmul x.2 y.2
  (fsub u v, fsub (fsub (fmul (fadd x.1 x.2) (fadd y.1 y.2)) u) v)
def emul (x y : E2) : E2 := bif isz x.2 && isz y.2 then (fmul x.1 y.1, zE) else emulN x y
noncomputable abbrev SRE (d : FuncId → Nat → Nat → Option Bool) (ps : List (ConP Tryz.prog Fe)) : Sig Fe := SRF d ([conRFMul, conROf, conRNum, conRTwo, conROne] ++ ps)
theorem SRE_ok (d : FuncId → Nat → Nat → Option Bool) (ps : List (ConP Tryz.prog Fe)) : SigOk Tryz.prog (SRE d ps) := SRF_ok _ _
set_option maxRecDepth 100000 in
theorem entREAdd : ∀ args w, (callFunc 68 args).run Tryz.prog w = .ok (.enter 68 args) w := ent_of (f := 68) (P := Tryz.prog) rfl rfl rfl
--@run readV (a b c d : Fe) := callF Tryz.prog (SRE noD []) 60 68 [bF [a, b], bF [c, d]] [] => eV (eadd (a, b) (c, d))
--@[
set_option maxRecDepth 100000 in
def readV_G (a b c d : Fe) : Prop := true = true
set_option maxRecDepth 100000 in
theorem readV (a b c d : Fe) : (callF Tryz.prog (SRE noD []) 60 68 [bF [a, b], bF [c, d]] []).map (fun r => (r.1, r.2.2)) = some (eV (eadd (a, b) (c, d)), some (readV_G a b c d)) := by kernel_rfl
set_option maxRecDepth 100000 in
theorem readV_ok (a b c d : Fe) : condOk (some (readV_G a b c d)) := by unfold readV_G condOk; and_intros <;> rfl
--@]
noncomputable def conREAdd : ConP Tryz.prog Fe := mkP 68 entREAdd [2, 2] (fun a b c d => eV (eadd (a, b) (c, d))) fun a b c d => .of (SRE_ok _ _) rfl (readV a b c d) (readV_ok a b c d) rfl rfl
set_option maxRecDepth 100000 in
theorem entRESub : ∀ args w, (callFunc 81 args).run Tryz.prog w = .ok (.enter 81 args) w := ent_of (f := 81) (P := Tryz.prog) rfl rfl rfl
--@run resbV (a b c d : Fe) := callF Tryz.prog (SRE noD []) 60 81 [bF [a, b], bF [c, d]] [] => eV (esub (a, b) (c, d))
--@[
set_option maxRecDepth 100000 in
def resbV_G (a b c d : Fe) : Prop := true = true
set_option maxRecDepth 100000 in
theorem resbV (a b c d : Fe) : (callF Tryz.prog (SRE noD []) 60 81 [bF [a, b], bF [c, d]] []).map (fun r => (r.1, r.2.2)) = some (eV (esub (a, b) (c, d)), some (resbV_G a b c d)) := by kernel_rfl
set_option maxRecDepth 100000 in
theorem resbV_ok (a b c d : Fe) : condOk (some (resbV_G a b c d)) := by unfold resbV_G condOk; and_intros <;> rfl
--@]
noncomputable def conRESub : ConP Tryz.prog Fe := mkP 81 entRESub [2, 2] (fun a b c d => eV (esub (a, b) (c, d))) fun a b c d => .of (SRE_ok _ _) rfl (resbV a b c d) (resbV_ok a b c d) rfl rfl
set_option maxRecDepth 100000 in
theorem entRENeg : ∀ args w, (callFunc 73 args).run Tryz.prog w = .ok (.enter 73 args) w := ent_of (f := 73) (P := Tryz.prog) rfl rfl rfl
--@run rengV (a b : Fe) := callF Tryz.prog (SRE noD []) 60 73 [bF [a, b]] [] => eV (eneg (a, b))
--@[
set_option maxRecDepth 100000 in
def rengV_G (a b : Fe) : Prop := true = true
set_option maxRecDepth 100000 in
theorem rengV (a b : Fe) : (callF Tryz.prog (SRE noD []) 60 73 [bF [a, b]] []).map (fun r => (r.1, r.2.2)) = some (eV (eneg (a, b)), some (rengV_G a b)) := by kernel_rfl
set_option maxRecDepth 100000 in
theorem rengV_ok (a b : Fe) : condOk (some (rengV_G a b)) := by unfold rengV_G condOk; and_intros <;> rfl
--@]
noncomputable def conRENeg : ConP Tryz.prog Fe := mkP 73 entRENeg [2] (fun a b => eV (eneg (a, b))) fun a b => .of (SRE_ok _ _) rfl (rengV a b) (rengV_ok a b) rfl rfl
/-! ## is it nought -/
set_option maxRecDepth 100000 in
theorem entREIsZero : ∀ args w, (callFunc 82 args).run Tryz.prog w = .ok (.enter 82 args) w := ent_of (f := 82) (P := Tryz.prog) rfl rfl rfl
--@run rez1V (a b : Fe) := callF Tryz.prog (SRE (dci 82 [(1, 2, true)]) []) 60 82 [bF [a, b]] [] => .bool (isz b)
--@[
set_option maxRecDepth 100000 in
def rez1V_G (a b : Fe) : Prop := isz a = true
set_option maxRecDepth 100000 in
theorem rez1V (a b : Fe) : (callF Tryz.prog (SRE (dci 82 [(1, 2, true)]) []) 60 82 [bF [a, b]] []).map (fun r => (r.1, r.2.2)) = some (.bool (isz b), some (rez1V_G a b)) := by kernel_rfl
--@]
--@run rez2V (a b : Fe) := callF Tryz.prog (SRE (dci 82 [(1, 2, false)]) []) 60 82 [bF [a, b]] [] => .bool false
--@[
set_option maxRecDepth 100000 in
def rez2V_G (a b : Fe) : Prop := isz a = false
set_option maxRecDepth 100000 in
theorem rez2V (a b : Fe) : (callF Tryz.prog (SRE (dci 82 [(1, 2, false)]) []) 60 82 [bF [a, b]] []).map (fun r => (r.1, r.2.2)) = some (.bool false, some (rez2V_G a b)) := by kernel_rfl
--@]
theorem rez_runs (a b : Fe) : Runs 82 [bF [a, b]] (.bool (eisz (a, b))) := by
  cases h : isz a with
  | true =>
    rw [show eisz (a, b) = isz b by simp only [eisz, h, Bool.true_and]]
    exact .of (SRE_ok _ _) rfl (rez1V a b) (by unfold condOk rez1V_G; and_intros <;> first | with_reducible rfl | assumption) rfl rfl
  | false =>
    rw [show eisz (a, b) = false by simp only [eisz, h, Bool.false_and]]
    exact .of (SRE_ok _ _) rfl (rez2V a b) (by unfold condOk rez2V_G; and_intros <;> first | with_reducible rfl | assumption) rfl rfl
noncomputable def conREIsZero : ConP Tryz.prog Fe := mkP 82 entREIsZero [2] (fun a b => .bool (eisz (a, b))) rez_runs
/-! ## products -/
set_option maxRecDepth 100000 in
theorem entREMul : ∀ args w, (callFunc 67 args).run Tryz.prog w = .ok (.enter 67 args) w := ent_of (f := 67) (P := Tryz.prog) rfl rfl rfl
--@run rem1V (a b c d : Fe) := callF Tryz.prog (SRE (dci 67 [(2, 2, true), (2, 6, true)]) []) 60 67 [bF [a, b], bF [c, d]] [] => .agg [.abs (fmul a c), .int .u64 0, .int .u64 0, .int .u64 0, .int .u64 0, .int .u64 0, .int .u64 0]
--@[
set_option maxRecDepth 100000 in
def rem1V_G (a b c d : Fe) : Prop := true = true ∧ (isz b = true ∧ isz d = true) ∧ true = true
set_option maxRecDepth 100000 in
theorem rem1V (a b c d : Fe) : (callF Tryz.prog (SRE (dci 67 [(2, 2, true), (2, 6, true)]) []) 60 67 [bF [a, b], bF [c, d]] []).map (fun r => (r.1, r.2.2)) = some (.agg [.abs (fmul a c), .int .u64 0, .int .u64 0, .int .u64 0, .int .u64 0, .int .u64 0, .int .u64 0], some (rem1V_G a b c d)) := by kernel_rfl
--@]
--@run rem2V (a b c d : Fe) := callF Tryz.prog (SRE (dci 67 [(2, 2, true), (2, 6, false)]) []) 60 67 [bF [a, b], bF [c, d]] [] => eV (emulN (a, b) (c, d))
--@[
set_option maxRecDepth 100000 in
def rem2V_G (a b c d : Fe) : Prop := true = true ∧ (isz b = true ∧ isz d = false) ∧ true = true ∧ true = true
set_option maxRecDepth 100000 in
theorem rem2V (a b c d : Fe) : (callF Tryz.prog (SRE (dci 67 [(2, 2, true), (2, 6, false)]) []) 60 67 [bF [a, b], bF [c, d]] []).map (fun r => (r.1, r.2.2)) = some (eV (emulN (a, b) (c, d)), some (rem2V_G a b c d)) := by kernel_rfl
--@]
--@run rem3V (a b c d : Fe) := callF Tryz.prog (SRE (dci 67 [(2, 2, false)]) []) 60 67 [bF [a, b], bF [c, d]] [] => eV (emulN (a, b) (c, d))
--@[
set_option maxRecDepth 100000 in
def rem3V_G (a b c d : Fe) : Prop := true = true ∧ isz b = false ∧ true = true ∧ true = true
set_option maxRecDepth 100000 in
theorem rem3V (a b c d : Fe) : (callF Tryz.prog (SRE (dci 67 [(2, 2, false)]) []) 60 67 [bF [a, b], bF [c, d]] []).map (fun r => (r.1, r.2.2)) = some (eV (emulN (a, b) (c, d)), some (rem3V_G a b c d)) := by kernel_rfl
--@]
theorem zE_cells (ρ : Key → Loc) (l : List (LV Fe)) : cellsL ρ (.int .u64 0 :: .int .u64 0 :: .int .u64 0 :: .int .u64 0 :: .int .u64 0 :: .int .u64 0 :: l) = cellsL ρ (.abs zE :: l) := pF_cells (a := zE) (t := l) rfl ρ
theorem rem_runs (a b c d : Fe) : Runs 67 [bF [a, b], bF [c, d]] (eV (emul (a, b) (c, d))) := by
  cases h : isz b with
  | true => cases h2 : isz d with
    | true =>
      rw [show emul (a, b) (c, d) = (fmul a c, zE) by simp only [emul, h, h2, Bool.and_self, cond_true]]
      refine (Runs.of (SRE_ok _ _) rfl (rem1V a b c d) (by unfold condOk rem1V_G; and_intros <;> first | with_reducible rfl | assumption) rfl rfl).as rfl fun ρ => ?_
      exact congrArg (fun l : List Value => Value.agg (LV.cells ρ (.abs (fmul a c) : LV Fe) ++ l).toArray) (zE_cells ρ [])
    | false =>
      rw [show emul (a, b) (c, d) = emulN (a, b) (c, d) by simp only [emul, h, h2, Bool.true_and, cond_false]]
      exact .of (SRE_ok _ _) rfl (rem2V a b c d) (by unfold condOk rem2V_G; and_intros <;> first | with_reducible rfl | assumption) rfl rfl
  | false =>
    rw [show emul (a, b) (c, d) = emulN (a, b) (c, d) by simp only [emul, h, Bool.false_and, cond_false]]
    exact .of (SRE_ok _ _) rfl (rem3V a b c d) (by unfold condOk rem3V_G; and_intros <;> first | with_reducible rfl | assumption) rfl rfl
noncomputable def conREMul : ConP Tryz.prog Fe := mkP 67 entREMul [2, 2] (fun a b c d => eV (emul (a, b) (c, d))) rem_runs
end Go.Proofs.YtcedljbapgmdmaaGreat.En

/- DERIVED. The document's points as contracts. -/
set_option linter.all false
namespace Go.Proofs.YtcedljbapgmdmaaGreat.En
open Go Go.RowKit

theorem pair_eta (x : E2) : (x.1, x.2) = x := rfl
abbrev C3 := E2 × E2 × E2
def cV (p : C3) : LV Fe := .agg [.abs p.1.1, .abs p.1.2, .abs p.2.1.1, .abs p.2.1.2, .abs p.2.2.1, .abs p.2.2.2]
noncomputable abbrev psC : List (ConP Tryz.prog Fe) := [conREAdd, conRESub, conRENeg, conREIsZero, conREMul]
noncomputable abbrev SRC (d : FuncId → Nat → Nat → Option Bool) (ps : List (ConP Tryz.prog Fe)) : Sig Fe := SRE d (psC ++ ps)
def cnegF (p : C3) : C3 := (p.1, eneg p.2.1, p.2.2)
set_option maxRecDepth 100000 in
theorem entRCNone : ∀ args w, (callFunc 37 args).run Tryz.prog w = .ok (.enter 37 args) w := ent_of (f := 37) (P := Tryz.prog) rfl rfl rfl
--@run rcnoneV (a b c d e f : Fe) := callF Tryz.prog (SRC noD []) 60 37 [bF [a, b, c, d, e, f]] [] => .bool (eisz (e, f))
--@[
set_option maxRecDepth 100000 in
theorem rcnoneV (a b c d e f : Fe) : (callF Tryz.prog (SRC noD []) 60 37 [bF [a, b, c, d, e, f]] []).map (fun r => (r.1, r.2.2)) = some (.bool (eisz (e, f)), none) := by kernel_rfl
theorem rcnoneV_ok (a b c d e f : Fe) : condOk none := trivial
--@]
noncomputable def conRCNone : ConP Tryz.prog Fe := mkP 37 entRCNone [6] (fun a b c d e f => .bool (eisz (e, f))) fun a b c d e f => .of (SRE_ok _ _) rfl (rcnoneV a b c d e f) (rcnoneV_ok a b c d e f) rfl rfl
set_option maxRecDepth 100000 in
theorem entRCNeg : ∀ args w, (callFunc 35 args).run Tryz.prog w = .ok (.enter 35 args) w := ent_of (f := 35) (P := Tryz.prog) rfl rfl rfl
--@run rcnegV (a b c d e f : Fe) := callF Tryz.prog (SRC noD []) 60 35 [bF [a, b, c, d, e, f]] [] => cV (cnegF ((a, b), (c, d), (e, f)))
--@[
set_option maxRecDepth 100000 in
def rcnegV_G (a b c d e f : Fe) : Prop := true = true
set_option maxRecDepth 100000 in
theorem rcnegV (a b c d e f : Fe) : (callF Tryz.prog (SRC noD []) 60 35 [bF [a, b, c, d, e, f]] []).map (fun r => (r.1, r.2.2)) = some (cV (cnegF ((a, b), (c, d), (e, f))), some (rcnegV_G a b c d e f)) := by kernel_rfl
set_option maxRecDepth 100000 in
theorem rcnegV_ok (a b c d e f : Fe) : condOk (some (rcnegV_G a b c d e f)) := by unfold rcnegV_G condOk; and_intros <;> rfl
--@]
noncomputable def conRCNeg : ConP Tryz.prog Fe := mkP 35 entRCNeg [6] (fun a b c d e f => cV (cnegF ((a, b), (c, d), (e, f)))) fun a b c d e f => .of (SRE_ok _ _) rfl (rcnegV a b c d e f) (rcnegV_ok a b c d e f) rfl rfl
/-! ## twice -/
def cz : C3 := ((zE, zE), (zE, zE), (zE, zE))
def cdblN (p : C3) : C3 :=
  let a := emul p.1 p.1
  let b := emul p.2.1 p.2.1
  let s0 := emul p.1 b
  let s1 := eadd s0 s0
  let s := eadd s1 s1
  let m := eadd (eadd a a) a
  let x := esub (esub (emul m m) s) s
  let c0 := emul b b
  let c1 := eadd c0 c0
  let c2 := eadd c1 c1
  let c := eadd c2 c2
  let z := emul p.2.1 p.2.2
  (x, esub (emul m (esub s x)) c, eadd z z)
def cdbl (p : C3) : C3 := bif eisz p.2.2 || eisz p.2.1 then cz else cdblN p
abbrev z36 : LV Fe := .agg (List.replicate 36 (.int .u64 0))
theorem z36_tr (ρ : Key → Loc) : LV.tr ρ z36 = LV.tr ρ (cV cz) := by kernel_rfl
set_option maxRecDepth 100000 in
theorem entRCDouble : ∀ args w, (callFunc 34 args).run Tryz.prog w = .ok (.enter 34 args) w := ent_of (f := 34) (P := Tryz.prog) rfl rfl rfl
--@run rcd1V (a b c d e f : Fe) := callF Tryz.prog (SRC (dci 34 [(1, 1, true)]) [conRCNone]) 90 34 [bF [a, b, c, d, e, f]] [] => z36
--@[
set_option maxRecDepth 100000 in
def rcd1V_G (a b c d e f : Fe) : Prop := eisz (e, f) = true ∧ true = true
set_option maxRecDepth 100000 in
theorem rcd1V (a b c d e f : Fe) : (callF Tryz.prog (SRC (dci 34 [(1, 1, true)]) [conRCNone]) 90 34 [bF [a, b, c, d, e, f]] []).map (fun r => (r.1, r.2.2)) = some (z36, some (rcd1V_G a b c d e f)) := by kernel_rfl
--@]
--@run rcd2V (a b c d e f : Fe) := callF Tryz.prog (SRC (dci 34 [(1, 1, false), (1, 5, true)]) [conRCNone]) 90 34 [bF [a, b, c, d, e, f]] [] => z36
--@[
set_option maxRecDepth 100000 in
def rcd2V_G (a b c d e f : Fe) : Prop := (eisz (e, f) = false ∧ eisz (c, d) = true) ∧ true = true
set_option maxRecDepth 100000 in
theorem rcd2V (a b c d e f : Fe) : (callF Tryz.prog (SRC (dci 34 [(1, 1, false), (1, 5, true)]) [conRCNone]) 90 34 [bF [a, b, c, d, e, f]] []).map (fun r => (r.1, r.2.2)) = some (z36, some (rcd2V_G a b c d e f)) := by kernel_rfl
--@]
--@run rcd3V (a b c d e f : Fe) := callF Tryz.prog (SRC (dci 34 [(1, 1, false), (1, 5, false)]) [conRCNone]) 90 34 [bF [a, b, c, d, e, f]] [] => cV (cdblN ((a, b), (c, d), (e, f)))
--@[
set_option maxRecDepth 100000 in
def rcd3V_G (a b c d e f : Fe) : Prop := (eisz (e, f) = false ∧ eisz (c, d) = false) ∧ true = true ∧ true = true ∧ true = true ∧ true = true ∧ true = true ∧ true = true ∧ true = true ∧ true = true ∧ true = true ∧ true = true ∧ true = true ∧ true = true ∧ true = true
set_option maxRecDepth 100000 in
theorem rcd3V (a b c d e f : Fe) : (callF Tryz.prog (SRC (dci 34 [(1, 1, false), (1, 5, false)]) [conRCNone]) 90 34 [bF [a, b, c, d, e, f]] []).map (fun r => (r.1, r.2.2)) = some (cV (cdblN ((a, b), (c, d), (e, f))), some (rcd3V_G a b c d e f)) := by kernel_rfl
--@]
theorem rcd_runs (a b c d e f : Fe) : Runs 34 [bF [a, b, c, d, e, f]] (cV (cdbl ((a, b), (c, d), (e, f)))) := by
  cases h1 : eisz (e, f) with
  | true =>
    rw [show cdbl ((a, b), (c, d), (e, f)) = cz by simp only [cdbl, h1, Bool.true_or, cond_true]]
    exact (Runs.of (SRE_ok _ _) rfl (rcd1V a b c d e f) (by unfold condOk rcd1V_G; and_intros <;> first | with_reducible rfl | assumption) rfl rfl).as rfl z36_tr
  | false => cases h2 : eisz (c, d) with
    | true =>
      rw [show cdbl ((a, b), (c, d), (e, f)) = cz by simp only [cdbl, h1, h2, Bool.or_true, cond_true]]
      exact (Runs.of (SRE_ok _ _) rfl (rcd2V a b c d e f) (by unfold condOk rcd2V_G; and_intros <;> first | with_reducible rfl | assumption) rfl rfl).as rfl z36_tr
    | false =>
      rw [show cdbl ((a, b), (c, d), (e, f)) = cdblN ((a, b), (c, d), (e, f)) by simp only [cdbl, h1, h2, Bool.or_false, cond_false]]
      exact .of (SRE_ok _ _) rfl (rcd3V a b c d e f) (by unfold condOk rcd3V_G; and_intros <;> first | with_reducible rfl | assumption) rfl rfl
noncomputable def conRCDouble : ConP Tryz.prog Fe := mkP 34 entRCDouble [6] (fun a b c d e f => cV (cdbl ((a, b), (c, d), (e, f)))) rcd_runs
/-! ## sums -/
def caddH (p q : C3) : E2 := esub (emul q.1 (emul p.2.2 p.2.2)) (emul p.1 (emul q.2.2 q.2.2))
def caddR (p q : C3) : E2 := esub (emul (emul q.2.1 (emul p.2.2 p.2.2)) p.2.2) (emul (emul p.2.1 (emul q.2.2 q.2.2)) q.2.2)
def caddN (p q : C3) : C3 :=
  let qz := emul q.2.2 q.2.2
  let u := emul p.1 qz
  let s := emul (emul p.2.1 qz) q.2.2
  let h := caddH p q
  let r := caddR p q
  let h2 := emul h h
  let h3 := emul h2 h
  let w := emul u h2
  let x := esub (esub (esub (emul r r) h3) w) w
  (x, esub (emul r (esub w x)) (emul s h3), emul (emul p.2.2 q.2.2) h)
def cadd (p q : C3) : C3 := bif eisz p.2.2 then q else bif eisz q.2.2 then p else bif eisz (caddH p q) then (bif eisz (caddR p q) then cdbl p else cz) else caddN p q
set_option maxRecDepth 100000 in
theorem entRCAdd : ∀ args w, (callFunc 32 args).run Tryz.prog w = .ok (.enter 32 args) w := ent_of (f := 32) (P := Tryz.prog) rfl rfl rfl
--@run rca1V (a b c d e f g h i j k l : Fe) := callF Tryz.prog (SRC (dci 32 [(1, 1, true)]) [conRCNone, conRCDouble]) 90 32 [bF [a, b, c, d, e, f], bF [g, h, i, j, k, l]] [] => cV ((g, h), (i, j), (k, l))
--@[
set_option maxRecDepth 100000 in
def rca1V_G (a b c d e f g h i j k l : Fe) : Prop := eisz (e, f) = true ∧ true = true
set_option maxRecDepth 100000 in
theorem rca1V (a b c d e f g h i j k l : Fe) : (callF Tryz.prog (SRC (dci 32 [(1, 1, true)]) [conRCNone, conRCDouble]) 90 32 [bF [a, b, c, d, e, f], bF [g, h, i, j, k, l]] []).map (fun r => (r.1, r.2.2)) = some (cV ((g, h), (i, j), (k, l)), some (rca1V_G a b c d e f g h i j k l)) := by kernel_rfl
--@]
--@run rca2V (a b c d e f g h i j k l : Fe) := callF Tryz.prog (SRC (dci 32 [(1, 1, false), (3, 1, true)]) [conRCNone, conRCDouble]) 90 32 [bF [a, b, c, d, e, f], bF [g, h, i, j, k, l]] [] => cV ((a, b), (c, d), (e, f))
--@[
set_option maxRecDepth 100000 in
def rca2V_G (a b c d e f g h i j k l : Fe) : Prop := eisz (e, f) = false ∧ eisz (k, l) = true ∧ true = true
set_option maxRecDepth 100000 in
theorem rca2V (a b c d e f g h i j k l : Fe) : (callF Tryz.prog (SRC (dci 32 [(1, 1, false), (3, 1, true)]) [conRCNone, conRCDouble]) 90 32 [bF [a, b, c, d, e, f], bF [g, h, i, j, k, l]] []).map (fun r => (r.1, r.2.2)) = some (cV ((a, b), (c, d), (e, f)), some (rca2V_G a b c d e f g h i j k l)) := by kernel_rfl
--@]
--@run rca3V (a b c d e f g h i j k l : Fe) := callF Tryz.prog (SRC (dci 32 [(1, 1, false), (3, 1, false), (9, 1, true), (10, 1, true)]) [conRCNone, conRCDouble]) 90 32 [bF [a, b, c, d, e, f], bF [g, h, i, j, k, l]] [] => cV (cdbl ((a, b), (c, d), (e, f)))
--@[
set_option maxRecDepth 100000 in
def rca3V_G (a b c d e f g h i j k l : Fe) : Prop := eisz (e, f) = false ∧ eisz (k, l) = false ∧ (true = true ∧ true = true) ∧ (true = true ∧ true = true) ∧ (true = true ∧ true = true) ∧ (true = true ∧ true = true) ∧ eisz (fsub (Prod.fst (emul (g, h) (Prod.fst (emul (e, f) (e, f)), Prod.snd (emul (e, f) (e, f))))) (Prod.fst (emul (a, b) (Prod.fst (emul (k, l) (k, l)), Prod.snd (emul (k, l) (k, l))))), fsub (Prod.snd (emul (g, h) (Prod.fst (emul (e, f) (e, f)), Prod.snd (emul (e, f) (e, f))))) (Prod.snd (emul (a, b) (Prod.fst (emul (k, l) (k, l)), Prod.snd (emul (k, l) (k, l)))))) = true ∧ eisz (fsub (Prod.fst (emul (Prod.fst (emul (i, j) (Prod.fst (emul (e, f) (e, f)), Prod.snd (emul (e, f) (e, f)))), Prod.snd (emul (i, j) (Prod.fst (emul (e, f) (e, f)), Prod.snd (emul (e, f) (e, f))))) (e, f))) (Prod.fst (emul (Prod.fst (emul (c, d) (Prod.fst (emul (k, l) (k, l)), Prod.snd (emul (k, l) (k, l)))), Prod.snd (emul (c, d) (Prod.fst (emul (k, l) (k, l)), Prod.snd (emul (k, l) (k, l))))) (k, l))), fsub (Prod.snd (emul (Prod.fst (emul (i, j) (Prod.fst (emul (e, f) (e, f)), Prod.snd (emul (e, f) (e, f)))), Prod.snd (emul (i, j) (Prod.fst (emul (e, f) (e, f)), Prod.snd (emul (e, f) (e, f))))) (e, f))) (Prod.snd (emul (Prod.fst (emul (c, d) (Prod.fst (emul (k, l) (k, l)), Prod.snd (emul (k, l) (k, l)))), Prod.snd (emul (c, d) (Prod.fst (emul (k, l) (k, l)), Prod.snd (emul (k, l) (k, l))))) (k, l)))) = true ∧ true = true
set_option maxRecDepth 100000 in
theorem rca3V (a b c d e f g h i j k l : Fe) : (callF Tryz.prog (SRC (dci 32 [(1, 1, false), (3, 1, false), (9, 1, true), (10, 1, true)]) [conRCNone, conRCDouble]) 90 32 [bF [a, b, c, d, e, f], bF [g, h, i, j, k, l]] []).map (fun r => (r.1, r.2.2)) = some (cV (cdbl ((a, b), (c, d), (e, f))), some (rca3V_G a b c d e f g h i j k l)) := by kernel_rfl
--@]
--@run rca4V (a b c d e f g h i j k l : Fe) := callF Tryz.prog (SRC (dci 32 [(1, 1, false), (3, 1, false), (9, 1, true), (10, 1, false)]) [conRCNone, conRCDouble]) 90 32 [bF [a, b, c, d, e, f], bF [g, h, i, j, k, l]] [] => z36
--@[
set_option maxRecDepth 100000 in
def rca4V_G (a b c d e f g h i j k l : Fe) : Prop := eisz (e, f) = false ∧ eisz (k, l) = false ∧ (true = true ∧ true = true) ∧ (true = true ∧ true = true) ∧ (true = true ∧ true = true) ∧ (true = true ∧ true = true) ∧ eisz (fsub (Prod.fst (emul (g, h) (Prod.fst (emul (e, f) (e, f)), Prod.snd (emul (e, f) (e, f))))) (Prod.fst (emul (a, b) (Prod.fst (emul (k, l) (k, l)), Prod.snd (emul (k, l) (k, l))))), fsub (Prod.snd (emul (g, h) (Prod.fst (emul (e, f) (e, f)), Prod.snd (emul (e, f) (e, f))))) (Prod.snd (emul (a, b) (Prod.fst (emul (k, l) (k, l)), Prod.snd (emul (k, l) (k, l)))))) = true ∧ eisz (fsub (Prod.fst (emul (Prod.fst (emul (i, j) (Prod.fst (emul (e, f) (e, f)), Prod.snd (emul (e, f) (e, f)))), Prod.snd (emul (i, j) (Prod.fst (emul (e, f) (e, f)), Prod.snd (emul (e, f) (e, f))))) (e, f))) (Prod.fst (emul (Prod.fst (emul (c, d) (Prod.fst (emul (k, l) (k, l)), Prod.snd (emul (k, l) (k, l)))), Prod.snd (emul (c, d) (Prod.fst (emul (k, l) (k, l)), Prod.snd (emul (k, l) (k, l))))) (k, l))), fsub (Prod.snd (emul (Prod.fst (emul (i, j) (Prod.fst (emul (e, f) (e, f)), Prod.snd (emul (e, f) (e, f)))), Prod.snd (emul (i, j) (Prod.fst (emul (e, f) (e, f)), Prod.snd (emul (e, f) (e, f))))) (e, f))) (Prod.snd (emul (Prod.fst (emul (c, d) (Prod.fst (emul (k, l) (k, l)), Prod.snd (emul (k, l) (k, l)))), Prod.snd (emul (c, d) (Prod.fst (emul (k, l) (k, l)), Prod.snd (emul (k, l) (k, l))))) (k, l)))) = false ∧ true = true
set_option maxRecDepth 100000 in
theorem rca4V (a b c d e f g h i j k l : Fe) : (callF Tryz.prog (SRC (dci 32 [(1, 1, false), (3, 1, false), (9, 1, true), (10, 1, false)]) [conRCNone, conRCDouble]) 90 32 [bF [a, b, c, d, e, f], bF [g, h, i, j, k, l]] []).map (fun r => (r.1, r.2.2)) = some (z36, some (rca4V_G a b c d e f g h i j k l)) := by kernel_rfl
--@]
--@run rca5V (a b c d e f g h i j k l : Fe) := callF Tryz.prog (SRC (dci 32 [(1, 1, false), (3, 1, false), (9, 1, false)]) [conRCNone, conRCDouble]) 90 32 [bF [a, b, c, d, e, f], bF [g, h, i, j, k, l]] [] => cV (caddN ((a, b), (c, d), (e, f)) ((g, h), (i, j), (k, l)))
--@[
set_option maxRecDepth 100000 in
def rca5V_G (a b c d e f g h i j k l : Fe) : Prop := eisz (e, f) = false ∧ eisz (k, l) = false ∧ (true = true ∧ true = true) ∧ (true = true ∧ true = true) ∧ (true = true ∧ true = true) ∧ (true = true ∧ true = true) ∧ eisz (fsub (Prod.fst (emul (g, h) (Prod.fst (emul (e, f) (e, f)), Prod.snd (emul (e, f) (e, f))))) (Prod.fst (emul (a, b) (Prod.fst (emul (k, l) (k, l)), Prod.snd (emul (k, l) (k, l))))), fsub (Prod.snd (emul (g, h) (Prod.fst (emul (e, f) (e, f)), Prod.snd (emul (e, f) (e, f))))) (Prod.snd (emul (a, b) (Prod.fst (emul (k, l) (k, l)), Prod.snd (emul (k, l) (k, l)))))) = false ∧ true = true ∧ true = true ∧ true = true ∧ true = true ∧ true = true
set_option maxRecDepth 100000 in
theorem rca5V (a b c d e f g h i j k l : Fe) : (callF Tryz.prog (SRC (dci 32 [(1, 1, false), (3, 1, false), (9, 1, false)]) [conRCNone, conRCDouble]) 90 32 [bF [a, b, c, d, e, f], bF [g, h, i, j, k, l]] []).map (fun r => (r.1, r.2.2)) = some (cV (caddN ((a, b), (c, d), (e, f)) ((g, h), (i, j), (k, l))), some (rca5V_G a b c d e f g h i j k l)) := by kernel_rfl
--@]
end Go.Proofs.YtcedljbapgmdmaaGreat.En

/- DERIVED. The document's sums of points as contracts. -/
set_option linter.all false
namespace Go.Proofs.YtcedljbapgmdmaaGreat.En
open Go Go.RowKit

theorem cadd_1 {p q : C3} (h : eisz p.2.2 = true) : cadd p q = q := by unfold cadd; rw [h]; rfl
theorem cadd_2 {p q : C3} (h : eisz p.2.2 = false) (h2 : eisz q.2.2 = true) : cadd p q = p := by unfold cadd; rw [h, h2]; rfl
theorem cadd_3 {p q : C3} (h : eisz p.2.2 = false) (h2 : eisz q.2.2 = false) (h3 : eisz (caddH p q) = true) (h4 : eisz (caddR p q) = true) : cadd p q = cdbl p := by unfold cadd; rw [h, h2, h3, h4]; rfl
theorem cadd_4 {p q : C3} (h : eisz p.2.2 = false) (h2 : eisz q.2.2 = false) (h3 : eisz (caddH p q) = true) (h4 : eisz (caddR p q) = false) : cadd p q = cz := by unfold cadd; rw [h, h2, h3, h4]; rfl
theorem cadd_5 {p q : C3} (h : eisz p.2.2 = false) (h2 : eisz q.2.2 = false) (h3 : eisz (caddH p q) = false) : cadd p q = caddN p q := by unfold cadd; rw [h, h2, h3]; rfl
theorem rca_1 (a b c d e f g h i j k l : Fe) (h1 : eisz (e, f) = true) : Runs 32 [bF [a, b, c, d, e, f], bF [g, h, i, j, k, l]] (cV ((g, h), (i, j), (k, l))) := .of (SRE_ok _ _) rfl (rca1V a b c d e f g h i j k l) (by unfold condOk rca1V_G; and_intros <;> first | with_reducible rfl | assumption) rfl rfl
theorem rca_2 (a b c d e f g h i j k l : Fe) (h1 : eisz (e, f) = false) (h2 : eisz (k, l) = true) : Runs 32 [bF [a, b, c, d, e, f], bF [g, h, i, j, k, l]] (cV ((a, b), (c, d), (e, f))) := .of (SRE_ok _ _) rfl (rca2V a b c d e f g h i j k l) (by unfold condOk rca2V_G; and_intros <;> first | with_reducible rfl | assumption) rfl rfl
theorem rca_3 (a b c d e f g h i j k l : Fe) (h1 : eisz (e, f) = false) (h2 : eisz (k, l) = false) (h3 : eisz (caddH ((a, b), (c, d), (e, f)) ((g, h), (i, j), (k, l))) = true) (h4 : eisz (caddR ((a, b), (c, d), (e, f)) ((g, h), (i, j), (k, l))) = true) : Runs 32 [bF [a, b, c, d, e, f], bF [g, h, i, j, k, l]] (cV (cdbl ((a, b), (c, d), (e, f)))) := by
  simp only [caddH, esub] at h3; simp only [caddR, esub] at h4
  exact .of (SRE_ok _ _) rfl (rca3V a b c d e f g h i j k l) (by unfold condOk rca3V_G; simp only [pair_eta]; and_intros <;> first | exact True.intro | with_reducible rfl | assumption) rfl rfl
theorem rca_4 (a b c d e f g h i j k l : Fe) (h1 : eisz (e, f) = false) (h2 : eisz (k, l) = false) (h3 : eisz (caddH ((a, b), (c, d), (e, f)) ((g, h), (i, j), (k, l))) = true) (h4 : eisz (caddR ((a, b), (c, d), (e, f)) ((g, h), (i, j), (k, l))) = false) : Runs 32 [bF [a, b, c, d, e, f], bF [g, h, i, j, k, l]] (cV cz) := by
  simp only [caddH, esub] at h3; simp only [caddR, esub] at h4
  exact (Runs.of (SRE_ok _ _) rfl (rca4V a b c d e f g h i j k l) (by unfold condOk rca4V_G; simp only [pair_eta]; and_intros <;> first | exact True.intro | with_reducible rfl | assumption) rfl rfl).as rfl z36_tr
theorem rca_5 (a b c d e f g h i j k l : Fe) (h1 : eisz (e, f) = false) (h2 : eisz (k, l) = false) (h3 : eisz (caddH ((a, b), (c, d), (e, f)) ((g, h), (i, j), (k, l))) = false) : Runs 32 [bF [a, b, c, d, e, f], bF [g, h, i, j, k, l]] (cV (caddN ((a, b), (c, d), (e, f)) ((g, h), (i, j), (k, l)))) := by
  simp only [caddH, esub] at h3
  exact .of (SRE_ok _ _) rfl (rca5V a b c d e f g h i j k l) (by unfold condOk rca5V_G; simp only [pair_eta]; and_intros <;> first | exact True.intro | with_reducible rfl | assumption) rfl rfl
theorem rca_runs (a b c d e f g h i j k l : Fe) : Runs 32 [bF [a, b, c, d, e, f], bF [g, h, i, j, k, l]] (cV (cadd ((a, b), (c, d), (e, f)) ((g, h), (i, j), (k, l)))) := by
  cases h1 : eisz (e, f) with
  | true => rw [cadd_1 (p := ((a, b), (c, d), (e, f))) (q := ((g, h), (i, j), (k, l))) h1]; exact rca_1 a b c d e f g h i j k l h1
  | false => cases h2 : eisz (k, l) with
    | true => rw [cadd_2 (p := ((a, b), (c, d), (e, f))) (q := ((g, h), (i, j), (k, l))) h1 h2]; exact rca_2 a b c d e f g h i j k l h1 h2
    | false => cases h3 : eisz (caddH ((a, b), (c, d), (e, f)) ((g, h), (i, j), (k, l))) with
      | true => cases h4 : eisz (caddR ((a, b), (c, d), (e, f)) ((g, h), (i, j), (k, l))) with
        | true => rw [cadd_3 h1 h2 h3 h4]; exact rca_3 a b c d e f g h i j k l h1 h2 h3 h4
        | false => rw [cadd_4 h1 h2 h3 h4]; exact rca_4 a b c d e f g h i j k l h1 h2 h3 h4
      | false => rw [cadd_5 h1 h2 h3]; exact rca_5 a b c d e f g h i j k l h1 h2 h3
noncomputable def conRCAdd : ConP Tryz.prog Fe := mkP 32 entRCAdd [6, 6] (fun a b c d e f g h i j k l => cV (cadd ((a, b), (c, d), (e, f)) ((g, h), (i, j), (k, l)))) rca_runs
set_option maxRecDepth 100000 in
theorem entRCEqual : ∀ args w, (callFunc 36 args).run Tryz.prog w = .ok (.enter 36 args) w := ent_of (f := 36) (P := Tryz.prog) rfl rfl rfl
--@run rcequalV (a b c d e f g h i j k l : Fe) := callF Tryz.prog (SRC noD [conRCNone, conRCNeg, conRCAdd]) 60 36 [bF [a, b, c, d, e, f], bF [g, h, i, j, k, l]] [] => .bool (eisz (cadd ((a, b), (c, d), (e, f)) (cnegF ((g, h), (i, j), (k, l)))).2.2)
--@[
set_option maxRecDepth 100000 in
theorem rcequalV (a b c d e f g h i j k l : Fe) : (callF Tryz.prog (SRC noD [conRCNone, conRCNeg, conRCAdd]) 60 36 [bF [a, b, c, d, e, f], bF [g, h, i, j, k, l]] []).map (fun r => (r.1, r.2.2)) = some (.bool (eisz (cadd ((a, b), (c, d), (e, f)) (cnegF ((g, h), (i, j), (k, l)))).2.2), none) := by kernel_rfl
theorem rcequalV_ok (a b c d e f g h i j k l : Fe) : condOk none := trivial
--@]
noncomputable def conRCEqual : ConP Tryz.prog Fe := mkP 36 entRCEqual [6, 6] (fun a b c d e f g h i j k l => .bool (eisz (cadd ((a, b), (c, d), (e, f)) (cnegF ((g, h), (i, j), (k, l)))).2.2)) fun a b c d e f g h i j k l => .of (SRE_ok _ _) rfl (rcequalV a b c d e f g h i j k l) (rcequalV_ok a b c d e f g h i j k l) rfl rfl
end Go.Proofs.YtcedljbapgmdmaaGreat.En

/- DERIVED. The document's curve: its numbers, its equation. -/
set_option linter.all false
namespace Go.Proofs.YtcedljbapgmdmaaGreat.En
open Go Go.RowKit

def eOne : E2 := (fmul frone ftwo, zE)
theorem pad0_tr (a : Fe) (ρ : Key → Loc) : LV.tr ρ (.agg [.abs a, .int .u64 0, .int .u64 0, .int .u64 0, .int .u64 0, .int .u64 0, .int .u64 0] : LV Fe) = LV.tr ρ (eV (a, zE)) :=
  congrArg (fun l : List Value => Value.agg (LV.cells ρ (.abs a : LV Fe) ++ l).toArray) (zE_cells ρ [])
set_option maxRecDepth 100000 in
theorem entREOne : ∀ args w, (callFunc 87 args).run Tryz.prog w = .ok (.enter 87 args) w := ent_of (f := 87) (P := Tryz.prog) rfl rfl rfl
--@run reoV := callF Tryz.prog (SRC noD []) 60 87 [] [] => .agg [.abs (fmul frone ftwo), .int .u64 0, .int .u64 0, .int .u64 0, .int .u64 0, .int .u64 0, .int .u64 0]
--@[
set_option maxRecDepth 100000 in
def reoV_G  : Prop := true = true ∧ true = true
set_option maxRecDepth 100000 in
theorem reoV  : (callF Tryz.prog (SRC noD []) 60 87 [] []).map (fun r => (r.1, r.2.2)) = some (.agg [.abs (fmul frone ftwo), .int .u64 0, .int .u64 0, .int .u64 0, .int .u64 0, .int .u64 0, .int .u64 0], some (reoV_G )) := by kernel_rfl
set_option maxRecDepth 100000 in
theorem reoV_ok  : condOk (some (reoV_G )) := by unfold reoV_G condOk; and_intros <;> rfl
--@]
noncomputable def conREOne : ConP Tryz.prog Fe := mk0 87 entREOne (eV eOne) ((Runs.of (SRE_ok _ _) rfl reoV reoV_ok rfl rfl).as rfl (pad0_tr _))
set_option maxRecDepth 100000 in
theorem entRAt : ∀ args w, (callFunc 74 args).run Tryz.prog w = .ok (.enter 74 args) w := ent_of (f := 74) (P := Tryz.prog) rfl rfl rfl
--@run ratV (a b c d : Fe) := callF Tryz.prog (SRC noD [conREOne]) 60 74 [bF [a, b], bF [c, d]] [] => cV ((a, b), (c, d), eOne)
--@[
set_option maxRecDepth 100000 in
def ratV_G (a b c d : Fe) : Prop := true = true
set_option maxRecDepth 100000 in
theorem ratV (a b c d : Fe) : (callF Tryz.prog (SRC noD [conREOne]) 60 74 [bF [a, b], bF [c, d]] []).map (fun r => (r.1, r.2.2)) = some (cV ((a, b), (c, d), eOne), some (ratV_G a b c d)) := by kernel_rfl
set_option maxRecDepth 100000 in
theorem ratV_ok (a b c d : Fe) : condOk (some (ratV_G a b c d)) := by unfold ratV_G condOk; and_intros <;> rfl
--@]
noncomputable def conRAt : ConP Tryz.prog Fe := mkP 74 entRAt [2, 2] (fun a b c d => cV ((a, b), (c, d), eOne)) fun a b c d => .of (SRE_ok _ _) rfl (ratV a b c d) (ratV_ok a b c d) rfl rfl
/-! ## the curve's number -/
def four : Fe := fmul (ofSix 4 0 0 0 0 0) ftwo
def eB (s : Bool) : E2 := bif s then (four, four) else (four, fmul zE ftwo)
set_option maxRecDepth 100000 in
theorem entRB : ∀ args w, (callFunc 69 args).run Tryz.prog w = .ok (.enter 69 args) w := ent_of (f := 69) (P := Tryz.prog) rfl rfl rfl
--@run rb0V := callF Tryz.prog (SRC noD []) 60 69 [.bool false] [] => eV (eB false)
--@[
set_option maxRecDepth 100000 in
def rb0V_G  : Prop := (true = true ∧ true = true ∧ true = true) ∧ true = true
set_option maxRecDepth 100000 in
theorem rb0V  : (callF Tryz.prog (SRC noD []) 60 69 [.bool false] []).map (fun r => (r.1, r.2.2)) = some (eV (eB false), some (rb0V_G )) := by kernel_rfl
set_option maxRecDepth 100000 in
theorem rb0V_ok  : condOk (some (rb0V_G )) := by unfold rb0V_G condOk; and_intros <;> rfl
--@]
--@run rb1V := callF Tryz.prog (SRC noD []) 60 69 [.bool true] [] => eV (eB true)
--@[
set_option maxRecDepth 100000 in
def rb1V_G  : Prop := (true = true ∧ true = true ∧ true = true) ∧ true = true
set_option maxRecDepth 100000 in
theorem rb1V  : (callF Tryz.prog (SRC noD []) 60 69 [.bool true] []).map (fun r => (r.1, r.2.2)) = some (eV (eB true), some (rb1V_G )) := by kernel_rfl
set_option maxRecDepth 100000 in
theorem rb1V_ok  : condOk (some (rb1V_G )) := by unfold rb1V_G condOk; and_intros <;> rfl
--@]
def boolFn (g : Bool → LV Fe) : List (LV Fe) → Option (LV Fe)
  | [.bool b] => some (g b)
  | _ => none
theorem boolFn_some {g : Bool → LV Fe} {vs : List (LV Fe)} {v : LV Fe} (h : boolFn g vs = some v) : ∃ b, vs = [.bool b] ∧ v = g b := by
  unfold boolFn at h
  split at h
  · cases h; exact ⟨_, rfl, rfl⟩
  · cases h
theorem rb_runs : ∀ b, Runs 69 [.bool b] (eV (eB b))
  | false => .of (SRE_ok _ _) rfl rb0V rb0V_ok rfl rfl
  | true => .of (SRE_ok _ _) rfl rb1V rb1V_ok rfl rfl
noncomputable def conRB : ConP Tryz.prog Fe where
  f := 69
  fn := boolFn fun b => eV (eB b)
  ent := entRB
  kin vs v h p := by
    obtain ⟨b, _, rfl⟩ := boolFn_some h
    exact pv_kin p _ rfl
  call vs v h ρ w := by
    obtain ⟨b, rfl, rfl⟩ := boolFn_some h
    exact (rb_runs b).run ρ w
/-! ## the equation -/
def eeq (x y : E2) : Bool := Nat.beq (fv x.1 % pN) (fv y.1 % pN) && (Nat.beq (fv x.2 % pN) (fv y.2 % pN) && true)
def ronF (x y : E2) (s : Bool) : Bool := eeq (emul y y) (eadd (emul (emul x x) x) (eB s))
set_option maxRecDepth 100000 in
theorem entROn : ∀ args w, (callFunc 116 args).run Tryz.prog w = .ok (.enter 116 args) w := ent_of (f := 116) (P := Tryz.prog) rfl rfl rfl
--@run rocV (a b c d : Fe) (s : Bool) := callF Tryz.prog (SRC noD [conRB]) 60 116 [bF [a, b], bF [c, d], .bool s] [] => .bool (ronF (a, b) (c, d) s)
--@[
set_option maxRecDepth 100000 in
theorem rocV (a b c d : Fe) (s : Bool) : (callF Tryz.prog (SRC noD [conRB]) 60 116 [bF [a, b], bF [c, d], .bool s] []).map (fun r => (r.1, r.2.2)) = some (.bool (ronF (a, b) (c, d) s), none) := by kernel_rfl
theorem rocV_ok (a b c d : Fe) (s : Bool) : condOk none := trivial
--@]
/-- Groups of elements and a plain bool behind them. -/
def splitB : List (LV Fe) → Option (List (LV Fe) × Bool)
  | [.bool s] => some ([], s)
  | v :: l => match splitB l with
    | some (t, s) => some (v :: t, s)
    | none => none
  | [] => none
theorem splitB_eq : ∀ {l t : List (LV Fe)} {s : Bool}, splitB l = some (t, s) → l = t ++ [.bool s]
  | [], _, _, h => by cases h
  | [v], t, s, h => by
    cases v <;> first | (cases h; rfl) | (simp [splitB] at h)
  | v :: u :: l, t, s, h => by
    have h : (match splitB (u :: l) with
      | some (t, s) => some (v :: t, s)
      | none => none) = some (t, s) := by
      cases v <;> exact h
    split at h
    · rename_i t' s' hs
      cases h
      rw [splitB_eq hs]; rfl
    · cases h
theorem trs_app (ρ : Key → Loc) : ∀ l m : List (LV Fe), trs ρ (l ++ m) = trs ρ l ++ trs ρ m
  | [], _ => rfl
  | v :: l, m => by simp only [List.cons_append, trs, trs_app ρ l m]
def fnPB (ks : List Nat) (val : Bool → Fn (sumN ks)) (vs : List (LV Fe)) : Option (LV Fe) := match splitB vs with
  | some (us, s) => match pA ks us with
    | some xs => apF (sumN ks) (val s) xs.flatten
    | none => none
  | none => none
noncomputable def mkPB (f : FuncId) (ent : ∀ args w, (callFunc f args).run Tryz.prog w = .ok (.enter f args) w) (ks : List Nat) (val : Bool → Fn (sumN ks)) (run : ∀ s, AllF (sumN ks) (val s) fun l v => Runs f (bA (cut ks l) ++ [.bool s]) v) : ConP Tryz.prog Fe where
  f := f
  fn := fnPB ks val
  ent := ent
  kin vs v h p := by
    unfold fnPB at h
    split at h
    · rename_i us s hs
      split at h
      · exact pv_kin p v (AllF.at _ _ _ v (run s) h).plain
      · cases h
    · cases h
  call vs v h ρ w := by
    unfold fnPB at h
    split at h
    · rename_i us s hs
      split at h
      · rename_i xs hx
        obtain ⟨e, m⟩ := pA_trs _ _ _ hx
        have := AllF.at _ _ _ v (run s) h
        rw [cut_flat _ _ e] at this
        rw [splitB_eq hs, trs_app, m ρ, ← trs_app]
        exact this.run ρ w
      · cases h
    · cases h
noncomputable def conROn : ConP Tryz.prog Fe := mkPB 116 entROn [2, 2] (fun s a b c d => .bool (ronF (a, b) (c, d) s)) fun s a b c d => .of (SRE_ok _ _) rfl (rocV a b c d s) (rocV_ok a b c d s) rfl rfl
end Go.Proofs.YtcedljbapgmdmaaGreat.En
