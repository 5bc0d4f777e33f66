/- DERIVED. A call's contract, told for a little memory, holds in a greater one. -/
import Derived.Test.YtjhjockdkpgpeaaVSM
set_option linter.all false
namespace Go.Proofs.Ytjhjockdkpgpeaa.En
open Go Go.RowKit

section
variable {A : Type} [Ab A] {P : Program} {I0 I : Nat → Nat → List (LV A)}

theorem ownsRow_same {w w' : World} {base : Nat} {e : TypeId} {z : Nat} {v : Value} {n : Nat} {xs : List Value} (h : w.ownsRow base e z v n xs) (hs : ∀ g, v.ownBlock = some g → w'.heap[g]? = w.heap[g]?) : w'.ownsRow base e z v n xs := by
  refine ⟨h.1, ?_⟩
  rcases h.2 with hn | ⟨g, cap, cur, rfl, hb, hg, rest⟩
  · exact .inl hn
  · exact .inr ⟨g, cap, cur, rfl, hb, by rw [hs g rfl]; exact hg, rest⟩

theorem MemRel.same [LawAb A] {ρ : Key → Loc} {mem : Mem A} {w w' : World} (h : MemRel I ρ mem w) (hsz : w.heap.size ≤ w'.heap.size)
    (blk : ∀ k bl, at? I mem k = some bl → isDead bl.kd = false → (ρ k).none = false → w'.heap[(ρ k).blk]? = w.heap[(ρ k).blk]?) : MemRel I ρ mem w' := by
  have nod : ∀ k bl, at? I mem k = some bl → cszL bl.us ≠ 0 → isDead bl.kd = false ∧ (ρ k).none = false := by
    intro k bl hk hz
    refine ⟨?_, ?_⟩
    · cases hd : isDead bl.kd with
      | false => rfl
      | true =>
        cases k with
        | own k => rw [h.dead k bl (at_own' hk) hd] at hz; exact absurd rfl hz
        | inp t i => simp only [at?, Option.some.injEq] at hk; subst hk; cases hd
    · cases hn : (ρ k).none with
      | false => rfl
      | true => exact absurd (h.empt k bl hk hn) hz
  exact {
    cell := fun k bl hk i v hv => by
      have hz : cszL bl.us ≠ 0 := by
        intro e
        rw [← len_cellsL ρ] at e
        rw [List.length_eq_zero_iff.1 e] at hv
        cases hv
      obtain ⟨h1, h2⟩ := nod k bl hk hz
      rw [cell_same (a := (ρ k).at i) (blk k bl hk h1 h2)]
      exact h.cell k bl hk i v hv
    free := fun k bl hk hw i hi => by
      obtain ⟨h1, h2⟩ := nod (.own k) bl (at_own hk) (by omega)
      rw [frozen_same (a := (ρ (.own k)).at i) (blk _ bl (at_own hk) h1 h2)]
      exact h.free k bl hk hw i hi
    apart := h.apart
    inb := fun k bl h1 h2 h3 => Nat.lt_of_lt_of_le (h.inb k bl h1 h2 h3) hsz
    row := fun k bl e hk he => by
      obtain ⟨n, z, f, h1, h0, h2⟩ := h.row k bl e hk he
      refine ⟨n, z, f, h1, h0, ownsRow_same h2 fun g hg => ?_⟩
      unfold vecV at hg
      split at hg
      · rw [h0] at hg; simp [Value.ownBlock] at hg
      · rename_i hb
        simp only [Value.ownBlock, Loc.at, Option.some.injEq] at hg
        subst hg
        cases hn : (ρ (.own k)).none with
        | false => exact blk (.own k) bl (at_own hk) (by rw [he]; rfl) hn
        | true =>
          exfalso
          have hz := h.nilc _ hn
          rcases h2.2 with ⟨e1, e2⟩ | ⟨g, cap, cur, e1, _, _, e3, _⟩
          · rw [e2, hn] at hb; simp [Nat.beq_refl] at hb
          · unfold vecV at e1
            split at e1
            · rw [h0] at e1; cases e1
            · simp only [Value.slice.injEq] at e1
              have e0 : n = 0 := by omega
              rw [e0, hn] at hb; simp [Nat.beq_refl] at hb
    nilc := h.nilc
    empt := h.empt
    dead := h.dead }

mutual
theorem kin_map {p p' : Key → Nat → Prop} {τ : Key → Option Key} (hp : ∀ k k' n, τ k = some k' → p k n → p' k' n) : ∀ v : LV A, v.kin p → (v.ren τ).kin p'
  | .ptr b o q, h => by
    cases hb : τ b with
    | none => simp only [LV.ren, hb]; trivial
    | some b' => simp only [LV.ren, hb]; exact hp _ _ _ hb h
  | .slice b o q len cap, h => by
    cases hb : τ b with
    | none => simp only [LV.ren, hb]; trivial
    | some b' => simp only [LV.ren, hb]; exact hp _ _ _ hb h
  | .vec b len, h => by
    cases hb : τ b with
    | none => simp only [LV.ren, hb]; trivial
    | some b' => simp only [LV.ren, hb]; exact hp _ _ _ hb h
  | .rows n z f, h => fun i => kinL_map hp (f i) (h i)
  | .agg us, h => kinL_map hp us h
  | .tup vs, h => kinL_map hp vs h
  | .iface t v, h => kin_map hp v h
  | .func f caps, h => kinL_map hp caps h
  | .any, _ => trivial
  | .undef, _ => trivial
  | .int _ _, _ => trivial
  | .bool _, _ => trivial
  | .str _, _ => trivial
  | .nilp, _ => trivial
  | .nils, _ => trivial
  | .nilfn, _ => trivial
  | .niliface, _ => trivial
  | .abs _, _ => trivial
theorem kinL_map {p p' : Key → Nat → Prop} {τ : Key → Option Key} (hp : ∀ k k' n, τ k = some k' → p k n → p' k' n) : ∀ l : List (LV A), kinL p l → kinL p' (renL τ l)
  | [], _ => trivial
  | v :: l, h => ⟨kin_map hp v h.1, kinL_map hp l h.2⟩
end

/-- Names of a little memory in a greater one: ahead of the call, behind it. -/
def keyMap (σs : List Nat) (ι : Nat → Nat → Option Key) : Key → Option Key
  | .own j => match σs[j]? with
    | some k => some (.own k)
    | none => none
  | .inp x y => ι x y
def keyMap' (n : Nat) (σs : List Nat) (ι : Nat → Nat → Option Key) : Key → Option Key
  | .own j => match σs[j]? with
    | some k => some (.own k)
    | none => some (.own (n + (j - σs.length)))
  | .inp x y => ι x y
def renM (τ : Key → Option Key) (m : Mem A) : Mem A := m.map fun b => match b with
  | some bl => some ⟨bl.kd, renL τ bl.us⟩
  | none => none
/-- Blocks laid back, and new ones behind. -/
def place : List Nat → Mem A → Mem A → Mem A
  | [], l, mem => mem ++ l
  | k :: ks, l, mem => match l with
    | b :: l => place ks l (mem.set k b)
    | [] => mem

theorem place_len : ∀ (σs : List Nat) (l mem : Mem A), σs.length ≤ l.length → (place σs l mem).length = mem.length + (l.length - σs.length)
  | [], l, mem, _ => by simp [place]
  | k :: ks, [], mem, h => by simp at h
  | k :: ks, b :: l, mem, h => by
    simp only [List.length_cons] at h
    simp only [place]
    rw [place_len ks l _ (by omega)]
    simp
theorem place_new : ∀ (σs : List Nat) (l mem : Mem A) (i : Nat), σs.length ≤ l.length → (place σs l mem)[mem.length + i]? = l[σs.length + i]?
  | [], l, mem, i, _ => by simp [place, List.getElem?_append_right]
  | k :: ks, [], mem, i, h => by simp at h
  | k :: ks, b :: l, mem, i, h => by
    simp only [List.length_cons] at h
    simp only [place]
    have := place_new ks l (mem.set k b) i (by omega)
    rw [List.length_set] at this
    rw [this]
    simp only [List.length_cons]
    rw [show ks.length + 1 + i = (ks.length + i) + 1 by omega, List.getElem?_cons_succ]
theorem place_old : ∀ (σs : List Nat) (l mem : Mem A) (q : Nat), q < mem.length → q ∉ σs → (place σs l mem)[q]? = mem[q]?
  | [], l, mem, q, hq, _ => by simp [place, List.getElem?_append_left hq]
  | k :: ks, [], mem, q, hq, _ => rfl
  | k :: ks, b :: l, mem, q, hq, hn => by
    simp only [List.mem_cons, not_or] at hn
    simp only [place]
    rw [place_old ks l _ q (by simpa using hq) hn.2, List.getElem?_set_ne (fun e => hn.1 e.symm)]
theorem place_at : ∀ (σs : List Nat) (l mem : Mem A) (j k : Nat), σs.Nodup → (∀ k ∈ σs, k < mem.length) → σs[j]? = some k → j < l.length → (place σs l mem)[k]? = l[j]?
  | [], l, mem, j, k, _, _, h, _ => by simp at h
  | q :: ks, [], mem, j, k, _, _, _, h => by simp at h
  | q :: ks, b :: l, mem, j, k, hnd, hlt, hj, hl => by
    simp only [List.nodup_cons] at hnd
    simp only [place]
    cases j with
    | zero =>
      simp only [List.getElem?_cons_zero, Option.some.injEq] at hj ⊢
      subst hj
      have hq : q < mem.length := hlt q (by simp)
      rw [place_old ks l _ q (by simpa using hq) hnd.1, List.getElem?_set_self hq]
    | succ j =>
      simp only [List.getElem?_cons_succ] at hj ⊢
      exact place_at ks l _ j k hnd.2 (fun k hk => by simpa using hlt k (by simp [hk])) hj (by simpa using hl)

theorem renM_get {τ : Key → Option Key} {m : Mem A} {k : Nat} {bl : Blk A} : (renM τ m)[k]? = some (some bl) ↔ ∃ b1, m[k]? = some (some b1) ∧ bl = ⟨b1.kd, renL τ b1.us⟩ := by
  simp only [renM, List.getElem?_map, Option.map_eq_some_iff]
  constructor
  · rintro ⟨b, hb, h⟩
    cases b with
    | none => cases h
    | some b1 => cases h; exact ⟨b1, hb, rfl⟩
  · rintro ⟨b1, hb, rfl⟩
    exact ⟨_, hb, rfl⟩

theorem frame_call [LawAb A] {f : FuncId} {σs : List Nat} {ι : Nat → Nat → Option Key} {mem0 mem1 mem : Mem A} {args0 : List (LV A)} {v0 : LV A}
    (hC : ∀ (D : Dom) (ρ0 : Key → Loc) (w : World), Ahead I0 D ρ0 mem0 args0 w → Calls P f (trs ρ0 args0).toArray w fun e w' => ∃ ρ1, e = .returned (LV.tr ρ1 v0) ∧ Left' I0 D w mem0 ρ0 ρ1 mem1 v0 w')
    (hp : Part I0 I (keyMap σs ι) mem0 mem) (hinj0 : ∀ (i j k : Nat), σs[i]? = some k → σs[j]? = some k → i < mem0.length → j < mem0.length → i = j) (hm0 : mem0.length = σs.length) (hall : ∀ j, j < mem0.length → ∃ b0, mem0[j]? = some (some b0)) (hfit : fitL (keyMap σs ι) (there mem0) args0)
    (hm1 : mem0.length ≤ mem1.length) (hlive : ∀ j, j < mem0.length → ∃ b1, mem1[j]? = some (some b1)) (hfit1 : ∀ (j : Nat) b1, mem1[j]? = some (some b1) → fitL (keyMap' mem.length σs ι) (fun _ => True) b1.us) (hfitv : v0.fit (keyMap' mem.length σs ι) (fun _ => True))
    (hro : (∀ (j : Nat) b1, mem1[j]? = some (some b1) → isRo b1.kd = false) ∨ (∀ x y k bl, ι x y = some (.own k) → mem[k]? = some (some bl) → isWr bl.kd = false))
    {D : Dom} {ρ : Key → Loc} {w : World} (ha : Ahead I D ρ mem (renL (keyMap σs ι) args0) w) :
    Calls P f (trs ρ (renL (keyMap σs ι) args0)).toArray w fun e w' => ∃ ρ', e = .returned (LV.tr ρ' (v0.ren (keyMap' mem.length σs ι))) ∧ Left' I D w mem ρ ρ' (place σs (renM (keyMap' mem.length σs ι) mem1) mem) (v0.ren (keyMap' mem.length σs ι)) w' := by
  -- the places of the little memory's blocks
  have hσ : ∀ (j k : Nat), σs[j]? = some k → ∃ b0 : Blk A, mem0[j]? = some (some b0) ∧ ∃ b : Blk A, mem[k]? = some (some b) ∧ (isWr b0.kd = true → isWr b.kd = true) := by
    intro j k hj
    have hlt : j < mem0.length := by
      rw [hm0]
      rcases Nat.lt_or_ge j σs.length with h | h
      · exact h
      · rw [List.getElem?_eq_none h] at hj; cases hj
    obtain ⟨b0, hb0⟩ := hall j hlt
    refine ⟨b0, hb0, ?_⟩
    rcases (hp.own j b0 hb0).2 with ⟨k', b, h1, h2, h3⟩ | ⟨h1, _⟩
    · simp only [keyMap, hj, Option.some.injEq] at h1
      subst h1; exact ⟨b, at_own' h2, fun e => by rw [h3.kd.wr e]; exact e⟩
    · simp [keyMap, hj] at h1
  have hσlt : ∀ k ∈ σs, k < mem.length := by
    intro k hk
    obtain ⟨j, hj, rfl⟩ := List.mem_iff_getElem.1 hk
    obtain ⟨b0, _, b, h2, _⟩ := hσ j _ (List.getElem?_eq_getElem hj)
    exact lt_of_get h2
  have hinj : ∀ (i j k : Nat), σs[i]? = some k → σs[j]? = some k → i = j := by
    intro i j k hi hj
    have hlt : ∀ (q k : Nat), σs[q]? = some k → q < mem0.length := by
      intro q k hq
      obtain ⟨b0, h1, _⟩ := hσ q k hq
      exact lt_of_get h1
    have := hinj0 i j k hi hj (hlt i k hi) (hlt j k hj)
    exact this
  have hnd : σs.Nodup := by
    refine List.pairwise_iff_getElem.2 fun i j hi hj hij e => ?_
    have h1 := List.getElem?_eq_getElem hi
    rw [e] at h1
    have := hinj i j _ h1 (List.getElem?_eq_getElem hj)
    omega
  generalize hτ : keyMap σs ι = τ at *
  have hτown : ∀ (j k : Nat), σs[j]? = some k → τ (.own j) = some (.own k) := fun j k hj => by rw [← hτ]; simp [keyMap, hj]
  have hτinp : ∀ x y, τ (.inp x y) = ι x y := fun x y => by rw [← hτ]; rfl
  generalize hτ' : keyMap' mem.length σs ι = τ' at *
  have hτ'own : ∀ (j k : Nat), σs[j]? = some k → τ' (.own j) = some (.own k) := fun j k hj => by rw [← hτ']; simp [keyMap', hj]
  have hτ'new : ∀ j, σs.length ≤ j → τ' (.own j) = some (.own (mem.length + (j - σs.length))) := fun j hj => by rw [← hτ']; simp [keyMap', List.getElem?_eq_none hj]
  have hτ'inp : ∀ x y, τ' (.inp x y) = ι x y := fun x y => by rw [← hτ']; rfl
  let ρ0 := renρ τ ρ
  let D0 : Dom := ⟨fun b => D.own b ∧ (w.heap.size ≤ b ∨ ∃ (j : Nat) (bl : Blk A), mem0[j]? = some (some bl) ∧ isWr bl.kd = true ∧ (ρ0 (.own j)).none = false ∧ (ρ0 (.own j)).blk = b),
    fun b => D.src b ∧ (w.heap.size ≤ b ∨ ∃ (k : Key) (bl : Blk A), at? I0 mem0 k = some bl ∧ isDead bl.kd = false ∧ (ρ0 k).none = false ∧ (ρ0 k).blk = b)⟩
  have hmine0 := hp.mine ha.mine
  have ha0 : Ahead I0 D0 ρ0 mem0 args0 w := {
    mem := hp.mem ha.mem
    mine := ⟨fun j b0 hb hw hn => ⟨hmine0.own j b0 hb hw hn, .inr ⟨j, b0, hb, hw, hn, rfl⟩⟩, fun k b0 hb hd hn => ⟨hmine0.src k b0 hb hd hn, .inr ⟨k, b0, hb, hd, hn, rfl⟩⟩⟩
    new := fun b hb => ⟨⟨(ha.new b hb).1, .inl hb⟩, ⟨(ha.new b hb).2, .inl hb⟩⟩
    kinV := kinL_ren args0 hfit ha.kinV
    kinM := hp.kin ha.kinM }
  have he : trs ρ (renL τ args0) = trs ρ0 args0 := (trs_ren τ _ ρ args0 hfit).symm
  rw [he]
  refine (hC D0 ρ0 w ha0).mono ?_
  rintro e w' ⟨ρ1, rfl, hl⟩
  classical
  let ρ' : Key → Loc := fun k => match k with
    | .own k => if h : ∃ j : Nat, σs[j]? = some k then ρ1 (.own h.choose) else if mem.length ≤ k then ρ1 (.own (σs.length + (k - mem.length))) else ρ (.own k)
    | .inp x y => ρ (.inp x y)
  have F1 : ∀ (j k : Nat), σs[j]? = some k → ρ' (.own k) = ρ1 (.own j) := by
    intro j k hj
    have h : ∃ j : Nat, σs[j]? = some k := ⟨j, hj⟩
    show (if h : ∃ j : Nat, σs[j]? = some k then ρ1 (.own h.choose) else _) = _
    rw [dif_pos h, hinj _ j k h.choose_spec hj]
  have notσ : ∀ (k : Nat), mem.length ≤ k → ¬ ∃ j : Nat, σs[j]? = some k := by
    rintro k hk ⟨j, hj⟩
    have := hσlt k (List.mem_of_getElem? hj)
    omega
  have F2 : ∀ (j : Nat), σs.length ≤ j → ρ' (.own (mem.length + (j - σs.length))) = ρ1 (.own j) := by
    intro j hj
    show (if h : ∃ j : Nat, σs[j]? = some (mem.length + (_ - σs.length)) then ρ1 (.own h.choose) else _) = _
    rw [dif_neg (notσ _ (by omega)), if_pos (by omega)]
    congr 2
    omega
  have F3 : ∀ (k : Nat), k < mem.length → k ∉ σs → ρ' (.own k) = ρ (.own k) := by
    intro k hk hn
    have : ¬ ∃ j : Nat, σs[j]? = some k := by rintro ⟨j, hj⟩; exact hn (List.mem_of_getElem? hj)
    show (if h : ∃ j : Nat, σs[j]? = some k then ρ1 (.own h.choose) else _) = _
    rw [dif_neg this, if_neg (by omega)]
  have F34 : ∀ k bl, at? I mem k = some bl → ρ' k = ρ k := by
    intro k bl hb
    cases k with
    | inp x y => rfl
    | own k =>
      by_cases hk : k ∈ σs
      · obtain ⟨j, hj, rfl⟩ := List.mem_iff_getElem.1 hk
        have hj' := List.getElem?_eq_getElem hj
        obtain ⟨b0, h1, _⟩ := hσ j _ hj'
        rw [F1 j _ hj', ← hl.agree (.own j) 0 (okKey_zero' h1)]
        exact renρ_some (hτown j _ hj')
      · exact F3 k (lt_of_get (at_own' hb)) hk
  have hagree : ∀ k m, okKey mem ρ k m → ρ k = ρ' k := by
    intro k m hk
    cases k with
    | own k => obtain ⟨⟨bl, hb⟩, _⟩ := hk; exact (F34 _ bl (at_own hb)).symm
    | inp x y => rfl
  have F5 : ∀ k m, okKey mem1 ρ1 k m → ρ1 k = renρ τ' ρ' k := by
    intro k m hk
    cases k with
    | own j =>
      rcases Nat.lt_or_ge j σs.length with h | h
      · have hj := List.getElem?_eq_getElem h
        rw [renρ_some (hτ'own j _ hj), F1 j _ hj]
      · rw [renρ_some (hτ'new j h), F2 j h]
    | inp x y =>
      have h1 := hl.agree (.inp x y) 0 (Nat.zero_le _)
      rw [← h1]
      show renρ τ ρ (.inp x y) = _
      rcases hp.inp x y with ⟨h2, _⟩ | ⟨k, bl, h2, h3, _⟩
      · rw [renρ_none h2, renρ_none (by rw [hτ'inp, ← hτinp]; exact h2)]
      · rw [renρ_some h2, renρ_some (show τ' (.inp x y) = some k by rw [hτ'inp, ← hτinp]; exact h2), F34 k bl h3]
  have hcells : ∀ (j : Nat) b1, mem1[j]? = some (some b1) → cellsL ρ' (renL τ' b1.us) = cellsL ρ1 b1.us := by
    intro j b1 hb
    rw [← cellsL_ren τ' _ ρ' b1.us (hfit1 j b1 hb)]
    exact (cellsL_congr F5 b1.us (hl.kinM _ b1 (at_own hb))).symm
  -- the blocks behind
  let mem' := place σs (renM τ' mem1) mem
  have hrl : (renM τ' mem1).length = mem1.length := by simp [renM]
  have look : ∀ (k : Nat) (bl : Blk A), mem'[k]? = some (some bl) → (∃ (j : Nat) (b1 : Blk A), mem1[j]? = some (some b1) ∧ bl = ⟨b1.kd, renL τ' b1.us⟩ ∧ τ' (.own j) = some (.own k) ∧ ρ' (.own k) = ρ1 (.own j)) ∨ (mem[k]? = some (some bl) ∧ k ∉ σs ∧ ρ' (.own k) = ρ (.own k)) := by
    intro k bl hb
    by_cases hk : k ∈ σs
    · obtain ⟨j, hj, rfl⟩ := List.mem_iff_getElem.1 hk
      have hj' := List.getElem?_eq_getElem hj
      have hb : (place σs (renM τ' mem1) mem)[σs[j]]? = some (some bl) := hb
      rw [place_at σs _ mem j _ hnd hσlt hj' (by rw [hrl]; omega)] at hb
      obtain ⟨b1, h1, h2⟩ := renM_get.1 hb
      exact .inl ⟨j, b1, h1, h2, hτ'own j _ hj', F1 j _ hj'⟩
    · rcases Nat.lt_or_ge k mem.length with h | h
      · have hb : (place σs (renM τ' mem1) mem)[k]? = some (some bl) := hb
        rw [place_old σs _ mem k h hk] at hb
        exact .inr ⟨hb, hk, F3 k h hk⟩
      · have hb : (place σs (renM τ' mem1) mem)[k]? = some (some bl) := hb
        have e : k = mem.length + (k - mem.length) := by omega
        rw [e, place_new σs _ mem _ (by rw [hrl]; omega)] at hb
        obtain ⟨b1, h1, h2⟩ := renM_get.1 hb
        have h3 := hτ'new (σs.length + (k - mem.length)) (by omega)
        have h4 := F2 (σs.length + (k - mem.length)) (by omega)
        rw [show mem.length + (σs.length + (k - mem.length) - σs.length) = k by omega] at h3 h4
        exact .inl ⟨_, b1, h1, h2, h3, h4⟩
  have back : ∀ (j : Nat) (b1 : Blk A), mem1[j]? = some (some b1) → ∃ k : Nat, τ' (.own j) = some (.own k) ∧ mem'[k]? = some (some (⟨b1.kd, renL τ' b1.us⟩ : Blk A)) ∧ ρ' (.own k) = ρ1 (.own j) := by
    intro j b1 hb
    rcases Nat.lt_or_ge j σs.length with h | h
    · have hj := List.getElem?_eq_getElem h
      refine ⟨_, hτ'own j _ hj, ?_, F1 j _ hj⟩
      show (place σs (renM τ' mem1) mem)[_]? = _
      rw [place_at σs _ mem j _ hnd hσlt hj (by rw [hrl]; omega)]
      exact renM_get.2 ⟨b1, hb, rfl⟩
    · refine ⟨_, hτ'new j h, ?_, F2 j h⟩
      show (place σs (renM τ' mem1) mem)[_]? = _
      rw [place_new σs _ mem _ (by rw [hrl]; omega), show σs.length + (j - σs.length) = j by omega]
      exact renM_get.2 ⟨b1, hb, rfl⟩
  have stay : ∀ (k : Nat) bl, mem[k]? = some (some bl) → ∃ bl', mem'[k]? = some (some bl') := by
    intro k bl hb
    by_cases hk : k ∈ σs
    · obtain ⟨j, hj, rfl⟩ := List.mem_iff_getElem.1 hk
      have hj' := List.getElem?_eq_getElem hj
      obtain ⟨b1, hb1⟩ := hlive j (by omega)
      obtain ⟨k, h1, h2, _⟩ := back j b1 hb1
      rw [hτ'own j _ hj'] at h1
      cases h1
      exact ⟨_, h2⟩
    · refine ⟨bl, ?_⟩
      show (place σs (renM τ' mem1) mem)[_]? = _
      rw [place_old σs _ mem k (lt_of_get hb) hk]; exact hb
  -- what was not written
  have hkeep : ∀ k bl, at? I mem k = some bl → isDead bl.kd = false → (ρ k).none = false → (∀ q, k = .own q → q ∉ σs) → w'.heap[(ρ k).blk]? = w.heap[(ρ k).blk]? := by
    intro k bl hb hd hn hq
    have hlt := ha.mem.inb k bl hb hd hn
    refine hl.keeps.block _ hlt ?_
    rintro ⟨_, h | ⟨j, b0, h1, h2, h3, h4⟩⟩
    · omega
    · obtain ⟨kj, hj⟩ : ∃ kj : Nat, σs[j]? = some kj := ⟨_, List.getElem?_eq_getElem (by rw [← hm0]; exact lt_of_get h1)⟩
      obtain ⟨b0', h5, bb, h6, h7⟩ := hσ j kj hj
      rw [h1] at h5; cases h5
      have h2 := h7 h2
      have e : ρ0 (.own j) = ρ (.own kj) := renρ_some (hτown j kj hj)
      rw [e] at h3 h4
      refine ha.mem.apart kj k _ bl ?_ h6 hb h2 hd h3 hn h4
      rintro rfl
      exact hq kj rfl (List.mem_of_getElem? hj)
  have hMB : MemRel I ρ (mem.mapIdx fun k b => if k ∈ σs then none else b) w' := by
    have sub : ∀ (k : Nat) bl, (mem.mapIdx fun k b => if k ∈ σs then none else b)[k]? = some (some bl) → mem[k]? = some (some bl) ∧ k ∉ σs := by
      intro k bl hb
      rw [List.getElem?_mapIdx] at hb
      obtain ⟨b, h1, h2⟩ := Option.map_eq_some_iff.1 hb
      split at h2
      · cases h2
      · rename_i hk; subst h2; exact ⟨h1, hk⟩
    refine (ha.mem.sub fun k bl hb => (sub k bl hb).1).same hl.keeps.size ?_
    intro k bl hb hd hn
    cases k with
    | own k => obtain ⟨h1, h2⟩ := sub k bl (at_own' hb); exact hkeep (.own k) bl (at_own h1) hd hn (fun q e => by cases e; exact h2)
    | inp x y => exact hkeep (.inp x y) bl hb hd hn (fun q e => by cases e)
  have hMBget : ∀ (k : Nat) bl, mem[k]? = some (some bl) → k ∉ σs → (mem.mapIdx fun k b => if k ∈ σs then none else b)[k]? = some (some bl) := by
    intro k bl h1 h2
    rw [List.getElem?_mapIdx, h1]
    simp [h2]
  have hcongr : ∀ k bl, at? I mem k = some bl → cellsL ρ' bl.us = cellsL ρ bl.us := fun k bl hb => (cellsL_congr hagree bl.us (ha.kinM k bl hb)).symm
  -- blocks of the call lie apart from those that it did not know
  have far : ∀ (j : Nat) b1 (k : Key) bl, mem1[j]? = some (some b1) → at? I mem k = some bl → (∀ q, k = .own q → q ∉ σs) → isDead bl.kd = false → (ρ1 (.own j)).none = false → (ρ k).none = false → isWr b1.kd = true → (ρ1 (.own j)).blk ≠ (ρ k).blk := by
    intro j b1 k bl hb1 hb hq hd n1 n2 hw
    rcases (hl.mine.own j b1 hb1 hw n1).2 with h | ⟨i, b0, h1, h2, h3, h4⟩
    · have := ha.mem.inb k bl hb hd n2; omega
    · obtain ⟨ki, hi⟩ : ∃ ki : Nat, σs[i]? = some ki := ⟨_, List.getElem?_eq_getElem (by rw [← hm0]; exact lt_of_get h1)⟩
      obtain ⟨b0', h5, bb, h6, h7⟩ := hσ i ki hi
      rw [h1] at h5; cases h5
      have h2 := h7 h2
      have e : ρ0 (.own i) = ρ (.own ki) := renρ_some (hτown i ki hi)
      rw [e] at h3 h4
      rw [← h4]
      refine ha.mem.apart ki k _ bl ?_ h6 hb h2 hd h3 n2
      rintro rfl
      exact hq ki rfl (List.mem_of_getElem? hi)
  have okto : ∀ k k' n, τ' k = some k' → okKey mem1 ρ1 k n → okKey mem' ρ' k' n := by
    intro k k' n hk ho
    cases k with
    | own j =>
      obtain ⟨⟨b1, hb1⟩, hn⟩ := ho
      obtain ⟨q, h1, h2, h3⟩ := back j b1 hb1
      rw [h1] at hk
      cases hk
      exact ⟨⟨_, h2⟩, by rw [h3]; exact hn⟩
    | inp x y =>
      have hn : n ≤ (ρ1 (.inp x y)).cap := ho
      rw [hτ'inp] at hk
      rcases hp.inp x y with ⟨h2, _⟩ | ⟨k, bl, h2, h3, _⟩
      · rw [hτinp, hk] at h2; cases h2
      · rw [hτinp, hk] at h2
        cases h2
        have e1 := hl.agree (.inp x y) 0 (Nat.zero_le _)
        have e2 : ρ0 (.inp x y) = ρ k' := renρ_some (by rw [hτinp]; exact hk)
        rw [← e1, e2, ← F34 k' bl h3] at hn
        cases k' with
        | own q => exact ⟨stay q bl (at_own' h3), hn⟩
        | inp x' y' => exact hn
  have okold : ∀ k n, okKey mem ρ k n → okKey mem' ρ' k n := by
    intro k n hk
    have e := hagree k n hk
    cases k with
    | own k => obtain ⟨⟨bl, hb⟩, hn⟩ := hk; exact ⟨stay k bl hb, by rw [← e]; exact hn⟩
    | inp x y => exact hk
  refine ⟨ρ', ?_, hagree, ?_, ?_, ⟨hl.keeps.os, hl.keeps.tape, hl.keeps.output, hl.keeps.size, fun k hk hn => hl.keeps.block k hk (fun h => hn h.1)⟩, kin_map okto v0 hl.kinV, ?_⟩
  · rw [← tr_ren τ' _ ρ' v0 hfitv, tr_congr F5 v0 hl.kinV]
  · constructor
    · intro k bl hb i v hv
      cases k with
      | own k =>
        rcases look k bl (at_own' hb) with ⟨j, b1, h1, rfl, h3, h4⟩ | ⟨h1, h2, h3⟩
        · simp only at hv
          rw [hcells j b1 h1] at hv
          rw [h4]; exact hl.mem.cell _ b1 (at_own h1) i v hv
        · rw [hcongr _ bl (at_own h1)] at hv
          rw [h3]; exact hMB.cell _ bl (at_own (hMBget k bl h1 h2)) i v hv
      | inp x y =>
        have hb' : at? I mem (.inp x y) = some bl := hb
        rw [hcongr _ bl hb'] at hv
        exact hMB.cell (.inp x y) bl hb i v hv
    · intro k bl hb hw i hi
      rcases look k bl hb with ⟨j, b1, h1, rfl, h3, h4⟩ | ⟨h1, h2, h3⟩
      · rw [h4]; exact hl.mem.free j b1 h1 hw i (by simpa only [cszL_ren] using hi)
      · rw [h3]; exact hMB.free k bl (hMBget k bl h1 h2) hw i hi
    · intro k k' bl bl' hne hb hb' hw hd n1 n2
      rcases look k bl hb with ⟨j, b1, h1, rfl, h3, h4⟩ | ⟨h1, h2, h3⟩
      · rw [h4] at n1 ⊢
        cases k' with
        | own k' =>
          rcases look k' bl' (at_own' hb') with ⟨j', b1', h1', rfl, h3', h4'⟩ | ⟨h1', h2', h3'⟩
          · rw [h4'] at n2 ⊢
            refine hl.mem.apart j (.own j') b1 b1' ?_ h1 (at_own h1') hw hd n1 n2
            intro e
            cases e
            rw [h3] at h3'
            cases h3'
            exact hne rfl
          · rw [h3'] at n2 ⊢
            exact far j b1 (.own k') bl' h1 (at_own h1') (fun q e => by cases e; exact h2') hd n1 n2 hw
        | inp x y => exact far j b1 (.inp x y) bl' h1 hb' (fun q e => by cases e) hd n1 n2 hw
      · rw [h3] at n1 ⊢
        cases k' with
        | own k' =>
          rcases look k' bl' (at_own' hb') with ⟨j', b1', h1', rfl, h3', h4'⟩ | ⟨h1', h2', h3'⟩
          · rw [h4'] at n2 ⊢
            by_cases hw' : isWr b1'.kd = true
            · exact fun e => far j' b1' (.own k) bl h1' (at_own h1) (fun q e => by cases e; exact h2) (by cases hk : bl.kd <;> rw [hk] at hw <;> first | rfl | cases hw) n2 n1 hw' e.symm
            · have hr1 : isRo b1'.kd = true := by cases hk : b1'.kd <;> simp [hk, isWr, isDead, isRo] at hw' hd ⊢
              rcases hro with hro | hro
              · rw [hro j' b1' h1'] at hr1; cases hr1
              · rcases (hl.mine.src (.own j') b1' (at_own h1') hd n2).2 with h | ⟨k0, b0, h5, h6, h7, h8⟩
                · have := ha.mem.inb (.own k) bl (at_own h1) (by cases hk : bl.kd <;> rw [hk] at hw <;> first | rfl | cases hw) n1; omega
                · obtain ⟨kk, bb, h9, h10, h11⟩ := hp.src h5 h6 h7
                  have e : ρ0 k0 = ρ kk := renρ_some h9
                  rw [e] at h7 h8
                  rw [← h8]
                  refine ha.mem.apart k kk bl bb ?_ h1 h10 hw h11 n1 h7
                  rintro rfl
                  cases k0 with
                  | own i =>
                    obtain ⟨ki, hi⟩ : ∃ ki : Nat, σs[i]? = some ki := ⟨_, List.getElem?_eq_getElem (by rw [← hm0]; exact lt_of_get (at_own' h5))⟩
                    rw [hτown i ki hi] at h9
                    cases h9
                    exact h2 (List.mem_of_getElem? hi)
                  | inp x y =>
                    rw [hτinp] at h9
                    have := hro x y k bl h9 h1
                    rw [hw] at this; cases this
          · rw [h3'] at n2 ⊢
            exact ha.mem.apart k (.own k') bl bl' hne h1 (at_own h1') hw hd n1 n2
        | inp x y => exact ha.mem.apart k (.inp x y) bl bl' hne h1 hb' hw hd n1 n2
    · intro k bl hb hd hn
      cases k with
      | own k =>
        rcases look k bl (at_own' hb) with ⟨j, b1, h1, rfl, h3, h4⟩ | ⟨h1, h2, h3⟩
        · rw [h4] at hn ⊢; exact hl.mem.inb (.own j) b1 (at_own h1) hd hn
        · rw [h3] at hn ⊢; exact hMB.inb (.own k) bl (at_own (hMBget k bl h1 h2)) hd hn
      | inp x y => exact hMB.inb (.inp x y) bl hb hd hn
    · intro k bl e hb hke
      rcases look k bl hb with ⟨j, b1, h1, rfl, h3, h4⟩ | ⟨h1, h2, h3⟩
      · obtain ⟨n, z, g, h5, h0, h6⟩ := hl.mem.row j b1 e h1 hke
        refine ⟨n, z, fun i => renL τ' (g i), by simp only [h5, renL, LV.ren], by rw [h4]; exact h0, ?_⟩
        rw [h4]
        simp only
        rw [hcells j b1 h1]
        exact h6
      · obtain ⟨n, z, g, h5, h0, h6⟩ := hMB.row k bl e (hMBget k bl h1 h2) hke
        refine ⟨n, z, g, h5, by rw [h3]; exact h0, ?_⟩
        rw [h3, hcongr _ bl (at_own h1)]
        exact h6
    · intro k hn
      cases k with
      | inp x y => exact ha.mem.nilc _ hn
      | own k =>
        by_cases hk : ∃ j : Nat, σs[j]? = some k
        · obtain ⟨j, hj⟩ := hk
          rw [F1 j k hj] at hn ⊢
          exact hl.mem.nilc _ hn
        · rcases Nat.lt_or_ge k mem.length with h | h
          · have := F3 k h (fun hm => by obtain ⟨j, hj, rfl⟩ := List.mem_iff_getElem.1 hm; exact hk ⟨j, List.getElem?_eq_getElem hj⟩)
            rw [this] at hn ⊢; exact ha.mem.nilc _ hn
          · have := F2 (σs.length + (k - mem.length)) (by omega)
            rw [show mem.length + (σs.length + (k - mem.length) - σs.length) = k by omega] at this
            rw [this] at hn ⊢; exact hl.mem.nilc _ hn
    · intro k bl hb hn
      cases k with
      | own k =>
        rcases look k bl (at_own' hb) with ⟨j, b1, h1, rfl, h3, h4⟩ | ⟨h1, h2, h3⟩
        · rw [h4] at hn
          simp only [cszL_ren]
          exact hl.mem.empt (.own j) b1 (at_own h1) hn
        · rw [h3] at hn; exact ha.mem.empt (.own k) bl (at_own h1) hn
      | inp x y => exact ha.mem.empt (.inp x y) bl hb hn
    · intro k bl hb hd
      rcases look k bl hb with ⟨j, b1, h1, rfl, h3, h4⟩ | ⟨h1, h2, h3⟩
      · simp only; rw [hl.mem.dead j b1 h1 hd]; rfl
      · exact ha.mem.dead k bl h1 hd
  · constructor
    · intro k bl hb hw hn
      rcases look k bl hb with ⟨j, b1, h1, rfl, h3, h4⟩ | ⟨h1, h2, h3⟩
      · rw [h4] at hn ⊢; exact (hl.mine.own j b1 h1 hw hn).1
      · rw [h3] at hn ⊢; exact ha.mine.own k bl h1 hw hn
    · intro k bl hb hd hn
      cases k with
      | own k =>
        rcases look k bl (at_own' hb) with ⟨j, b1, h1, rfl, h3, h4⟩ | ⟨h1, h2, h3⟩
        · rw [h4] at hn ⊢; exact (hl.mine.src (.own j) b1 (at_own h1) hd hn).1
        · rw [h3] at hn ⊢; exact ha.mine.src (.own k) bl (at_own h1) hd hn
      | inp x y => exact ha.mine.src (.inp x y) bl hb hd hn
  · intro k bl hb
    cases k with
    | own k =>
      rcases look k bl (at_own' hb) with ⟨j, b1, h1, rfl, h3, h4⟩ | ⟨h1, h2, h3⟩
      · exact kinL_map okto b1.us (hl.kinM (.own j) b1 (at_own h1))
      · exact kinL_mono okold bl.us (ha.kinM (.own k) bl (at_own h1))
    | inp x y => exact kinL_mono okold bl.us (ha.kinM (.inp x y) bl hb)
end
end Go.Proofs.Ytjhjockdkpgpeaa.En
