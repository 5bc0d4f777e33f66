/- DERIVED. Memory that is turned: what a step leaves. -/
import Derived.Test.YtjhjockdkpgpeaaVS8
set_option linter.all false
namespace Go.Proofs.Ytjhjockdkpgpeaa.En
open Go Go.RowKit

section
variable {A : Type} [Ab A] {P : Program}

theorem cell_same {w w' : World} {a : Addr} (h : w'.heap[a.block]? = w.heap[a.block]?) : w'.cell? a = w.cell? a := by simp [World.cell?, h]
theorem frozen_same {w w' : World} {a : Addr} (h : w'.heap[a.block]? = w.heap[a.block]?) : w'.frozen? a = w.frozen? a := by simp [World.frozen?, h]
theorem at_own {I : Nat → Nat → List (LV A)} {mem : Mem A} {k : Nat} {bl : Blk A} (h : mem[k]? = some (some bl)) : at? I mem (.own k) = some bl := by simp [at?, h]
theorem at_own' {I : Nat → Nat → List (LV A)} {mem : Mem A} {k : Nat} {bl : Blk A} (h : at? I mem (.own k) = some bl) : mem[k]? = some (some bl) := by
  simp only [at?] at h
  split at h
  · rename_i b hb; cases h; exact hb
  · cases h

/-- Blocks that stand in the world as they stood. -/
theorem MemRel.kept [LawAb A] {I : Nat → Nat → List (LV A)} {ρ : Key → Loc} {mem : Mem A} {w w' : World} {row : Option Nat} (h : MemRel I ρ mem w) (hg : w.grownBy w' row)
    (hrow : ∀ k bl, at? I mem k = some bl → isDead bl.kd = false → (ρ k).none = false → some (ρ k).blk ≠ row) : MemRel I ρ mem w' := by
  have blk : ∀ k bl, at? I mem k = some bl → isDead bl.kd = false → (ρ k).none = false → w'.heap[(ρ k).blk]? = w.heap[(ρ k).blk]? := fun k bl h1 h2 h3 => hg.block _ (h.inb k bl h1 h2 h3) (hrow k bl h1 h2 h3)
  have nod : ∀ k bl, at? I mem k = some bl → cszL bl.us ≠ 0 → isDead bl.kd = false ∧ (ρ k).none = false := by
    intro k bl hk hz
    refine ⟨?_, ?_⟩
    · cases hd : isDead bl.kd with
      | false => rfl
      | true =>
        cases k with
        | own k => rw [h.dead k bl (at_own' hk) hd] at hz; exact absurd rfl hz
        | inp t i => simp only [at?, Option.some.injEq] at hk; subst hk; cases hd
    · cases hn : (ρ k).none with
      | false => rfl
      | true => exact absurd (h.empt k bl hk hn) hz
  exact {
    cell := fun k bl hk i v hv => by
      have hz : cszL bl.us ≠ 0 := by
        intro e
        rw [← len_cellsL ρ] at e
        rw [List.length_eq_zero_iff.1 e] at hv
        cases hv
      obtain ⟨h1, h2⟩ := nod k bl hk hz
      rw [cell_same (a := (ρ k).at i) (blk k bl hk h1 h2)]
      exact h.cell k bl hk i v hv
    free := fun k bl hk hw i hi => by
      obtain ⟨h1, h2⟩ := nod (.own k) bl (at_own hk) (by omega)
      rw [frozen_same (a := (ρ (.own k)).at i) (blk _ bl (at_own hk) h1 h2)]
      exact h.free k bl hk hw i hi
    apart := h.apart
    inb := fun k bl h1 h2 h3 => Nat.lt_of_lt_of_le (h.inb k bl h1 h2 h3) hg.size
    row := fun k bl e hk he => by
      obtain ⟨n, z, f, h1, h0, h2⟩ := h.row k bl e hk he
      refine ⟨n, z, f, h1, h0, h2.kept hg ?_⟩
      unfold vecV
      split
      · left; rw [h0]; rfl
      · rename_i hb
        by_cases hn : (ρ (.own k)).none = true
        · have hz := h.empt _ bl (at_own hk) hn
          rcases h2.2 with ⟨e1, e2⟩ | ⟨g, cap, cur, e1, _, _, e3, _⟩
          · rw [e2, hn] at hb; simp [Nat.beq_refl] at hb
          · unfold vecV at e1
            split at e1
            · rw [h0] at e1; cases e1
            · simp only [Value.slice.injEq, Option.some.injEq] at e1
              have := h.nilc _ hn
              have e0 : n = 0 := by omega
              rw [e0, hn] at hb; simp [Nat.beq_refl] at hb
        · right
          have := hrow (.own k) bl (at_own hk) (by rw [he]; rfl) (by simpa using hn)
          exact this
    nilc := h.nilc
    empt := h.empt
    dead := h.dead }

theorem grownBy_below {w w' : World} (h : Below w.heap.size w w') : w.grownBy w' none := ⟨h.os, h.tape, h.output, h.size, fun k hk _ => h.block k hk⟩
theorem MemRel.below [LawAb A] {I : Nat → Nat → List (LV A)} {ρ : Key → Loc} {mem : Mem A} {w w' : World} (h : MemRel I ρ mem w) (hb : Below w.heap.size w w') : MemRel I ρ mem w' :=
  h.kept (grownBy_below hb) fun _ _ _ _ _ e => by cases e

/-! ## what a step leaves of memory -/
structure Next (I : Nat → Nat → List (LV A)) (Own : Dom) (ρ ρ' : Key → Loc) (mem mem' : Mem A) (w w' : World) : Prop where
  agree : ∀ k m, okKey mem ρ k m → ρ k = ρ' k
  live : ∀ (k : Nat) bl, mem[k]? = some (some bl) → ∃ bl', mem'[k]? = some (some bl')
  mem : MemRel I ρ' mem' w'
  mine : Mine I Own ρ' mem'
  keeps : Keeps Own w w'
  occM : ∀ (k : Key) (bl : Blk A), at? I mem' k = some bl → kinL (okKey mem' ρ') bl.us

theorem okKey_zero' {mem : Mem A} {ρ : Key → Loc} {k : Nat} {bl : Blk A} (h : mem[k]? = some (some bl)) : okKey mem ρ (.own k) 0 := ⟨⟨bl, h⟩, Nat.zero_le _⟩
theorem Next.mono {I : Nat → Nat → List (LV A)} {Own : Dom} {ρ ρ' : Key → Loc} {mem mem' : Mem A} {w w' : World} (h : Next I Own ρ ρ' mem mem' w w') : ∀ k m, okKey mem ρ k m → okKey mem' ρ' k m := by
  intro k m hk
  have e := h.agree k m hk
  cases k with
  | own k =>
    obtain ⟨⟨bl, hb⟩, hm⟩ := hk
    exact ⟨h.live k bl hb, by rw [← e]; exact hm⟩
  | inp t i =>
    show m ≤ (ρ' (.inp t i)).cap
    rw [← e]; exact hk
theorem Next.trans {I : Nat → Nat → List (LV A)} {Own : Dom} {ρ ρ' ρ'' : Key → Loc} {mem mem' mem'' : Mem A} {w w' w'' : World} (h : Next I Own ρ ρ' mem mem' w w') (k : Next I Own ρ' ρ'' mem' mem'' w' w'') : Next I Own ρ ρ'' mem mem'' w w'' where
  agree i m hi := (h.agree i m hi).trans (k.agree i m (h.mono i m hi))
  live i bl hb := by obtain ⟨b1, h1⟩ := h.live i bl hb; exact k.live i b1 h1
  mem := k.mem
  mine := k.mine
  keeps := h.keeps.trans k.keeps
  occM := k.occM

section
variable {I : Nat → Nat → List (LV A)} {Own : Dom} {w0 : World} {ρ : Key → Loc} {s : LS A} {a : Act} {w : World}

theorem getT_put {l : List (LV A)} {dst : Option Nat} {v : LV A} {i : Nat} {u : LV A} (h : (putT l dst v)[i]? = some u) : (dst = some i ∧ i < l.length ∧ u = v) ∨ (dst ≠ some i ∧ l[i]? = some u) := by
  cases dst with
  | none => exact .inr ⟨by simp, h⟩
  | some t =>
    simp only [putT] at h
    rw [List.getElem?_set] at h
    split at h
    · rename_i e; subst e
      split at h
      · rename_i hl; cases h; exact .inl ⟨rfl, hl, rfl⟩
      · cases h
    · rename_i e; exact .inr ⟨by simpa using e, h⟩
theorem len_put (l : List (LV A)) (dst : Option Nat) (v : LV A) : (putT l dst v).length = l.length := by
  cases dst <;> simp [putT]

theorem Rl.next (h : Rl I Own w0 ρ s a w) {ρ' : Key → Loc} {mem' : Mem A} {w' : World} (hn : Next I Own ρ ρ' s.mem mem' w w') (dst : Option Nat) {v : LV A} (hv : v.kin (okKey mem' ρ')) (cs : List Cnd) :
    Rl I Own w0 ρ' { tmps := putT s.tmps dst v, mem := mem', conds := cs } (a.put dst (LV.tr ρ' v)) w' where
  size := by cases dst <;> simp [Act.put, putT, h.size]
  val i u hu := by
    rcases getT_put hu with ⟨rfl, hl, rfl⟩ | ⟨hne, hu⟩
    · right
      have : i < a.tmps.size := by rw [h.size]; exact hl
      simp [Act.put, this]
    · rcases h.val i u hu with e | e
      · exact .inl e
      · right
        rw [← tr_congr hn.agree u (h.occT i u hu)]
        cases dst with
        | none => exact e
        | some t =>
          have : t ≠ i := fun e => hne (by rw [e])
          simp [Act.put, Array.getElem?_setIfInBounds_ne this, e]
  defers := by cases dst <;> exact h.defers
  mem := hn.mem
  mine := hn.mine
  new := h.new
  keeps := h.keeps.trans hn.keeps
  occT i u hu := by
    rcases getT_put hu with ⟨_, _, rfl⟩ | ⟨_, hu⟩
    · exact hv
    · exact kin_mono hn.mono u (h.occT i u hu)
  occM := hn.occM

theorem Rl.self (h : Rl I Own w0 ρ s a w) : Next I Own ρ ρ s.mem s.mem w w := ⟨fun _ _ _ => rfl, fun _ bl h => ⟨bl, h⟩, h.mem, h.mine, Keeps.refl _ _, h.occM⟩
theorem Rl.under [LawAb A] (h : Rl I Own w0 ρ s a w) {w' : World} (hb : Below w.heap.size w w') : Next I Own ρ ρ s.mem s.mem w w' := ⟨fun _ _ _ => rfl, fun _ bl h => ⟨bl, h⟩, h.mem.below hb, h.mine, .of_below hb, h.occM⟩

/-! ## a new block -/
def upd (ρ : Key → Loc) (key : Nat) (l : Loc) : Key → Loc
  | .own k => if k = key then l else ρ (.own k)
  | .inp t i => ρ (.inp t i)
theorem upd_self (ρ : Key → Loc) (key : Nat) (l : Loc) : upd ρ key l (.own key) = l := if_pos rfl
theorem upd_ne (ρ : Key → Loc) {key k : Nat} (l : Loc) (h : k ≠ key) : upd ρ key l (.own k) = ρ (.own k) := if_neg h

theorem mem_set_get {mem : Mem A} {key k : Nat} {x y : Blk A} (h : (mem.set key (some x))[k]? = some (some y)) : (k = key ∧ y = x) ∨ (k ≠ key ∧ mem[k]? = some (some y)) := by
  rw [List.getElem?_set] at h
  split at h
  · rename_i e; subst e
    split at h
    · cases h; exact .inl ⟨rfl, rfl⟩
    · cases h
  · rename_i e; exact .inr ⟨fun e' => e e'.symm, h⟩
theorem at_set {mem : Mem A} {key : Nat} {k : Key} {x y : Blk A} (h : at? I (mem.set key (some x)) k = some y) : (k = .own key ∧ y = x) ∨ (k ≠ .own key ∧ at? I mem k = some y) := by
  cases k with
  | own k =>
    rcases mem_set_get (at_own' h) with ⟨rfl, rfl⟩ | ⟨h1, h2⟩
    · exact .inl ⟨rfl, rfl⟩
    · exact .inr ⟨by simpa using h1, at_own h2⟩
  | inp t i => exact .inr ⟨by simp, h⟩
theorem set_live {mem : Mem A} {key k : Nat} {x bl : Blk A} (h : mem[k]? = some (some bl)) : ∃ bl', (mem.set key (some x))[k]? = some (some bl') := by
  by_cases e : key = k
  · subst e
    have hlt : key < mem.length := by
      rcases Nat.lt_or_ge key mem.length with h' | h'
      · exact h'
      · rw [List.getElem?_eq_none h'] at h; cases h
    exact ⟨x, List.getElem?_set_self hlt⟩
  · exact ⟨bl, by rw [List.getElem?_set_ne e]; exact h⟩

/-- What a new block must be. -/
structure Fresh (I : Nat → Nat → List (LV A)) (Own : Dom) (ρ : Key → Loc) (mem : Mem A) (w' : World) (l : Loc) (bl : Blk A) : Prop where
  kin : kinL (okKey mem ρ) bl.us
  cell : ∀ i v, (cellsL ρ bl.us)[i]? = some v → w'.cell? (l.at i) = some v
  free : isWr bl.kd = true → ∀ i, i < cszL bl.us → w'.frozen? (l.at i) = false
  inb : l.none = false → l.blk < w'.heap.size
  own : isWr bl.kd = true → l.none = false → Own l.blk
  src : l.none = false → Own.src l.blk
  far : isWr bl.kd = true → l.none = false → ∀ k bl', at? I mem k = some bl' → isDead bl'.kd = false → (ρ k).none = false → (ρ k).blk ≠ l.blk
  near : l.none = false → ∀ (k : Nat) bl', mem[k]? = some (some bl') → isWr bl'.kd = true → (ρ (.own k)).none = false → (ρ (.own k)).blk ≠ l.blk
  row : ∀ e, bl.kd = .row e → ∃ n z f, bl.us = [.rows n z f] ∧ l.at0 = none ∧ w'.ownsRow 0 e z (vecV l n) n (cellsL ρ bl.us)
  nilc : l.none = true → l.cap = 0
  empt : l.none = true → cszL bl.us = 0
  dead : isDead bl.kd = false

theorem Next.fresh [LawAb A] {mem : Mem A} {w w' : World} {row : Option Nat} {key : Nat} {l : Loc} {bl : Blk A} (hm : MemRel I ρ mem w) (hmine : Mine I Own ρ mem)
    (hocc : ∀ (k : Key) (bl : Blk A), at? I mem k = some bl → kinL (okKey mem ρ) bl.us) (hk : mem[key]? = some none) (hg : w.grownBy w' row)
    (hrow : ∀ k bl, at? I mem k = some bl → isDead bl.kd = false → (ρ k).none = false → some (ρ k).blk ≠ row) (hown : ∀ b, row = some b → Own b) (hf : Fresh I Own ρ mem w' l bl) :
    Next I Own ρ (upd ρ key l) mem (mem.set key (some bl)) w w' ∧ okKey (mem.set key (some bl)) (upd ρ key l) (.own key) l.cap := by
  have hlt : key < mem.length := by
    rcases Nat.lt_or_ge key mem.length with h' | h'
    · exact h'
    · rw [List.getElem?_eq_none h'] at hk; cases hk
  have hρ : ∀ k m, okKey mem ρ k m → ρ k = upd ρ key l k := by
    intro k m hkk
    cases k with
    | own k =>
      obtain ⟨⟨b, hb⟩, _⟩ := hkk
      have : k ≠ key := by rintro rfl; rw [hk] at hb; cases hb
      exact (upd_ne ρ l this).symm
    | inp t i => rfl
  have hne : ∀ (k : Nat) bl', mem[k]? = some (some bl') → k ≠ key := by rintro k bl' hb rfl; rw [hk] at hb; cases hb
  have hρa : ∀ k bl', at? I mem k = some bl' → upd ρ key l k = ρ k := by
    intro k bl' hb
    cases k with
    | own k => exact upd_ne ρ l (hne k bl' (at_own' hb))
    | inp t i => rfl
  have hm' := hm.kept hg hrow
  have hcc : ∀ us : List (LV A), kinL (okKey mem ρ) us → cellsL (upd ρ key l) us = cellsL ρ us := fun us hu => (cellsL_congr hρ us hu).symm
  have mono : ∀ k m, okKey mem ρ k m → okKey (mem.set key (some bl)) (upd ρ key l) k m := by
    intro k m hkk
    have e := hρ k m hkk
    cases k with
    | own k =>
      obtain ⟨⟨b, hb⟩, h2⟩ := hkk
      exact ⟨set_live hb, by rw [← e]; exact h2⟩
    | inp t i => exact hkk
  refine ⟨⟨hρ, fun k b hb => set_live hb, ?_, ?_, ?_, ?_⟩, ⟨⟨bl, List.getElem?_set_self hlt⟩, by rw [upd_self]; exact Nat.le_refl _⟩⟩
  · constructor
    · intro k b hb i v hv
      rcases at_set hb with ⟨rfl, rfl⟩ | ⟨h1, h2⟩
      · rw [hcc _ hf.kin] at hv
        rw [upd_self]; exact hf.cell i v hv
      · rw [hcc _ (hocc k b h2)] at hv
        rw [hρa k b h2]; exact hm'.cell k b h2 i v hv
    · intro k b hb hw i hi
      rcases mem_set_get hb with ⟨rfl, rfl⟩ | ⟨h1, h2⟩
      · rw [upd_self]; exact hf.free hw i hi
      · rw [upd_ne ρ l h1]; exact hm'.free k b h2 hw i hi
    · intro k k' b b' hne' hb hb' hw hd n1 n2
      rcases mem_set_get hb with ⟨rfl, rfl⟩ | ⟨h1, h2⟩
      · rcases at_set hb' with ⟨rfl, _⟩ | ⟨h3, h4⟩
        · exact absurd rfl hne'
        · rw [upd_self] at n1 ⊢
          rw [hρa k' b' h4] at n2 ⊢
          exact fun e => hf.far hw n1 k' b' h4 hd n2 e.symm
      · rcases at_set hb' with ⟨rfl, rfl⟩ | ⟨h3, h4⟩
        · rw [upd_self] at n2 ⊢
          rw [upd_ne ρ l h1] at n1 ⊢
          exact hf.near n2 k b h2 hw n1
        · rw [upd_ne ρ l h1] at n1 ⊢
          rw [hρa k' b' h4] at n2 ⊢
          exact hm'.apart k k' b b' hne' h2 h4 hw hd n1 n2
    · intro k b hb hd n1
      rcases at_set hb with ⟨rfl, rfl⟩ | ⟨h1, h2⟩
      · rw [upd_self] at n1 ⊢; exact hf.inb n1
      · rw [hρa k b h2] at n1 ⊢; exact hm'.inb k b h2 hd n1
    · intro k b e hb he
      rcases mem_set_get hb with ⟨rfl, rfl⟩ | ⟨h1, h2⟩
      · rw [upd_self, hcc _ hf.kin]; exact hf.row e he
      · rw [upd_ne ρ l h1, hcc _ (hocc _ b (at_own h2))]; exact hm'.row k b e h2 he
    · intro k n1
      cases k with
      | own k =>
        by_cases e : k = key
        · subst e; rw [upd_self] at n1 ⊢; exact hf.nilc n1
        · rw [upd_ne ρ l e] at n1 ⊢; exact hm'.nilc _ n1
      | inp t i => exact hm'.nilc _ n1
    · intro k b hb n1
      rcases at_set hb with ⟨rfl, rfl⟩ | ⟨h1, h2⟩
      · rw [upd_self] at n1; exact hf.empt n1
      · rw [hρa k b h2] at n1; exact hm'.empt k b h2 n1
    · intro k b hb hd
      rcases mem_set_get hb with ⟨rfl, rfl⟩ | ⟨h1, h2⟩
      · rw [hf.dead] at hd; cases hd
      · exact hm'.dead k b h2 hd
  · constructor
    · intro k b hb hw n1
      rcases mem_set_get hb with ⟨rfl, rfl⟩ | ⟨h1, h2⟩
      · rw [upd_self] at n1 ⊢; exact hf.own hw n1
      · rw [upd_ne ρ l h1] at n1 ⊢; exact hmine.own k b h2 hw n1
    · intro k b hb hd n1
      rcases at_set hb with ⟨rfl, rfl⟩ | ⟨h1, h2⟩
      · rw [upd_self] at n1 ⊢; exact hf.src n1
      · rw [hρa k b h2] at n1 ⊢; exact hmine.src k b h2 hd n1
  · exact ⟨hg.os, hg.tape, hg.output, hg.size, fun k hk' hn => hg.block k hk' (fun e => hn (hown k e.symm))⟩
  · intro k b hb
    rcases at_set hb with ⟨rfl, rfl⟩ | ⟨h1, h2⟩
    · exact kinL_mono mono _ hf.kin
    · exact kinL_mono mono _ (hocc k b h2)

/-! ## a block that is given up, or only read from now on -/
theorem Next.weak [LawAb A] {mem : Mem A} {w : World} {b : Nat} {bl bl' : Blk A} (hm : MemRel I ρ mem w) (hmine : Mine I Own ρ mem)
    (hocc : ∀ (k : Key) (bl : Blk A), at? I mem k = some bl → kinL (okKey mem ρ) bl.us) (hb : mem[b]? = some (some bl)) (hbl : (bl' = ⟨.ro, bl.us⟩ ∧ isDead bl.kd = false) ∨ bl' = ⟨.dead, []⟩) :
    Next I Own ρ ρ mem (mem.set b (some bl')) w w := by
  have hwr : isWr bl'.kd = false := by rcases hbl with ⟨rfl, _⟩ | rfl <;> rfl
  have hrow : ∀ e, bl'.kd ≠ .row e := by rcases hbl with ⟨rfl, _⟩ | rfl <;> simp
  have hcell : ∀ (i : Nat) (v : Value), (cellsL ρ bl'.us)[i]? = some v → (cellsL ρ bl.us)[i]? = some v := by
    rcases hbl with ⟨rfl, _⟩ | rfl
    · exact fun i v h => h
    · intro i v h; simp [cellsL] at h
  have hkin : ∀ p, kinL p bl.us → kinL p bl'.us := by
    rcases hbl with ⟨rfl, _⟩ | rfl
    · exact fun p h => h
    · intro p h; trivial
  have hdd : isDead bl'.kd = false → isDead bl.kd = false := by
    rcases hbl with ⟨rfl, h⟩ | rfl
    · exact fun _ => h
    · intro h; cases h
  have mono : ∀ k m, okKey mem ρ k m → okKey (mem.set b (some bl')) ρ k m := by
    intro k m hkk
    cases k with
    | own k => obtain ⟨⟨b', hb'⟩, h2⟩ := hkk; exact ⟨set_live hb', h2⟩
    | inp t i => exact hkk
  refine ⟨fun _ _ _ => rfl, fun k b' hb' => set_live hb', ?_, ?_, Keeps.refl _ _, ?_⟩
  · constructor
    · intro k y hy i v hv
      rcases at_set hy with ⟨rfl, rfl⟩ | ⟨h1, h2⟩
      · exact hm.cell _ bl (at_own hb) i v (hcell i v hv)
      · exact hm.cell k y h2 i v hv
    · intro k y hy hw i hi
      rcases mem_set_get hy with ⟨rfl, rfl⟩ | ⟨h1, h2⟩
      · rw [hwr] at hw; cases hw
      · exact hm.free k y h2 hw i hi
    · intro k k' y y' hne hy hy' hw hd n1 n2
      rcases mem_set_get hy with ⟨rfl, rfl⟩ | ⟨h1, h2⟩
      · rw [hwr] at hw; cases hw
      · rcases at_set hy' with ⟨rfl, rfl⟩ | ⟨h3, h4⟩
        · exact hm.apart k _ y bl hne h2 (at_own hb) hw (hdd hd) n1 n2
        · exact hm.apart k k' y y' hne h2 h4 hw hd n1 n2
    · intro k y hy hd n1
      rcases at_set hy with ⟨rfl, rfl⟩ | ⟨h1, h2⟩
      · exact hm.inb _ bl (at_own hb) (hdd hd) n1
      · exact hm.inb k y h2 hd n1
    · intro k y e hy he
      rcases mem_set_get hy with ⟨rfl, rfl⟩ | ⟨h1, h2⟩
      · exact absurd he (hrow e)
      · exact hm.row k y e h2 he
    · exact hm.nilc
    · intro k y hy n1
      rcases at_set hy with ⟨rfl, rfl⟩ | ⟨h1, h2⟩
      · have := hm.empt _ bl (at_own hb) n1
        rcases hbl with ⟨rfl, _⟩ | rfl
        · exact this
        · rfl
      · exact hm.empt k y h2 n1
    · intro k y hy hd
      rcases mem_set_get hy with ⟨rfl, rfl⟩ | ⟨h1, h2⟩
      · rcases hbl with ⟨rfl, _⟩ | rfl
        · cases hd
        · rfl
      · exact hm.dead k y h2 hd
  · constructor
    · intro k y hy hw n1
      rcases mem_set_get hy with ⟨rfl, rfl⟩ | ⟨h1, h2⟩
      · rw [hwr] at hw; cases hw
      · exact hmine.own k y h2 hw n1
    · intro k y hy hd n1
      rcases at_set hy with ⟨rfl, rfl⟩ | ⟨h1, h2⟩
      · exact hmine.src _ bl (at_own hb) (hdd hd) n1
      · exact hmine.src k y h2 hd n1
  · intro k y hy
    rcases at_set hy with ⟨rfl, rfl⟩ | ⟨h1, h2⟩
    · exact kinL_mono mono _ (hkin _ (hocc _ bl (at_own hb)))
    · exact kinL_mono mono _ (hocc k y h2)
end
end
end Go.Proofs.Ytjhjockdkpgpeaa.En
