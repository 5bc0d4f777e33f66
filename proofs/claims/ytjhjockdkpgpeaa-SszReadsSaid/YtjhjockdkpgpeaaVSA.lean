/- DERIVED. A block that is written. -/
import Derived.Test.YtjhjockdkpgpeaaVS9
set_option linter.all false
namespace Go.Proofs.Ytjhjockdkpgpeaa.En
open Go Go.RowKit

/-- So many cells of a block have been written, and nothing else. -/
structure Put (l : Loc) (lo : Nat) (vs : List Value) (w w' : World) : Prop where
  inside : ∀ (j : Nat) (v : Value), vs[j]? = some v → w'.cell? (l.at (lo + j)) = some v
  outside : ∀ b : Addr, (∀ j, j < vs.length → b ≠ l.at (lo + j)) → w'.cell? b = w.cell? b
  frozen : ∀ b : Addr, w'.frozen? b = w.frozen? b
  size : w'.heap.size = w.heap.size
  os : w'.os = w.os
  tape : w'.tape = w.tape
  output : w'.output = w.output
  block : ∀ k, k ≠ l.blk → w'.heap[k]? = w.heap[k]?
  form : ∀ cur e fr, w.heap[l.blk]? = some (.cells cur e fr) → ∃ cur', w'.heap[l.blk]? = some (.cells cur' e fr) ∧ cur'.size = cur.size
  none : vs = [] → w' = w

section
variable {P : Program}

theorem run_storeCells_put (l : Loc) (lo : Nat) : ∀ (vs : List Value) (i : Nat) (w : World), (∀ j, j < vs.length → (w.cell? (l.at (lo + (i + j)))).isSome = true ∧ w.frozen? (l.at (lo + (i + j))) = false) → (∀ v ∈ vs, v.oneCell' = true) →
    ∃ w', (storeCells (l.at lo) vs i).run P w = .ok () w' ∧ Put l (lo + i) vs w w'
  | [], i, w, _, _ => ⟨w, rfl, ⟨fun j v h => by simp at h, fun _ _ => rfl, fun _ => rfl, rfl, rfl, rfl, rfl, fun _ _ => rfl, fun cur e fr h => ⟨cur, h, rfl⟩, fun _ => rfl⟩⟩
  | v :: vs, i, w, h, hv => by
    obtain ⟨h0, h0'⟩ := h 0 (by simp)
    obtain ⟨u, hu⟩ := Option.isSome_iff_exists.1 h0
    simp only [Nat.add_zero] at hu h0'
    have hs : (store (l.at (lo + i)) v).run P w = .ok () (w.setCell (l.at (lo + i)) v) := by
      rw [run_store P w _ v _ (hv v (by simp)), hu]
      simp [h0']
    have hrest : ∀ j, j < vs.length → ((w.setCell (l.at (lo + i)) v).cell? (l.at (lo + (i + 1 + j)))).isSome = true ∧ (w.setCell (l.at (lo + i)) v).frozen? (l.at (lo + (i + 1 + j))) = false := by
      intro j hj
      have := h (j + 1) (by simpa using hj)
      rw [show i + 1 + j = i + (j + 1) by omega]
      rw [World.cell?_setCell_other _ _ _ _ (by simp [Loc.at] <;> omega), World.frozen?_setCell]
      exact this
    obtain ⟨w', hr, hw⟩ := run_storeCells_put l lo vs (i + 1) _ hrest (fun x hx => hv x (by simp [hx]))
    refine ⟨w', ?_, ?_⟩
    · simp only [storeCells, Sem.run_bind, loc_add, hs, Result.andThen_ok]
      exact hr
    · constructor
      · intro j x hj
        cases j with
        | zero =>
          simp only [List.getElem?_cons_zero, Option.some.injEq] at hj
          subst hj
          rw [Nat.add_zero, hw.outside _ (by intro j hj; simp [Loc.at] <;> omega)]
          exact World.cell?_setCell_same _ _ _ hu
        | succ j =>
          simp only [List.getElem?_cons_succ] at hj
          have := hw.inside j x hj
          rwa [show lo + (i + 1) + j = lo + i + (j + 1) by omega] at this
      · intro b hb
        rw [hw.outside b (fun j hj => by have := hb (j + 1) (by simpa using hj); rwa [show lo + i + (j + 1) = lo + (i + 1) + j by omega] at this)]
        have := hb 0 (by simp)
        exact World.cell?_setCell_other _ _ _ _ (fun e => this (by rw [← e, Nat.add_zero]))
      · intro b; rw [hw.frozen, World.frozen?_setCell]
      · rw [hw.size]; exact World.size_setCell _ _ _
      · exact hw.os
      · exact hw.tape
      · exact hw.output
      · intro k hk; rw [hw.block k hk]; exact Below.heap_setCell _ _ _ _ hk
      · intro cur e fr hh
        obtain ⟨cur', h1, h2⟩ := hw.form (cur.setIfInBounds (l.off + (lo + i)) v) e fr (by
          have : w.setCell (l.at (lo + i)) v = w.setRow l.blk (cur.setIfInBounds (l.off + (lo + i)) v) := setCell_eq_setRow w l.blk _ cur e fr v hh
          rw [this]
          exact setRow_heap w l.blk cur _ e fr hh)
        exact ⟨cur', h1, by simpa using h2⟩
      · intro h; cases h

section
variable {A : Type} [Ab A]
variable {I : Nat → Nat → List (LV A)} {Own : Dom} {ρ : Key → Loc}

theorem rowOk_spec {k : Kd} {old new : List (LV A)} (h : rowOk k old new = true) {e : TypeId} (hk : k = .row e) {n z : Nat} {f : Nat → List (LV A)} (ho : old = [.rows n z f]) : ∃ g, new = [.rows n z g] := by
  subst hk; subst ho
  simp only [rowOk] at h
  split at h
  · rename_i n1 z1 f1 n' z' g' heq
    simp only [List.cons.injEq, LV.rows.injEq, and_true] at heq
    obtain ⟨rfl, rfl, _⟩ := heq
    have h1 := beqN (both h).1
    have h2 := beqN (both h).2
    subst h1; subst h2
    exact ⟨g', rfl⟩
  · cases h

/-- A block written over. -/
theorem Next.put [LawAb A] {mem : Mem A} {w w' : World} {b lo : Nat} {bl : Blk A} {us' : List (LV A)} {vs : List Value} (hm : MemRel I ρ mem w) (hmine : Mine I Own ρ mem)
    (hocc : ∀ (k : Key) (bl : Blk A), at? I mem k = some bl → kinL (okKey mem ρ) bl.us) (hb : mem[b]? = some (some bl)) (hwr : isWr bl.kd = true) (hw : Put (ρ (.own b)) lo vs w w') (hc : Wrote (cellsL ρ bl.us) lo vs (cellsL ρ us')) (hok : rowOk bl.kd bl.us us' = true) (hus : kinL (okKey mem ρ) us') :
    Next I Own ρ ρ mem (mem.set b (some ⟨bl.kd, us'⟩)) w w' := by
  have hlen : (cellsL ρ bl.us).length = cszL bl.us := len_cellsL ρ bl.us
  have hlen' : (cellsL ρ us').length = cszL us' := len_cellsL ρ us'
  have hsz : cszL us' = cszL bl.us := by rw [← hlen, ← hlen', hc.len]
  have hdd : isDead bl.kd = false := by cases hk : bl.kd <;> rw [hk] at hwr <;> first | rfl | cases hwr
  -- where nothing is written the world stands
  have hnone : (ρ (.own b)).none = true → w' = w := by
    intro hn
    apply hw.none
    have := hm.empt _ bl (at_own hb) hn
    have := hc.fit
    exact List.eq_nil_of_length_eq_zero (by omega)
  have hrow1 : ∃ row, w.grownBy w' row ∧ (∀ k, row = some k → (ρ (.own b)).none = false ∧ k = (ρ (.own b)).blk) := by
    cases hn : (ρ (.own b)).none with
    | true => exact ⟨none, by rw [hnone hn]; exact ⟨rfl, rfl, rfl, Nat.le_refl _, fun _ _ _ => rfl⟩, fun k h => by cases h⟩
    | false => exact ⟨some (ρ (.own b)).blk, ⟨hw.os, hw.tape, hw.output, by rw [hw.size]; exact Nat.le_refl _, fun k _ hk => hw.block k (fun e => hk (by rw [e]))⟩, fun k h => ⟨rfl, by cases h; rfl⟩⟩
  obtain ⟨row, hg, hrow⟩ := hrow1
  have hx := Next.weak (bl' := ⟨.dead, []⟩) hm hmine hocc hb (.inr rfl)
  have ne1 : ∀ k y, at? I (mem.set b (some (⟨.dead, []⟩ : Blk A))) k = some y → isDead y.kd = false → k ≠ .own b ∧ at? I mem k = some y := by
    intro k y hy hd
    rcases at_set hy with ⟨_, rfl⟩ | h
    · cases hd
    · exact h
  have h2 : MemRel I ρ (mem.set b (some ⟨.dead, []⟩)) w' := hx.mem.kept hg (by
    intro k y hy hd n1 e
    obtain ⟨h1, h2⟩ := ne1 k y hy hd
    obtain ⟨n2, e2⟩ := hrow _ e.symm
    exact hm.apart b k bl y (Ne.symm h1) hb h2 hwr hd n2 n1 e2.symm)
  have old : ∀ k y, k ≠ Key.own b → at? I mem k = some y → at? I (mem.set b (some (⟨.dead, []⟩ : Blk A))) k = some y := by
    intro k y hne hy
    cases k with
    | own k =>
      have : b ≠ k := fun e => hne (by rw [e])
      have hy := at_own' hy
      exact at_own (by rw [List.getElem?_set_ne this]; exact hy)
    | inp t i => exact hy
  have mono : ∀ k m, okKey mem ρ k m → okKey (mem.set b (some ⟨bl.kd, us'⟩)) ρ k m := by
    intro k m hkk
    cases k with
    | own k => obtain ⟨⟨b', hb'⟩, h2⟩ := hkk; exact ⟨set_live hb', h2⟩
    | inp t i => exact hkk
  have ownne : ∀ {k : Nat}, k ≠ b → Key.own k ≠ Key.own b := fun h e => h (by cases e; rfl)
  -- the block's own cells
  have hcell : ∀ i v, (cellsL ρ us')[i]? = some v → w'.cell? ((ρ (.own b)).at i) = some v := by
    intro i v hv
    rw [hc.get i] at hv
    split at hv
    · rename_i hi
      have := hw.inside _ v hv
      rwa [show lo + (i - lo) = i by omega] at this
    · rename_i hi
      rw [hw.outside _ (by intro j hj e; simp only [Loc.at, Addr.mk.injEq, and_true, true_and] at e; omega)]
      exact hm.cell _ bl (at_own hb) i v hv
  refine ⟨fun _ _ _ => rfl, fun k b' hb' => set_live hb', ?_, ?_, ⟨hg.os, hg.tape, hg.output, hg.size, fun k hk hn => hg.block k hk (fun e => by obtain ⟨h1, h2⟩ := hrow k e.symm; exact hn (h2 ▸ hmine.own b bl hb hwr h1))⟩, ?_⟩
  · constructor
    · intro k y hy i v hv
      rcases at_set hy with ⟨rfl, rfl⟩ | ⟨h3, h4⟩
      · exact hcell i v hv
      · exact h2.cell k y (old k y h3 h4) i v hv
    · intro k y hy hwy i hi
      rcases mem_set_get hy with ⟨rfl, rfl⟩ | ⟨h3, h4⟩
      · rw [hw.frozen]
        exact hm.free k bl hb hwr i (by simp only at hi; omega)
      · exact h2.free k y (at_own' (old (.own k) y (ownne h3) (at_own h4))) hwy i hi
    · intro k k' y y' hne hy hy' hwy hd n1 n2
      rcases mem_set_get hy with ⟨rfl, rfl⟩ | ⟨h3, h4⟩
      · rcases at_set hy' with ⟨rfl, _⟩ | ⟨h5, h6⟩
        · exact absurd rfl hne
        · exact hm.apart k k' bl y' hne hb h6 hwr hd n1 n2
      · rcases at_set hy' with ⟨rfl, rfl⟩ | ⟨h5, h6⟩
        · exact hm.apart k _ y bl hne h4 (at_own hb) hwy hdd n1 n2
        · exact hm.apart k k' y y' hne h4 h6 hwy hd n1 n2
    · intro k y hy hd n1
      rcases at_set hy with ⟨rfl, rfl⟩ | ⟨h3, h4⟩
      · exact Nat.lt_of_lt_of_le (hm.inb _ bl (at_own hb) hdd n1) hg.size
      · exact h2.inb k y (old k y h3 h4) hd n1
    · intro k y e hy he
      rcases mem_set_get hy with ⟨rfl, rfl⟩ | ⟨h3, h4⟩
      · simp only at he
        obtain ⟨n, z, f, e1, e0, e2⟩ := hm.row k bl e hb he
        obtain ⟨g, e3⟩ := rowOk_spec hok he e1
        refine ⟨n, z, g, e3, e0, ?_⟩
        refine ⟨by show (cellsL ρ us').length = _; rw [hc.len]; exact e2.1, ?_⟩
        rcases e2.2 with hnil | ⟨blk, cap, cur, e4, _, e5, e6, e7, e8, e9⟩
        · exact .inl hnil
        · right
          have hv : (ρ (.own k)).none = false ∨ n ≠ 0 := by
            unfold vecV at e4
            cases hnn : (ρ (.own k)).none with
            | false => exact .inl rfl
            | true =>
              right
              rintro rfl
              rw [hnn] at e4
              simp [Nat.beq_refl, e0] at e4
          have hloc : (ρ (.own k)).blk = blk ∧ (ρ (.own k)).off = 0 ∧ (ρ (.own k)).cap = cap := by
            unfold vecV at e4
            split at e4
            · rw [e0] at e4; cases e4
            · simp only [Loc.at, Value.slice.injEq, Option.some.injEq, Addr.mk.injEq] at e4
              exact ⟨e4.1.1, by omega, e4.2.2⟩
          obtain ⟨hl1, hl2, hl3⟩ := hloc
          obtain ⟨cur', e10, e11⟩ := hw.form cur e (0, 0) (by rw [hl1]; exact e5)
          refine ⟨blk, cap, cur', e4, Nat.zero_le _, by rw [← hl1]; exact e10, e6, e7, by rw [e11]; exact e8, ?_⟩
          apply List.ext_getElem?
          intro j
          have hnz : n * z ≤ cur'.size := by rw [e11, e8]; exact Nat.mul_le_mul_right z e6
          have hx : (cellsL ρ us').length = n * z := by rw [hc.len]; exact e2.1
          show _ = (cellsL ρ us')[j]?
          by_cases hj : j < n * z
          · rw [List.getElem?_take_of_lt hj]
            have := hcell j _ (List.getElem?_eq_getElem (by omega))
            rw [List.getElem?_eq_getElem (l := cellsL ρ us') (by omega), ← this]
            simp only [World.cell?, Loc.at, hl2, Nat.zero_add]
            rw [e10]
            simp
          · rw [List.getElem?_eq_none (by simp; omega), List.getElem?_eq_none (by omega)]
      · exact h2.row k y e (at_own' (old (.own k) y (ownne h3) (at_own h4))) he
    · exact hm.nilc
    · intro k y hy n1
      rcases at_set hy with ⟨rfl, rfl⟩ | ⟨h3, h4⟩
      · show cszL us' = 0
        rw [hsz]; exact hm.empt _ bl (at_own hb) n1
      · exact hm.empt k y h4 n1
    · intro k y hy hd
      rcases mem_set_get hy with ⟨rfl, rfl⟩ | ⟨h3, h4⟩
      · simp only at hd; rw [hdd] at hd; cases hd
      · exact hm.dead k y h4 hd
  · constructor
    · intro k y hy hwy n1
      rcases mem_set_get hy with ⟨rfl, rfl⟩ | ⟨h3, h4⟩
      · exact hmine.own k bl hb hwr n1
      · exact hmine.own k y h4 hwy n1
    · intro k y hy hd n1
      rcases at_set hy with ⟨rfl, rfl⟩ | ⟨h3, h4⟩
      · exact hmine.src _ bl (at_own hb) hdd n1
      · exact hmine.src k y h4 hd n1
  · intro k y hy
    rcases at_set hy with ⟨rfl, rfl⟩ | ⟨h3, h4⟩
    · exact kinL_mono mono _ hus
    · exact kinL_mono mono _ (hocc k y h4)
end
end
end Go.Proofs.Ytjhjockdkpgpeaa.En
