/- DERIVED. Slices and structs that came in, opened. -/
import Derived.Test.YtjhjockdkpgpeaaVSR
import Derived.SizedLaws
import Derived.DataReads
set_option linter.all false
namespace Go.Proofs.Ytjhjockdkpgpeaa.En
open Go Go.RowKit Go.ChangeShapes Go.WideShapes Go.ChangeAt Go.WideElems

section
variable {P : Program} {H : Type} {enc : TypeId × Value → H} {W : World} {held : Bool}

theorem weightsAll_mem {e : TypeId} : ∀ {l : List (DataW H)} {d : DataW H}, d ∈ l → ∀ n ∈ d.weights P e, n ∈ DataW.weightsAll P e l
  | [], _, h, _, _ => by cases h
  | x :: l, d, h, n, hn => by
    simp only [DataW.weightsAll, List.mem_append]
    rcases List.mem_cons.1 h with rfl | h
    · exact .inl hn
    · exact .inr (weightsAll_mem h n hn)
/-- A slice's cell. -/
theorem open_vec {t e : TypeId} {fuel : Nat} {cs : List Value} {x : DataW H × List MemPlace} (ht : P.underlying t = some (.slice e)) (hz : 0 < P.cellsOf e) (h : DataW.trod enc P W 0 (fun _ => true) held fuel t cs = some x) (hw : ∀ n ∈ x.1.weights P t, n ≤ reachBytes) :
    ∃ (n : Nat) (l : Loc) (m : Nat), cs = [vecV l n] ∧ Came W l n ∧ n * P.bytesOf e ≤ reachBytes ∧
      ∀ i, i < n → ∃ cs' y, W.cells? 0 ((l.at 0).add (i * P.cellsOf e)) (P.cellsOf e) = some cs' ∧ DataW.trod enc P W 0 (fun _ => true) held m e cs' = some y ∧ ∀ n ∈ y.1.weights P e, n ≤ reachBytes := by
  rcases Deep.open_slice ht h with ⟨rfl, rfl⟩ | ⟨a, len, cap, m, k, D, Pl, rfl, _, hl, hm, hmm, rfl, hx⟩
  · exact ⟨0, ⟨0, 0, 0, true, none⟩, 0, rfl, ⟨Nat.le_refl _, Nat.zero_le _, fun _ => rfl, fun h => by cases h⟩, by simp, fun i hi => absurd hi (Nat.not_lt_zero i)⟩
  · rw [if_pos rfl] at hmm
    subst hmm
    have hwt : ∀ i, i < len → ∀ n ∈ (D i).weights P e, n ≤ reachBytes := fun i hi n hn => by
      refine hw n ?_
      simp only [DataW.weights, ht, List.mem_cons, List.mem_append]
      exact .inr (.inl (weightsAll_mem (List.mem_map.2 ⟨i, List.mem_range.2 hi, rfl⟩) n hn))
    have hsz : len * P.bytesOf e ≤ reachBytes := by
      have := hw _ (by simp only [DataW.weights, ht]; exact List.mem_cons_self ..)
      simp only [List.length_map, List.length_range] at this
      refine Nat.le_trans (Nat.mul_le_mul_right _ ?_) this
      omega
    by_cases hc : m = 0
    · subst hc
      have : len = 0 := by omega
      subst this
      exact ⟨0, ⟨0, 0, 0, true, some a⟩, 0, rfl, ⟨Nat.le_refl _, Nat.zero_le _, fun _ => rfl, fun h => by cases h⟩, by simp, fun i hi => absurd hi (Nat.not_lt_zero i)⟩
    · obtain ⟨cs0, h0, _⟩ := hx 0 (by omega)
      obtain ⟨h1, h2, h3⟩ := World.cells?_some h0
      have hh : a.spot = none ∧ a.block < W.heap.size := by
        have := h3 0 hz
        rw [List.getElem?_eq_getElem (show 0 < cs0.length by omega)] at this
        obtain ⟨b, o, sp⟩ := a
        have e : ((Addr.mk b o sp).add (0 * P.cellsOf e)).add 0 = ⟨b, o, sp⟩ := by simp [Addr.add]
        rw [e] at this
        unfold World.cell? at this
        split at this
        · rename_i c tt fr hh
          refine ⟨?_, ?_⟩
          · show sp = none
            cases sp with
            | none => rfl
            | some q => simp at this
          · rcases Nat.lt_or_ge b W.heap.size with h | h
            · exact h
            · simp only [Array.getElem?_eq_none h] at hh; cases hh
        · cases this
      obtain ⟨b, o, sp⟩ := a
      obtain ⟨h4, h5⟩ := hh
      have h4 : sp = none := h4
      subst h4
      exact ⟨len, ⟨b, o, m, false, none⟩, k, rfl, ⟨hl, Nat.le_trans hl hm, (fun h => by cases h), fun _ => h5⟩, hsz, fun i hi => by
        obtain ⟨cs', h6, h7⟩ := hx i (by omega)
        exact ⟨cs', _, h6, h7, hwt i hi⟩⟩
/-- A struct's cells. -/
theorem open_struct {t : TypeId} {fs : Array Field} {fuel : Nat} {cs : List Value} {x : DataW H × List MemPlace} {base : Nat} {spare : Nat → Bool} (ht : P.underlying t = some (.struct fs)) (h : DataW.trod enc P W base spare held fuel t cs = some x) (hw : ∀ n ∈ x.1.weights P t, n ≤ reachBytes) :
    cs.length = P.cellsOf t ∧ ∃ m, ∀ (i : Nat) (f : Field), fs[i]? = some f → ∃ y, DataW.trod enc P W base spare held m f.type ((cs.drop f.offset).take (P.cellsOf f.type)) = some y ∧ ∀ n ∈ y.1.weights P f.type, n ≤ reachBytes := by
  obtain ⟨xs, m, _, rfl, hl, hlen, hf⟩ := DataW.trod_struct ht h
  refine ⟨hl, m, fun i f hi => ?_⟩
  have hlt : i < fs.size := by
    rcases Nat.lt_or_ge i fs.size with h | h
    · exact h
    · rw [Array.getElem?_eq_none h] at hi; cases hi
  have hxi : xs[i]? = some (xs[i]'(by omega)) := List.getElem?_eq_getElem (by omega)
  refine ⟨_, (hf i f hi).trans hxi, fun n hn => hw n ?_⟩
  simp only [DataW.weights, ht]
  exact DataW.weights_mem_each (j := i) (t := f.type) (by simp [hi]) (by simp [hxi]) n hn
end
end Go.Proofs.Ytjhjockdkpgpeaa.En
