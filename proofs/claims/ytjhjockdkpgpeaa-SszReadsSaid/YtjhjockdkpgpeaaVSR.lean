/- DERIVED. From a law's call to its statement: what came in reads as it did. -/
import Derived.Test.YtjhjockdkpgpeaaVSP
import Derived.Carry
import Derived.ProofKit
import Derived.OpenShut
import Derived.JoinedCond
import Derived.Deep.Slices
import Derived.Deep.CondSized
set_option linter.all false
namespace Go.Proofs.Ytjhjockdkpgpeaa.En
open Go Go.RowKit Go.ChangeShapes Go.WideShapes Go.ChangeAt Go.WideElems

section
variable {P : Program} {H : Type} {enc : TypeId × Value → H}

theorem trodAll_stays (hl : laidOutB P = true) {W W' : World} {sp' : Nat → Bool} : ∀ {ts : List TypeId} {vs : List Value} {ds : List (DataW H)} {ps : List MemPlace}, (∀ t ∈ ts, P.readableRec t = true ∧ t < P.types.size) →
    DataW.TrodAll enc P W 0 (fun _ => true) true ts vs ds ps → (∀ p ∈ ps, W.sameAt W' p) → (∀ p ∈ ps, sp' p.block = true) → DataW.TrodAll enc P W' 0 sp' true ts vs ds ps
  | [], [], [], _, _, h, _, _ => h
  | t :: ts, v :: vs, d :: ds, ps, ht, ⟨p, q, h1, h2, h3⟩, hs, hp => by
    subst h3
    obtain ⟨hr, hrow⟩ := ht t (by simp)
    exact ⟨p, q, Trod_stays hl hr hrow h1 (fun x hx => hs x (by simp [hx])) (fun x hx => hp x (by simp [hx])), trodAll_stays hl (fun t ht' => ht t (by simp [ht'])) h2 (fun x hx => hs x (by simp [hx])) (fun x hx => hp x (by simp [hx])), rfl⟩
  | [], _ :: _, _, _, _, h, _, _ => h.elim
  | [], [], _ :: _, _, _, h, _, _ => h.elim
  | _ :: _, [], _, _, _, h, _, _ => h.elim
  | _ :: _, _ :: _, [], _, _, h, _, _ => h.elim

/-- A law's end: it answers true, and below the heap's old size nothing has turned. -/
theorem law_post (hl : laidOutB P = true) {f : Func} {s : ChangeSpec} {apart fresh handsOn again : Bool} {W W' : World} {args : Array Value} {ds gs : List (DataW H)} {before : List MemPlace} {tb : TypeId}
    (hW : DataW.Whole enc P f.params.toList s.vars apart W args.toList ds gs before) (hv : s.vars = []) (hs : s.fn H (ds ++ gs) = { results := [.lit (.bool true)], args := ds }) (ht : ∀ t ∈ f.params.toList, P.readableRec t = true ∧ t < P.types.size)
    (hr : f.resultTypes = #[tb]) (htb : P.underlying tb = some .bool) (hB : Below W.heap.size W W') : s.post enc P f apart fresh handsOn again W args (.bool true) W' := by
  have hW' := hW
  obtain ⟨p, q, hA, hV, rfl, hz, hn⟩ := hW
  rw [hv] at hV
  obtain ⟨rfl, rfl⟩ := trodVars_none hV
  have hlt : ∀ x ∈ p ++ [], x.block < W.heap.size := fun x hx => by simpa using hW'.lt x hx
  have hres : ∀ (b : Nat) (sp : Nat → Bool) (hd : Bool), DataW.TrodAll enc P W' b sp hd f.resultTypes.toList ((Value.bool true).resultList f.resultTypes.size) (s.fn H (ds ++ [])).results [] := by
    intro b sp hd
    rw [hs, hr]
    exact trodAll_cons_mk (shut_bool htb true) trodAll_mk0
  have hargs : ∀ sp : Nat → Bool, (∀ x ∈ p ++ [], sp x.block = true) → DataW.TrodAll enc P W' 0 sp true f.params.toList args.toList (s.fn H (ds ++ [])).args p := by
    intro sp hsp
    rw [hs]
    exact trodAll_stays hl ht hA (fun x hx => hB.same (hlt x (by simp [hx]))) fun x hx => hsp x (by simp [hx])
  have hvars : ∀ sp : Nat → Bool, DataW.TrodVars enc P W' sp s.vars (s.fn H (ds ++ [])).vars [] := by
    intro sp
    rw [hs, hv]
    rfl
  refine ⟨ds, [], p ++ [], [], p, [], hW', hres _ _ _, hargs _ (fun x hx => by simpa using hlt x hx), hvars _, hB.frame _, fun _ => ?_⟩
  refine ⟨ok_one hr rfl (okWide_bool_mk htb true), _, _, ([] ++ p) ++ [], ⟨[] ++ p, [], trodAll_append (hargs _ fun _ _ => rfl) (hres _ _ _), hvars _, rfl, ?_, ?_⟩, ?_⟩
  · intro b off hp
    have hp : MemPlace.cell b off ∈ p ++ [] := by simpa using hp
    rw [hB.frozen (hlt _ hp)]
    exact hz b off hp
  · intro ha
    simpa using hn ha
  · intro x hx _
    simpa using hx

/-! ## arguments -/
theorem has_lt {P : Program} {W : World} {r : Reach} {base : Nat} {a : Addr} {e : TypeId} {n : Nat} (h : W.has P r base a e n) : a.spot = none ∧ a.block < W.heap.size := by
  obtain ⟨_, h1, row, cells, h2, _⟩ := h
  refine ⟨h1, ?_⟩
  rcases Nat.lt_or_ge a.block W.heap.size with h | h
  · exact h
  · simp [World.shape?, Array.getElem?_eq_none h] at h2
/-- A slice that came in: where it lies. -/
structure Came (W : World) (l : Loc) (n : Nat) : Prop where
  cap : n ≤ l.cap
  max : n ≤ maxLen
  nil : l.none = true → l.cap = 0
  blk : l.none = false → l.blk < W.heap.size
theorem open_nums {t e : TypeId} {k : IntKind} {W : World} {base : Nat} {v : Value} {d : DataW H} {p : List MemPlace} (ht : P.underlying t = some (.slice e)) (he : P.underlying e = some (.int k)) (hc : P.cellsOf e = 1) (hok : Value.okWide P W .any base t v)
    (h : DataW.Trod enc P W 0 (fun _ => true) true t v d p) : ∃ (n : Nat) (f : Nat → Int) (l : Loc), v = vecV l n ∧ Came W l n ∧ ∀ j, j < n → W.cell? (l.at j) = some (.int k (f j)) ∧ (Lit.int k (f j)).wf = true := by
  obtain ⟨a, len, cap, rfl⟩ := okWide_slice ht hok
  obtain ⟨fuel, hf⟩ := h
  rcases open_ints ht he hc hf with ⟨hcs, _⟩ | ⟨ad, len', cap', zs, hcs, _, hl, hm, hz, _, hcell, hwf⟩
  · simp [Value.cells] at hcs
    obtain ⟨rfl, rfl, rfl⟩ := hcs
    exact ⟨0, fun _ => 0, ⟨0, 0, 0, true, none⟩, rfl, ⟨Nat.le_refl _, Nat.zero_le _, fun _ => rfl, (fun h => by cases h)⟩, fun j hj => absurd hj (Nat.not_lt_zero j)⟩
  · simp [Value.cells] at hcs
    obtain ⟨rfl, rfl, rfl⟩ := hcs
    have hz : zs.length = cap := hz
    have hh : ad.spot = none ∧ ad.block < W.heap.size := by
      simp only [Value.okWide, ht, Cell.okWide, Cell.ok] at hok
      exact has_lt hok.2.2
    obtain ⟨b, o, sp⟩ := ad
    obtain ⟨h1, h2⟩ := hh
    have h1 : sp = none := h1
    subst h1
    refine ⟨len, fun j => zs.getD j 0, ⟨b, o, cap, false, none⟩, rfl, ⟨hl, Nat.le_trans hl hm, (fun h => by cases h), fun _ => h2⟩, fun j hj => ?_⟩
    have := hcell j (by omega)
    rw [add_plain] at this
    refine ⟨this, hwf _ ?_⟩
    show zs.getD j 0 ∈ zs
    rw [List.getD_eq_getElem?_getD, List.getElem?_eq_getElem (show j < zs.length by omega)]
    exact List.getElem_mem _
section
variable {A : Type} [Ab A]
theorem cells_ints (ρ : Key → Loc) {k : IntKind} {n : Nat} {f : Nat → Int} {j : Nat} {v : Value} (h : (cellsL ρ ([.rows n 1 fun j => [.int k (f j)]] : List (LV A)))[j]? = some v) : j < n ∧ v = .int k (f j) := by
  have e : cellsL ρ ([.rows n 1 fun j => [.int k (f j)]] : List (LV A)) = (List.range n).map fun j => Value.int k (f j) := by
    simp only [cellsL, LV.cells, List.append_nil]
    clear h
    induction n with
    | zero => rfl
    | succ n ih => rw [List.range_succ, List.flatMap_append, List.map_append, ih]; simp [fitTo]
  rw [e, List.getElem?_map, Option.map_eq_some_iff] at h
  obtain ⟨x, h1, h2⟩ := h
  have hj : j < n := by simpa using (List.getElem?_eq_some_iff.1 h1).1
  rw [List.getElem?_range hj, Option.some.injEq] at h1
  subst h1
  exact ⟨hj, h2.symm⟩
def atLoc (ls : List Loc) : Key → Loc
  | .inp 0 i => ls.getD i ⟨0, 0, 0, true, none⟩
  | _ => ⟨0, 0, 0, true, none⟩
theorem csz_rows (n z : Nat) (f : Nat → List (LV A)) : cszL [LV.rows n z f] = n * z := by simp [cszL, csz]
/-- What came in, as the executor has it. -/
theorem came_mem [LawAb A] {W : World} {us : List (List (LV A))} {ls : List Loc} (hlen : us.length = ls.length)
    (h : ∀ (i : Nat) u l, us[i]? = some u → ls[i]? = some l → (l.none = true → l.cap = 0 ∧ cszL u = 0) ∧ (l.none = false → l.blk < W.heap.size) ∧ ∀ j v, (cellsL (atLoc ls) u)[j]? = some v → W.cell? (l.at j) = some v) :
    MemRel (inOf us) (atLoc ls) [] W := by
  have at1 : ∀ (t i : Nat), (∃ u l, t = 0 ∧ us[i]? = some u ∧ ls[i]? = some l ∧ inOf us t i = u ∧ atLoc ls (.inp t i) = l) ∨ (inOf us t i = [] ∧ (t = 0 → us[i]? = none ∧ ls[i]? = none) ∧ atLoc ls (.inp t i) = ⟨0, 0, 0, true, none⟩) := by
    intro t i
    cases t with
    | succ t => exact .inr ⟨rfl, (fun h => by cases h), rfl⟩
    | zero =>
      rcases Nat.lt_or_ge i us.length with hi | hi
      · have h1 := List.getElem?_eq_getElem hi
        have h2 := List.getElem?_eq_getElem (show i < ls.length by omega)
        exact .inl ⟨_, _, rfl, h1, h2, by simp [inOf, List.getD_eq_getElem?_getD, h1], by simp [atLoc, List.getD_eq_getElem?_getD, h2]⟩
      · have h1 : us[i]? = none := List.getElem?_eq_none hi
        have h2 : ls[i]? = none := List.getElem?_eq_none (by omega)
        exact .inr ⟨by simp [inOf, List.getD_eq_getElem?_getD, h1], fun _ => ⟨h1, h2⟩, by simp [atLoc, List.getD_eq_getElem?_getD, h2]⟩
  refine memRel_nil _ _ _ (fun t i j v hv => ?_) (fun t i hn => ?_) (fun k hk => ?_) (fun t i hn => ?_)
  · rcases at1 t i with ⟨u, l, rfl, h1, h2, h3, h4⟩ | ⟨h3, _, _⟩
    · rw [h3] at hv; rw [h4]; exact (h i u l h1 h2).2.2 j v hv
    · rw [h3] at hv; simp [cellsL] at hv
  · rcases at1 t i with ⟨u, l, rfl, h1, h2, h3, h4⟩ | ⟨_, _, h4⟩
    · rw [h4] at hn ⊢; exact (h i u l h1 h2).2.1 hn
    · rw [h4] at hn; cases hn
  · cases k with
    | own k => rfl
    | inp t i =>
      rcases at1 t i with ⟨u, l, rfl, h1, h2, h3, h4⟩ | ⟨_, _, h4⟩
      · rw [h4] at hk ⊢; exact ((h i u l h1 h2).1 hk).1
      · rw [h4]
  · rcases at1 t i with ⟨u, l, rfl, h1, h2, h3, h4⟩ | ⟨h3, _, h4⟩
    · rw [h4] at hn; rw [h3]; exact ((h i u l h1 h2).1 hn).2
    · rw [h3]; rfl
end
end
end Go.Proofs.Ytjhjockdkpgpeaa.En
