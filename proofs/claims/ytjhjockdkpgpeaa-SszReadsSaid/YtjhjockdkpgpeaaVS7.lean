/- DERIVED. An operation that touches no memory, in a walk. -/
import Derived.Test.YtjhjockdkpgpeaaVS6
set_option linter.all false
namespace Go.Proofs.Ytjhjockdkpgpeaa.En
open Go Go.RowKit

section
variable {A : Type} [Ab A] {P : Program}

section
variable {I : Nat → Nat → List (LV A)} {Own : Dom} {w0 : World} {ρ : Key → Loc} {s : LS A} {a : Act} {w : World}

theorem mapE_sound (h : Rl I Own w0 ρ s a w) : ∀ {l : List Operand} {vs : List (LV A)}, mapE (ev s.tmps) l = some vs → l.map a.eval = trs ρ vs ∧ kinL (okKey s.mem ρ) vs
  | [], vs, he => by simp only [mapE] at he; cases he; exact ⟨rfl, trivial⟩
  | x :: l, vs, he => by
    simp only [mapE] at he
    split at he
    · rename_i v hv
      split at he
      · rename_i vs' hvs
        cases he
        have h1 := ev_sound h hv
        have h2 := mapE_sound h hvs
        exact ⟨by simp [trs, h1.1, h2.1], h1.2, h2.2⟩
      · cases he
    · cases he
theorem mapE_arr (h : Rl I Own w0 ρ s a w) {l : Array Operand} {vs : List (LV A)} (he : mapE (ev s.tmps) l.toList = some vs) : l.map a.eval = (trs ρ vs).toArray := by
  apply Array.ext'
  simpa using (mapE_sound h he).1

theorem trs_get {l : List (LV A)} {i : Nat} {v : LV A} (hv : l[i]? = some v) : (trs ρ l)[i]? = some (LV.tr ρ v) := by
  induction l generalizing i with
  | nil => simp at hv
  | cons u l ih =>
    cases i with
    | zero => simp at hv; subst hv; rfl
    | succ i => simp at hv; simpa [trs] using ih hv

theorem binR_kin {rc : Bool} {d : Option Bool} {op : BinOp} {t : TypeId} {x y v : LV A} {c : Cnd} {p : Key → Nat → Prop} (h : binR P rc d op t x y = some (v, c)) : v.kin p := by
  have it : ∀ {k : IntKind} {i j : Int} {v : LV A}, ibin op k i j = some v → v.kin p := by
    intro k i j v h
    cases op <;> simp only [ibin, Option.some.injEq, reduceCtorEq] at h <;> subst h <;> trivial
  have tb : ∀ {u : Option (LV A)} {v : LV A} {c : Cnd}, tst d u = some (v, c) → (∀ z, u = some z → z.kin p) → v.kin p := by
    intro u v c h hz
    cases u with
    | none => cases h
    | some u =>
      have hz := hz u rfl
      cases u <;> simp only [tst, Option.some.injEq, Prod.mk.injEq] at h <;> first
        | (obtain ⟨rfl, _⟩ := h; exact hz)
        | trivial
  unfold binR at h
  repeat' split at h
  all_goals first
    | (cases h; done)
    | (simp only [Option.some.injEq, Prod.mk.injEq] at h; obtain ⟨rfl, _⟩ := h; trivial)
    | (have hch := h; unfold chk at hch; split at hch <;> first | (cases hch; done) | (simp only [Option.some.injEq, Prod.mk.injEq] at hch; obtain ⟨rfl, _⟩ := hch; trivial))
    | exact tb h (fun z hz => it hz)
    | exact tb h (fun z hz => by cases hz; trivial)

theorem splice_fold (off : Nat) : ∀ (vs : List Value) (k : Nat) (cells : Array Value), off + k + vs.length ≤ cells.size →
    ((vs.zipIdx k).foldl (fun cs (x : Value × Nat) => cs.setIfInBounds (off + x.2) x.1) cells).toList = cells.toList.take (off + k) ++ vs ++ cells.toList.drop (off + k + vs.length)
  | [], k, cells, _ => by simp
  | v :: vs, k, cells, h => by
    simp only [List.length_cons] at h
    simp only [List.zipIdx_cons, List.foldl_cons, List.length_cons]
    rw [splice_fold off vs (k + 1) _ (by simp; omega)]
    have hlt : off + k < cells.toList.length := by simp; omega
    rw [Array.toList_setIfInBounds, show off + (k + 1) = off + k + 1 by omega, show off + k + (vs.length + 1) = off + k + 1 + vs.length by omega]
    rw [List.drop_set_of_lt (by omega), List.set_eq_take_append_cons_drop, if_pos hlt]
    rw [List.take_append, List.length_take, Nat.min_eq_left (Nat.le_of_lt hlt), List.take_take, Nat.min_eq_right (by omega), show off + k + 1 - (off + k) = 0 + 1 by omega, List.take_succ_cons, List.take_zero]
    simp

/-- One part laid over. -/
theorem fill_one (place : Nat → Option (Nat × Nat)) (cells : Array Value) (i : Nat) (v : Value) (rest : List (Nat × Value)) (off : Nat) (hp : place i = some (off, v.cells.size)) (hle : off + v.cells.size ≤ cells.size) :
    Instr.fill place cells ((i, v) :: rest) = Instr.fill place (cells.toList.take off ++ v.cells.toList ++ cells.toList.drop (off + v.cells.size)).toArray rest := by
  have h1 : ¬ (off + v.cells.size > cells.size) := by omega
  simp only [Instr.fill, hp]
  rw [if_neg (by simp; omega)]
  congr 1
  apply Array.ext'
  have := splice_fold off v.cells.toList 0 cells (by simpa using hle)
  rw [← Array.foldl_toList, Array.toList_zipIdx]
  simpa using this

theorem sized_places (w : World) {fs : Array Field} (h : (fs.toList.all fun f => (sizeT P f.type).isSome) = true) :
    ∃ pl : Array (Nat × Nat), (fs.mapM fun f => do pure (f.offset, ← sizeOf f.type) : Sem (Array (Nat × Nat))).run P w = .ok pl w ∧ ∀ (i : Nat) (f : Field) (n : Nat), fs[i]? = some f → sizeT P f.type = some n → pl[i]? = some (f.offset, n) := by
  have key : ∀ l : List Field, (l.all fun f => (sizeT P f.type).isSome) = true → (l.mapM fun f => do pure (f.offset, ← sizeOf f.type) : Sem (List (Nat × Nat))).run P w = .ok (l.map fun f => (f.offset, (sizeT P f.type).getD 0)) w := by
    intro l hl
    induction l with
    | nil => rfl
    | cons f l ih =>
      simp only [List.all_cons, Bool.and_eq_true] at hl
      obtain ⟨n, hn⟩ := Option.isSome_iff_exists.1 hl.1
      simp only [List.mapM_cons, Sem.run_bind, run_sizeOf w hn, Result.andThen_ok, ih hl.2, Sem.run_pure, List.map_cons, hn, Option.getD_some]
  refine ⟨(fs.toList.map fun f => (f.offset, (sizeT P f.type).getD 0)).toArray, ?_, ?_⟩
  · rw [Array.mapM_eq_mapM_toList]
    rw [Sem.run_map, key _ h]
    rfl
  · intro i f n hf hn
    simp [hf, hn]

theorem bld_sound [LawAb A] {E : Operand → Option (LV A)} {pl place : Nat → Option (Nat × Nat)} (hpl : ∀ i x, pl i = some x → place i = some x) {ev' : Operand → Value} {p : Key → Nat → Prop}
    (hE : ∀ x u, E x = some u → ev' x = LV.tr ρ u ∧ u.kin p) : ∀ (parts : List (Nat × Operand)) (us : List (LV A)) (v : LV A) (c : Cnd), pureR.bld pl E us parts = some (v, c) → kinL p us →
      ∃ cells, Instr.fill place (cellsL ρ us).toArray (parts.map fun x => (x.1, ev' x.2)) = some cells ∧ LV.tr ρ v = .agg cells ∧ v.kin p
  | [], us, v, c, h, hk => by
    simp only [pureR.bld] at h
    have := okc_sound h; cases this
    exact ⟨_, rfl, rfl, hk⟩
  | (i, x) :: ps, us, v, c, h, hk => by
    simp only [pureR.bld] at h
    split at h
    · rename_i off n u hp hu
      split at h
      · rename_i hb
        split at h
        · rename_i us' hw
          have hu := hE x u hu
          have hnt := (both hb).1
          have hn := beqN (both hb).2
          have hc1 : (LV.cells ρ u).length = n := by rw [← cellsL_units, len_cellsL]; exact hn
          obtain ⟨h1, h2⟩ := wrU_sound ρ _ _ _ _ hw
          rw [cellsL_units, hn] at h1
          rw [hn] at h2
          have hsz : (LV.tr ρ u).cells.size = n := by rw [cells_tr ρ hnt]; simpa using hc1
          obtain ⟨cells, hc, ht, hk'⟩ := bld_sound hpl hE ps us' v c h (kin_wrU _ _ _ _ hw hk (kin_units hu.2))
          refine ⟨cells, ?_, ht, hk'⟩
          simp only [List.map_cons, hu.1]
          rw [fill_one place _ i (LV.tr ρ u) _ off (by rw [hsz]; exact hpl i _ hp) (by rw [hsz]; simp [len_cellsL]; exact h2)]
          rw [cells_tr ρ hnt, ← hc, h1]
          simp [hc1]
        · cases h
      · cases h
    · cases h

theorem ofConst_noTup {v : Value} {u : LV A} (h : ofConst v = some u) : noTup u = true := by
  unfold ofConst at h
  split at h
  · split at h
    · cases h; rfl
    · cases h
  · unfold ofCell at h
    split at h <;> cases h <;> rfl
theorem run_zero (w : World) {t : TypeId} {z : LV A} (h : zeroT P t = some z) : (zeroValue t).run P w = .ok (LV.tr ρ z) w ∧ (∀ p, z.kin p) ∧ noTup z = true := by
  unfold zeroT at h
  split at h
  · rename_i i hi
    split at h
    · rename_i v hv
      have := ofConst_sound ρ h
      exact ⟨by simp [zeroValue, typeInfo, hi, hv, this.1], this.2, ofConst_noTup h⟩
    · cases h
  · cases h

theorem blt_sound (w : World) (ty : TypeId) (cs : Array Bool) {ts : Array TypeId} {b : Builtin} {vs : List (LV A)} {v : LV A} {c : Cnd} (h : bltR P ts b vs = some (v, c)) :
    (builtin b ts ty cs (trs ρ vs).toArray).run P w = .ok (.value (LV.tr ρ v)) w ∧ ∀ p, v.kin p := by
  unfold bltR at h
  split at h
  · split at h
    · rename_i u t ht
      split at h
      · rename_i e hs
        split at h
        · have := okc_sound h; cases this
          exact ⟨by simp [builtin, trs, LV.tr, Builtin.len_, ht, run_underlying hs, goInt], fun _ => trivial⟩
        · have := okc_sound h; cases this
          refine ⟨?_, fun _ => trivial⟩
          rename_i k m
          have hv : ∃ a c, vecV (ρ k) m = .slice a m c := by
            unfold vecV
            split
            · rename_i hb
              exact ⟨_, 0, by rw [beqN (both hb).2]⟩
            · exact ⟨_, _, rfl⟩
          obtain ⟨a, c, hv⟩ := hv
          simp [builtin, trs, LV.tr, Builtin.len_, ht, run_underlying hs, goInt, hv]
        · have := okc_sound h; cases this
          exact ⟨by simp [builtin, trs, LV.tr, Builtin.len_, ht, run_underlying hs, goInt], fun _ => trivial⟩
        · cases h
      · rename_i hs
        split at h
        · have := okc_sound h; cases this
          exact ⟨by simp [builtin, trs, LV.tr, Builtin.len_, ht, run_underlying hs, goInt], fun _ => trivial⟩
        · cases h
      · cases h
    · cases h
  · split at h
    · have := okc_sound h; cases this
      exact ⟨by simp [builtin, trs, LV.tr, Builtin.min_, Builtin.min2], fun _ => trivial⟩
    · cases h
  · split at h
    · have := okc_sound h; cases this
      exact ⟨by simp [builtin, trs, LV.tr, Builtin.max_, Builtin.max2], fun _ => trivial⟩
    · cases h
  · cases h

end
end
end Go.Proofs.Ytjhjockdkpgpeaa.En
