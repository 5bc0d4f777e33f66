/- DERIVED. The operations that write: all of them; one step. -/
import Derived.Test.YtjhjockdkpgpeaaVSE
set_option linter.all false
namespace Go.Proofs.Ytjhjockdkpgpeaa.En
open Go Go.RowKit

section
variable {A : Type} [Ab A] {P : Program}
variable {I : Nat → Nat → List (LV A)} {Own : Dom} {w0 : World} {ρ : Key → Loc} {s : LS A} {a : Act} {w : World}

theorem MemRel.sub {mem mem' : Mem A} (h : MemRel I ρ mem w) (hs : ∀ (k : Nat) bl, mem'[k]? = some (some bl) → mem[k]? = some (some bl)) : MemRel I ρ mem' w := by
  have at' : ∀ k bl, at? I mem' k = some bl → at? I mem k = some bl := by
    intro k bl hk
    cases k with
    | own k => exact at_own (hs k bl (at_own' hk))
    | inp t i => exact hk
  exact {
    cell := fun k bl hk => h.cell k bl (at' k bl hk)
    free := fun k bl hk => h.free k bl (hs k bl hk)
    apart := fun k k' bl bl' hne hk hk' => h.apart k k' bl bl' hne (hs k bl hk) (at' k' bl' hk')
    inb := fun k bl hk => h.inb k bl (at' k bl hk)
    row := fun k bl e hk => h.row k bl e (hs k bl hk)
    nilc := h.nilc
    empt := fun k bl hk => h.empt k bl (at' k bl hk)
    dead := fun k bl hk => h.dead k bl (hs k bl hk) }

theorem lt_of_get {l : Mem A} {k : Nat} {x : Option (Blk A)} (h : l[k]? = some x) : k < l.length := by
  rcases Nat.lt_or_ge k l.length with h' | h'
  · exact h'
  · rw [List.getElem?_eq_none h'] at h; cases h

/-- Memory made longer by nothing. -/
theorem ext_get {m d : Mem A} {n k : Nat} {bl : Blk A} (hd : ∀ (k : Nat) bl, d[k]? ≠ some (some bl)) : (m ++ List.replicate n none ++ d)[k]? = some (some bl) ↔ m[k]? = some (some bl) := by
  constructor
  · intro h
    rw [List.append_assoc, List.getElem?_append] at h
    split at h
    · exact h
    · rw [List.getElem?_append] at h
      split at h
      · rw [List.getElem?_replicate] at h
        split at h <;> cases h
      · exact absurd h (hd _ _)
  · intro h
    rw [List.append_assoc, List.getElem?_append_left (lt_of_get h)]
    exact h

/-- A copy. -/
theorem copy_sound [LawAb A] {S : Sig A} (hI : S.inp = I) {rc : Bool} {x : LV A} {m z : Nat} {g : Nat → List (LV A)} {c1 c2 : Cnd} (hr : Rl I Own w0 ρ s a w) (hrows : rowsV S rc s.mem z x = some (m, g, c1)) (hc1 : condOk c1) {dT sT ty e : TypeId} (ht : P.underlying dT = some (.slice e)) (hz : sizeT P e = some z)
    {b : Nat} {o : Nat} {p : List Stp} {len : Nat} {bl : Blk A} {us' : List (LV A)} (hb : s.mem[b]? = some (some bl)) (hw : isWr bl.kd = true) (hput : putRows rc bl.us o p z len (Nat.min m len) g = some (us', c2)) (hc2 : condOk c2) (hok : rowOk bl.kd bl.us us' = true) :
    (∀ cap, ∃ w', (Builtin.copy_ #[dT, sT] ty #[.slice (some ((ρ (.own b)).at (adr o p))) len cap, LV.tr ρ x]).run P w = .ok (.int .i64 (Nat.min m len)) w' ∧ Next I Own ρ ρ s.mem (s.mem.set b (some ⟨bl.kd, us'⟩)) w w') ∧
    (Nat.min m len = 0 → ∀ (q : Option Addr) cap, (Builtin.copy_ #[dT, sT] ty #[.slice q len cap, LV.tr ρ x]).run P w = .ok (.int .i64 (Nat.min m len)) w ∧ Next I Own ρ ρ s.mem (s.mem.set b (some ⟨bl.kd, us'⟩)) w w) := by
  obtain ⟨src, cap1, e1, e2, e3, e4⟩ := rowsV_sound hI hr.mem hrows hc1
  have hkin := e4 _ hr.occM
  have hwr := putRows_sound ρ p bl.us o us' c2 hput hc2
  have hkk : kinL (okKey s.mem ρ) us' := kin_putRows hkin p bl.us o us' c2 hput (hr.occM _ bl (at_own hb))
  have hn1 : Nat.min m len ≤ m := Nat.min_le_left _ _
  have hl := len_rowCells ρ (Nat.min m len) z g
  have hfirst : (Builtin.firstCells z (Nat.min m len) (LV.tr ρ x)).run P w = .ok (rowCells ρ (Nat.min m len) z g).toArray w := by
    rw [e1]
    cases src with
    | none =>
      have h0 : Nat.min m len = 0 := by have := (e2 rfl).1; omega
      rw [h0]
      simp [Builtin.firstCells, rowCells]
    | some ad =>
      refine run_firstCells_some w z _ ad m cap1 _ hl ?_
      intro j u hj
      have hlt : j < Nat.min m len * z := by
        rcases Nat.lt_or_ge j (Nat.min m len * z) with h' | h'
        · exact h'
        · rw [List.getElem?_eq_none (by rw [hl]; exact h')] at hj; cases hj
      refine e3 ad rfl j u ?_
      obtain ⟨i, r, rfl, hr', hi⟩ := row_split' hlt
      rw [get_rowCells ρ _ hi hr'] at hj
      rw [get_rowCells ρ _ (by omega) hr']
      exact hj
  have hlen : (Builtin.lenOf (LV.tr ρ x)).run P w = .ok m w := by rw [e1]; rfl
  have hst : ∀ j, j < (rowCells ρ (Nat.min m len) z g).length → (w.cell? ((ρ (.own b)).at (adr o p + (0 + j)))).isSome = true ∧ w.frozen? ((ρ (.own b)).at (adr o p + (0 + j))) = false := by
    intro j hj
    have hfit := hwr.fit
    have hL := len_cellsL ρ bl.us
    rw [Nat.zero_add]
    refine ⟨?_, hr.mem.free b bl hb hw _ (by omega)⟩
    rw [hr.mem.cell _ bl (at_own hb) (adr o p + j) _ (List.getElem?_eq_getElem (by omega))]
    rfl
  constructor
  · intro cap
    obtain ⟨w', h1, h2⟩ := run_storeCells_put (P := P) (ρ (.own b)) (adr o p) _ 0 w hst (rows_one _ _ _)
    refine ⟨w', ?_, Next.put hr.mem hr.mine hr.occM hb hw (by simpa using h2) hwr hok hkk⟩
    simp [Builtin.copy_, run_underlying ht, hlen, run_sizeOf w hz, hfirst, h1, goInt]
  · intro h0 q cap
    have hx : rowCells ρ (Nat.min m len) z g = [] := by rw [h0]; rfl
    obtain ⟨w', h1, h2⟩ := run_storeCells_put (P := P) (ρ (.own b)) (adr o p) _ 0 w hst (rows_one _ _ _)
    have hw' : w' = w := h2.none hx
    subst hw'
    refine ⟨?_, Next.put hr.mem hr.mine hr.occM hb hw (by simpa using h2) hwr hok hkk⟩
    cases q with
    | none => simp [Builtin.copy_, run_underlying ht, hlen, run_sizeOf w' hz, hfirst, goInt]
    | some ad =>
      rw [hx] at hfirst
      simp [Builtin.copy_, run_underlying ht, hlen, run_sizeOf w' hz, hfirst, goInt, storeCells]

/-- A call that writes, out of its contract. -/
theorem call_sound [LawAb A] {cr : CallR A} (hcr : CallOk P I cr) {key r : Nat} {f : FuncId} {vs : List (LV A)} {v : LV A} {m' : Mem A} {c : Cnd} (h : cr f vs (s.mem.take key) = some (v, m', c)) (hc : condOk c) (hkl : key ≤ s.mem.length) (hfree : ∀ k, key ≤ k → ∀ bl, s.mem[k]? ≠ some (some bl))
    (hr : Rl I Own w0 ρ s a w) (hvs : kinL (okKey s.mem ρ) vs) : Calls P f (trs ρ vs).toArray w fun e w' => ∃ ρ', e = .returned (LV.tr ρ' v) ∧ Next I Own ρ ρ' s.mem (m' ++ List.replicate (key + r - m'.length) none ++ s.mem.drop (key + r)) w w' ∧ v.kin (okKey (m' ++ List.replicate (key + r - m'.length) none ++ s.mem.drop (key + r)) ρ') := by
  have hnew : ∀ b, w.heap.size ≤ b → Own b ∧ Own.src b := fun b hb => hr.new b (Nat.le_trans hr.keeps.size hb)
  have hlt : ∀ (k : Nat) bl, s.mem[k]? = some (some bl) → k < key := by
    intro k bl hk
    rcases Nat.lt_or_ge k key with h' | h'
    · exact h'
    · exact absurd hk (hfree k h' bl)
  have hdrop : ∀ (k : Nat) bl, (s.mem.drop (key + r))[k]? ≠ some (some bl) := by
    intro k bl hk
    rw [List.getElem?_drop] at hk
    exact hfree _ (by omega) bl hk
  have hto : ∀ k q, okKey s.mem ρ k q → okKey (s.mem.take key) ρ k q := by
    intro k q hk
    cases k with
    | own k =>
      obtain ⟨⟨bl, hb⟩, hq⟩ := hk
      exact ⟨⟨bl, by rw [List.getElem?_take_of_lt (hlt k bl hb)]; exact hb⟩, hq⟩
    | inp t i => exact hk
  have hah : Ahead I Own ρ (s.mem.take key) vs w := {
    mem := hr.mem.take key
    mine := hr.mine.sub fun k bl hk => take_get hk
    new := hnew
    kinV := kinL_mono hto _ hvs
    kinM := fun k bl hk => kinL_mono hto _ (hr.occM k bl (at_take hk)) }
  refine (hcr.call f vs _ v m' c h hc Own ρ w hah).mono ?_
  rintro e w' ⟨ρ', he, hl⟩
  refine ⟨ρ', he, ?_, ?_⟩
  · have hg := (hcr.grow f vs _ v m' c h).2
    refine ⟨?_, ?_, hl.mem.sub (fun k bl hk => (ext_get hdrop).1 hk), hl.mine.sub (fun k bl hk => (ext_get hdrop).1 hk), hl.keeps, ?_⟩
    · exact fun k q hk => hl.agree k q (hto k q hk)
    · intro k bl hb
      have h1 := hlt k bl hb
      obtain ⟨bl', hb'⟩ := (hg k (by rw [List.length_take, Nat.min_eq_left hkl]; exact h1)).1 ⟨bl, by rw [List.getElem?_take_of_lt h1]; exact hb⟩
      exact ⟨bl', (ext_get hdrop).2 hb'⟩
    · intro k bl hk
      refine kinL_mono ?_ _ (hl.kinM k bl ?_)
      · intro k q hk
        cases k with
        | own k => obtain ⟨⟨b1, hb1⟩, hq⟩ := hk; exact ⟨⟨b1, (ext_get hdrop).2 hb1⟩, hq⟩
        | inp t i => exact hk
      · cases k with
        | own k => exact at_own ((ext_get hdrop).1 (at_own' hk))
        | inp t i => exact hk
  · refine kin_mono ?_ _ hl.kinV
    intro k q hk
    cases k with
    | own k => obtain ⟨⟨b1, hb1⟩, hq⟩ := hk; exact ⟨⟨b1, (ext_get hdrop).2 hb1⟩, hq⟩
    | inp t i => exact hk

theorem wr_sound [LawAb A] {S : Sig A} {cr : CallR A} (hI : S.inp = I) (hcr : CallOk P I cr) {o : Oper} {rc : Bool} {key r : Nat} {v : LV A} {m : Mem A} {c : Cnd} (h : wrR P S cr rc (ev s.tmps) s.mem key r o.op = some (v, m, c)) (hc : condOk c) (hk : 0 < r → s.mem[key]? = some none) (hkl : key ≤ s.mem.length)
    (hfree : ∀ k, key ≤ k → ∀ bl, s.mem[k]? ≠ some (some bl)) (hr : Rl I Own w0 ρ s a w) {K : Act → World → Prop} {Q : Exit → Act → World → Prop} (hK : ∀ ρ' w', Next I Own ρ ρ' s.mem m w w' → v.kin (okKey m ρ') → K (a.put o.dst (LV.tr ρ' v)) w') : o.wp P a w K Q := by
  obtain ⟨dst, op, ty, pos, after, guard⟩ := o
  have hnew : ∀ b, w.heap.size ≤ b → Own b ∧ Own.src b := fun b hb => hr.new b (Nat.le_trans hr.keeps.size hb)
  cases op <;> simp only [wrR] at h <;> try (cases h; done)
  case store t x y =>
    split at h
    rotate_left
    · cases h
    rename_i b o p u hx hy
    have hx := (ev_sound hr hx).1
    have hy := ev_sound hr hy
    split at h
    rotate_left
    · cases h
    rename_i bl hb
    split at h
    rotate_left
    · cases h
    rename_i n hz
    split at h
    rotate_left
    · cases h
    rename_i hst
    obtain ⟨hst1, hst2⟩ := both hst
    obtain ⟨hwr, hn⟩ := both hst1
    have hn := beqN hn
    split at h
    rotate_left
    · cases h
    rename_i us' c' hw
    split at h
    rotate_left
    · cases h
    rename_i c3 hok0
    simp only [Option.some.injEq, Prod.mk.injEq] at h; obtain ⟨rfl, rfl, rfl⟩ := h
    obtain ⟨hc, hc3⟩ := andC_ok hc
    have hok := chkC_ok hok0 hc3
    have hwr' := wrP_sound ρ p bl.us o (units u) us' c' hw hc
    rw [cellsL_units] at hwr'
    have hlen : (cellsL ρ bl.us).length = cszL bl.us := len_cellsL ρ bl.us
    have hvl : (LV.cells ρ u).length = n := by rw [← cellsL_units, len_cellsL]; exact hn
    have hcell : ∀ j, j < (LV.cells ρ u).length → (w.cell? ((ρ (.own b)).at (adr o p + (0 + j)))).isSome = true ∧ w.frozen? ((ρ (.own b)).at (adr o p + (0 + j))) = false := by
      intro j hj
      have := hwr'.fit
      rw [Nat.zero_add]
      refine ⟨?_, hr.mem.free b _ hb hwr _ (by omega)⟩
      rw [hr.mem.cell _ bl (at_own hb) (adr o p + j) _ (List.getElem?_eq_getElem (by omega))]
      rfl
    obtain ⟨w', hrun, hw2⟩ := run_storeCells_put (P := P) (ρ (.own b)) (adr o p) (LV.cells ρ u) 0 w hcell (one_cells ρ u)
    have hne := Next.put hr.mem hr.mine hr.occM hb hwr (by simpa using hw2) hwr' hok (kin_wrP _ _ _ _ _ _ hw (hr.occM _ bl (at_own hb)) (kin_units hy.2))
    have hcl : (LV.tr ρ u).cells = (LV.cells ρ u).toArray := by
      cases u
      case vec b len => simp only [LV.tr, LV.cells, vecV]; split <;> rfl
      case tup vs => simp [units, stor] at hst2
      case any => simp [units, stor] at hst2
      case undef => simp [units, stor] at hst2
      all_goals simp [LV.tr, LV.cells, Value.cells]
    have hrun' : (execOp a.eval { dst, op := .store t x y, type := ty, pos, after, guard }).run P w = .ok .skip w' := by
      simp only [execOp, hx, hy.1, Instr.storeAt, Instr.sureAddr, LV.tr, storeVar, Sem.run_bind, Sem.run_pure, Result.andThen_ok, run_sizeOf w hz, hcl]
      have : (LV.cells ρ u).toArray.size = n := by simpa using hvl
      rw [if_neg (by rw [this]; simp)]
      simp [hrun]
    unfold Oper.wp
    rw [hrun', Oper.upon_skip]
    exact hK ρ w' hne trivial
  case slice t x low high max =>
    split at h
    rotate_left
    · cases h
    rename_i b len e hx ht
    have hx := ev_sound hr hx
    split at h
    rotate_left
    · cases h
    rename_i z b0 hz hb0
    split at h
    rotate_left
    · cases h
    rename_i v' bl' c' hv hdd
    simp only [Option.some.injEq, Prod.mk.injEq] at h; obtain ⟨rfl, rfl, rfl⟩ := h
    simp only [Bool.or_eq_false_iff] at hdd
    obtain ⟨hdead, hr0⟩ := hdd
    have hr0 : 0 < r := by
      rcases Nat.eq_zero_or_pos r with h' | h'
      · subst h'; simp [Nat.beq_refl] at hr0
      · exact h'
    simp only [viewR] at hv
    split at hv
    rotate_left
    · cases hv
    rename_i l hh m ok bl1 hbn hb1
    have hb1' : bl1 = b0 := by
      simp only [getB, hb0, Option.some.injEq] at hb1
      exact hb1.symm
    subst hb1'
    split at hv
    rotate_left
    · cases hv
    rename_i c1 g c2 hck hrow
    have n0 := Next.weak (bl' := ⟨.ro, bl1.us⟩) hr.mem hr.mine hr.occM hb0 (.inl ⟨rfl, hdead⟩)
    have fin : condOk c1 → condOk c2 → ∃ w' ρ', (execOp a.eval { dst, op := .slice t x low high max, type := ty, pos, after, guard }).run P w = .ok (.value (LV.tr ρ' (.vec (.own key) (hh - l) : LV A))) w' ∧ Next I Own ρ ρ' s.mem ((s.mem.set b (some ⟨.ro, bl1.us⟩)).set key (some ⟨.ro, [.rows (hh - l) z fun j => g (l + j)]⟩)) w w' ∧ (LV.vec (.own key) (hh - l) : LV A).kin (okKey ((s.mem.set b (some ⟨.ro, bl1.us⟩)).set key (some ⟨.ro, [.rows (hh - l) z fun j => g (l + j)]⟩)) ρ') := by
      intro k1 k2
      have hcap : len ≤ (ρ (.own b)).cap := hx.2.2
      obtain ⟨m', h1, h2, h3, h4, h5, _⟩ := bnds_cap (P := P) hr hcap hbn (chkC_ok hck k1)
      have hbs : (s.mem.set b (some ⟨.ro, bl1.us⟩))[b]? = some (some ⟨.ro, bl1.us⟩) := List.getElem?_set_self (lt_of_get hb0)
      obtain ⟨loc, src, e1, e2, e3, hf⟩ := view_fresh (Own := Own) (bl := ⟨.ro, bl1.us⟩) n0.mem n0.mine n0.occM (at_own hbs) rfl rfl hrow k2 hcap h2 h3 h4 h5
      have hkk : (s.mem.set b (some (⟨.ro, bl1.us⟩ : Blk A)))[key]? = some none := by
        have := hk hr0
        rw [List.getElem?_set_ne (by rintro rfl; rw [hb0] at this; cases this)]
        exact this
      obtain ⟨n1, n2⟩ := Next.fresh n0.mem n0.mine n0.occM hkk (w' := w) (row := none) ⟨rfl, rfl, rfl, Nat.le_refl _, fun _ _ _ => rfl⟩ (fun _ _ _ _ _ e => by cases e) (fun _ e => by cases e) hf
      refine ⟨w, _, ?_, n0.trans n1, okKey_le n2 e3⟩
      have he : LV.tr ρ (.vec (.own b) len : LV A) = .slice src len (ρ (.own b)).cap := e1
      simp only [execOp, hx.1, he]
      simp [Instr.sliceAt, Instr.slice, run_underlying ht, h1, run_sizeOf w hz, LV.tr, upd_self, e2]
    have go : ∀ {v' : LV A} {m1 : Mem A}, (∃ w' ρ', (execOp a.eval { dst, op := .slice t x low high max, type := ty, pos, after, guard }).run P w = .ok (.value (LV.tr ρ' v')) w' ∧ Next I Own ρ ρ' s.mem m1 w w' ∧ v'.kin (okKey m1 ρ')) → (∀ ρ' w', Next I Own ρ ρ' s.mem m1 w w' → v'.kin (okKey m1 ρ') → K (a.put dst (LV.tr ρ' v')) w') → Oper.wp P { dst, op := .slice t x low high max, type := ty, pos, after, guard } a w K Q := by
      rintro v' m1 ⟨w', ρ', h1, h2, h3⟩ hK
      unfold Oper.wp
      rw [h1, Oper.upon_value]
      exact hK ρ' w' h2 h3
    split at hv
    · simp only [Option.some.injEq, Prod.mk.injEq] at hv; obtain ⟨rfl, rfl, rfl⟩ := hv
      obtain ⟨k1, k2⟩ := andC_ok hc
      obtain ⟨_, _, _, _, _, _, hl0⟩ := bnds_cap (P := P) (w := w) hr (Nat.le_refl len) hbn (chkC_ok hck k1)
      have hl0 := hl0 rfl
      subst hl0
      have := fin k1 k2
      simp only [Nat.sub_zero, Nat.zero_add] at this
      exact go this hK
    · simp only [Option.some.injEq, Prod.mk.injEq] at hv; obtain ⟨rfl, rfl, rfl⟩ := hv
      obtain ⟨k1, k2⟩ := andC_ok hc
      exact go (fin k1 k2) hK
  case call cl =>
    obtain ⟨callee, args, ats⟩ := cl
    simp only at h
    split at h
    rotate_left
    · cases h
    rename_i vs hvs
    have hm := mapE_arr hr hvs
    have hkv := (mapE_sound hr hvs).2
    split at h
    · -- append
      split at h
      rotate_left
      · cases h
      rename_i s1 x t t' hats
      split at h
      rotate_left
      · cases h
      rename_i e z bs r' hty
      have hats' : ats = #[t, t'] := by apply Array.ext'; simpa using hats
      subst hats'
      split at h
      rotate_left
      · cases h
      rename_i mm g c1 hrows
      have go : ∀ {v' : LV A} {m1 : Mem A}, (∃ w' ρ', (Builtin.append_ #[t, t'] ty #[LV.tr ρ s1, LV.tr ρ x]).run P w = .ok (LV.tr ρ' v') w' ∧ Next I Own ρ ρ' s.mem m1 w w' ∧ v'.kin (okKey m1 ρ')) → (∀ ρ' w', Next I Own ρ ρ' s.mem m1 w w' → v'.kin (okKey m1 ρ') → K (a.put dst (LV.tr ρ' v')) w') →
          Oper.wp P { dst, op := .call ⟨.builtin .append, args, #[t, t']⟩, type := ty, pos, after, guard } a w K Q := by
        rintro v' m1 ⟨w', ρ', h1, h2, h3⟩ hK
        have : (execOp a.eval { dst, op := .call ⟨.builtin .append, args, #[t, t']⟩, type := ty, pos, after, guard }).run P w = .ok (.value (LV.tr ρ' v')) w' := by
          simp only [execOp, resolve, Sem.run_bind, Sem.run_pure, Result.andThen_ok, invoke, hm, builtin, trs]
          rw [h1]
          rfl
        unfold Oper.wp
        rw [this, Oper.upon_value]
        exact hK ρ' w' h2 h3
      split at h
      · split at h
        rotate_left
        · cases h
        rename_i c2 h2
        simp only [Option.some.injEq, Prod.mk.injEq] at h; obtain ⟨rfl, rfl, rfl⟩ := h
        obtain ⟨k1, k2⟩ := andC_ok hc
        obtain ⟨src, cap1, e1, e2, e3, e4⟩ := rowsV_sound hI hr.mem hrows k1
        refine go ?_ hK
        have := append_next (P := P) (ty := ty) hr.mem hr.mine hr.occM hnew (hk (Nat.succ_pos _)) hty (World.ownsRow_nil w 0 e z) e2 (len_rowCells ρ mm z g) e3 (rows_one _ _ _) (by have := bleN (chkC_ok h2 k2); simpa using this)
          (fun g hg => by simp [Value.ownBlock] at hg) (F := g) (by simp) (fun i => e4 _ hr.occM i)
        simp only [Nat.zero_add] at this
        rw [e1]
        exact this
      · rename_i b n
        split at h
        rotate_left
        · cases h
        rename_i e' n' z' f hb
        split at h
        rotate_left
        · cases h
        rename_i c2 hez h2
        simp only [Option.some.injEq, Prod.mk.injEq] at h; obtain ⟨rfl, rfl, rfl⟩ := h
        obtain ⟨k1, k2⟩ := andC_ok hc
        obtain ⟨hee, hzz⟩ := both hez
        have hee := of_decide_eq_true hee
        have hzz := beqN hzz
        subst hee
        subst hzz
        obtain ⟨hnn, hbd⟩ := both (chkC_ok h2 k2)
        have hnn := beqN hnn
        subst hnn
        obtain ⟨src, cap1, e1, e2, e3, e4⟩ := rowsV_sound hI hr.mem hrows k1
        refine go ?_ hK
        have n0 := Next.weak (bl' := ⟨.dead, []⟩) hr.mem hr.mine hr.occM hb (.inr rfl)
        obtain ⟨n2, z2, f2, hus, hat0, hown⟩ := hr.mem.row b _ e hb rfl
        simp only [List.cons.injEq, LV.rows.injEq, and_true] at hus
        obtain ⟨rfl, rfl, rfl⟩ := hus
        rw [cellsL_rows] at hown
        have hkk : (s.mem.set b (some (⟨.dead, []⟩ : Blk A)))[key]? = some none := by
          have := hk (Nat.succ_pos _)
          rw [List.getElem?_set_ne (by rintro rfl; rw [hb] at this; cases this)]
          exact this
        have hvb : ∀ g, (vecV (ρ (.own b)) n').ownBlock = some g → (ρ (.own b)).none = false ∧ g = (ρ (.own b)).blk := by
          intro g hg
          refine ⟨?_, ?_⟩
          · cases hn : (ρ (.own b)).none with
            | false => rfl
            | true =>
              exfalso
              rcases hown.2 with ⟨h5, h6⟩ | ⟨g', cap', cur, h5, _, h7, h8, _⟩
              · rw [h5] at hg; simp [Value.ownBlock] at hg
              · have hcap := hr.mem.nilc _ hn
                unfold vecV at h5 hg
                split at h5
                · rw [hat0] at h5; cases h5
                · rename_i hb0
                  simp only [Value.slice.injEq] at h5
                  have : n' = 0 := by omega
                  rw [this, hn] at hb0
                  simp [Nat.beq_refl] at hb0
          · unfold vecV at hg
            split at hg
            · rw [hat0] at hg; simp [Value.ownBlock] at hg
            · simp only [Value.ownBlock, Loc.at, Option.some.injEq] at hg; exact hg.symm
        have := append_next (P := P) (ty := ty) n0.mem n0.mine n0.occM hnew hkk hty hown e2 (len_rowCells ρ mm z' g) e3 (rows_one _ _ _) (bleN hbd)
          (fun g hg => by
            obtain ⟨h5, rfl⟩ := hvb g hg
            refine ⟨⟨hr.mine.own b _ hb rfl h5, hr.mine.src _ _ (at_own hb) rfl h5⟩, fun k bl hk' hd' hn' => ?_⟩
            rcases at_set hk' with ⟨_, rfl⟩ | ⟨h6, h7⟩
            · cases hd'
            · exact fun e => hr.mem.apart b k _ bl (Ne.symm h6) hb h7 rfl hd' h5 hn' e.symm)
          (F := fun j => mrgR (Nat.blt j n') (f j) (g (j - n'))) (rowCells_append _ _ _ _ _)
          (fun i => kin_mrgR _ (kinL_mono n0.mono _ ((hr.occM _ _ (at_own hb)).1 i)) (kinL_mono n0.mono _ (e4 _ hr.occM _)))
        obtain ⟨w', ρ', r1, r2, r3⟩ := this
        rw [e1]
        exact ⟨w', ρ', r1, n0.trans r2, r3⟩
      · cases h
    · -- copy
      split at h
      rotate_left
      · cases h
      rename_i dst' src' t t' hats
      have hats' : ats = #[t, t'] := by apply Array.ext'; simpa using hats
      subst hats'
      split at h
      rotate_left
      · cases h
      rename_i e ht
      split at h
      rotate_left
      · cases h
      rename_i z hz
      split at h
      rotate_left
      · cases h
      rename_i mm g c1 hrows
      have go : ∀ {v' : LV A} {m1 : Mem A}, (∃ w' ρ', (Builtin.copy_ #[t, t'] ty #[LV.tr ρ dst', LV.tr ρ src']).run P w = .ok (LV.tr ρ' v') w' ∧ Next I Own ρ ρ' s.mem m1 w w' ∧ v'.kin (okKey m1 ρ')) → (∀ ρ' w', Next I Own ρ ρ' s.mem m1 w w' → v'.kin (okKey m1 ρ') → K (a.put dst (LV.tr ρ' v')) w') →
          Oper.wp P { dst, op := .call ⟨.builtin .copy, args, #[t, t']⟩, type := ty, pos, after, guard } a w K Q := by
        rintro v' m1 ⟨w', ρ', h1, h2, h3⟩ hK
        have : (execOp a.eval { dst, op := .call ⟨.builtin .copy, args, #[t, t']⟩, type := ty, pos, after, guard }).run P w = .ok (.value (LV.tr ρ' v')) w' := by
          simp only [execOp, resolve, Sem.run_bind, Sem.run_pure, Result.andThen_ok, invoke, hm, builtin, trs]
          rw [h1]
          rfl
        unfold Oper.wp
        rw [this, Oper.upon_value]
        exact hK ρ' w' h2 h3
      split at h
      · rename_i b o p len cap
        split at h
        rotate_left
        · cases h
        rename_i bl hb
        split at h
        rotate_left
        · cases h
        rename_i us' c2 hwr hput
        split at h
        rotate_left
        · cases h
        rename_i c3 hok0
        simp only [Option.some.injEq, Prod.mk.injEq] at h; obtain ⟨rfl, rfl, rfl⟩ := h
        obtain ⟨hc, hc3⟩ := andC_ok hc
        have hok := chkC_ok hok0 hc3
        obtain ⟨k1, k2⟩ := andC_ok hc
        obtain ⟨w', h1, h2⟩ := (copy_sound (P := P) (ty := ty) (sT := t') hI hr hrows k1 ht hz hb hwr hput k2 hok).1 cap
        exact go (v' := .int .i64 (Nat.min mm len)) ⟨w', ρ, h1, h2, trivial⟩ hK
      · rename_i b len
        split at h
        rotate_left
        · cases h
        rename_i bl hb
        split at h
        rotate_left
        · cases h
        rename_i us' c2 hwr hput
        split at h
        rotate_left
        · cases h
        rename_i c3 hok0
        simp only [Option.some.injEq, Prod.mk.injEq] at h; obtain ⟨rfl, rfl, rfl⟩ := h
        obtain ⟨hc, hc3⟩ := andC_ok hc
        have hok := chkC_ok hok0 hc3
        obtain ⟨k1, k2⟩ := andC_ok hc
        have hcs := copy_sound (P := P) (ty := ty) (sT := t') hI hr hrows k1 ht hz hb hwr hput k2 hok
        refine go ?_ hK
        show ∃ w' ρ', (Builtin.copy_ #[t, t'] ty #[vecV (ρ (.own b)) len, LV.tr ρ src']).run P w = _ ∧ _
        unfold vecV
        split
        · rename_i hnl
          have h0 := beqN (both hnl).2
          subst h0
          have h0 : Nat.min mm 0 = 0 := Nat.min_zero mm
          obtain ⟨h1, h2⟩ := hcs.2 h0 (ρ (.own b)).at0 0
          exact ⟨w, ρ, h1, h2, trivial⟩
        · obtain ⟨w', h1, h2⟩ := hcs.1 (ρ (.own b)).cap
          exact ⟨w', ρ, h1, h2, trivial⟩
      · cases h
    · -- a call
      rename_i f
      split at h
      rotate_left
      · cases h
      rename_i g caps hf
      have hf := ev_sound hr hf
      split at h
      rotate_left
      · cases h
      rename_i v' m' c' hcall
      split at h
      rotate_left
      · cases h
      rename_i hle
      simp only [Option.some.injEq, Prod.mk.injEq] at h; obtain ⟨rfl, rfl, rfl⟩ := h
      have hrun : (execOp a.eval { dst, op := .call ⟨.value f, args, ats⟩, type := ty, pos, after, guard }).run P w = .ok (.enter g (trs ρ (vs ++ caps)).toArray) w := by
        have e1 : a.eval f = .func (.func g) #[] (trs ρ caps).toArray := hf.1
        have e2 : (trs ρ (vs ++ caps)).toArray = (trs ρ vs).toArray ++ (trs ρ caps).toArray := by
          apply Array.ext'
          have : ∀ l : List (LV A), trs ρ (l ++ caps) = trs ρ l ++ trs ρ caps := by
            intro l
            induction l with
            | nil => rfl
            | cons x l ih => simp [trs, ih]
          simp [this]
        simp [execOp, resolve, Deferred.ofValue, invoke, e1, hm, e2, hcr.ent _ _ _ _ hcall]
      unfold Oper.wp
      rw [hrun, Oper.upon_enter]
      have hkk : kinL (okKey s.mem ρ) (vs ++ caps) := kinL_append hkv hf.2
      refine (call_sound hcr (r := r) hcall hc hkl hfree hr hkk).mono ?_
      rintro e w' ⟨ρ', rfl, h1, h2⟩
      exact hK ρ' w' h1 h2
    · cases h
end
end Go.Proofs.Ytjhjockdkpgpeaa.En
