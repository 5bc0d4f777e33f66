/- DERIVED. The operations that write. -/
import Derived.Test.YtjhjockdkpgpeaaVSD
set_option linter.all false
namespace Go.Proofs.Ytjhjockdkpgpeaa.En
open Go Go.RowKit

section
variable {A : Type} [Ab A] {P : Program}
variable {I : Nat → Nat → List (LV A)} {Own : Dom} {w0 : World} {ρ : Key → Loc} {s : LS A} {a : Act} {w : World}

theorem appTy_spec {t t' e : TypeId} {z bs : Nat} (h : appTy (A := A) P t t' = some (e, z, bs)) :
    P.underlying t = some (.slice e) ∧ (∃ e', P.underlying t' = some (.slice e')) ∧ ∃ i z', P.info? e = some i ∧ i.zero = some z' ∧ i.size = z ∧ i.bytes = bs ∧ (∀ [LawAb A], z'.cells.size = z) ∧ 0 < z ∧ 0 < bs := by
  unfold appTy at h
  split at h
  rotate_left
  · cases h
  rename_i e1 e2 ht ht'
  split at h
  rotate_left
  · cases h
  rename_i z1 b1 u hz hb hu
  split at h
  rotate_left
  · cases h
  rename_i hh
  simp only [Option.some.injEq, Prod.mk.injEq] at h; obtain ⟨rfl, rfl, rfl⟩ := h
  obtain ⟨h1, h2⟩ := both hh
  obtain ⟨h3, h4⟩ := both h1
  refine ⟨ht, ⟨_, ht'⟩, ?_⟩
  unfold sizeT at hz; unfold bytesT at hb; unfold zeroT at hu
  split at hz
  · rename_i i hi
    rw [hi] at hb hu
    simp only [Option.some.injEq] at hz hb
    simp only at hu
    split at hu
    · rename_i v hv
      refine ⟨i, v, hi, hv, hz, hb, ?_, bltN h3, bltN h4⟩
      intro _
      have e1 := (ofConst_sound (fun _ => ⟨0, 0, 0, false, none⟩) hu).1
      rw [← e1, cells_tr _ (ofConst_noTup hu)]
      simp only [List.size_toArray]
      rw [← cellsL_units, len_cellsL]
      exact beqN h2
    · cases hu
  · cases hz

theorem append_types (w : World) {t t' e e' ty : TypeId} (ht : P.underlying t = some (.slice e)) (ht' : P.underlying t' = some (.slice e')) (v x : Value) :
    (Builtin.append_ #[t, t'] ty #[v, x]).run P w = (Builtin.append_ #[t, t] ty #[v, x]).run P w := by
  simp only [Builtin.append_, List.getElem?_toArray, List.getElem?_cons_zero, List.getElem?_cons_succ, Sem.run_bind, run_underlying ht, Result.andThen_ok]
  cases v <;> try rfl
  simp only [Sem.run_bind]
  cases hq : (sizeOf e).run P w <;> simp only [Result.andThen_ok, Sem.run_bind, Sem.run_pure, run_underlying ht, run_underlying ht']

theorem append_run [LawAb A] {t t' e ty : TypeId} {z bs : Nat} (h : appTy (A := A) P t t' = some (e, z, bs)) {v : Value} {n : Nat} {xs : List Value} (hown : w.ownsRow 0 e z v n xs) {src : Option Addr} {m cap : Nat} {news : List Value} (hsrc : src = none → m = 0 ∧ cap = 0)
    (hl : news.length = m * z) (hcells : ∀ ad, src = some ad → ∀ j u, news[j]? = some u → w.cell? (ad.add j) = some u) (h1 : ∀ u ∈ news, u.oneCell' = true) (hb : (n + m) * bs ≤ 2 ^ 47) :
    ∃ v' w', (Builtin.append_ #[t, t'] ty #[v, .slice src m cap]).run P w = .ok v' w' ∧ w'.ownsRow 0 e z v' (n + m) (xs ++ news) ∧ w.grownBy w' v.ownBlock ∧ (∀ g, v'.ownBlock = some g → v.ownBlock = some g ∨ w.heap.size ≤ g) := by
  obtain ⟨ht, ⟨e', ht'⟩, i, z', hi, hz, hsz, hbs, hzs, h0z, h0b⟩ := appTy_spec h
  have hzs := hzs
  rw [append_types w ht ht']
  have hnm : n + m ≤ (n + m) * bs := Nat.le_mul_of_pos_right _ h0b
  have hmax : n + m ≤ maxLen := by simp only [maxLen]; omega
  cases src with
  | none =>
    obtain ⟨rfl, rfl⟩ := hsrc rfl
    have hn : news = [] := List.eq_nil_of_length_eq_zero (by simpa using hl)
    subst hn
    exact ⟨v, w, run_append_owned_none (P := P) w 0 t ty e i z ht hi v n xs hown, by simpa using hown, ⟨rfl, rfl, rfl, Nat.le_refl _, fun _ _ _ => rfl⟩, fun g hg => .inl hg⟩
  | some ad =>
    have hnews := hcells ad rfl
    obtain ⟨v', w', hrun, h2, h3, h4⟩ := run_append_own (P := P) w 0 t ty e i z' z bs ht hi hz hsz hbs hzs h0z v n xs hown ad m cap news hl hnews h1 hmax (by omega) (Nat.zero_le _)
    refine ⟨v', w', hrun, h2, h3, fun g hg => ?_⟩
    subst hsz
    subst hbs
    rcases hown.2 with ⟨rfl, rfl⟩ | ⟨g0, cap0, cur, rfl, _, hg0, hnc, _, hcs, htake⟩
    · by_cases hm : m = 0
      · subst hm
        rw [h4.2 ⟨rfl, rfl⟩] at hg
        simp [Value.ownBlock] at hg
      · have hr := run_append_nil (P := P) w t ty e i z' ht hi hz ad m cap news hl hnews (by omega) (by simp only [maxLen] at hmax; omega) (by simp only [Nat.zero_add] at hb; omega)
        rw [hrun] at hr
        cases hr
        simp only [Value.ownBlock, Option.some.injEq] at hg
        omega
    · by_cases hroom : n + m ≤ cap0
      · have hfit : n * i.size + news.length ≤ cur.size := by rw [hl, hcs, ← Nat.add_mul]; exact Nat.mul_le_mul_right _ hroom
        have hr := run_append_room (P := P) w t ty e i ht hi g0 n cap0 cur hg0 ad m cap news hl hnews h1 hroom hfit
        rw [hrun] at hr
        cases hr
        exact .inl hg
      · have holds : ∀ j u, xs[j]? = some u → w.cell? ((⟨g0, 0, none⟩ : Addr).add j) = some u := hown.cells (g := g0) rfl
        have hr := run_append_grow (P := P) w t ty e i z' ht hi hz ⟨g0, 0, none⟩ n cap0 xs hown.1 holds ad m cap news hl hnews (by omega) (by simp only [maxLen] at hmax; omega) (growslice_fits (by omega) (by omega))
        rw [hrun] at hr
        cases hr
        simp only [Value.ownBlock, Option.some.injEq] at hg
        omega

/-- An append, as what it leaves of memory. -/
theorem append_next [LawAb A] {mem : Mem A} (hm : MemRel I ρ mem w) (hmine : Mine I Own ρ mem)
    (hocc : ∀ (k : Key) (bl : Blk A), at? I mem k = some bl → kinL (okKey mem ρ) bl.us) (hnew : ∀ b, w.heap.size ≤ b → Own b ∧ Own.src b) {key : Nat} (hk : mem[key]? = some none)
    {t t' e ty : TypeId} {z bs : Nat} (h : appTy (A := A) P t t' = some (e, z, bs)) {v : Value} {n : Nat} {xs : List Value} (hown : w.ownsRow 0 e z v n xs) {src : Option Addr} {m cap : Nat} {news : List Value} (hsrc : src = none → m = 0 ∧ cap = 0)
    (hl : news.length = m * z) (hcells : ∀ ad, src = some ad → ∀ j u, news[j]? = some u → w.cell? (ad.add j) = some u) (h1 : ∀ u ∈ news, u.oneCell' = true) (hb : (n + m) * bs ≤ 2 ^ 47)
    (hv : ∀ g, v.ownBlock = some g → (Own g ∧ Own.src g) ∧ ∀ k bl, at? I mem k = some bl → isDead bl.kd = false → (ρ k).none = false → (ρ k).blk ≠ g) {F : Nat → List (LV A)} (hF : rowCells ρ (n + m) z F = xs ++ news) (hFk : ∀ i, kinL (okKey mem ρ) (F i)) :
    ∃ w' ρ', (Builtin.append_ #[t, t'] ty #[v, .slice src m cap]).run P w = .ok (LV.tr ρ' (.vec (.own key) (n + m) : LV A)) w' ∧ Next I Own ρ ρ' mem (mem.set key (some ⟨.row e, [.rows (n + m) z F]⟩)) w w' ∧
      (LV.vec (.own key) (n + m) : LV A).kin (okKey (mem.set key (some ⟨.row e, [.rows (n + m) z F]⟩)) ρ') := by
  obtain ⟨v', w', hrun, h2, h3, h4⟩ := append_run h hown hsrc hl hcells h1 hb (ty := ty)
  have hc : cellsL ρ [LV.rows (n + m) z F] = xs ++ news := by rw [cellsL_rows, hF]
  have hrow : ∀ k bl, at? I mem k = some bl → isDead bl.kd = false → (ρ k).none = false → some (ρ k).blk ≠ v.ownBlock := by
    intro k bl h5 h6 h7 e
    exact (hv _ e.symm).2 k bl h5 h6 h7 rfl
  have fin : ∀ l : Loc, vecV l (n + m) = v' → n + m ≤ l.cap → Fresh I Own ρ mem w' l ⟨.row e, [.rows (n + m) z F]⟩ → ∃ w' ρ', (Builtin.append_ #[t, t'] ty #[v, .slice src m cap]).run P w = .ok (LV.tr ρ' (.vec (.own key) (n + m) : LV A)) w' ∧ Next I Own ρ ρ' mem (mem.set key (some ⟨.row e, [.rows (n + m) z F]⟩)) w w' ∧
      (LV.vec (.own key) (n + m) : LV A).kin (okKey (mem.set key (some ⟨.row e, [.rows (n + m) z F]⟩)) ρ') := by
    intro l hlv hcap hf
    obtain ⟨n1, n2⟩ := Next.fresh hm hmine hocc hk h3 hrow (fun b hb => (hv b hb).1.1) hf
    exact ⟨w', _, by rw [hrun, ← hlv]; simp [LV.tr, upd_self], n1, okKey_le n2 hcap⟩
  rcases h2.2 with ⟨e1, e2⟩ | ⟨g, cap', cur, e1, _, e3, e4, e5, e6, e7⟩
  · subst e1
    have hlv : vecV ⟨0, 0, 0, true, none⟩ (n + m) = .slice none 0 0 := by rw [e2]; rfl
    refine fin ⟨0, 0, 0, true, none⟩ hlv (by simp only; omega) ?_
    have hx : xs ++ news = [] := List.eq_nil_of_length_eq_zero (by rw [h2.1, e2]; simp)
    exact {
      kin := ⟨hFk, trivial⟩
      cell := fun i u hu => by rw [hc, hx] at hu; simp at hu
      free := fun _ i hi => by simp [cszL, csz, e2] at hi
      inb := fun hn => by cases hn
      own := fun _ hn => by cases hn
      src := fun hn => by cases hn
      far := fun _ hn => by cases hn
      near := fun hn => by cases hn
      row := fun e' he' => by cases he'; exact ⟨n + m, z, F, rfl, rfl, by rw [hlv, hc]; exact h2⟩
      nilc := fun _ => rfl
      empt := fun _ => by simp [cszL, csz, e2]
      dead := rfl }
  · subst e1
    have hlv : vecV ⟨g, 0, cap', false, none⟩ (n + m) = .slice (some ⟨g, 0, none⟩) (n + m) cap' := rfl
    refine fin ⟨g, 0, cap', false, none⟩ hlv e4 ?_
    have hg := h4 g rfl
    have hfar : ∀ k bl', at? I mem k = some bl' → isDead bl'.kd = false → (ρ k).none = false → (ρ k).blk ≠ g := by
      intro k bl' h5 h6 h7
      rcases hg with hg | hg
      · exact (hv g hg).2 k bl' h5 h6 h7
      · exact inb_lt hm g hg k bl' h5 h6 h7
    exact {
      kin := ⟨hFk, trivial⟩
      cell := fun i u hu => by
        rw [hc] at hu
        have := h2.cells (g := g) rfl i u hu
        rw [Addr.add_lit] at this
        exact this
      free := fun _ i hi => by simp [World.frozen?, Loc.at, e3]
      inb := fun _ => (Array.getElem?_eq_some_iff.1 e3).1
      own := fun _ _ => by
        rcases hg with hg | hg
        · exact (hv g hg).1.1
        · exact (hnew g hg).1
      src := fun _ => by
        rcases hg with hg | hg
        · exact (hv g hg).1.2
        · exact (hnew g hg).2
      far := fun _ _ => hfar
      near := fun _ k bl' h5 h6 h7 => hfar _ bl' (at_own h5) (by cases hk' : bl'.kd <;> rw [hk'] at h6 <;> first | rfl | cases h6) h7
      row := fun e' he' => by cases he'; exact ⟨n + m, z, F, rfl, rfl, by rw [hlv, hc]; exact h2⟩
      nilc := fun hn => by cases hn
      empt := fun hn => by cases hn
      dead := rfl }

/-- Rows, and rows behind them. -/
theorem rowCells_append (n m z : Nat) (f g : Nat → List (LV A)) : rowCells ρ (n + m) z (fun j => mrgR (Nat.blt j n) (f j) (g (j - n))) = rowCells ρ n z f ++ rowCells ρ m z g := by
  apply List.ext_getElem?
  intro j
  by_cases hj : j < (n + m) * z
  · obtain ⟨i, r, rfl, hr, hi⟩ := row_split' hj
    rw [get_rowCells ρ _ hi hr, mrgR_sound]
    by_cases hin : i < n
    · have := row_lt (z := z) hin
      rw [List.getElem?_append_left (by rw [len_rowCells]; omega), get_rowCells ρ _ hin hr, ltB hin]
      rfl
    · have e1 : Nat.blt i n = false := by
        cases hb : Nat.blt i n with
        | true => exact absurd (bltN hb) hin
        | false => rfl
      have e2 : n * z ≤ i * z := Nat.mul_le_mul_right z (by omega)
      rw [List.getElem?_append_right (by rw [len_rowCells]; omega), len_rowCells, e1]
      have e3 : i * z + r - n * z = (i - n) * z + r := by rw [Nat.sub_mul]; omega
      rw [e3, get_rowCells ρ _ (by omega) hr]
      rfl
  · rw [List.getElem?_eq_none (by rw [len_rowCells]; omega), List.getElem?_eq_none (by simp [len_rowCells, ← Nat.add_mul]; omega)]

theorem rows_one [LawAb A] (n z : Nat) (g : Nat → List (LV A)) : ∀ u ∈ rowCells ρ n z g, u.oneCell' = true := by
  intro u hu
  exact one_cells ρ (.rows n z g) u hu
end
end Go.Proofs.Ytjhjockdkpgpeaa.En
