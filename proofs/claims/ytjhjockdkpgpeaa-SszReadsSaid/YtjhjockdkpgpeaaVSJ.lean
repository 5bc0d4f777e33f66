/- DERIVED. A region whose order Go leaves open, in a walk. -/
import Derived.Test.YtjhjockdkpgpeaaVSI
set_option linter.all false
namespace Go.Proofs.Ytjhjockdkpgpeaa.En
open Go Go.RowKit

section
variable {A : Type} [Ab A] {P : Program} {S : Sig A} {cr : CallR A} {cur rid r : Nat} {ops : Array Oper} {n0 c0 : Nat}
variable {I : Nat → Nat → List (LV A)} {Own : Dom} {w0 : World}

def unl : List Bool → Nat
  | [] => 0
  | b :: l => (if b then 0 else 1) + unl l
theorem unl_zero : ∀ {l : List Bool}, unl l = 0 → ∀ i, i < l.length → l[i]? = some true
  | [], _, i, h => by simp at h
  | b :: l, h, i, hi => by
    simp only [unl] at h
    cases b
    · simp at h
    · cases i with
      | zero => rfl
      | succ i => simp at h hi ⊢; exact unl_zero h i hi
theorem unl_set : ∀ {l : List Bool} {i : Nat}, l[i]? = some false → unl (l.set i true) + 1 = unl l
  | [], i, h => by simp at h
  | b :: l, 0, h => by simp at h; subst h; simp [unl]; omega
  | b :: l, i + 1, h => by simp at h; have := unl_set h; simp only [List.set_cons_succ, unl]; omega

def lis (l : Array Bool) (i : Nat) : Bool := l.getD i false

theorem mem_ready {l : Array Bool} {i : Nat} : i ∈ Region.ready .any ops l ↔ i < ops.size ∧ l.getD i true = false ∧ ∃ o, ops[i]? = some o ∧ ∀ e ∈ o.after.toList, Region.binds .any e = true → lis l e.on = true := by
  unfold Region.ready
  simp only [List.mem_filter, List.mem_range, Bool.and_eq_true, Bool.not_eq_true']
  refine and_congr_right fun hi => and_congr_right fun _ => ?_
  have ho : ops[i]? = some ops[i] := Array.getElem?_eq_getElem hi
  rw [ho]
  simp only [Option.map_some, Option.getD_some]
  constructor
  · intro h
    refine ⟨_, rfl, fun e he hb => ?_⟩
    have := Array.all_eq_true'.1 h e (by simpa using he)
    rw [hb] at this
    simpa [lis] using this
  · rintro ⟨o, ho', h⟩
    cases ho'
    refine Array.all_eq_true'.2 fun e he => ?_
    cases hb : Region.binds .any e with
    | false => rfl
    | true => simpa [lis] using h e (by simpa using he) hb

/-- Keys that are good stay good. -/
theorem okKey_to {mem mem' : Mem A} {ρ ρ' : Key → Loc} (hl : ∀ (k : Nat) bl, mem[k]? = some (some bl) → ∃ bl', mem'[k]? = some (some bl')) {k : Key} {m : Nat} (h : okKey mem ρ k m) (e : ρ k = ρ' k) : okKey mem' ρ' k m := by
  cases k with
  | own k => obtain ⟨⟨bl, hb⟩, hm⟩ := h; exact ⟨hl k bl hb, by rw [← e]; exact hm⟩
  | inp t i => show m ≤ (ρ' (.inp t i)).cap; rw [← e]; exact h

theorem draw_any [LawAb A] [LawEq A] (hI : S.inp = I) (hS : SigOk P S) (hcr : CallOk P I cr) (hd : drawOk P S.how (S.fz cur rid) ops = true) {Q : Exit → Act → World → Prop} {s tf : LS A} (hf : runOpsD P S cr cur rid r ops.toList n0 c0 0 ops.toList s = some tf)
    (hrd : Ready n0 (r) c0 ops.size 0 s) (hc : AllOk tf.conds) {ρ0 : Key → Loc} (hQ : ∀ ρ' a' w', (∀ k m, okKey s.mem ρ0 k m → ρ0 k = ρ' k) → Rl I Own w0 ρ' tf a' w' → Q .normal a' w') :
    ∀ (fuel : Nat) (l : Array Bool) (ρ : Key → Loc) (a : Act) (w : World) (u : LS A), l.size = ops.size → unl l.toList ≤ fuel → Dc ops (lis l) → runSet P S cr cur rid r ops n0 c0 (lis l) 0 ops.toList s = some u → Rl I Own w0 ρ u a w → (∀ k m, okKey s.mem ρ0 k m → ρ0 k = ρ k) →
      wpAny P .any ops Q fuel l a w := by
  have he : edgesOk 0 ops.toList = true := by
    simp only [drawOk, Bool.and_eq_true] at hd; exact hd.1.1
  -- where nothing is ready, all is done
  have done : ∀ (l : Array Bool) (ρ : Key → Loc) (a : Act) (w : World) (u : LS A), l.size = ops.size → Region.ready .any ops l = [] → runSet P S cr cur rid r ops n0 c0 (lis l) 0 ops.toList s = some u → Rl I Own w0 ρ u a w → (∀ k m, okKey s.mem ρ0 k m → ρ0 k = ρ k) → Q .normal a w := by
    intro l ρ a w u hsz hre hu hr hρ
    have hall : ∀ n i, i < n → i < ops.size → lis l i = true := by
      intro n
      induction n with
      | zero => intro i h; omega
      | succ n ih =>
        intro i h1 h2
        cases hl : lis l i with
        | true => rfl
        | false =>
          exfalso
          have ho : ops[i]? = some ops[i] := Array.getElem?_eq_getElem h2
          have : i ∈ Region.ready .any ops l := mem_ready.2 ⟨h2, by
            have : i < l.size := by omega
            simp only [lis, Array.getD, this, dite_true] at hl ⊢
            exact hl, _, ho, fun e hem hb => ih _ (by have := edgesOk_get ops.toList 0 he i ops[i] (by simp [ho]) e hem hb; omega) (by have := edgesOk_get ops.toList 0 he i ops[i] (by simp [ho]) e hem hb; omega)⟩
          rw [hre] at this
          cases this
    rw [runSet_all ops.toList 0 s (fun j _ h2 => hall (j + 1) j (by omega) (by simpa using h2))] at hu
    rw [hf] at hu
    cases hu
    exact hQ ρ a w hρ hr
  intro fuel
  induction fuel with
  | zero =>
    intro l ρ a w u hsz hun hdc hu hr hρ
    have hre : Region.ready .any ops l = [] := by
      rw [List.eq_nil_iff_forall_not_mem]
      intro i hi
      obtain ⟨h1, h2, _⟩ := mem_ready.1 hi
      have := unl_zero (l := l.toList) (by omega) i (by simp; omega)
      have h3 : l[i]? = some true := by simpa using this
      simp [h3] at h2
    exact ⟨hre, done l ρ a w u hsz hre hu hr hρ⟩
  | succ fuel ih =>
    intro l ρ a w u hsz hun hdc hu hr hρ
    refine ⟨fun hre => done l ρ a w u hsz hre hu hr hρ, fun i hi => ?_⟩
    obtain ⟨h1, h2, o, ho, hpre⟩ := mem_ready.1 hi
    have hli : i < l.size := by omega
    have hlf : l[i]? = some false := by
      rw [Array.getD_eq_getD_getElem?, Array.getElem?_eq_getElem hli, Option.getD_some] at h2
      rw [Array.getElem?_eq_getElem hli, h2]
    have hTi : lis l i = false := by simp [lis, hlf]
    have hT' : ∀ k, lis (l.setIfInBounds i true) k = (lis l k || decide (k = i)) := by
      intro k
      by_cases e : k = i
      · subst e; simp [lis, hli]
      · simp [lis, Array.getElem?_setIfInBounds_ne (Ne.symm e), e]
    have hdc' : Dc ops (lis (l.setIfInBounds i true)) := by
      intro j o hoj hj e hem hb
      rw [hT'] at hj ⊢
      by_cases e1 : j = i
      · subst e1
        rw [ho] at hoj; cases hoj
        simp [hpre e hem hb]
      · have hj' : lis l j = true := by simpa [e1] using hj
        simp [hdc j o hoj hj' e hem hb]
    obtain ⟨t', ht', hct'⟩ := runSet_some hd hdc' hf
    obtain ⟨u', hu', hstep⟩ := runSet_last ho hTi hT' (fun j oj hj hTj hoj => pair_indep hd hdc hj hTi hTj ho hoj) ops.toList 0 s t' (fun j => by simp) (by omega) (by simpa using h1) ht'
    rw [hu] at hu'
    cases hu'
    have hlow : ∀ q, n0 ≤ q → q < n0 + r * ops.size → s.mem[q]? = some none := fun q h3 h4 => hrd.mem q (by simpa using h3) h4
    have hrange : ∀ j, j < ops.size → n0 + r * j + r ≤ n0 + r * ops.size := by
      intro j hj
      have := Nat.mul_le_mul_left (r) (show j + 1 ≤ ops.size from hj)
      rw [Nat.mul_succ] at this
      omega
    obtain ⟨op1, op2, op3, op4, op5, op6⟩ := runSet_open hcr.grow (n := ops.size) ops.toList 0 s u hu (by simp) (fun j => by simp) hrd.mlen (fun j _ hj _ q h3 h4 => hlow q (by omega) (by have := hrange j hj; omega))
    have hmine : ∀ q, n0 + r * i ≤ q → q < n0 + r * i + r → u.mem[q]? = some none := by
      intro q h3 h4
      refine op1 q (hlow q (by omega) (by have := hrange i h1; omega)) ?_
      intro j oj _ _ hTj _
      exact range_apart (by rintro rfl; rw [hTi] at hTj; cases hTj) h3 h4
    refine stepG_sound hI hS hcr ho hstep ?_ ?_ (fun hp => hmine _ (Nat.le_refl _) (by have : 0 < r := hp; show n0 + r * i < _; omega)) ?_ ?_ hr ?_
    · intro c hcc
      have hcc : t'.conds[c0 + i]? = some c := hcc
      rw [hct' i (by rw [hT']; simp)] at hcc
      exact hc c (List.mem_of_getElem? hcc)
    · show c0 + i < _
      rw [op2, hrd.clen]; omega
    · show n0 + r * i ≤ _
      rw [op3, hrd.mlen]
      have := hrange i h1
      omega
    · intro hkw k hk bl hb
      have hk : n0 + r * i ≤ k := hk
      have hlt := lt_of_get hb
      rw [op3, hrd.mlen] at hlt
      have : u.mem[k]? = some none := by
        refine op1 k (hlow k (by omega) hlt) ?_
        intro j oj _ hoj hTj hnp
        have hji : j ≠ i := by rintro rfl; rw [hTi] at hTj; cases hTj
        rcases Nat.lt_or_gt_of_ne hji with h' | h'
        · right
          have := Nat.mul_le_mul_left (r) (show j + 1 ≤ i from h')
          rw [Nat.mul_succ] at this
          omega
        · exfalso
          have hind := pair_indep hd hdc h' hTi hTj ho hoj
          simp only [indep, Bool.and_eq_true] at hind
          have h2 := hind.2
          have hkw : kind P S.how (S.fz cur rid) o.op = .wr := hkw
          rw [hkw] at h2
          cases hkj : kind P S.how (S.fz cur rid) oj.op <;> rw [hkj] at h2 hnp <;> simp at h2 hnp
      rw [this] at hb
      cases hb
    · intro ρ' a' w' hρ' hr'
      refine ih _ ρ' a' w' t' (by simpa using hsz) ?_ hdc' ht' hr' (fun k m hk => (hρ k m hk).trans (hρ' k m (okKey_to op5 hk (hρ k m hk))))
      have := unl_set (l := l.toList) (i := i) (by simpa using hlf)
      rw [Array.toList_setIfInBounds]
      omega

theorem Rl.drew {ρ : Key → Loc} {s : LS A} {a : Act} {w : World} (h : Rl I Own w0 ρ s a w) : Rl I Own w0 ρ s a { w with drawn := w.drawn + 1 } :=
  { h with
    mem := { h.mem with
      cell := fun k bl hk i v hv => h.mem.cell k bl hk i v hv
      free := fun k bl hk hw i hi => h.mem.free k bl hk hw i hi
      inb := fun k bl hk hd hn => h.mem.inb k bl hk hd hn
      row := fun k bl e hk he => h.mem.row k bl e hk he }
    keeps := ⟨h.keeps.os, h.keeps.tape, h.keeps.output, h.keeps.size, h.keeps.block⟩ }

/-- What conditions and blocks a region leaves. -/
structure Grew (s t : LS A) : Prop where
  conds : ∀ j : Nat, j < s.conds.length → t.conds[j]? = s.conds[j]?
  clen : s.conds.length ≤ t.conds.length
  mlen : s.mem.length ≤ t.mem.length
  tlen : t.tmps.length = s.tmps.length
  live : ∀ (k : Nat) (bl : Blk A), s.mem[k]? = some (some bl) → ∃ bl' : Blk A, t.mem[k]? = some (some bl')
  none : ∀ k : Nat, k < s.mem.length → s.mem[k]? = some none → t.mem[k]? = some none

theorem execR_grew (hg : GrowOk cr) {draw : Bool} {s t : LS A} (h : execR P S cr cur rid ops draw s = some t) : Grew s t := by
  have main : ∀ {t : LS A} {r : Nat}, ((pad ops.toList.length (r * ops.toList.length) s).mem.length ≤ t.mem.length) → t.tmps.length = (pad ops.toList.length (r * ops.toList.length) s).tmps.length →
      (∀ (k : Nat) (bl : Blk A), (pad ops.toList.length (r * ops.toList.length) s).mem[k]? = some (some bl) → ∃ bl' : Blk A, t.mem[k]? = some (some bl')) → (∀ k, k < s.mem.length → (pad ops.toList.length (r * ops.toList.length) s).mem[k]? = some none → t.mem[k]? = some none) →
      ∀ {u : LS A}, shutR s (some t) = some u → Grew s u := by
    intro t r h2 h4 h5 h6 u hu
    have fin : u.mem = t.mem ∧ u.tmps = t.tmps ∧ (∃ x, u.conds = s.conds ++ x) := by
      simp only [shutR] at hu
      split at hu <;> cases hu
      · exact ⟨rfl, rfl, [], by simp⟩
      · exact ⟨rfl, rfl, _, rfl⟩
    obtain ⟨e1, e2, x, e3⟩ := fin
    refine ⟨fun j hj => by rw [e3, List.getElem?_append_left hj], by rw [e3]; simp, by rw [e1]; refine Nat.le_trans ?_ h2; simp [pad], by rw [e2]; exact h4, fun k bl hk => by rw [e1]; exact h5 k bl (get_pad hk), fun k hk hn => by
      rw [e1]
      refine h6 k hk ?_
      simp only [pad]
      rw [List.getElem?_append_left hk]; exact hn⟩
  have sh : ∀ {q : Option (LS A)} {u : LS A}, shutR s q = some u → ∃ t, q = some t := by
    intro q u hq
    cases q with
    | none => cases hq
    | some t => exact ⟨t, rfl⟩
  have hrd := fun r => pad_ready s ops.toList.length r
  unfold execR at h
  split at h
  · obtain ⟨t', ht⟩ := sh h
    rw [ht] at h
    have h1 := runOps_keeps hg ops.toList 0 _ t' ht
    have e0 : (0 : Nat) = 0 * ops.toList.length := (Nat.zero_mul _).symm
    rw [e0] at h1
    exact main h1.mlen h1.tlen h1.live (fun k hk hn => h1.none k (by simp [pad]; omega) hn) h
  · split at h
    · obtain ⟨t', ht⟩ := sh h
      rw [ht] at h
      generalize resO P S cur rid ops.toList = r at ht
      rw [← runSet_all (T := fun _ => true) ops.toList 0 _ (fun _ _ _ => rfl)] at ht
      have hrange : ∀ j, j < ops.size → s.mem.length + r * j + r ≤ s.mem.length + r * ops.size := by
        intro j hj
        have := Nat.mul_le_mul_left r (show j + 1 ≤ ops.size from hj)
        rw [Nat.mul_succ] at this
        omega
      obtain ⟨op1, op2, op3, op4, op5, op6⟩ := runSet_open hg (n := ops.size) ops.toList 0 _ t' ht (by simp) (fun j => by simp) (by rw [(hrd r).mlen]; simp) (fun j _ hj _ q h3 h4 => (hrd r).mem q (by omega) (by have := hrange j hj; simp at this ⊢; omega))
      exact main (Nat.le_of_eq op3.symm) op4 op5 (fun k hk hn => op1 k hn (fun j o _ _ _ _ => .inl (by omega))) h
    · cases h

/-- The conditions of a region, out of those behind it. -/
theorem shutR_ok {s t u : LS A} (h : shutR s (some t) = some u) (hc : AllOk u.conds) : (∀ c ∈ t.conds, condOk c) ∧ u.mem = t.mem ∧ u.tmps = t.tmps := by
  have all : ∀ {cs : List Cnd}, condOk (allC cs) → ∀ c ∈ cs, condOk c := by
    intro cs
    induction cs with
    | nil => intro _ c hc; cases hc
    | cons d cs ih =>
      intro h c hc
      obtain ⟨h1, h2⟩ := andC_ok h
      rcases List.mem_cons.1 hc with rfl | hc
      · exact h1
      · exact ih h2 c hc
  simp only [shutR] at h
  split at h
  · rename_i e
    cases h
    exact ⟨all (by rw [e]; trivial), rfl, rfl⟩
  · rename_i c e
    cases h
    exact ⟨all (by rw [e]; exact hc (some c) (by simp)), rfl, rfl⟩

/-- A region whose order is open. -/
theorem regionD_sound [LawAb A] [LawEq A] (hI : S.inp = I) (hS : SigOk P S) (hcr : CallOk P I cr) (hm : P.follows .mixedOrders = true) (hd : drawOk P S.how (S.fz cur rid) ops = true) {Q : Exit → Act → World → Prop} {s t : LS A} {ρ : Key → Loc} {a : Act} {w : World}
    (h : runOpsD P S cr cur rid r ops.toList s.mem.length 0 0 ops.toList (pad ops.toList.length (r * ops.toList.length) s) = some t) (hc : AllOk t.conds) (hr : Rl I Own w0 ρ s a w)
    (hQ : ∀ ρ' a' w', (∀ k m, okKey s.mem ρ k m → ρ k = ρ' k) → Rl I Own w0 ρ' t a' w' → Q .normal a' w') : (Code.region rid ops true).wp P Q a w := by
  refine wp_region_any hm ?_
  have hrd : Ready s.mem.length r 0 ops.size 0 (pad ops.toList.length (r * ops.toList.length) s) := by simpa using pad_ready s ops.toList.length (r)
  have hnone : ∀ i, lis (Array.replicate ops.size false) i = false := by
    intro i
    simp only [lis, Array.getD_eq_getD_getElem?, Array.getElem?_replicate]
    split <;> rfl
  refine draw_any hI hS hcr hd h hrd hc (ρ0 := ρ) ?_ ops.size _ ρ a _ (pad ops.toList.length (r * ops.toList.length) s) (by simp) ?_ ?_ ?_ (hr.padded _ _).drew (fun _ _ _ => rfl)
  · intro ρ' a' w' he hr'
    exact hQ ρ' a' w' (fun k m hk => he k m (okKey_to (fun k bl hb => ⟨bl, get_pad hb⟩) hk rfl)) hr'
  · have : ∀ n, unl (List.replicate n false) = n := by
      intro n
      induction n with
      | zero => rfl
      | succ n ih => simp [List.replicate_succ, unl, ih]; omega
    simp [this]
  · intro j o _ hj
    rw [hnone] at hj; cases hj
  · have gen : ∀ (n0 c0 : Nat) (os : List Oper) (i : Nat) (s : LS A), runSet P S cr cur rid r ops n0 c0 (lis (Array.replicate ops.size false)) i os s = some s := by
      intro n0 c0 os
      induction os with
      | nil => intro i s; rfl
      | cons o os ih => intro i s; simp only [runSet, hnone, ih]
    exact gen _ _ _ _ _
end
end Go.Proofs.Ytjhjockdkpgpeaa.En
