/- DERIVED. A region whose order Go leaves open: whatever order it takes, it comes to the same. -/
import Derived.Test.YtjhjockdkpgpeaaVSH
set_option linter.all false
namespace Go.Proofs.Ytjhjockdkpgpeaa.En
open Go Go.RowKit

section
variable {A : Type} [Ab A] {P : Program}

/-! ## who stands ahead of whom -/
theorem maskOf_bit {ms : List Nat} {o : Oper} {i : Nat} (h : (maskOf ms o).testBit i = true) : ∃ e ∈ o.after.toList, Region.binds .any e = true ∧ (e.on = i ∨ (ms.getD e.on 0).testBit i = true) := by
  have key : ∀ (l : List Edge) (s : Nat), (l.foldl (fun s e => match Region.binds .any e with
      | true => s ||| 2 ^ e.on ||| ms.getD e.on 0
      | false => s) s).testBit i = true → s.testBit i = true ∨ ∃ e ∈ l, Region.binds .any e = true ∧ (e.on = i ∨ (ms.getD e.on 0).testBit i = true) := by
    intro l
    induction l with
    | nil => intro s h; exact .inl h
    | cons e l ih =>
      intro s h
      simp only [List.foldl_cons] at h
      rcases ih _ h with h | ⟨e', he', h⟩
      · cases hb : Region.binds .any e with
        | true =>
          rw [hb] at h
          simp only [Nat.testBit_or, Bool.or_eq_true, Nat.testBit_two_pow, decide_eq_true_eq] at h
          rcases h with (h | h) | h
          · exact .inl h
          · exact .inr ⟨e, by simp, hb, .inl h⟩
          · exact .inr ⟨e, by simp, hb, .inr h⟩
        | false =>
          rw [hb] at h
          exact .inl h
      · exact .inr ⟨e', by simp [he'], h⟩
  rcases key _ _ h with h | h
  · simp at h
  · exact h

theorem masks_get : ∀ (os : List Oper) (ms : List Nat) (j : Nat), (j < ms.length → (masks os ms).getD j 0 = ms.getD j 0) ∧
    (∀ o, ms.length ≤ j → os[j - ms.length]? = some o → ∃ ms', (masks os ms).getD j 0 = maskOf ms' o ∧ ∀ k, k < j → ms'.getD k 0 = (masks os ms).getD k 0)
  | [], ms, j => by
    refine ⟨fun _ => rfl, fun o _ h => by simp at h⟩
  | o :: os, ms, j => by
    have ih := masks_get os (ms ++ [maskOf ms o])
    simp only [List.length_append, List.length_singleton] at ih
    refine ⟨fun h => ?_, fun o' hle ho => ?_⟩
    · simp only [masks]
      rw [(ih j).1 (by omega)]
      simp [List.getD, List.getElem?_append_left h]
    · simp only [masks]
      by_cases e : j = ms.length
      · subst e
        simp only [Nat.sub_self, List.getElem?_cons_zero, Option.some.injEq] at ho
        subst ho
        refine ⟨ms, ?_, fun k hk => ?_⟩
        · rw [(ih ms.length).1 (by omega)]
          simp [List.getD]
        · rw [(ih k).1 (by omega)]
          simp [List.getD, List.getElem?_append_left hk]
      · refine (ih j).2 o' (by omega) ?_
        rw [show j - ms.length = (j - (ms.length + 1)) + 1 by omega, List.getElem?_cons_succ] at ho
        exact ho

theorem edgesOk_get : ∀ (os : List Oper) (i : Nat), edgesOk i os = true → ∀ (j : Nat) (o : Oper), os[j]? = some o → ∀ e ∈ o.after.toList, Region.binds .any e = true → e.on < i + j
  | [], _, _, _, _, h => by simp at h
  | o :: os, i, h, j, o', ho => by
    simp only [edgesOk, Bool.and_eq_true] at h
    intro e he hb
    cases j with
    | zero =>
      simp only [List.getElem?_cons_zero, Option.some.injEq] at ho
      subst ho
      have := List.all_eq_true.1 h.1 e he
      rw [hb] at this
      have h2 : Nat.blt e.on i = true := by simpa using this
      have := Nat.le_of_ble_eq_true h2
      omega
    | succ j =>
      have := edgesOk_get os (i + 1) h.2 j o' (by simpa using ho) e he hb
      omega

/-- What is listed has all that stands ahead of it listed. -/
def Dc (ops : Array Oper) (T : Nat → Bool) : Prop := ∀ (j : Nat) (o : Oper), ops[j]? = some o → T j = true → ∀ e ∈ o.after.toList, Region.binds .any e = true → T e.on = true

theorem anc_in {ops : Array Oper} (he : edgesOk 0 ops.toList = true) {T : Nat → Bool} (hT : Dc ops T) (i : Nat) : ∀ (n j : Nat), j < n → j < ops.size → T j = true → ((masks ops.toList []).getD j 0).testBit i = true → T i = true
  | 0, _, h, _, _, _ => by omega
  | n + 1, j, hj, hs, ht, hb => by
    have ho : ops[j]? = some ops[j] := Array.getElem?_eq_getElem hs
    obtain ⟨ms', h1, h2⟩ := (masks_get ops.toList [] j).2 ops[j] (by simp) (by simpa using ho)
    rw [h1] at hb
    obtain ⟨e, hem, hbd, h⟩ := maskOf_bit hb
    have hlt := edgesOk_get ops.toList 0 he j ops[j] (by simp [ho]) e hem hbd
    have hte := hT j _ ho ht e hem hbd
    rcases h with rfl | h
    · exact hte
    · rw [h2 _ (by omega)] at h
      exact anc_in he hT i n e.on (by omega) (by omega) hte h

theorem pair_indep {how : FuncId → Kn} {fz : Fm} {ops : Array Oper} (hd : drawOk P how fz ops = true) {T : Nat → Bool} (hT : Dc ops T) {i j : Nat} {x y : Oper} (hij : i < j) (hi : T i = false) (hj : T j = true) (hx : ops[i]? = some x) (hy : ops[j]? = some y) : indep P how fz ops x y = true := by
  simp only [drawOk, Bool.and_eq_true] at hd
  obtain ⟨⟨he, _⟩, hp⟩ := hd
  have hjs : j < ops.size := by
    rcases Nat.lt_or_ge j ops.size with h | h
    · exact h
    · rw [Array.getElem?_eq_none h] at hy; cases hy
  have := List.all_eq_true.1 (List.all_eq_true.1 hp j (by simp; exact hjs)) i (by simp; omega)
  unfold pairOk at this
  have hb : Nat.blt i j = true := Nat.ble_eq_true_of_le hij
  simp only [hb] at this
  split at this
  · rename_i hbit
    have := anc_in he hT i (j + 1) j (by omega) hjs hj hbit
    rw [hi] at this; cases this
  · simpa [hx, hy] using this

/-! ## the run of a part of a region -/
section
variable {S : Sig A} {cr : CallR A} {cur rid r : Nat} {ops : Array Oper} {n0 c0 : Nat}

def stepD (P : Program) (S : Sig A) (cr : CallR A) (cur rid r : Nat) (ops : Array Oper) (n0 c0 : Nat) (i : Nat) (o : Oper) (s : LS A) : Option (LS A) :=
  stepG P S cr (ctl S cur rid r n0 c0 i n0) ops.toList o s
def runSet (P : Program) (S : Sig A) (cr : CallR A) (cur rid r : Nat) (ops : Array Oper) (n0 c0 : Nat) (T : Nat → Bool) : Nat → List Oper → LS A → Option (LS A)
  | _, [], s => some s
  | i, o :: os, s => match T i with
    | true => match stepD P S cr cur rid r ops n0 c0 i o s with
      | some s' => runSet P S cr cur rid r ops n0 c0 T (i + 1) os s'
      | none => none
    | false => runSet P S cr cur rid r ops n0 c0 T (i + 1) os s

theorem runSet_all {T : Nat → Bool} : ∀ (os : List Oper) (i : Nat) (s : LS A), (∀ j, i ≤ j → j < i + os.length → T j = true) → runSet P S cr cur rid r ops n0 c0 T i os s = runOpsD P S cr cur rid r ops.toList n0 c0 i os s
  | [], _, _, _ => rfl
  | o :: os, i, s, h => by
    simp only [List.length_cons] at h
    simp only [runSet, runOpsD, h i (Nat.le_refl _) (by omega), stepD]
    cases hs : stepG P S cr (ctl S cur rid r n0 c0 i n0) ops.toList o s with
    | some s' => exact runSet_all os (i + 1) s' (fun j h1 h2 => h j (by omega) (by omega))
    | none => rfl

theorem runSet_congr {T T' : Nat → Bool} : ∀ (os : List Oper) (i : Nat) (s : LS A), (∀ j, i ≤ j → j < i + os.length → T j = T' j) → runSet P S cr cur rid r ops n0 c0 T i os s = runSet P S cr cur rid r ops n0 c0 T' i os s
  | [], _, _, _ => rfl
  | o :: os, i, s, h => by
    simp only [List.length_cons] at h
    have ih := fun s' => runSet_congr os (i + 1) s' (fun j h1 h2 => h j (by omega) (by omega))
    simp only [runSet, h i (Nat.le_refl _) (by omega), ih]

theorem key_ne {r i j : Nat} (h : i ≠ j) (hr : 0 < r) : n0 + r * i ≠ n0 + r * j := by
  intro e
  exact h (Nat.eq_of_mul_eq_mul_left hr (by omega))

/-- A step is carried behind those that come after it. -/
theorem runSet_push {T : Nat → Bool} {i : Nat} {oi : Oper} : ∀ (os : List Oper) (k : Nat) (s s1 t : LS A), (∀ j, os[j]? = ops[k + j]?) → i < k → stepD P S cr cur rid r ops n0 c0 i oi s = some s1 → runSet P S cr cur rid r ops n0 c0 T k os s1 = some t →
    (∀ j oj, k ≤ j → T j = true → ops[j]? = some oj → indep P S.how (S.fz cur rid) ops oi oj = true) → ∃ u, runSet P S cr cur rid r ops n0 c0 T k os s = some u ∧ stepD P S cr cur rid r ops n0 c0 i oi u = some t
  | [], k, s, s1, t, _, _, h1, h2, _ => by
    simp only [runSet] at h2; cases h2
    exact ⟨s, rfl, h1⟩
  | o :: os, k, s, s1, t, ho, hik, h1, h2, hind => by
    have hok : ops[k]? = some o := by have := ho 0; simpa using this.symm
    have ho' : ∀ j, os[j]? = ops[k + 1 + j]? := fun j => by
      have := ho (j + 1)
      rw [List.getElem?_cons_succ] at this
      rw [this]; congr 1; omega
    simp only [runSet] at h2 ⊢
    cases hT : T k with
    | true =>
      simp only [hT] at h2
      split at h2
      · rename_i s1' hs
        obtain ⟨s2, e1, e2⟩ := stepG_comm (fz := S.fz cur rid) (n0 := n0) (hind k o (Nat.le_refl _) hT hok) rfl rfl rfl rfl (Nat.le_add_right _ _) (Nat.le_add_right _ _) (fun h _ => key_ne (by omega) h) (by show c0 + i ≠ c0 + k; omega) h1 hs
        obtain ⟨u, e3, e4⟩ := runSet_push os (k + 1) s2 s1' t ho' (by omega) e2 h2 (fun j oj hj => hind j oj (by omega))
        refine ⟨u, ?_, e4⟩
        have e1' : stepD P S cr cur rid r ops n0 c0 k o s = some s2 := e1
        simp only [e1', e3]
      · cases h2
    | false =>
      simp only [hT] at h2
      exact runSet_push os (k + 1) s s1 t ho' (by omega) h1 h2 (fun j oj hj => hind j oj (by omega))

theorem runSet_last {T T' : Nat → Bool} {i : Nat} {oi : Oper} (hi : ops[i]? = some oi) (hTi : T i = false) (hT' : ∀ k, T' k = (T k || decide (k = i)))
    (hind : ∀ j oj, i < j → T j = true → ops[j]? = some oj → indep P S.how (S.fz cur rid) ops oi oj = true) : ∀ (os : List Oper) (k : Nat) (s t : LS A), (∀ j, os[j]? = ops[k + j]?) → k ≤ i → i < k + os.length → runSet P S cr cur rid r ops n0 c0 T' k os s = some t →
    ∃ u, runSet P S cr cur rid r ops n0 c0 T k os s = some u ∧ stepD P S cr cur rid r ops n0 c0 i oi u = some t
  | [], k, s, t, _, h1, h2, _ => by simp at h2; omega
  | o :: os, k, s, t, ho, h1, h2, hr => by
    have hok : ops[k]? = some o := by have := ho 0; simpa using this.symm
    have ho' : ∀ j, os[j]? = ops[k + 1 + j]? := fun j => by
      have := ho (j + 1)
      rw [List.getElem?_cons_succ] at this
      rw [this]; congr 1; omega
    simp only [List.length_cons] at h2
    by_cases e : k = i
    · subst e
      rw [hi] at hok
      cases hok
      have e1 : T' k = true := by rw [hT']; simp
      simp only [runSet, e1, hTi] at hr ⊢
      split at hr
      · rename_i s1 hs
        rw [runSet_congr (T := T') (T' := T) os (k + 1) s1 (fun j hj _ => by rw [hT']; simp; omega)] at hr
        exact runSet_push os (k + 1) s s1 t ho' (by omega) hs hr (fun j oj hj => hind j oj (by omega))
      · cases hr
    · have e1 : T' k = T k := by rw [hT']; simp [e]
      simp only [runSet, e1] at hr ⊢
      cases hTk : T k with
      | true =>
        simp only [hTk] at hr
        split at hr
        · rename_i s1 hs
          simp only
          exact runSet_last hi hTi hT' hind os (k + 1) s1 t ho' (by omega) (by omega) hr
        · cases hr
      | false =>
        simp only [hTk] at hr
        exact runSet_last hi hTi hT' hind os (k + 1) s t ho' (by omega) (by omega) hr

theorem stepD_cond {i : Nat} {o : Oper} {s t : LS A} (h : stepD P S cr cur rid r ops n0 c0 i o s = some t) (j : Nat) (hj : j ≠ c0 + i) : t.conds[j]? = s.conds[j]? := by
  unfold stepD at h
  rw [stepG_eff] at h
  split at h
  · rename_i v me c _
    cases h
    cases c with
    | none => rfl
    | some c => exact List.getElem?_set_ne (fun e => hj e.symm)
  · cases h
theorem stepD_pure {i : Nat} {o : Oper} {s t : LS A} (h : stepD P S cr cur rid r ops n0 c0 i o s = some t) (hk : kind P S.how (S.fz cur rid) o.op = .pure) : t.mem = s.mem := by
  unfold stepD at h
  rw [stepG_eff] at h
  split at h
  · rename_i v me c he
    cases h
    have := (eff_mem he).2 hk
    subst this
    rfl
  · cases h

/-- Every part that may have been carried out comes to a state. -/
theorem runSet_some (hd : drawOk P S.how (S.fz cur rid) ops = true) {T : Nat → Bool} (hT : Dc ops T) {s tf : LS A} (hf : runOpsD P S cr cur rid r ops.toList n0 c0 0 ops.toList s = some tf) :
    ∃ u, runSet P S cr cur rid r ops n0 c0 T 0 ops.toList s = some u ∧ ∀ i, T i = true → u.conds[c0 + i]? = tf.conds[c0 + i]? := by
  have key : ∀ d m, m + d = ops.size → ∃ u, runSet P S cr cur rid r ops n0 c0 (fun k => T k || decide (k < m)) 0 ops.toList s = some u ∧ ∀ i, T i = true → u.conds[c0 + i]? = tf.conds[c0 + i]? := by
    intro d
    induction d with
    | zero =>
      intro m hm
      refine ⟨tf, ?_, fun _ _ => rfl⟩
      rw [runSet_all ops.toList 0 s (fun j _ h2 => by simp at h2; simp; right; omega)]
      exact hf
    | succ d ih =>
      intro m hm
      obtain ⟨u, hu, hc⟩ := ih (m + 1) (by omega)
      cases hTm : T m with
      | true =>
        refine ⟨u, ?_, hc⟩
        rw [← hu]
        refine runSet_congr _ _ _ (fun j _ _ => ?_)
        by_cases e : j = m
        · subst e; simp [hTm]
        · show (T j || decide (j < m)) = (T j || decide (j < m + 1))
          have : decide (j < m) = decide (j < m + 1) := by
            by_cases h : j < m
            · simp [h, show j < m + 1 by omega]
            · simp [h, show ¬ j < m + 1 by omega]
          rw [this]
      | false =>
        have hms : m < ops.size := by omega
        have ho : ops[m]? = some ops[m] := Array.getElem?_eq_getElem hms
        obtain ⟨u', e1, e2⟩ := runSet_last (T := fun k => T k || decide (k < m)) (T' := fun k => T k || decide (k < m + 1)) ho (by simp [hTm]) (fun k => by
            simp only [Bool.or_assoc]
            congr 1
            rw [← Bool.decide_or]
            congr 1
            simp
            omega)
          (fun j oj hj hTj hoj => pair_indep hd hT hj hTm (by simpa [show ¬ j < m by omega] using hTj) ho hoj) ops.toList 0 s u (fun j => by simp) (by omega) (by simp; exact hms) hu
        refine ⟨u', e1, fun i hi => ?_⟩
        rw [← hc i hi]
        exact (stepD_cond e2 (c0 + i) (by intro e; have : i = m := by omega
                                          subst this; rw [hTm] at hi; cases hi)).symm
  obtain ⟨u, hu, hc⟩ := key ops.size 0 (by omega)
  refine ⟨u, ?_, hc⟩
  rw [← hu]
  exact runSet_congr _ _ _ (fun j _ _ => by simp)

theorem range_apart {r i j q : Nat} (h : i ≠ j) (h1 : n0 + r * i ≤ q) (h2 : q < n0 + r * i + r) : q < n0 + r * j ∨ n0 + r * j + r ≤ q := by
  rcases Nat.lt_or_gt_of_ne h with h' | h'
  · have := Nat.mul_le_mul_left r (show i + 1 ≤ j from h')
    rw [Nat.mul_succ] at this
    omega
  · have := Nat.mul_le_mul_left r (show j + 1 ≤ i from h')
    rw [Nat.mul_succ] at this
    omega

/-- What lies open ahead, of a part that has been carried out. -/
theorem runSet_open (hg : GrowOk cr) {T : Nat → Bool} {n : Nat} : ∀ (os : List Oper) (k : Nat) (s u : LS A), runSet P S cr cur rid r ops n0 c0 T k os s = some u → k + os.length ≤ n → (∀ j, os[j]? = ops[k + j]?) → s.mem.length = n0 + r * n →
    (∀ i, k ≤ i → i < n → T i = true → ∀ q, n0 + r * i ≤ q → q < n0 + r * i + r → s.mem[q]? = some none) →
    (∀ q, s.mem[q]? = some none → (∀ j o, k ≤ j → ops[j]? = some o → T j = true → kind P S.how (S.fz cur rid) o.op ≠ .pure → q < n0 + r * j ∨ n0 + r * j + r ≤ q) → u.mem[q]? = some none) ∧ u.conds.length = s.conds.length ∧ u.mem.length = s.mem.length ∧ u.tmps.length = s.tmps.length ∧
      (∀ (q : Nat) (bl : Blk A), s.mem[q]? = some (some bl) → ∃ bl' : Blk A, u.mem[q]? = some (some bl')) ∧ (∀ j : Nat, j < c0 + k → u.conds[j]? = s.conds[j]?)
  | [], k, s, u, h, _, _, _, _ => by
    simp only [runSet] at h; cases h
    exact ⟨fun q h _ => h, rfl, rfl, rfl, fun q bl h => ⟨bl, h⟩, fun _ _ => rfl⟩
  | o :: os, k, s, u, h, hn, ho, hl, hs => by
    have hok : ops[k]? = some o := by have := ho 0; simpa using this.symm
    have ho' : ∀ j, os[j]? = ops[k + 1 + j]? := fun j => by
      have := ho (j + 1)
      rw [List.getElem?_cons_succ] at this
      rw [this]; congr 1; omega
    simp only [List.length_cons] at hn
    simp only [runSet] at h
    cases hT : T k with
    | true =>
      simp only [hT] at h
      split at h
      · rename_i s1 h1
        have hroom : n0 + r * k + r ≤ s.mem.length := by
          have := Nat.mul_le_mul_left (r) (show k + 1 ≤ n by omega)
          rw [Nat.mul_succ] at this
          omega
        have sh : Shape (n0 + r * k) (r) (c0 + k) s s1 := stepG_shape hg h1 hroom (hs k (Nat.le_refl _) (by omega) hT)
        obtain ⟨e1, e2, e3, e4, e5, e6⟩ := runSet_open hg (n := n) os (k + 1) s1 u h (by omega) ho' (by rw [sh.mlen, hl]) (fun i hi hin hTi q h2 h3 => by
          refine sh.none q ?_ (hs i (by omega) hin hTi q h2 h3)
          exact range_apart (by omega) h2 h3)
        refine ⟨fun q hq hc => e1 q ?_ (fun j o' hj => hc j o' (by omega)), e2.trans sh.clen, e3.trans sh.mlen, e4.trans sh.tlen, fun q bl hq => ?_, fun j hj => (e6 j (by omega)).trans (sh.cond j (by omega))⟩
        · by_cases hp : kind P S.how (S.fz cur rid) o.op = .pure
          · rw [stepD_pure h1 hp]; exact hq
          · exact sh.none q (hc k o (Nat.le_refl _) hok hT hp) hq
        · obtain ⟨b1, hb1⟩ := sh.live q bl hq
          exact e5 q b1 hb1
      · cases h
    | false =>
      simp only [hT] at h
      obtain ⟨e1, e2, e3, e4, e5, e6⟩ := runSet_open hg (n := n) os (k + 1) s u h (by omega) ho' hl (fun i hi => hs i (by omega))
      exact ⟨fun q hq hc => e1 q hq (fun j o' hj => hc j o' (by omega)), e2, e3, e4, e5, fun j hj => e6 j (by omega)⟩
end
end
end Go.Proofs.Ytjhjockdkpgpeaa.En
