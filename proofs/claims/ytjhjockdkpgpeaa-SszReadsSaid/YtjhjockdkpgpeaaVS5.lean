/- DERIVED. The operations that touch no memory. -/
import Derived.Test.YtjhjockdkpgpeaaVS4
import Derived.Laws.Strings
set_option linter.all false
namespace Go.Proofs.Ytjhjockdkpgpeaa.En
open Go Go.RowKit

section
variable {A : Type}

theorem dcd_true {d : Option Bool} {b : Bool} {c : Cnd} (h : dcd d b = (true, c)) (hc : condOk c) : b = true := by
  cases d with
  | none => simp only [dcd, Prod.mk.injEq] at h; exact h.1
  | some x =>
    simp only [dcd, Prod.mk.injEq] at h
    obtain ⟨rfl, rfl⟩ := h
    exact hc
theorem dcd_val {d : Option Bool} {b x : Bool} {c : Cnd} (h : dcd d b = (x, c)) (hc : condOk c) : b = x := by
  cases d with
  | none => simp only [dcd, Prod.mk.injEq] at h; exact h.1
  | some y =>
    simp only [dcd, Prod.mk.injEq] at h
    obtain ⟨rfl, rfl⟩ := h
    exact hc

theorem tst_sound {d : Option Bool} {u : Option (LV A)} {v : LV A} {c : Cnd} (h : tst d u = some (v, c)) (hc : condOk c) : u = some v := by
  cases u with
  | none => cases h
  | some u =>
    cases u <;> simp only [tst, Option.some.injEq, Prod.mk.injEq] at h <;> first
      | (obtain ⟨rfl, _⟩ := h; rfl)
      | (rename_i b
         generalize hd : dcd d b = q at h
         obtain ⟨x, c'⟩ := q
         simp only [Option.some.injEq, Prod.mk.injEq] at h
         obtain ⟨rfl, rfl⟩ := h
         rw [dcd_val hd hc])
theorem okc_sound {u : Option (LV A)} {v : LV A} {c : Cnd} (h : okc u = some (v, c)) : u = some v := by
  cases u with
  | none => cases h
  | some u => simp only [okc, Option.some.injEq, Prod.mk.injEq] at h; rw [h.1]

variable [Ab A] {P : Program} {ρ : Key → Loc}
theorem run_equalIn_bool (w : World) (d : Nat) {t : TypeId} (ht : P.underlying t = some .bool) (a b : Bool) : (Op.equalIn (d + 1) t (.bool a) (.bool b)).run P w = .ok (a == b) w := by
  simp [Op.equalIn, run_underlying ht]

theorem ibin_sound (w : World) (t : TypeId) {op : BinOp} {k : IntKind} {a b : Int} {v : LV A} (h : ibin op k a b = some v) :
    (binOp op t (.int k a) (.int k b)).run P w = .ok (LV.tr ρ v) w := by
  cases op <;> simp only [ibin, Option.some.injEq, reduceCtorEq] at h <;> subst h <;> simp [binOp, Op.intArith, Op.intBits, Op.intCmp, LV.tr, bits]

theorem run_equalIn_nilp (w : World) (d : Nat) {t e : TypeId} (ht : P.underlying t = some (.pointer e)) (a : Addr) : (Op.equalIn (d + 1) t (.pointer (some a)) (.pointer none)).run P w = .ok false w := by
  simp [Op.equalIn, run_underlying ht]

omit [Ab A] in
theorem chk_sound {rc b : Bool} {u v : LV A} {c : Cnd} (h : chk rc b u = some (v, c)) (hc : condOk c) : b = true ∧ u = v := by
  unfold chk at h
  split at h
  · rename_i c' h1
    simp only [Option.some.injEq, Prod.mk.injEq] at h
    obtain ⟨rfl, rfl⟩ := h
    exact ⟨chkC_ok h1 hc, rfl⟩
  · cases h

theorem tstC_sound {d : Option Bool} {r : PR A} {v : LV A} {c : Cnd} (h : tstC d r = some (v, c)) (hc : condOk c) : ∃ c', r = some (v, c') ∧ condOk c' := by
  unfold tstC at h
  cases d with
  | none => exact ⟨c, h, hc⟩
  | some x =>
    simp only at h
    split at h
    · rename_i b c'
      simp only [Option.some.injEq, Prod.mk.injEq] at h
      obtain ⟨rfl, rfl⟩ := h
      obtain ⟨h1, h2⟩ := andC_ok hc
      have h2 : b = x := h2
      subst h2
      exact ⟨c', rfl, h1⟩
    · exact ⟨c, h, hc⟩
theorem eqBs_spec : ∀ (l m : List UInt8), eqBs l m = (l == m)
  | [], [] => rfl
  | [], _ :: _ => rfl
  | _ :: _, [] => rfl
  | a :: l, b :: m => by
    simp only [eqBs, eqBs_spec l m]
    rw [List.cons_beq_cons]
    congr 1
    by_cases h : a = b
    · subst h; simp [Nat.beq_refl]
    · have h1 : ¬ a.toNat = b.toNat := fun e => h (UInt8.toNat_inj.1 e)
      rw [beq_false_of_ne h]
      cases hb : Nat.beq a.toNat b.toNat with
      | false => rfl
      | true => exact absurd (Nat.eq_of_beq_eq_true hb) h1
theorem strEq_spec (a b : ByteArray) : strEq a b = (a.toList == b.toList) := by
  rw [ByteArray.toList_eq, ByteArray.toList_eq]
  exact eqBs_spec _ _

theorem binR_sound (w : World) {rc : Bool} {d : Option Bool} {op : BinOp} {t : TypeId} {x y v : LV A} {c : Cnd} (hagg : ∀ us vs, x = .agg us → y = .agg vs → (binOp op t (LV.tr ρ x) (LV.tr ρ y)).run P w = .ok (LV.tr ρ v) w)
    (h : binR P rc d op t x y = some (v, c)) (hc : condOk c) : (binOp op t (LV.tr ρ x) (LV.tr ρ y)).run P w = .ok (LV.tr ρ v) w := by
  unfold binR at h
  split at h
  · rename_i k a k' b
    simp only [LV.tr]
    split at h
    · obtain ⟨h0, rfl⟩ := chk_sound h hc
      have h0 := of_decide_eq_true h0
      simp [binOp, Op.shift, LV.tr, show ¬ b < 0 by omega]
    · obtain ⟨h0, rfl⟩ := chk_sound h hc
      have h0 := of_decide_eq_true h0
      simp [binOp, Op.shift, LV.tr, show ¬ b < 0 by omega]
    · split at h
      · rename_i hk; subst hk
        obtain ⟨h0, rfl⟩ := chk_sound h hc
        have h0 : b ≠ 0 := by simpa using h0
        simp [binOp, Op.intDiv, LV.tr, h0]
      · cases h
    · split at h
      · rename_i hk; subst hk
        obtain ⟨h0, rfl⟩ := chk_sound h hc
        have h0 : b ≠ 0 := by simpa using h0
        simp [binOp, Op.intDiv, LV.tr, h0]
      · cases h
    · split at h
      · rename_i hk; subst hk
        exact ibin_sound w t (tst_sound h hc)
      · cases h
  · exact hagg _ _ rfl rfl
  · rename_i a b
    simp only [LV.tr]
    split at h
    · rename_i ht
      split at h
      · have := tst_sound h hc
        cases this
        simp [binOp, Op.equal, Op.maxDepth, run_equalIn_bool w 9999 ht a b, LV.tr]
      · have := tst_sound h hc
        cases this
        simp [binOp, Op.equal, Op.maxDepth, run_equalIn_bool w 9999 ht a b, LV.tr]
      · cases h
    · cases h
  · rename_i a b
    simp only [LV.tr]
    split at h
    · have := tst_sound h hc
      cases this
      simp [binOp, Op.stringOp, LV.tr, strEq_spec]
    · have := tst_sound h hc
      cases this
      simp [binOp, Op.stringOp, LV.tr, strEq_spec]
    · cases h
  · rename_i k o p
    simp only [LV.tr]
    split at h
    · rename_i e ht
      split at h
      · simp only [Option.some.injEq, Prod.mk.injEq] at h; obtain ⟨rfl, rfl⟩ := h
        simp [binOp, Op.equal, Op.maxDepth, run_equalIn_nilp w 9999 ht, LV.tr]
      · simp only [Option.some.injEq, Prod.mk.injEq] at h; obtain ⟨rfl, rfl⟩ := h
        simp [binOp, Op.equal, Op.maxDepth, run_equalIn_nilp w 9999 ht, LV.tr]
      · cases h
    · cases h
  · cases h

theorem run_sizeOf (w : World) {t : TypeId} {n : Nat} (h : sizeT P t = some n) : (sizeOf t).run P w = .ok n w := by
  unfold sizeT at h
  split at h
  · rename_i i hi
    cases h
    simp [sizeOf, typeInfo, hi]
  · cases h
theorem run_isAgg (w : World) {t : TypeId} {b : Bool} (h : agT P t = some b) : (isAgg t).run P w = .ok b w := by
  unfold agT at h
  split at h <;> simp only [Option.some.injEq, reduceCtorEq] at h <;> subst h
  · rename_i hd; simp [isAgg, run_underlying hd]
  · rename_i hd; simp [isAgg, run_underlying hd]
  · rename_i d hn1 hn2 hd
    simp only [isAgg, Sem.run_bind, run_underlying hd, Result.andThen_ok]
    cases d <;> first | rfl | exact absurd rfl (hn1 _) | exact absurd rfl (hn2 _ _)

theorem loc_add (l : Loc) (off n : Nat) : (l.at off).add n = l.at (off + n) := by
  unfold Loc.at
  rw [Addr.add_lit, Nat.add_assoc]

theorem adr_addF_go (d : Nat) : ∀ (p : List Stp) (o : Nat), p ≠ [] → adr o (addF.go p d) = adr o p + d
  | [], o, h => absurd rfl h
  | [s], o, _ => by simp [addF.go, adr]; omega
  | s :: s' :: p, o, _ => by
    simp only [addF.go]
    show adr (o + s.i * s.z + s.o) (addF.go (s' :: p) d) = adr (o + s.i * s.z + s.o) (s' :: p) + d
    exact adr_addF_go d (s' :: p) _ (by simp)
theorem adr_addF (o : Nat) (p : List Stp) (d : Nat) : adr (addF o p d).1 (addF o p d).2 = adr o p + d := by
  cases p with
  | nil => rfl
  | cons s p => exact adr_addF_go d (s :: p) o (by simp)
theorem adr_addE (i z : Nat) : ∀ (p : List Stp) (o : Nat), adr o (addE p i z) = adr o p + i * z
  | [], o => by simp [addE, adr]
  | [s], o => by
    simp only [addE]
    split
    · rename_i h
      have h1 := beqN (both h).1
      have h2 := beqN (both h).2
      simp only [adr, h1, h2, Nat.add_mul]
      omega
    · simp [adr]
  | s :: s' :: p, o => by
    simp only [addE]
    show adr (o + s.i * s.z + s.o) (addE (s' :: p) i z) = adr (o + s.i * s.z + s.o) (s' :: p) + i * z
    exact adr_addE i z (s' :: p) _

theorem fieldAt_sound (w : World) {s : TypeId} {b : Key} {o : Nat} {p : List Stp} {fs : Array Field} {f : Nat} {fd : Field} {n : Nat} (hs : P.underlying s = some (.struct fs)) (hf : fs[f]? = some fd) (hz : sizeT P fd.type = some (n + 1)) :
    (Instr.fieldAt s (LV.tr ρ (.ptr b o p : LV A)) f).run P w = .ok (LV.tr ρ (.ptr b (addF o p fd.offset).1 (addF o p fd.offset).2 : LV A)) w := by
  simp [Instr.fieldAt, run_underlying hs, hf, Instr.sureAddr, LV.tr, fieldPlace, run_sizeOf w hz, loc_add, adr_addF]

theorem indexAt_array (w : World) {t e : TypeId} {b : Key} {o : Nat} {p : List Stp} {len z : Nat} {k : IntKind} {i : Int} (ht : P.underlying t = some (.array len e)) (hz : sizeT P e = some z) (h : 0 ≤ i ∧ i < (len : Int)) :
    (Instr.indexAt t (LV.tr ρ (.ptr b o p : LV A)) (.int k i)).run P w = .ok (LV.tr ρ (.ptr b o (addE p i.toNat z) : LV A)) w := by
  simp [Instr.indexAt, run_underlying ht, Instr.sureAddr, LV.tr, asIntOf, run_sizeOf w hz, h.1, h.2, loc_add, adr_addE]
theorem indexAt_slice (w : World) {t e : TypeId} {a : Addr} {len cap z : Nat} {k : IntKind} {i : Int} (ht : P.underlying t = some (.slice e)) (hz : sizeT P e = some z) (h : 0 ≤ i ∧ i < (len : Int)) :
    (Instr.indexAt t (.slice (some a) len cap) (.int k i)).run P w = .ok (.pointer (some (a.add (i.toNat * z)))) w := by
  simp [Instr.indexAt, run_underlying ht, asIntOf, run_sizeOf w hz, h.1, h.2]

/-- A part of a struct or an array. -/
theorem part_sound [LawAb A] (w : World) {rc : Bool} {t : TypeId} {us : List (LV A)} {o : Nat} {p : List Stp} {v : LV A} {c : Cnd} (h : partV P rc t us o p = some (v, c)) (hc : condOk c) :
    (part t (cellsL ρ us).toArray (adr o p)).run P w = .ok (LV.tr ρ v) w ∧ ∀ q, kinL q us → v.kin q := by
  unfold partV at h
  split at h
  rotate_left
  · cases h
  rename_i n b hz hu
  split at h
  rotate_left
  · cases h
  rename_i r c' hr
  split at h
  rotate_left
  · cases h
  rename_i u hv
  simp only [Option.some.injEq, Prod.mk.injEq] at h
  obtain ⟨rfl, rfl⟩ := h
  refine ⟨?_, fun q hq => kin_ofUnits hv (kin_rdP _ _ _ _ _ _ hr hq)⟩
  obtain ⟨h1, h2⟩ := rdP_sound ρ _ _ _ _ _ _ hr hc
  have hlen := len_cellsL ρ us
  generalize adr o p = off at h1 h2 ⊢
  unfold part
  simp only [Sem.run_bind, run_isAgg w hu, Result.andThen_ok]
  cases b with
  | true =>
    simp only [ofUnits, Option.some.injEq] at hv
    subst hv
    simp [run_sizeOf w hz, LV.tr, h1]
  | false =>
    simp only [ofUnits] at hv
    split at hv
    · rename_i x
      have key : LV.cells ρ u = [LV.tr ρ u] ∧ u = x := by
        split at hv <;> first | (cases hv; done) | (cases hv; refine ⟨?_, rfl⟩; cases u <;> first | rfl | simp_all)
      obtain ⟨key, rfl⟩ := key
      simp only [cellsL, List.append_nil] at h1
      rw [key] at h1
      have hn : n = 1 := by
        have := congrArg List.length h1
        simp only [List.length_cons, List.length_nil, List.length_take, List.length_drop, hlen] at this
        omega
      subst hn
      have hlt : off < (cellsL ρ us).length := by omega
      have hg : (cellsL ρ us)[off]? = some (LV.tr ρ u) := by
        have : ((cellsL ρ us).drop off).take 1 = [(cellsL ρ us)[off]] := by
          rw [List.take_one]
          simp [List.head?_drop, List.getElem?_eq_getElem hlt]
        rw [this] at h1
        rw [List.getElem?_eq_getElem hlt]
        simpa using (List.cons.inj h1).1.symm
      simp [hg]
    · cases hv
end
end Go.Proofs.Ytjhjockdkpgpeaa.En
