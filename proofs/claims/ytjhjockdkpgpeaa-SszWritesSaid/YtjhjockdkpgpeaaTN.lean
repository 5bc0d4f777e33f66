/- DERIVED. The law SszWrites answers true whatever the input, and the input reads as it did: the given statement 'Rows.SszWritesSaid'. -/
import Derived.Test.YtjhjockdkpgpeaaVSR
import Derived.Test.YtjhjockdkpgpeaaTM
set_option linter.all false
namespace Go.Proofs.Ytjhjockdkpgpeaa.szWrites
open Go Go.ChangeShapes Go.WideShapes Go.ChangeAt Go.RowKit Go.Proofs.Ytjhjockdkpgpeaa.En

theorem own : ownKnob Try.prog.godebug = none := by kernel_rfl
theorem laidOut : laidOutB Try.prog = true := by kernel_rfl
theorem cells5 : Try.prog.cellsOf 5 = 1 := by kernel_rfl

set_option maxRecDepth 100000 in
theorem lifted (os : Os) (started : os.Started) (H : Type) (enc : TypeId × Value → H) :
    ReturnsInHanded {} Try.checked os 3 .any (Rows.sszWritesSpec.pre6 enc Try.prog Try.f3 Rows.sszWritesRow.domain false) (Rows.sszWritesSpec.post enc Try.prog Try.f3 false true false false) := by
  refine returnsInHanded_of_change_sized (C := Try.checked) own started (by kernel_rfl) Try.func3
    (ChangeSpec.witness6 (enc := enc) (C := Try.checked) false ⟨#[], #[.slice none 0 0], []⟩ 8 (by kernel_rfl) (by kernel_rfl) (by kernel_rfl) (by kernel_rfl)) ?_
  intro W base args ds gs before hval0 hW hcnd hwt _
  have hval : ∀ (j : Nat) t v, Try.f3.params[j]? = some t → args[j]? = some v → Value.okWide Try.prog W .any base t v := hval0
  have hW' := hW
  obtain ⟨p, q, hA0, hV, rfl, hfz, hnd⟩ := hW
  have hA : DataW.TrodAll enc Try.prog W 0 (fun _ => true) true Try.f3.params.toList args.toList ds p := hA0
  rw [Try.params3] at hA hval
  obtain ⟨v0, vs0, d0, ds0, p0, q0, hargs, rfl, rfl, h0, r0⟩ := trodAll_cons hA
  obtain ⟨rfl, rfl, rfl⟩ := trodAll_nil r0
  obtain rfl : args = #[v0] := by cases args; simp_all
  obtain ⟨rfl, rfl⟩ := trodVars_none hV
  have hw0 : ∀ n ∈ d0.weights Try.prog 22, n ≤ reachBytes := fun n hn => by
    have := List.all_eq_true.1 hwt n (DataW.weights_mem_each (P := Try.prog) (j := 0) (t := 22) (d := d0) (by rw [Try.params3]; rfl) rfl n hn)
    simpa using this
  obtain ⟨a, len, cap, hv0⟩ := okWide_slice Try.underlying22 (hval 0 22 v0 rfl rfl)
  obtain ⟨fuel, hfu⟩ := h0
  obtain ⟨n, l, V, hcs, hl, hn, hV'⟩ := open_steps (x := (d0, p0)) (cs := [v0]) (by rw [hv0] at hfu ⊢; exact hfu) hw0
  obtain rfl := (List.cons.inj hcs).1
  clear hA0 hval0 hA hwt
  have hlm : Came W ⟨0, 0, 0, true, none⟩ 0 := ⟨Nat.le_refl _, Nat.zero_le _, fun _ => rfl, fun h => by cases h⟩
  have hm := steps_mem (m := 0) (g := fun _ => 0) (lm := ⟨0, 0, 0, true, none⟩) hl hV' hlm (fun j hj => absurd hj (Nat.not_lt_zero j))
  refine (szWrites_call _ (stps_ok hn (by omega) hV') hm hl.cap (steps_kin hV')).mono fun e W' ⟨he, hB⟩ => ⟨_, he, ?_⟩
  exact law_post laidOut hW' rfl rfl (fun t ht => by
    rw [show Try.f3.params.toList = [22] from congrArg Array.toList Try.params3] at ht
    rw [List.mem_singleton] at ht
    subst ht
    exact ⟨by kernel_rfl, of_decide_eq_true (by kernel_rfl)⟩) (tb := 4) (by kernel_rfl) Try.underlying4 hB

theorem over : Rows.sszWritesRow.holds Try.pinned (OpenSpec.ofChange Rows.sszWritesSpec) :=
  OpenClaim.holds_of_wide 3 Try.f3 rfl rfl rfl rfl rfl rfl rfl ⟨rfl, rfl, rfl, rfl, rfl⟩ rfl rfl rfl rfl rfl (by kernel_rfl) Try.func3 (by kernel_rfl)
    (of_decide_eq_true (by kernel_rfl)) (by unfold Func.isWrapper; first | (rw [if_pos (by decide +kernel)]; kernel_rfl) | (rw [if_neg (by decide +kernel)]; exact ⟨rfl, rfl⟩))
    (fun os started H enc _ => lifted os started H enc)

theorem proved : Rows.SszWritesSaid :=
  over
end Go.Proofs.Ytjhjockdkpgpeaa.szWrites
