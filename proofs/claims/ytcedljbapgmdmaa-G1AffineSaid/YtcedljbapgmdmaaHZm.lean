/- DERIVED. The law G1Affine answers true whatever the input, and the input reads as it did: the given statement 'Rows.G1AffineSaid'. -/
import Derived.Test.YtcedljbapgmdmaaZgE
import Derived.Test.YtcedljbapgmdmaaRows
import Derived.Test.YtcedljbapgmdmaaChecked
set_option linter.all false
namespace Go.Proofs.Ytcedljbapgmdmaa.g1Affine
open Go Go.ChangeShapes Go.WideShapes Go.ChangeAt Go.RowKit Go.Proofs.Ytcedljbapgmdmaa.En

theorem own : ownKnob Try.prog.godebug = none := by kernel_rfl
theorem laidOut : laidOutB Try.prog = true := by kernel_rfl
theorem cells5 : Try.prog.cellsOf 5 = 1 := by kernel_rfl

set_option maxRecDepth 100000 in
theorem lifted (os : Os) (started : os.Started) (H : Type) (enc : TypeId × Value → H) :
    ReturnsInHanded {} Try.checked os 3 .any (Rows.g1AffineSpec.pre6 enc Try.prog Try.f3 Rows.g1AffineRow.domain false) (Rows.g1AffineSpec.post enc Try.prog Try.f3 false true false false) := by
  refine returnsInHanded_of_change (C := Try.checked) own started (by kernel_rfl) Try.func3
    (ChangeSpec.witness6 (enc := enc) (C := Try.checked) false ⟨#[], #[.slice none 0 0, .slice none 0 0], []⟩ 8 (by kernel_rfl) (by kernel_rfl) (by kernel_rfl) (by kernel_rfl)) ?_
  intro W base args ds gs before hval0 hW hcnd _
  have hval : ∀ (j : Nat) t v, Try.f3.params[j]? = some t → args[j]? = some v → Value.okWide Try.prog W .any base t v := hval0
  have hW' := hW
  obtain ⟨p, q, hA0, hV, rfl, hfz, hnd⟩ := hW
  have hA : DataW.TrodAll enc Try.prog W 0 (fun _ => true) true Try.f3.params.toList args.toList ds p := hA0
  rw [Try.params3] at hA hval
  obtain ⟨v0, vs0, d0, ds0, p0, q0, hargs, rfl, rfl, h0, r0⟩ := trodAll_cons hA
  obtain ⟨v1, vs1, d1, ds1, p1, q1, rfl, rfl, rfl, h1, r1⟩ := trodAll_cons r0
  obtain ⟨rfl, rfl, rfl⟩ := trodAll_nil r1
  obtain rfl : args = #[v0, v1] := by cases args; simp_all
  obtain ⟨rfl, rfl⟩ := trodVars_none hV
  obtain ⟨n, f, l, rfl, hl, hc⟩ := open_nums Try.underlying22 Try.underlying5 cells5 (hval 0 22 v0 rfl rfl) h0
  obtain ⟨m, g, k, rfl, hk, hd⟩ := open_nums Try.underlying22 Try.underlying5 cells5 (hval 1 22 v1 rfl rfl) h1
  clear hA0 hval0 hA
  have hm : MemRel (in2 n f m g) (atLoc [l, k]) [] W := came_mem rfl fun i u l' hu hl' => by
    match i, hu, hl' with
    | 0, hu, hl' =>
      cases hu; cases hl'
      refine ⟨fun hn => ⟨hl.nil hn, ?_⟩, hl.blk, fun j v hv => ?_⟩
      · have h2 := hl.nil hn
        have h3 := hl.cap
        rw [csz_rows]; omega
      · obtain ⟨hj, rfl⟩ := cells_ints _ hv
        exact (hc j hj).1
    | 1, hu, hl' =>
      cases hu; cases hl'
      refine ⟨fun hn => ⟨hk.nil hn, ?_⟩, hk.blk, fun j v hv => ?_⟩
      · have h2 := hk.nil hn
        have h3 := hk.cap
        rw [csz_rows]; omega
      · obtain ⟨hj, rfl⟩ := cells_ints _ hv
        exact (hd j hj).1
    | i + 2, hu, hl' => simp at hu
  refine (affine_call n f m g hm hl.cap hk.cap).mono fun e W' ⟨he, hB⟩ => ⟨_, he, ?_⟩
  exact law_post laidOut hW' rfl rfl (fun t ht => by
    rw [show Try.f3.params.toList = [22, 22] from congrArg Array.toList Try.params3] at ht
    rcases List.mem_cons.1 ht with rfl | ht
    · exact ⟨by kernel_rfl, of_decide_eq_true (by kernel_rfl)⟩
    · rw [List.mem_singleton] at ht
      subst ht
      exact ⟨by kernel_rfl, of_decide_eq_true (by kernel_rfl)⟩) (tb := 4) (by kernel_rfl) Try.underlying4 hB

theorem over : Rows.g1AffineRow.holds Try.pinned (OpenSpec.ofChange Rows.g1AffineSpec) :=
  OpenClaim.holds_of_wide 3 Try.f3 rfl rfl rfl rfl rfl rfl rfl ⟨rfl, rfl, rfl, rfl, rfl⟩ rfl rfl rfl rfl rfl (by kernel_rfl) Try.func3 (by kernel_rfl)
    (of_decide_eq_true (by kernel_rfl)) (by unfold Func.isWrapper; first | (rw [if_pos (by decide +kernel)]; kernel_rfl) | (rw [if_neg (by decide +kernel)]; exact ⟨rfl, rfl⟩))
    (fun os started H enc _ => lifted os started H enc)

theorem proved : Rows.G1AffineSaid :=
  over
end Go.Proofs.Ytcedljbapgmdmaa.g1Affine
