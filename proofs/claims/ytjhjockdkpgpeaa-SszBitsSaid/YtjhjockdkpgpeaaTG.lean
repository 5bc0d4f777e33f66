/- DERIVED. The law SszBits answers true whatever the input, and the input reads as it did: the given statement 'Rows.SszBitsSaid'. -/
import Derived.Test.YtjhjockdkpgpeaaVSR
import Derived.Test.YtjhjockdkpgpeaaTF
set_option linter.all false
namespace Go.Proofs.Ytjhjockdkpgpeaa.szBits
open Go Go.ChangeShapes Go.WideShapes Go.ChangeAt Go.RowKit Go.Proofs.Ytjhjockdkpgpeaa.En

theorem u8_wf {x : Int} (h : (Lit.int .u8 x).wf = true) : 0 ≤ x ∧ x < 256 := by
  simp [Lit.wf, IntKind.min, IntKind.max, IntKind.bits, IntKind.signed] at h
  omega
theorem own : ownKnob Try.prog.godebug = none := by kernel_rfl
theorem laidOut : laidOutB Try.prog = true := by kernel_rfl
theorem cells5 : Try.prog.cellsOf 5 = 1 := by kernel_rfl

set_option maxRecDepth 100000 in
theorem lifted (os : Os) (started : os.Started) (H : Type) (enc : TypeId × Value → H) :
    ReturnsInHanded {} Try.checked os 4 .any (Rows.sszBitsSpec.pre6 enc Try.prog Try.f4 Rows.sszBitsRow.domain false) (Rows.sszBitsSpec.post enc Try.prog Try.f4 false true false false) := by
  refine returnsInHanded_of_change (C := Try.checked) own started (by kernel_rfl) Try.func4
    (ChangeSpec.witness6 (enc := enc) (C := Try.checked) false ⟨#[], #[.slice none 0 0, .int .i64 0], []⟩ 8 (by kernel_rfl) (by kernel_rfl) (by kernel_rfl) (by kernel_rfl)) ?_
  intro W base args ds gs before hval0 hW hcnd _
  have hval : ∀ (j : Nat) t v, Try.f4.params[j]? = some t → args[j]? = some v → Value.okWide Try.prog W .any base t v := hval0
  have hW' := hW
  obtain ⟨p, q, hA0, hV, rfl, hfz, hnd⟩ := hW
  have hA : DataW.TrodAll enc Try.prog W 0 (fun _ => true) true Try.f4.params.toList args.toList ds p := hA0
  rw [Try.params4] at hA hval
  obtain ⟨v0, vs0, d0, ds0, p0, q0, hargs, rfl, rfl, h0, r0⟩ := trodAll_cons hA
  obtain ⟨v1, vs1, d1, ds1, p1, q1, rfl, rfl, rfl, h1, r1⟩ := trodAll_cons r0
  obtain ⟨rfl, rfl, rfl⟩ := trodAll_nil r1
  obtain rfl : args = #[v0, v1] := by cases args; simp_all
  obtain ⟨rfl, rfl⟩ := trodVars_none hV
  obtain ⟨n, f, l, rfl, hl, hc⟩ := open_nums Try.underlying25 Try.underlying5 cells5 (hval 0 25 v0 rfl rfl) h0
  obtain ⟨x, rfl, rfl, rfl, w1⟩ := open_int Try.underlying3 (hval 1 3 v1 rfl rfl) h1
  clear hA0 hval0 hA
  have hm : MemRel (inB n f) (atLoc [l]) [] W := came_mem rfl fun i u l' hu hl' => by
    match i, hu, hl' with
    | 0, hu, hl' =>
      cases hu; cases hl'
      refine ⟨fun hn => ⟨hl.nil hn, ?_⟩, hl.blk, fun j v hv => ?_⟩
      · have h2 := hl.nil hn
        have h3 := hl.cap
        rw [csz_rows]; omega
      · obtain ⟨hj, rfl⟩ := cells_ints _ hv
        exact (hc j hj).1
    | i + 1, hu, hl' => simp at hu
  refine (szBits_call n f x (fun j hj => u8_wf (hc j hj).2) hm hl.cap).mono fun e W' ⟨he, hB⟩ => ⟨_, he, ?_⟩
  exact law_post laidOut hW' rfl rfl (fun t ht => by
    rw [show Try.f4.params.toList = [25, 3] from congrArg Array.toList Try.params4] at ht
    rcases List.mem_cons.1 ht with rfl | ht
    · exact ⟨by kernel_rfl, of_decide_eq_true (by kernel_rfl)⟩
    · rw [List.mem_singleton] at ht
      subst ht
      exact ⟨by kernel_rfl, of_decide_eq_true (by kernel_rfl)⟩) (tb := 4) (by kernel_rfl) Try.underlying4 hB

theorem over : Rows.sszBitsRow.holds Try.pinned (OpenSpec.ofChange Rows.sszBitsSpec) :=
  OpenClaim.holds_of_wide 4 Try.f4 rfl rfl rfl rfl rfl rfl rfl ⟨rfl, rfl, rfl, rfl, rfl⟩ rfl rfl rfl rfl rfl (by kernel_rfl) Try.func4 (by kernel_rfl)
    (of_decide_eq_true (by kernel_rfl)) (by unfold Func.isWrapper; first | (rw [if_pos (by decide +kernel)]; kernel_rfl) | (rw [if_neg (by decide +kernel)]; exact ⟨rfl, rfl⟩))
    (fun os started H enc _ => lifted os started H enc)

theorem proved : Rows.SszBitsSaid :=
  over
end Go.Proofs.Ytjhjockdkpgpeaa.szBits
