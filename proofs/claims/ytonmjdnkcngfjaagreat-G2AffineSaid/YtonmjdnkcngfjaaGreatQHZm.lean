/- DERIVED. The law G2Affine answers true whatever the input, and the input reads as it did: the given statement 'Rows.G2AffineSaid'. -/
import Derived.Test.YtonmjdnkcngfjaaGreatZaG
import Derived.Test.YtonmjdnkcngfjaaGreatRows
import Derived.Test.YtonmjdnkcngfjaaGreatChecked
set_option linter.all false
namespace Go.Proofs.YtonmjdnkcngfjaaGreat.g2Affine
open Go Go.ChangeShapes Go.WideShapes Go.ChangeAt Go.RowKit Go.Proofs.YtonmjdnkcngfjaaGreat.En

theorem u8_wf {x : Int} (h : (Lit.int .u8 x).wf = true) : 0 ≤ x ∧ x < 256 := by
  simp [Lit.wf, IntKind.min, IntKind.max, IntKind.bits, IntKind.signed] at h
  omega
theorem own : ownKnob Tryz.prog.godebug = none := by kernel_rfl
theorem laidOut : laidOutB Tryz.prog = true := by kernel_rfl
theorem cells5 : Tryz.prog.cellsOf 5 = 1 := by kernel_rfl

set_option maxRecDepth 100000 in
theorem lifted (os : Os) (started : os.Started) (H : Type) (enc : TypeId × Value → H) :
    ReturnsInHanded {} Tryz.checked os 3 .any (Rows.g2AffineSpec.pre6 enc Tryz.prog Tryz.f3 Rows.g2AffineRow.domain false) (Rows.g2AffineSpec.post enc Tryz.prog Tryz.f3 false true false false) := by
  refine returnsInHanded_of_change (C := Tryz.checked) own started (by kernel_rfl) Tryz.func3
    (ChangeSpec.witness6 (enc := enc) (C := Tryz.checked) false ⟨#[], #[.slice none 0 0, .slice none 0 0], []⟩ 8 (by kernel_rfl) (by kernel_rfl) (by kernel_rfl) (by kernel_rfl)) ?_
  intro W base args ds gs before hval0 hW hcnd _
  have hval : ∀ (j : Nat) t v, Tryz.f3.params[j]? = some t → args[j]? = some v → Value.okWide Tryz.prog W .any base t v := hval0
  have hW' := hW
  obtain ⟨p, q, hA0, hV, rfl, hfz, hnd⟩ := hW
  have hA : DataW.TrodAll enc Tryz.prog W 0 (fun _ => true) true Tryz.f3.params.toList args.toList ds p := hA0
  rw [Tryz.params3] at hA hval
  obtain ⟨v0, vs0, d0, ds0, p0, q0, hargs, rfl, rfl, h0, r0⟩ := trodAll_cons hA
  obtain ⟨v1, vs1, d1, ds1, p1, q1, rfl, rfl, rfl, h1, r1⟩ := trodAll_cons r0
  obtain ⟨rfl, rfl, rfl⟩ := trodAll_nil r1
  obtain rfl : args = #[v0, v1] := by cases args; simp_all
  obtain ⟨rfl, rfl⟩ := trodVars_none hV
  obtain ⟨n0, f0, l0, rfl, hl0, hc0⟩ := open_nums Tryz.underlying22 Tryz.underlying5 cells5 (hval 0 22 v0 rfl rfl) h0
  obtain ⟨n1, f1, l1, rfl, hl1, hc1⟩ := open_nums Tryz.underlying22 Tryz.underlying5 cells5 (hval 1 22 v1 rfl rfl) h1
  clear hA0 hval0 hA
  have hm : MemRel (inOf [[.rows n0 1 fun j => [.int .u8 (f0 j)]], [.rows n1 1 fun j => [.int .u8 (f1 j)]]] : Inp En2.Fe) (atLoc [l0, l1]) [] W := came_mem rfl fun i u l' hu hl' => by
    match i, hu, hl' with
    | 0, hu, hl' =>
      cases hu; cases hl'
      refine ⟨fun hn => ⟨hl0.nil hn, ?_⟩, hl0.blk, fun j v hv => ?_⟩
      · have h2 := hl0.nil hn
        have h3 := hl0.cap
        rw [csz_rows]; omega
      · obtain ⟨hj, rfl⟩ := cells_ints _ hv
        exact (hc0 j hj).1
    | 1, hu, hl' =>
      cases hu; cases hl'
      refine ⟨fun hn => ⟨hl1.nil hn, ?_⟩, hl1.blk, fun j v hv => ?_⟩
      · have h2 := hl1.nil hn
        have h3 := hl1.cap
        rw [csz_rows]; omega
      · obtain ⟨hj, rfl⟩ := cells_ints _ hv
        exact (hc1 j hj).1
    | i + 2, hu, hl' => simp at hu
  have rg0 : rngB f0 0 n0 := fun j hj => by rw [Nat.zero_add]; exact u8_wf (hc0 j hj).2
  have rg1 : rngB f1 0 n1 := fun j hj => by rw [Nat.zero_add]; exact u8_wf (hc1 j hj).2
  refine (En2.affine_call n0 f0 n1 f1 hm hl0.cap hl1.cap).mono fun e W' ⟨he, hB⟩ => ⟨_, he, ?_⟩
  exact law_post laidOut hW' rfl rfl (fun t ht => by
    rw [show Tryz.f3.params.toList = [22, 22] from congrArg Array.toList Tryz.params3] at ht
    simp only [List.mem_cons, List.not_mem_nil, or_false] at ht
    rcases ht with rfl | rfl <;> exact ⟨by kernel_rfl, of_decide_eq_true (by kernel_rfl)⟩) (tb := 4) (by kernel_rfl) Tryz.underlying4 hB

theorem over : Rows.g2AffineRow.holds Tryz.pinned (OpenSpec.ofChange Rows.g2AffineSpec) :=
  OpenClaim.holds_of_wide 3 Tryz.f3 rfl rfl rfl rfl rfl rfl rfl ⟨rfl, rfl, rfl, rfl, rfl⟩ rfl rfl rfl rfl rfl (by kernel_rfl) Tryz.func3 (by kernel_rfl)
    (of_decide_eq_true (by kernel_rfl)) (by unfold Func.isWrapper; first | (rw [if_pos (by decide +kernel)]; kernel_rfl) | (rw [if_neg (by decide +kernel)]; exact ⟨rfl, rfl⟩))
    (fun os started H enc _ => lifted os started H enc)

theorem proved : Rows.G2AffineSaid :=
  over
end Go.Proofs.YtonmjdnkcngfjaaGreat.g2Affine
