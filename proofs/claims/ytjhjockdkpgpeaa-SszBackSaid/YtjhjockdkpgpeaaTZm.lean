/- DERIVED. The law SszBack answers true whatever the input, and the input reads as it did: the given statement 'Rows.SszBackSaid'. -/
import Derived.Test.YtjhjockdkpgpeaaZbE
set_option linter.all false
namespace Go.Proofs.Ytjhjockdkpgpeaa.szBack
open Go Go.ChangeShapes Go.WideShapes Go.ChangeAt Go.RowKit Go.Proofs.Ytjhjockdkpgpeaa.En

theorem u8_wf {x : Int} (h : (Lit.int .u8 x).wf = true) : 0 ≤ x ∧ x < 256 := by
  simp [Lit.wf, IntKind.min, IntKind.max, IntKind.bits, IntKind.signed] at h
  omega
theorem own : ownKnob Try.prog.godebug = none := by kernel_rfl
theorem laidOut : laidOutB Try.prog = true := by kernel_rfl
theorem cells5 : Try.prog.cellsOf 5 = 1 := by kernel_rfl

set_option maxRecDepth 100000 in
theorem lifted (os : Os) (started : os.Started) (H : Type) (enc : TypeId × Value → H) :
    ReturnsInHanded {} Try.checked os 7 .any (Rows.sszBackSpec.pre6 enc Try.prog Try.f7 Rows.sszBackRow.domain false) (Rows.sszBackSpec.post enc Try.prog Try.f7 false true false false) := by
  refine returnsInHanded_of_change_sized (C := Try.checked) own started (by kernel_rfl) Try.func7
    (ChangeSpec.witness6 (enc := enc) (C := Try.checked) false ⟨#[], #[.slice none 0 0, .slice none 0 0], []⟩ 8 (by kernel_rfl) (by kernel_rfl) (by kernel_rfl) (by kernel_rfl)) ?_
  intro W base args ds gs before hval0 hW hcnd hwt _
  have hval : ∀ (j : Nat) t v, Try.f7.params[j]? = some t → args[j]? = some v → Value.okWide Try.prog W .any base t v := hval0
  have hW' := hW
  obtain ⟨p, q, hA0, hV, rfl, hfz, hnd⟩ := hW
  have hA : DataW.TrodAll enc Try.prog W 0 (fun _ => true) true Try.f7.params.toList args.toList ds p := hA0
  rw [Try.params7] at hA hval
  obtain ⟨v0, vs0, d0, ds0, p0, q0, hargs, rfl, rfl, h0, r0⟩ := trodAll_cons hA
  obtain ⟨v1, vs1, d1, ds1, p1, q1, rfl, rfl, rfl, h1, r1⟩ := trodAll_cons r0
  obtain ⟨rfl, rfl, rfl⟩ := trodAll_nil r1
  obtain rfl : args = #[v0, v1] := by cases args; simp_all
  obtain ⟨rfl, rfl⟩ := trodVars_none hV
  have hw0 : ∀ n ∈ d0.weights Try.prog 22, n ≤ reachBytes := fun n hn => by
    have := List.all_eq_true.1 hwt n (DataW.weights_mem_each (P := Try.prog) (j := 0) (t := 22) (d := d0) (by rw [Try.params7]; rfl) rfl n hn)
    simpa using this
  have hw1 : ∀ n ∈ d1.weights Try.prog 25, n ≤ reachBytes := fun n hn => by
    have := List.all_eq_true.1 hwt n (DataW.weights_mem_each (P := Try.prog) (j := 1) (t := 25) (d := d1) (by rw [Try.params7]; rfl) rfl n hn)
    simpa using this
  obtain ⟨a, len, cap, hv0⟩ := okWide_slice Try.underlying22 (hval 0 22 v0 rfl rfl)
  obtain ⟨a', len', cap', hv1⟩ := okWide_slice Try.underlying25 (hval 1 25 v1 rfl rfl)
  obtain ⟨fuel, hfu⟩ := h0
  obtain ⟨fuel', hfu'⟩ := h1
  obtain ⟨m, g, lm, hcs0, hlm, hm47, hg⟩ := open_numsT Try.underlying25 Try.underlying5 cells5' bytes5 (x := (d1, p1)) (cs := [v1]) (by rw [hv1] at hfu' ⊢; exact hfu') hw1
  obtain ⟨n, l, V, hcs1, hl, hn, hV'⟩ := open_steps (x := (d0, p0)) (cs := [v0]) (by rw [hv0] at hfu ⊢; exact hfu) hw0
  obtain rfl := (List.cons.inj hcs0).1
  obtain rfl := (List.cons.inj hcs1).1
  clear hA0 hval0 hA hwt
  have hm := steps_mem hl hV' hlm (fun j hj => (hg j hj).1)
  refine (szBack_call _ (stps_ok hn hm47 hV') (fun j hj => u8_wf (hg j hj).2) (fun k hk j hj => ?_) (fun k hk => ?_) hm hl.cap hlm.cap (steps_kin hV')).mono fun e W' ⟨he, hB⟩ => ⟨_, he, ?_⟩
  · have hk : k < n := hk
    have hj : j < (if k < n then (V k).lb else 0) := hj
    rw [if_pos hk] at hj
    exact u8_wf ((hV' k hk).bw j hj).2
  · have := (hV' k hk).xw
    simp [Lit.wf, IntKind.min, IntKind.max, IntKind.bits, IntKind.signed] at this
    show 0 ≤ (V k).x ∧ (V k).x < _
    omega
  exact law_post laidOut hW' rfl rfl (fun t ht => by
    rw [show Try.f7.params.toList = [22, 25] from congrArg Array.toList Try.params7] at ht
    rcases List.mem_cons.1 ht with rfl | ht
    · exact ⟨by kernel_rfl, of_decide_eq_true (by kernel_rfl)⟩
    · rw [List.mem_singleton] at ht
      subst ht
      exact ⟨by kernel_rfl, of_decide_eq_true (by kernel_rfl)⟩) (tb := 4) (by kernel_rfl) Try.underlying4 hB

theorem over : Rows.sszBackRow.holds Try.pinned (OpenSpec.ofChange Rows.sszBackSpec) :=
  OpenClaim.holds_of_wide 7 Try.f7 rfl rfl rfl rfl rfl rfl rfl ⟨rfl, rfl, rfl, rfl, rfl⟩ rfl rfl rfl rfl rfl (by kernel_rfl) Try.func7 (by kernel_rfl)
    (of_decide_eq_true (by kernel_rfl)) (by unfold Func.isWrapper; first | (rw [if_pos (by decide +kernel)]; kernel_rfl) | (rw [if_neg (by decide +kernel)]; exact ⟨rfl, rfl⟩))
    (fun os started H enc _ => lifted os started H enc)

theorem proved : Rows.SszBackSaid :=
  over
end Go.Proofs.Ytjhjockdkpgpeaa.szBack
