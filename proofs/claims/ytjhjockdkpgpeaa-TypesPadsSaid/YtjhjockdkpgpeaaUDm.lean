/- DERIVED. The law TypesPads answers true whatever the input, and the input reads as it did: the given statement 'Rows.TypesPadsSaid'. -/
import Derived.Test.YtjhjockdkpgpeaaZdF
set_option linter.all false
namespace Go.Proofs.Ytjhjockdkpgpeaa.En
open Go Go.RowKit
set_option maxRecDepth 100000 in
theorem pdAV (n : Int) (L : Nat) (bb : Nat → Bool) (sp : Int) : (callF Try.prog (S9 true false L bb (conDecO fun _ _ _ => true)) 60 9 (arg9 n L sp) []).map (fun r => (r.1, r.2.2)) = some ((.bool true : LV Empty), some (pdA_G n L bb sp)) := by kernel_rfl
set_option maxRecDepth 100000 in
theorem pdBV (n : Int) (L : Nat) (bb : Nat → Bool) (sp : Int) : (callF Try.prog (S9 false false L bb (conDecO fun _ _ _ => true)) 60 9 (arg9 n L sp) []).map (fun r => (r.1, r.2.2)) = some ((.bool true : LV Empty), some (pdB_G n L bb sp)) := by kernel_rfl
set_option maxRecDepth 100000 in
theorem pdCV (n : Int) (L : Nat) (bb : Nat → Bool) (sp : Int) : (callF Try.prog (S9 false true L bb (conDecE fun _ _ _ => true)) 60 9 (arg9 n L sp) []).map (fun r => (r.1, r.2.2)) = some ((.bool true : LV Empty), some (pdC_G n L bb sp)) := by kernel_rfl
/-- The law's call answers true. -/
theorem tyPads_call (n : Int) (L : Nat) (bb : Nat → Bool) (sp : Int) (h0 : 0 ≤ sp) (h1 : sp < 256) {ρ : Key → Loc} {w : World} (hm : MemRel (inL L bb) ρ [] w) (hk : L ≤ (ρ (.inp 0 0)).cap) :
    Calls Try.prog 9 (trs ρ (arg9 n L sp)).toArray w fun e w' => e = .returned (.bool true) ∧ Below w.heap.size w w' := by
  have hI := inL_ok L bb
  have hkI : ∀ t i, kinL (okKey ([] : Mem Empty) ρ) (inL L bb t i) := by
    intro t i
    cases t with
    | succ t => trivial
    | zero =>
      cases i with
      | zero => exact ⟨fun _ => ⟨trivial, trivial⟩, trivial⟩
      | succ i => trivial
  by_cases hr : mN n % 8 = 0
  · exact calls_top (S9_ok ..) mixed (pdAV n L bb sp) (pdA_ok n L bb sp hr) hm ⟨trivial, hk, trivial, trivial⟩ hkI fun _ _ => rfl
  · by_cases hs : sp.fdiv (2 ^ (mN n % 8)) = 0
    · exact calls_top (S9_ok ..) mixed (pdBV n L bb sp) (pdB_ok n L bb sp hr hs) hm ⟨trivial, hk, trivial, trivial⟩ hkI fun _ _ => rfl
    · exact calls_top (S9_ok ..) mixed (pdCV n L bb sp) (pdC_ok n L bb sp h0 h1 hr hs) hm ⟨trivial, hk, trivial, trivial⟩ hkI fun _ _ => rfl
end Go.Proofs.Ytjhjockdkpgpeaa.En
namespace Go.Proofs.Ytjhjockdkpgpeaa.tyPads
open Go Go.ChangeShapes Go.WideShapes Go.ChangeAt Go.RowKit Go.Proofs.Ytjhjockdkpgpeaa.En

theorem u8_wf {x : Int} (h : (Lit.int .u8 x).wf = true) : 0 ≤ x ∧ x < 256 := by
  simp [Lit.wf, IntKind.min, IntKind.max, IntKind.bits, IntKind.signed] at h
  omega
theorem own : ownKnob Try.prog.godebug = none := by kernel_rfl
theorem laidOut : laidOutB Try.prog = true := by kernel_rfl
theorem cells4 : Try.prog.cellsOf 4 = 1 := by kernel_rfl
theorem bytes4 : Try.prog.bytesOf 4 = 1 := by kernel_rfl

set_option maxRecDepth 100000 in
theorem lifted (os : Os) (started : os.Started) (H : Type) (enc : TypeId × Value → H) :
    ReturnsInHanded {} Try.checked os 9 .any (Rows.typesPadsSpec.pre6 enc Try.prog Try.f9 Rows.typesPadsRow.domain false) (Rows.typesPadsSpec.post enc Try.prog Try.f9 false true false false) := by
  refine returnsInHanded_of_change_sized (C := Try.checked) own started (by kernel_rfl) Try.func9
    (ChangeSpec.witness6 (enc := enc) (C := Try.checked) false ⟨#[], #[.int .i64 0, .slice none 0 0, .int .u8 0], []⟩ 8 (by kernel_rfl) (by kernel_rfl) (by kernel_rfl) (by kernel_rfl)) ?_
  intro W base args ds gs before hval0 hW hcnd hwt _
  have hval : ∀ (j : Nat) t v, Try.f9.params[j]? = some t → args[j]? = some v → Value.okWide Try.prog W .any base t v := hval0
  have hW' := hW
  obtain ⟨p, q, hA0, hV, rfl, hfz, hnd⟩ := hW
  have hA : DataW.TrodAll enc Try.prog W 0 (fun _ => true) true Try.f9.params.toList args.toList ds p := hA0
  rw [Try.params9] at hA hval
  obtain ⟨v0, vs0, d0, ds0, p0, q0, hargs, rfl, rfl, h0, r0⟩ := trodAll_cons hA
  obtain ⟨v1, vs1, d1, ds1, p1, q1, rfl, rfl, rfl, h1, r1⟩ := trodAll_cons r0
  obtain ⟨v2, vs2, d2, ds2, p2, q2, rfl, rfl, rfl, h2, r2⟩ := trodAll_cons r1
  obtain ⟨rfl, rfl, rfl⟩ := trodAll_nil r2
  obtain rfl : args = #[v0, v1, v2] := by cases args; simp_all
  obtain ⟨rfl, rfl⟩ := trodVars_none hV
  have hw1 : ∀ n ∈ d1.weights Try.prog 29, n ≤ reachBytes := fun n hn => by
    have := List.all_eq_true.1 hwt n (DataW.weights_mem_each (P := Try.prog) (j := 1) (t := 29) (d := d1) (by rw [Try.params9]; rfl) rfl n hn)
    simpa using this
  obtain ⟨x, rfl, rfl, rfl, wx⟩ := open_int Try.underlying3 (hval 0 3 v0 rfl rfl) h0
  obtain ⟨sp, rfl, rfl, rfl, ws⟩ := open_int Try.underlying5 (hval 2 5 v2 rfl rfl) h2
  obtain ⟨a', len', cap', hv1⟩ := okWide_slice Try.underlying29 (hval 1 29 v1 rfl rfl)
  obtain ⟨fuel', hfu'⟩ := h1
  obtain ⟨L, bb, lb, hcs0, hlb, hL47, hg⟩ := open_boolsT Try.underlying29 Try.underlying4 cells4 bytes4 (x := (d1, p1)) (cs := [v1]) (by rw [hv1] at hfu' ⊢; exact hfu') hw1
  obtain rfl := (List.cons.inj hcs0).1
  clear hA0 hval0 hA hwt
  have hm : MemRel (inL L bb) (atLoc [lb]) [] W := came_mem rfl fun i u l' hu hl' => by
    match i, hu, hl' with
    | 0, hu, hl' =>
      cases hu; cases hl'
      refine ⟨fun hn => ⟨hlb.nil hn, ?_⟩, hlb.blk, fun j v hv => ?_⟩
      · have h2 := hlb.nil hn
        have h3 := hlb.cap
        show cszL [LV.rows L 1 _] = 0
        rw [csz_rows]; omega
      · obtain ⟨hj, rfl⟩ := cells_bools _ hv
        exact hg j hj
    | i + 1, hu, hl' => simp at hu
  refine (tyPads_call x L bb sp (u8_wf ws).1 (u8_wf ws).2 hm hlb.cap).mono fun e W' ⟨he, hB⟩ => ⟨_, he, ?_⟩
  exact law_post laidOut hW' rfl rfl (fun t ht => by
    rw [show Try.f9.params.toList = [3, 29, 5] from congrArg Array.toList Try.params9] at ht
    rcases List.mem_cons.1 ht with rfl | ht
    · exact ⟨by kernel_rfl, of_decide_eq_true (by kernel_rfl)⟩
    · rcases List.mem_cons.1 ht with rfl | ht
      · exact ⟨by kernel_rfl, of_decide_eq_true (by kernel_rfl)⟩
      · rw [List.mem_singleton] at ht
        subst ht
        exact ⟨by kernel_rfl, of_decide_eq_true (by kernel_rfl)⟩) (tb := 4) (by kernel_rfl) Try.underlying4 hB

theorem over : Rows.typesPadsRow.holds Try.pinned (OpenSpec.ofChange Rows.typesPadsSpec) :=
  OpenClaim.holds_of_wide 9 Try.f9 rfl rfl rfl rfl rfl rfl rfl ⟨rfl, rfl, rfl, rfl, rfl⟩ rfl rfl rfl rfl rfl (by kernel_rfl) Try.func9 (by kernel_rfl)
    (of_decide_eq_true (by kernel_rfl)) (by unfold Func.isWrapper; first | (rw [if_pos (by decide +kernel)]; kernel_rfl) | (rw [if_neg (by decide +kernel)]; exact ⟨rfl, rfl⟩))
    (fun os started H enc _ => lifted os started H enc)

theorem proved : Rows.TypesPadsSaid :=
  over
end Go.Proofs.Ytjhjockdkpgpeaa.tyPads
