/- DERIVED. The chapter's example holds: a closed run. -/
import Derived.Test.YtjhjockdkpgpeaaT1
set_option linter.all false
namespace Go.Proofs.Ytjhjockdkpgpeaa.En
open Go Go.RowKit

def advK : Adv where
  il _ := true
  dec _ _ _ := none
  rc _ _ _ := false
  fz f _ := match f with
    | 55 => true
    | 29 => true
    | _ => false
  res _ _ := 60
noncomputable abbrev SK : Sig Empty := sigOf (P := Try.prog) [] [] [] (I := inOf []) [] noMs advK
set_option maxRecDepth 100000 in
theorem known_run : (callF Try.prog SK 200 13 [] []).map (fun r => (r.1, r.2.2)) = some (.bool true, none) := by kernel_rfl
theorem nowhere_mem (ρ : Key → Loc) (hρ : ∀ k, ρ k = ⟨0, 0, 0, true, none⟩) (w : World) : MemRel (inOf ([] : List (List (LV Empty)))) ρ [] w := by
  have e : ∀ t i, inOf ([] : List (List (LV Empty))) t i = [] := fun t i => by cases t <;> rfl
  refine memRel_nil _ ρ w (fun t i j v h => ?_) (fun t i h => ?_) (fun k h => ?_) (fun t i h => ?_)
  · rw [e] at h; simp [cellsL] at h
  · rw [hρ] at h; cases h
  · rw [hρ]
  · rw [e]; rfl
theorem known_call (w : World) : Calls Try.prog 13 #[] w fun e w' => e = .returned (.bool true) ∧ Below w.heap.size w w' := by
  have := calls_top (S := SK) (sigOf_ok [] [] [] [] (noMs_ok _) _ (inOf_ok fun l h => absurd h List.not_mem_nil)) mixed known_run trivial (ρ := fun _ => ⟨0, 0, 0, true, none⟩) (w := w) (nowhere_mem _ (fun _ => rfl) w) trivial (fun t i => by cases t <;> trivial) fun _ _ => rfl
  exact this
set_option maxRecDepth 100000 in
theorem ent13 : ∀ args w, (callFunc 13 args).run Try.prog w = .ok (.enter 13 args) w := ent_of (f := 13) (P := Try.prog) rfl rfl rfl
noncomputable def conKnown : ConP Try.prog Empty where
  f := 13
  fn vs := match vs with
    | [] => some (.bool true)
    | _ => none
  ent := ent13
  kin vs v h := by
    split at h
    · cases h; intro p; trivial
    · cases h
  call vs v h ρ w := by
    split at h
    · cases h; exact known_call w
    · cases h
end Go.Proofs.Ytjhjockdkpgpeaa.En
