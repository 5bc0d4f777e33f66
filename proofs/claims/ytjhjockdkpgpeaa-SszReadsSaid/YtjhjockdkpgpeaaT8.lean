/- DERIVED. Bytes held against each other. -/
import Derived.Test.YtjhjockdkpgpeaaT3
namespace Go.Proofs.Ytjhjockdkpgpeaa.En
open Go Go.RowKit

abbrev inBB (n : Nat) (f : Nat → Int) (m : Nat) (g : Nat → Int) : Inp Empty := inOf [bytesU n f, bytesU m g]
theorem inBB_ok (n : Nat) (f : Nat → Int) (m : Nat) (g : Nat → Int) : InpOk (inBB n f m g) := inOf_ok fun l hl => by
  rcases List.mem_cons.1 hl with rfl | hl
  · exact bytes_plain n f
  · rw [List.mem_singleton] at hl
    subst hl
    exact bytes_plain m g
def sameB (n : Nat) (f : Nat → Int) (m : Nat) (g : Nat → Int) : Prop := n = m ∧ ∀ j, j < n → f j = g j
def cBB (n : Nat) (f : Nat → Int) (m : Nat) (g : Nat → Int) : Prop :=
  (Nat.ble n n = true ∧ allB8 (fun j => [(.int .u8 (f j) : LV Empty)]) n = true) ∧ (Nat.ble m m = true ∧ allB8 (fun j => [(.int .u8 (g j) : LV Empty)]) m = true) ∧ strEq (strOf n fun j => [(.int .u8 (f j) : LV Empty)]) (strOf m fun j => [(.int .u8 (g j) : LV Empty)]) = true
set_option maxRecDepth 100000 in
theorem bytes_run (n : Nat) (f : Nat → Int) (m : Nat) (g : Nat → Int) : callF Try.prog (SQ true (inBB n f m g)) 40 23 [.vec (.inp 0 0) n, .vec (.inp 0 1) m] [] = some (.bool true, [].map some, some (cBB n f m g)) := by kernel_rfl
theorem strEq_refl (s : ByteArray) : strEq s s = true := by
  rw [strEq_spec]; simp
theorem bytes_told {n : Nat} {f : Nat → Int} {m : Nat} {g : Nat → Int} (h : sameB n f m g) : Told Try.prog 23 [bytesU n f, bytesU m g] [.vec (.inp 0 0) n, .vec (.inp 0 1) m] (.bool true) [] := by
  refine told_of (SQ_ok true (inBB_ok n f m g)) mixed rfl (bytes_run n f m g) ⟨⟨leB (Nat.le_refl _), allB8_of fun _ _ => rfl⟩, ⟨leB (Nat.le_refl _), allB8_of fun _ _ => rfl⟩, ?_⟩
  obtain ⟨rfl, h2⟩ := h
  have e : strOf n (fun j => [(.int .u8 (f j) : LV Empty)]) = strOf n fun j => [(.int .u8 (g j) : LV Empty)] := by
    unfold strOf
    congr 2
    exact List.map_congr_left fun j hj => by rw [show byteOf [(.int .u8 (f j) : LV Empty)] = f j from rfl, show byteOf [(.int .u8 (g j) : LV Empty)] = g j from rfl, h2 j (List.mem_range.1 hj)]
  rw [e]
  exact strEq_refl _
set_option maxRecDepth 100000 in
theorem ent23 : ∀ args w, (callFunc 23 args).run Try.prog w = .ok (.enter 23 args) w := ent_of (f := 23) (P := Try.prog) rfl rfl rfl
/-- Bytes that are the same. -/
noncomputable def conBytes : ConC Try.prog Empty := conRd 23 ent23 (rd2 (intS .u8) (intS .u8) (fun _ _ _ _ => .bool true) (fun _ _ _ _ => []) sameB)
  (rd2_ok (fun _ _ _ _ h => bytes_told h) fun _ _ _ _ => Fresh'.plain trivial)
end Go.Proofs.Ytjhjockdkpgpeaa.En
