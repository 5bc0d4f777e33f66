/- DERIVED. Bytes in chunks, and numbers: the law's own run. -/
import Derived.Test.YtjhjockdkpgpeaaT5
set_option linter.all false
namespace Go.Proofs.Ytjhjockdkpgpeaa.En
open Go Go.RowKit

def advC (big : Bool) : Adv where
  il _ := false
  dec f r i := match f, r, i with
    | 5, 3, 2 => some big
    | 5, 5, 10 => some true
    | _, _, _ => none
  rc _ _ _ := false
  fz _ _ := false
  res _ _ := 20
noncomputable abbrev SC (big : Bool) (I : Inp Empty) : Sig Empty := sigOf (P := Try.prog) [conKnown, conChunk, conChunkR] [] [conPack, conPackR, conRoots] (I := I) [] noMs (advC big)
theorem SC_ok (big : Bool) {I : Inp Empty} (hI : InpOk I) : SigOk Try.prog (SC big I) := sigOf_ok _ _ _ _ (noMs_ok _) _ hI

def likeB (n : Nat) (f : Nat → Int) : Prop := n = n ∧ ∀ j, j < n → Like [(.int .u8 (f j) : LV Empty)] [.int .u8 (f j)]
theorem likeB_ok (n : Nat) (f : Nat → Int) : likeB n f := ⟨rfl, fun _ _ => Like.refl _⟩
def likeK (n : Nat) (f : Nat → Nat → Int) : Prop := n = n ∧ ∀ j, j < n → Like [(.rows 32 1 fun i => [.int .u8 (f j i)] : LV Empty)] [.rows 32 1 fun i => [.int .u8 (f j i)]]
theorem likeK_ok (n : Nat) (f : Nat → Nat → Int) : likeK n f := ⟨rfl, fun _ _ => Like.refl _⟩
def cC (n : Nat) (f : Nat → Int) (x : Int) : Prop :=
  decide ((2000 : Int) < (n : Int)) = false ∧ ((likeB n f ∧ n ≤ 2 ^ 46) ∧ (likeB n f ∧ n ≤ 2 ^ 46) ∧ (likeK (chunksN n) (chunkB n f) ∧ likeK (chunksN n) (chunkB n f) ∧ sameQ (chunksN n) (chunkB n f) (chunksN n) (chunkB n f)) ∧ eqRow (chunkN x) (chunkN x) 32 0 = true)
set_option maxRecDepth 100000 in
theorem chunks_run (n : Nat) (f : Nat → Int) (x : Int) : (callF Try.prog (SC false (inB n f)) 200 5 [.vec (.inp 0 0) n, .int .u64 x] []).map (fun r => (r.1, r.2.2)) = some ((.bool true : LV Empty), some (cC n f x)) := by kernel_rfl
set_option maxRecDepth 100000 in
theorem chunks_run_big (n : Nat) (f : Nat → Int) (x : Int) : (callF Try.prog (SC true (inB n f)) 200 5 [.vec (.inp 0 0) n, .int .u64 x] []).map (fun r => (r.1, r.2.2)) = some (.bool true, some (decide ((2000 : Int) < (n : Int)) = true)) := by kernel_rfl
/-- The law's call answers true. -/
theorem szChunks_call (n : Nat) (f : Nat → Int) (x : Int) {ρ : Key → Loc} {w : World} (hm : MemRel (inB n f) ρ [] w) (hk : n ≤ (ρ (.inp 0 0)).cap) :
    Calls Try.prog 5 (trs ρ [(.vec (.inp 0 0) n : LV Empty), .int .u64 x]).toArray w fun e w' => e = .returned (.bool true) ∧ Below w.heap.size w w' := by
  have hI := inB_ok n f
  have hkI : ∀ t i, kinL (okKey ([] : Mem Empty) ρ) (inB n f t i) := by
    intro t i
    cases t with
    | succ t => trivial
    | zero =>
      cases i with
      | zero => exact ⟨fun _ => ⟨trivial, trivial⟩, trivial⟩
      | succ i => trivial
  by_cases hb : 2000 < n
  · exact calls_top (SC_ok true hI) mixed (chunks_run_big n f x) (decide_eq_true (by omega)) hm ⟨hk, trivial, trivial⟩ hkI fun _ _ => rfl
  · refine calls_top (SC_ok false hI) mixed (chunks_run n f x) ?_ hm ⟨hk, trivial, trivial⟩ hkI fun _ _ => rfl
    refine ⟨decide_eq_false (by omega), ⟨likeB_ok _ _, by omega⟩, ⟨likeB_ok _ _, by omega⟩, ⟨likeK_ok _ _, likeK_ok _ _, rfl, ?_, fun _ _ _ _ => rfl⟩, eqRow_ok 32 0 fun _ _ _ => rfl⟩
    unfold chunksN; omega
end Go.Proofs.Ytjhjockdkpgpeaa.En
