/- DERIVED. A number's chunk, both ways. -/
import Derived.Test.YtjhjockdkpgpeaaT3
import Derived.Test.YtjhjockdkpgpeaaT4
set_option linter.all false
namespace Go.Proofs.Ytjhjockdkpgpeaa.En
open Go Go.RowKit

/-! ## a number's chunk -/
abbrev noI : Inp Empty := inOf []
theorem noI_ok : InpOk noI := inOf_ok fun l h => absurd h List.not_mem_nil
def chunkN (x : Int) (j : Nat) : Int := if j < 8 then IntKind.u8.wrap (x.fdiv (2 ^ (8 * j))) else 0
noncomputable abbrev chunkV (x : Int) : LV Empty := .agg [.rows 32 1 fun j => [.int .u8 (chunkN x j)]]
abbrev byteN (x : Int) (k : Nat) : Int := IntKind.u8.wrap (x.fdiv (2 ^ min (IntKind.i64.wrap (8 * (k : Int))).toNat 64))
abbrev byteP (x : Int) (k : Nat) : Int := IntKind.u8.wrap (x.fdiv (2 ^ min (IntKind.u64.wrap (IntKind.i64.wrap (8 * (k : Int)))).toNat 64))
theorem byteN_eq (x : Int) {k : Nat} (h : k < 8) : byteN x k = chunkN x k := by
  unfold chunkN byteN
  rw [if_pos h, IntWalk.i64_in _ (by omega), show min (8 * (k : Int)).toNat 64 = 8 * k by omega]
theorem byteP_eq (x : Int) {k : Nat} (h : k < 8) : byteP x k = chunkN x k := by
  unfold chunkN byteP
  rw [if_pos h, IntWalk.i64_in _ (by omega), IntWalk.u64_in _ (by omega), show min (8 * (k : Int)).toNat 64 = 8 * k by omega]
noncomputable def uintG (x : Int) : Nat → Nat → List (LV Empty)
  | 0, _ => []
  | k + 1, j => match k with
    | 0 => [[LV.int .u8 (byteN x 0)]].getD j []
    | k' + 1 => mrgR (Nat.blt j (k' + 1)) (uintG x (k' + 1) j) ([[LV.int .u8 (byteN x (k' + 1))]].getD (j - (k' + 1)) [])
theorem uintG_same (x : Int) : ∀ (k j : Nat), j < k → k ≤ 8 → Same (uintG x k j) [.int .u8 (chunkN x j)]
  | 0, j, h, _ => absurd h (Nat.not_lt_zero j)
  | 1, j, h, _ => by
    have e : j = 0 := by omega
    subst e
    exact Same.int (byteN_eq x (by omega))
  | k + 2, j, h, h8 => by
    show Same (mrgR (Nat.blt j (k + 1)) (uintG x (k + 1) j) _) _
    refine Same.lt (fun hj => uintG_same x (k + 1) j hj (by omega)) fun hj => ?_
    have e : j = k + 1 := by omega
    subst e
    rw [Nat.sub_self]
    exact Same.int (byteN_eq x (by omega))
noncomputable abbrev SX : Sig Empty := sigOf (P := Try.prog) [] [] [] (I := noI) [] noMs { advK with fz := fun _ _ => false }
set_option maxRecDepth 100000 in
theorem chunk_run (x : Int) : (callF Try.prog SX 200 31 [.int .u64 x] []).map (fun r => (r.1, r.2.2)) = some (.agg ((List.range 8).map (fun k => .int .u8 (byteP x k)) ++ List.replicate 24 (.int .u8 0)), none) := by kernel_rfl
set_option maxRecDepth 100000 in
theorem ref_chunk_run (x : Int) : (callF Try.prog SX 200 32 [.int .u64 x] []).map (fun r => (r.1, r.2.2)) = some (.agg [.rows 32 1 fun j => mrgR (Nat.blt j (Nat.min 8 32)) (uintG x 8 j) (zeros32.getD j [])], none) := by kernel_rfl

theorem tr_agg_same {us us' : List (LV Empty)} (h : Same us us') (ρ : Key → Loc) : LV.tr ρ (.agg us : LV Empty) = LV.tr ρ (.agg us') := by
  simp only [LV.tr, h ρ]
/-- A call of plain values, out of its run. -/
theorem plain_call {f : FuncId} {n : Nat} {args : List (LV Empty)} {S : Sig Empty} (hS : SigOk Try.prog S) (hI : S.inp = noI) {v v' : LV Empty} {c : Cnd} (h : (callF Try.prog S n f args []).map (fun r => (r.1, r.2.2)) = some (v', c)) (hc : condOk c)
    (ha : ∀ ρ ρ' : Key → Loc, trs ρ args = trs ρ' args) (hk : plainL args) (hv : ∀ ρ ρ' : Key → Loc, LV.tr ρ v' = LV.tr ρ' v) (ρ : Key → Loc) (w : World) :
    Calls Try.prog f (trs ρ args).toArray w fun e w' => e = .returned (LV.tr ρ v) ∧ Below w.heap.size w w' := by
  have := calls_top hS mixed h hc (ρ := fun _ => ⟨0, 0, 0, true, none⟩) (w := w) (by rw [hI]; exact nowhere_mem _ (fun _ => rfl) w) (plainL_kin _ _ hk) (fun t i => by rw [hI]; cases t <;> trivial) fun ρ ρ' => (hv ρ' ρ).trans (hv ρ ρ).symm
  rw [ha ρ fun _ => ⟨0, 0, 0, true, none⟩]
  refine this.mono ?_
  rintro e w' ⟨rfl, h2⟩
  exact ⟨by rw [hv _ ρ], h2⟩
theorem chunk_same (x : Int) : Same ((List.range 8).map (fun k => (.int .u8 (byteP x k) : LV Empty)) ++ List.replicate 24 (.int .u8 0)) [.rows 32 1 fun j => [.int .u8 (chunkN x j)]] := by
  have e : ∀ k, k < 8 → byteP x k = chunkN x k := fun k h => byteP_eq x h
  intro ρ
  have h0 : ∀ j, 8 ≤ j → chunkN x j = 0 := fun j h => if_neg (by omega)
  simp only [List.range, List.range.loop, List.map, List.replicate, List.cons_append, List.nil_append, cellsL, LV.cells, List.flatMap_cons, List.flatMap_nil, fitTo, e 0 (by omega), e 1 (by omega), e 2 (by omega), e 3 (by omega), e 4 (by omega), e 5 (by omega), e 6 (by omega), e 7 (by omega)]
  simp [h0]
theorem ref_chunk_same (x : Int) : Same [.rows 32 1 fun j => mrgR (Nat.blt j (Nat.min 8 32)) (uintG x 8 j) (zeros32.getD j [])] [(.rows 32 1 fun j => [.int .u8 (chunkN x j)] : LV Empty)] := by
  refine Same.rows rfl fun j hj => ?_
  refine Same.lt (fun h => uintG_same x 8 j (by have := Nat.lt_min.1 h; omega) (Nat.le_refl _)) fun h => Same.getD hj (Same.int ?_)
  exact (if_neg (fun h8 => h (Nat.lt_min.2 ⟨h8, by omega⟩))).symm
set_option maxRecDepth 100000 in
theorem ent31 : ∀ args w, (callFunc 31 args).run Try.prog w = .ok (.enter 31 args) w := ent_of (f := 31) (P := Try.prog) rfl rfl rfl
set_option maxRecDepth 100000 in
theorem ent32 : ∀ args w, (callFunc 32 args).run Try.prog w = .ok (.enter 32 args) w := ent_of (f := 32) (P := Try.prog) rfl rfl rfl
theorem SX_ok : SigOk Try.prog SX := sigOf_ok [] [] [] [] (noMs_ok _) _ noI_ok
noncomputable def chunkFn : List (LV Empty) → Option (LV Empty)
  | [.int .u64 x] => some (chunkV x)
  | _ => none
theorem chunkFn_kin (vs : List (LV Empty)) (v : LV Empty) (h : chunkFn vs = some v) : ∀ p, v.kin p := by
  unfold chunkFn at h
  split at h
  · cases h; exact fun p => ⟨fun i => ⟨trivial, trivial⟩, trivial⟩
  · cases h
noncomputable def conChunk : ConP Try.prog Empty where
  f := 31
  fn := chunkFn
  ent := ent31
  kin := chunkFn_kin
  call vs v h ρ w := by
    unfold chunkFn at h
    split at h
    · cases h
      exact plain_call SX_ok rfl (chunk_run _) trivial (fun _ _ => rfl) ⟨trivial, trivial⟩ (fun ρ ρ' => (tr_agg_same (chunk_same _) ρ).trans rfl) ρ w
    · cases h
noncomputable def conChunkR : ConP Try.prog Empty where
  f := 32
  fn := chunkFn
  ent := ent32
  kin := chunkFn_kin
  call vs v h ρ w := by
    unfold chunkFn at h
    split at h
    · cases h
      exact plain_call SX_ok rfl (ref_chunk_run _) trivial (fun _ _ => rfl) ⟨trivial, trivial⟩ (fun ρ ρ' => (tr_agg_same (ref_chunk_same _) ρ).trans rfl) ρ w
    · cases h
end Go.Proofs.Ytjhjockdkpgpeaa.En
