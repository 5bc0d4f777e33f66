/- DERIVED. Texts laid together: FV FW FX GA GB GC GD GE GF GH GI GJ GK FY QBB QBC QFO MA MP MQ MB MC. -/
import Derived.Test.YtonmjdnkcngfjaaGreatZaC
/- DERIVED. So many times a point, as bytes say: the contract. -/
set_option linter.all false
namespace Go.Proofs.YtonmjdnkcngfjaaGreat.En
open Go Go.RowKit

/-! ## bytes in a block -/
def flatI (k : IntKind) : List (LV Fe) → Option (List Int)
  | [] => some []
  | .int k' x :: l => match decide (k' = k), flatI k l with
    | true, some t => some (x :: t)
    | _, _ => none
  | _ => none
theorem flatI_some {k : IntKind} : ∀ {us : List (LV Fe)} {l : List Int}, flatI k us = some l → us = l.map fun x => .int k x
  | [], l, h => by cases h; rfl
  | .int k' x :: us, l, h => by
    simp only [flatI] at h
    split at h
    · rename_i t hk ht
      cases h
      have hk := of_decide_eq_true hk
      subst hk
      rw [flatI_some ht]; rfl
    · cases h
  | .any :: _, _, h => by cases h
  | .undef :: _, _, h => by cases h
  | .bool _ :: _, _, h => by cases h
  | .str _ :: _, _, h => by cases h
  | .ptr _ _ _ :: _, _, h => by cases h
  | .nilp :: _, _, h => by cases h
  | .slice _ _ _ _ _ :: _, _, h => by cases h
  | .vec _ _ :: _, _, h => by cases h
  | .nils :: _, _, h => by cases h
  | .nilfn :: _, _, h => by cases h
  | .niliface :: _, _, h => by cases h
  | .abs _ :: _, _, h => by cases h
  | .rows _ _ _ :: _, _, h => by cases h
  | .agg _ :: _, _, h => by cases h
  | .tup _ :: _, _, h => by cases h
  | .iface _ _ :: _, _, h => by cases h
  | .func _ _ :: _, _, h => by cases h
theorem plain_ints (k : IntKind) : ∀ l : List Int, plainL (l.map fun x => (.int k x : LV Fe))
  | [] => trivial
  | _ :: l => ⟨trivial, plain_ints k l⟩
theorem cells_flat (ρ : Key → Loc) (k : IntKind) : ∀ l : List Int, cellsL ρ (l.map fun x => (.int k x : LV Fe)) = l.map fun x => .int k x
  | [] => rfl
  | x :: l => by simp [cellsL, LV.cells, cells_flat ρ k l]
/-- A block of bytes: what it holds, told plainly. -/
structure Bys where
  us : List (LV Fe)
  n : Nat
  f : Nat → Int
  c : Prop
def bysU (us : List (LV Fe)) : Option Bys := match flatI .u8 us with
  | some l => some ⟨us, l.length, fun j => l.getD j 0, true = true⟩
  | none => match us with
    | [.rows n z g] => match Nat.beq z 1 with
      | true => some ⟨[.rows n 1 fun j => [.int .u8 (byteOf (g j))]], n, fun j => byteOf (g j), ∀ j, j < n → Like (g j) [.int .u8 (byteOf (g j))]⟩
      | false => none
    | _ => none
def bysOf (I : Inp Fe) (mem : Mem Fe) (k : Key) : Option Bys := match at? I mem k with
  | some bl => match isDead bl.kd with
    | false => bysU bl.us
    | true => none
  | none => none
theorem bysU_ok {us : List (LV Fe)} {b : Bys} (h : bysU us = some b) (hc : b.c) : plainL b.us ∧ Like us b.us ∧ ∀ ρ j, j < b.n → (cellsL ρ b.us)[j]? = some (.int .u8 (b.f j)) := by
  unfold bysU at h
  split at h
  · rename_i l hl
    cases h
    have e := flatI_some hl
    refine ⟨by rw [e]; exact plain_ints _ l, Like.refl _, fun ρ j hj => ?_⟩
    show (cellsL ρ us)[j]? = _
    rw [e, cells_flat, List.getElem?_map]
    have hj : j < l.length := hj
    simp [hj]
  · split at h
    · rename_i n z g _
      split at h
      · rename_i hz
        cases h
        have hz := beqN hz
        subst hz
        exact ⟨⟨fun _ => ⟨trivial, trivial⟩, trivial⟩, Like.rows hc fun i _ p _ => ⟨trivial, trivial⟩, fun ρ j hj => rows_cell ρ hj⟩
      · cases h
    · cases h
theorem bysOf_ok {I : Inp Fe} {mem : Mem Fe} {k : Key} {b : Bys} (h : bysOf I mem k = some b) (hc : b.c) : ∃ bl, at? I mem k = some bl ∧ isDead bl.kd = false ∧ plainL b.us ∧ Like bl.us b.us ∧ ∀ ρ j, j < b.n → (cellsL ρ b.us)[j]? = some (.int .u8 (b.f j)) := by
  unfold bysOf at h
  split at h
  · rename_i bl hb
    split at h
    · rename_i hd
      obtain ⟨h1, h2, h3⟩ := bysU_ok h hc
      exact ⟨bl, hb, hd, h1, h2, h3⟩
    · cases h
  · cases h
def rngB (f : Nat → Int) (i len : Nat) : Prop := ∀ j, j < len → 0 ≤ f (i + j) ∧ f (i + j) < 256

/-! ## groups of elements are plain -/
theorem pF_plain {l t : List (LV Fe)} {a : Fe} (h : pF l = some (a, t)) (ht : plainL t) : plainL l := by
  unfold pF at h
  split at h
  · cases h; exact ⟨trivial, ht⟩
  · split at h
    · cases h; exact ⟨trivial, trivial, trivial, trivial, trivial, trivial, ht⟩
    · cases h
  · cases h
theorem pFs_plain : ∀ (n : Nat) (l : List (LV Fe)) (t : List Fe), pFs n l = some t → plainL l
  | 0, [], _, _ => trivial
  | 0, _ :: _, t, h => by simp [pFs] at h
  | n + 1, l, t, h => by
    simp only [pFs] at h
    split at h
    · rename_i a r hp
      split at h
      · rename_i t' ht
        exact pF_plain hp (pFs_plain n r t' ht)
      · cases h
    · cases h
theorem pA_plain : ∀ (ks : List Nat) (vs : List (LV Fe)) (xs : List (List Fe)), pA ks vs = some xs → plainL vs
  | [], vs, xs, h => by
    unfold pA at h
    split at h
    · trivial
    · cases h
  | k :: ks, vs, xs, h => by
    unfold pA at h
    split at h
    · rename_i l t
      split at h
      · rename_i a ha
        split at h
        · rename_i b hb
          exact ⟨pFs_plain k l a ha, pA_plain ks t b hb⟩
        · cases h
      · cases h
    · cases h
theorem told_group {f : FuncId} {us : List (List (LV Fe))} {u x : LV Fe} {k : Nat} {xs : List Fe} {v : LV Fe} {bls : List (Blk Fe)} (hu : pA [k] [u] = some [xs]) (h : Told Tryz.prog f us [bF xs, x] v bls) : Told Tryz.prog f us [u, x] v bls := by
  intro D ρ w ha
  have e := (pA_trs _ _ _ hu).2 ρ
  have e : LV.tr ρ u = LV.tr ρ (bF xs) := by
    have : [LV.tr ρ u] = [LV.tr ρ (bF xs)] := e
    exact List.head_eq_of_cons_eq this
  have e2 : trs ρ [u, x] = trs ρ [bF xs, x] := by simp only [trs, e]
  rw [e2]
  refine h D ρ w ⟨ha.mem, ha.mine, ha.new, ⟨?_, ha.kinV.2⟩, ha.kinM⟩
  have : ∀ l : List Fe, plainL (absL l) := fun l => by
    induction l with
    | nil => trivial
    | cons a l ih => exact ⟨trivial, ih⟩
  exact plain_kin _ _ (show LV.plain (bF xs) from this xs)

/-! ## the contract -/
def cmulC (I : Inp Fe) (vs : List (LV Fe)) (mem : Mem Fe) : Option (RdC Fe) := match vs with
  | [u, x] => match pA [3] [u] with
    | some [[a, b, c]] => match x with
      | .nils => some ⟨[], [], [u, .nils], ptV (mulF (a, b, c) 0 fun _ => 0), [], true = true⟩
      | .vec k n => match bysOf I mem k with
        | some y => some ⟨[y.us], [k], [u, .vec (.inp 0 0) n], ptV (mulF (a, b, c) n y.f), [], y.c ∧ y.n = n ∧ rngB y.f 0 n ∧ n * 8 ≤ 140737488351232⟩
        | none => none
      | .slice k o q len cap => match o, q with
        | 0, [] => match bysOf I mem k with
          | some y => some ⟨[y.us], [k], [u, .slice (.inp 0 0) 0 [] len cap], ptV (mulF (a, b, c) len y.f), [], y.c ∧ len ≤ y.n ∧ rngB y.f 0 len ∧ len * 8 ≤ 140737488351232⟩
          | none => none
        | 0, [s] => match Nat.beq s.z 1, Nat.beq s.o 0, bysOf I mem k with
          | true, true, some y => some ⟨[y.us], [k], [u, .slice (.inp 0 0) 0 [⟨s.i, 1, 0⟩] len cap], ptV (mulF (a, b, c) len fun j => y.f (s.i + j)), [], y.c ∧ s.i + len ≤ y.n ∧ rngB y.f s.i len ∧ len * 8 ≤ 140737488351232⟩
          | _, _, _ => none
        | _, _ => none
      | _ => none
    | _ => none
  | _ => none
theorem nil_bytes (ρ : Key → Loc) (w : World) (n0 : Nat) : BytesAt n0 w (LV.tr ρ (.nils : LV Fe)) 0 fun _ => 0 := .inl ⟨none, 0, rfl, rfl⟩
/-- What a contract of one group and one slice owes. -/
theorem rdOk_gs {f : FuncId} {I : Inp Fe} {mem : Mem Fe} {u x x' : LV Fe} {k : Key} {y : Bys} {v : LV Fe} {c : Prop} (hu : plainL [u]) (hv : LV.plain v) (hx : x'.ren (keyMap [] (ιOf [k])) = x ∧ x'.fit (keyMap [] (ιOf [k])) (there ([] : Mem Fe))) (hy : bysOf I mem k = some y) (hc : y.c) (h : Told Tryz.prog f [y.us] [u, x'] v []) :
    RdOk Tryz.prog f I [u, x] mem ⟨[y.us], [k], [u, x'], v, [], c⟩ where
  args := by
    show [u.ren _, x'.ren _] = [u, x]
    rw [(plain_ren _ (fun _ => True) u hu.1).1, hx.1]
  fit := ⟨(plain_ren _ _ u hu.1).2, hx.2, trivial⟩
  len := rfl
  blk j k' us hk hus := by
    match j with
    | 0 =>
      cases hk; cases hus
      obtain ⟨bl, h1, h2, h3, h4, _⟩ := bysOf_ok hy hc
      exact ⟨bl, h1, h2, h3, h4⟩
    | j + 1 => simp at hk
  told := h
  fitv := (plain_ren _ _ v hv).2
  fitb b hb := absurd hb List.not_mem_nil
end Go.Proofs.YtonmjdnkcngfjaaGreat.En

/- DERIVED. Powers of an element by written digits. -/
set_option linter.all false
namespace Go.Proofs.YtonmjdnkcngfjaaGreat.En
open Go Go.RowKit

def fone : Fe := ofSix 0x760900000002fffd 0xebf4000bc40c0002 0x5f48985753c758ba 0x77ce585370525745 0x5c071a97a256ec6d 0x15f65ec3fa80e493
def sq4 (o : Fe) : Fe :=
  let x := fmul o o
  let y := fmul x x
  let z := fmul y y
  fmul z z
def tabF (a : Fe) : Nat → Fe
  | 0 => fone
  | n + 1 => fmul (tabF a n) a
def digF (a o : Fe) : Nat → Fe
  | 0 => o
  | d + 1 => fmul o (tabF a (d + 1))
def powG (a : Fe) : List Nat → Fe → Fe
  | [], o => o
  | d :: l, o => powG a l (digF a (sq4 o) d)
def powF (a : Fe) : List Nat → Fe
  | [] => fone
  | d :: l => powG a l (digF a fone d)
/-- Hexadecimal digits. -/
def hexD : List UInt8 → List Nat
  | [] => []
  | c :: l => (match Nat.ble 97 c.toNat with
    | true => c.toNat - 87
    | false => c.toNat - 48) :: hexD l
def sLess2 : List UInt8 := [49, 97, 48, 49, 49, 49, 101, 97, 51, 57, 55, 102, 101, 54, 57, 97, 52, 98, 49, 98, 97, 55, 98, 54, 52, 51, 52, 98, 97, 99, 100, 55, 54, 52, 55, 55, 52, 98, 56, 52, 102, 51, 56, 53, 49, 50, 98, 102, 54, 55, 51, 48, 100, 50, 97, 48, 102, 54, 98, 48, 102, 54, 50, 52, 49, 101, 97, 98, 102, 102, 102, 101, 98, 49, 53, 51, 102, 102, 102, 102, 98, 57, 102, 101, 102, 102, 102, 102, 102, 102, 102, 102, 97, 97, 97, 57]
def sQuarter : List UInt8 := [54, 56, 48, 52, 52, 55, 97, 56, 101, 53, 102, 102, 57, 97, 54, 57, 50, 99, 54, 101, 57, 101, 100, 57, 48, 100, 50, 101, 98, 51, 53, 100, 57, 49, 100, 100, 50, 101, 49, 51, 99, 101, 49, 52, 52, 97, 102, 100, 57, 99, 99, 51, 52, 97, 56, 51, 100, 97, 99, 51, 100, 56, 57, 48, 55, 97, 97, 102, 102, 102, 102, 97, 99, 53, 52, 102, 102, 102, 102, 101, 101, 55, 102, 98, 102, 102, 102, 102, 102, 102, 102, 101, 97, 97, 98]
set_option maxRecDepth 100000 in
def powA_G (a : Fe) : Prop := (true = true ∧ true = true ∧ true = true) ∧ (true = true ∧ true = true ∧ true = true) ∧ (true = true ∧ true = true ∧ true = true) ∧ (true = true ∧ true = true ∧ true = true) ∧ (true = true ∧ true = true ∧ true = true) ∧ (true = true ∧ true = true ∧ true = true) ∧ (true = true ∧ true = true ∧ true = true) ∧ (true = true ∧ true = true ∧ true = true) ∧ (true = true ∧ true = true ∧ true = true) ∧ (true = true ∧ true = true ∧ true = true) ∧ (true = true ∧ true = true ∧ true = true) ∧ (true = true ∧ true = true ∧ true = true) ∧ (true = true ∧ true = true ∧ true = true) ∧ (true = true ∧ true = true ∧ true = true) ∧ (true = true ∧ true = true ∧ true = true) ∧ (true = true ∧ true = true ∧ true = true) ∧ (true = true ∧ true = true) ∧ (true = true ∧ true = true) ∧ true = true ∧ (true = true ∧ true = true) ∧ true = true ∧ true = true ∧ (true = true ∧ true = true) ∧ true = true ∧ (true = true ∧ true = true) ∧ true = true ∧ (true = true ∧ true = true) ∧ true = true ∧ (true = true ∧ true = true) ∧ true = true ∧ (true = true ∧ true = true) ∧ true = true ∧ (true = true ∧ true = true) ∧ true = true ∧ (true = true ∧ true = true) ∧ true = true ∧ (true = true ∧ true = true) ∧ true = true ∧ (true = true ∧ true = true) ∧ true = true ∧ (true = true ∧ true = true) ∧ true = true ∧ (true = true ∧ true = true) ∧ true = true ∧ (true = true ∧ true = true) ∧ true = true ∧ (true = true ∧ true = true) ∧ true = true ∧ (true = true ∧ true = true) ∧ true = true ∧ (true = true ∧ true = true) ∧ true = true ∧ (true = true ∧ true = true) ∧ true = true ∧ (true = true ∧ true = true) ∧ true = true ∧ (true = true ∧ true = true) ∧ true = true ∧ (true = true ∧ true = true) ∧ true = true ∧ (true = true ∧ true = true) ∧ true = true ∧ (true = true ∧ true = true) ∧ true = true ∧ (true = true ∧ true = true) ∧ true = true ∧ (true = true ∧ true = true) ∧ true = true ∧ (true = true ∧ true = true) ∧ true = true ∧ (true = true ∧ true = true) ∧ true = true ∧ (true = true ∧ true = true) ∧ true = true ∧ (true = true ∧ true = true) ∧ true = true ∧ (true = true ∧ true = true) ∧ true = true ∧ (true = true ∧ true = true) ∧ true = true ∧ (true = true ∧ true = true) ∧ true = true ∧ (true = true ∧ true = true) ∧ true = true ∧ (true = true ∧ true = true) ∧ true = true ∧ (true = true ∧ true = true) ∧ true = true ∧ (true = true ∧ true = true) ∧ true = true ∧ (true = true ∧ true = true) ∧ true = true ∧ (true = true ∧ true = true) ∧ true = true ∧ (true = true ∧ true = true) ∧ true = true ∧ (true = true ∧ true = true) ∧ true = true ∧ (true = true ∧ true = true) ∧ true = true ∧ (true = true ∧ true = true) ∧ true = true ∧ (true = true ∧ true = true) ∧ true = true ∧ (true = true ∧ true = true) ∧ true = true ∧ (true = true ∧ true = true) ∧ true = true ∧ (true = true ∧ true = true) ∧ true = true ∧ (true = true ∧ true = true) ∧ true = true ∧ (true = true ∧ true = true) ∧ true = true ∧ (true = true ∧ true = true) ∧ true = true ∧ (true = true ∧ true = true) ∧ true = true ∧ true = true ∧ (true = true ∧ true = true) ∧ true = true ∧ (true = true ∧ true = true) ∧ true = true ∧ (true = true ∧ true = true) ∧ true = true ∧ true = true ∧ (true = true ∧ true = true) ∧ true = true ∧ (true = true ∧ true = true) ∧ true = true ∧ (true = true ∧ true = true) ∧ true = true ∧ true = true ∧ (true = true ∧ true = true) ∧ true = true ∧ (true = true ∧ true = true) ∧ true = true ∧ (true = true ∧ true = true) ∧ true = true ∧ (true = true ∧ true = true) ∧ true = true ∧ (true = true ∧ true = true) ∧ true = true ∧ (true = true ∧ true = true) ∧ true = true ∧ (true = true ∧ true = true) ∧ true = true ∧ (true = true ∧ true = true) ∧ true = true ∧ (true = true ∧ true = true) ∧ true = true ∧ (true = true ∧ true = true) ∧ true = true ∧ (true = true ∧ true = true) ∧ true = true ∧ (true = true ∧ true = true) ∧ true = true ∧ (true = true ∧ true = true) ∧ true = true ∧ (true = true ∧ true = true) ∧ true = true ∧ (true = true ∧ true = true) ∧ true = true ∧ (true = true ∧ true = true) ∧ true = true ∧ (true = true ∧ true = true) ∧ true = true ∧ (true = true ∧ true = true) ∧ true = true ∧ (true = true ∧ true = true) ∧ true = true ∧ (true = true ∧ true = true) ∧ true = true ∧ (true = true ∧ true = true) ∧ true = true ∧ (true = true ∧ true = true) ∧ true = true ∧ (true = true ∧ true = true) ∧ true = true ∧ (true = true ∧ true = true) ∧ true = true ∧ (true = true ∧ true = true) ∧ true = true ∧ (true = true ∧ true = true) ∧ true = true ∧ (true = true ∧ true = true) ∧ true = true ∧ (true = true ∧ true = true) ∧ true = true ∧ (true = true ∧ true = true) ∧ true = true ∧ (true = true ∧ true = true) ∧ true = true ∧ (true = true ∧ true = true) ∧ true = true ∧ (true = true ∧ true = true) ∧ true = true ∧ (true = true ∧ true = true) ∧ true = true ∧ (true = true ∧ true = true) ∧ true = true ∧ (true = true ∧ true = true) ∧ true = true ∧ (true = true ∧ true = true) ∧ true = true
set_option maxRecDepth 100000 in
theorem powA (a : Fe) : (callF Tryz.prog SG1 300 152 [bF [a], .str ⟨⟨sLess2⟩⟩] []).map (fun r => (r.1, r.2.2)) = some (.agg [.abs (powF a (hexD sLess2))], some (powA_G a)) := by kernel_rfl
set_option maxRecDepth 100000 in
def powB_G (a : Fe) : Prop := (true = true ∧ true = true ∧ true = true) ∧ (true = true ∧ true = true ∧ true = true) ∧ (true = true ∧ true = true ∧ true = true) ∧ (true = true ∧ true = true ∧ true = true) ∧ (true = true ∧ true = true ∧ true = true) ∧ (true = true ∧ true = true ∧ true = true) ∧ (true = true ∧ true = true ∧ true = true) ∧ (true = true ∧ true = true ∧ true = true) ∧ (true = true ∧ true = true ∧ true = true) ∧ (true = true ∧ true = true ∧ true = true) ∧ (true = true ∧ true = true ∧ true = true) ∧ (true = true ∧ true = true ∧ true = true) ∧ (true = true ∧ true = true ∧ true = true) ∧ (true = true ∧ true = true ∧ true = true) ∧ (true = true ∧ true = true ∧ true = true) ∧ (true = true ∧ true = true ∧ true = true) ∧ (true = true ∧ true = true) ∧ (true = true ∧ true = true) ∧ true = true ∧ (true = true ∧ true = true) ∧ true = true ∧ true = true ∧ (true = true ∧ true = true) ∧ true = true ∧ (true = true ∧ true = true) ∧ true = true ∧ (true = true ∧ true = true) ∧ true = true ∧ (true = true ∧ true = true) ∧ true = true ∧ (true = true ∧ true = true) ∧ true = true ∧ (true = true ∧ true = true) ∧ true = true ∧ (true = true ∧ true = true) ∧ true = true ∧ (true = true ∧ true = true) ∧ true = true ∧ (true = true ∧ true = true) ∧ true = true ∧ (true = true ∧ true = true) ∧ true = true ∧ (true = true ∧ true = true) ∧ true = true ∧ (true = true ∧ true = true) ∧ true = true ∧ (true = true ∧ true = true) ∧ true = true ∧ (true = true ∧ true = true) ∧ true = true ∧ (true = true ∧ true = true) ∧ true = true ∧ (true = true ∧ true = true) ∧ true = true ∧ (true = true ∧ true = true) ∧ true = true ∧ (true = true ∧ true = true) ∧ true = true ∧ (true = true ∧ true = true) ∧ true = true ∧ (true = true ∧ true = true) ∧ true = true ∧ (true = true ∧ true = true) ∧ true = true ∧ true = true ∧ (true = true ∧ true = true) ∧ true = true ∧ (true = true ∧ true = true) ∧ true = true ∧ (true = true ∧ true = true) ∧ true = true ∧ (true = true ∧ true = true) ∧ true = true ∧ (true = true ∧ true = true) ∧ true = true ∧ (true = true ∧ true = true) ∧ true = true ∧ (true = true ∧ true = true) ∧ true = true ∧ (true = true ∧ true = true) ∧ true = true ∧ (true = true ∧ true = true) ∧ true = true ∧ (true = true ∧ true = true) ∧ true = true ∧ (true = true ∧ true = true) ∧ true = true ∧ (true = true ∧ true = true) ∧ true = true ∧ (true = true ∧ true = true) ∧ true = true ∧ (true = true ∧ true = true) ∧ true = true ∧ (true = true ∧ true = true) ∧ true = true ∧ (true = true ∧ true = true) ∧ true = true ∧ (true = true ∧ true = true) ∧ true = true ∧ (true = true ∧ true = true) ∧ true = true ∧ (true = true ∧ true = true) ∧ true = true ∧ (true = true ∧ true = true) ∧ true = true ∧ (true = true ∧ true = true) ∧ true = true ∧ (true = true ∧ true = true) ∧ true = true ∧ (true = true ∧ true = true) ∧ true = true ∧ (true = true ∧ true = true) ∧ true = true ∧ (true = true ∧ true = true) ∧ true = true ∧ (true = true ∧ true = true) ∧ true = true ∧ (true = true ∧ true = true) ∧ true = true ∧ (true = true ∧ true = true) ∧ true = true ∧ (true = true ∧ true = true) ∧ true = true ∧ (true = true ∧ true = true) ∧ true = true ∧ (true = true ∧ true = true) ∧ true = true ∧ (true = true ∧ true = true) ∧ true = true ∧ (true = true ∧ true = true) ∧ true = true ∧ (true = true ∧ true = true) ∧ true = true ∧ (true = true ∧ true = true) ∧ true = true ∧ (true = true ∧ true = true) ∧ true = true ∧ (true = true ∧ true = true) ∧ true = true ∧ (true = true ∧ true = true) ∧ true = true ∧ true = true ∧ (true = true ∧ true = true) ∧ true = true ∧ (true = true ∧ true = true) ∧ true = true ∧ (true = true ∧ true = true) ∧ true = true ∧ (true = true ∧ true = true) ∧ true = true ∧ (true = true ∧ true = true) ∧ true = true ∧ (true = true ∧ true = true) ∧ true = true ∧ (true = true ∧ true = true) ∧ true = true ∧ (true = true ∧ true = true) ∧ true = true ∧ (true = true ∧ true = true) ∧ true = true ∧ (true = true ∧ true = true) ∧ true = true ∧ (true = true ∧ true = true) ∧ true = true ∧ (true = true ∧ true = true) ∧ true = true ∧ (true = true ∧ true = true) ∧ true = true ∧ (true = true ∧ true = true) ∧ true = true ∧ (true = true ∧ true = true) ∧ true = true ∧ (true = true ∧ true = true) ∧ true = true ∧ (true = true ∧ true = true) ∧ true = true ∧ (true = true ∧ true = true) ∧ true = true ∧ (true = true ∧ true = true) ∧ true = true ∧ (true = true ∧ true = true) ∧ true = true ∧ (true = true ∧ true = true) ∧ true = true ∧ (true = true ∧ true = true) ∧ true = true ∧ (true = true ∧ true = true) ∧ true = true ∧ (true = true ∧ true = true) ∧ true = true ∧ (true = true ∧ true = true) ∧ true = true ∧ (true = true ∧ true = true) ∧ true = true ∧ (true = true ∧ true = true) ∧ true = true ∧ (true = true ∧ true = true) ∧ true = true ∧ (true = true ∧ true = true) ∧ true = true ∧ (true = true ∧ true = true) ∧ true = true ∧ (true = true ∧ true = true) ∧ true = true
set_option maxRecDepth 100000 in
theorem powB (a : Fe) : (callF Tryz.prog SG1 300 152 [bF [a], .str ⟨⟨sQuarter⟩⟩] []).map (fun r => (r.1, r.2.2)) = some (.agg [.abs (powF a (hexD sQuarter))], some (powB_G a)) := by kernel_rfl
end Go.Proofs.YtonmjdnkcngfjaaGreat.En

/- DERIVED. Powers, inverses, the curve's numbers as contracts. -/
set_option linter.all false
namespace Go.Proofs.YtonmjdnkcngfjaaGreat.En
open Go Go.RowKit

theorem eqBs_list {l m : List UInt8} (h : eqBs l m = true) : l = m := by
  rw [eqBs_spec] at h
  exact beq_iff_eq.1 h
/-- The powers that the program takes. -/
def fnPow : List (LV Fe) → Option (LV Fe)
  | [u, .str s] => match pA [1] [u] with
    | some [[a]] => match eqBs s.data.toList sLess2 with
      | true => some (.agg [.abs (powF a (hexD sLess2))])
      | false => match eqBs s.data.toList sQuarter with
        | true => some (.agg [.abs (powF a (hexD sQuarter))])
        | false => none
    | _ => none
  | _ => none
theorem fnPow_some {vs : List (LV Fe)} {v : LV Fe} (h : fnPow vs = some v) : ∃ (u : LV Fe) (a : Fe) (l : List UInt8), vs = [u, .str ⟨⟨l⟩⟩] ∧ pA [1] [u] = some [[a]] ∧ v = .agg [.abs (powF a (hexD l))] ∧ (l = sLess2 ∨ l = sQuarter) := by
  unfold fnPow at h
  split at h
  · rename_i u s
    split at h
    · rename_i a hu
      have es : ∀ l, s.data.toList = l → s = ⟨⟨l⟩⟩ := fun l e => by subst e; rfl
      split at h
      · rename_i e
        cases h
        have e := eqBs_list e
        exact ⟨u, a, _, by rw [← es _ e], hu, rfl, .inl rfl⟩
      · split at h
        · rename_i e
          cases h
          have e := eqBs_list e
          exact ⟨u, a, _, by rw [← es _ e], hu, rfl, .inr rfl⟩
        · cases h
    · cases h
  · cases h
set_option maxRecDepth 100000 in
theorem entPow : ∀ args w, (callFunc 152 args).run Tryz.prog w = .ok (.enter 152 args) w := ent_of (f := 152) (P := Tryz.prog) rfl rfl rfl
set_option maxRecDepth 100000 in
theorem powA_ok (a : Fe) : condOk (some (powA_G a)) := by unfold powA_G condOk; and_intros <;> rfl
set_option maxRecDepth 100000 in
theorem powB_ok (a : Fe) : condOk (some (powB_G a)) := by unfold powB_G condOk; and_intros <;> rfl
theorem plainStr (a : Fe) (s : ByteArray) : plainL [bF [a], (.str s : LV Fe)] := ⟨⟨trivial, trivial⟩, trivial, trivial⟩
theorem pow_call {a : Fe} {l : List UInt8} (hl : l = sLess2 ∨ l = sQuarter) (ρ : Key → Loc) (w : World) : Calls Tryz.prog 152 (trs ρ [bF [a], (.str ⟨⟨l⟩⟩ : LV Fe)]).toArray w fun e w' => e = .returned (LV.tr ρ (.agg [.abs (powF a (hexD l))] : LV Fe)) ∧ Below w.heap.size w w' := by
  rcases hl with rfl | rfl
  · exact plain_callF SG1_ok rfl (powA a) (powA_ok a) (fun _ _ => rfl) (plainStr _ _) (fun _ _ => rfl) ρ w
  · exact plain_callF SG1_ok rfl (powB a) (powB_ok a) (fun _ _ => rfl) (plainStr _ _) (fun _ _ => rfl) ρ w
noncomputable def conPow : ConP Tryz.prog Fe where
  f := 152
  fn := fnPow
  ent := entPow
  kin vs v h p := by
    obtain ⟨u, a, l, _, _, rfl, _⟩ := fnPow_some h
    exact ⟨trivial, trivial⟩
  call vs v h ρ w := by
    obtain ⟨u, a, l, rfl, hu, rfl, hl⟩ := fnPow_some h
    have e : LV.tr ρ u = LV.tr ρ (bF [a]) := List.head_eq_of_cons_eq (show [LV.tr ρ u] = [LV.tr ρ (bF [a])] from (pA_trs _ _ _ hu).2 ρ)
    have e2 : trs ρ [u, (.str ⟨⟨l⟩⟩ : LV Fe)] = trs ρ [bF [a], .str ⟨⟨l⟩⟩] := by simp only [trs, e]
    rw [e2]
    exact pow_call hl ρ w
noncomputable abbrev psG : List (ConP Tryz.prog Fe) := [conDouble, conInfinite, conCNeg, conCAdd, conCEqual, conPow, conGEqual, conGAdd, conGNeg, conGInf, conGDouble]
noncomputable abbrev SGa (d : FuncId → Nat → Nat → Option Bool) (ps : List (ConP Tryz.prog Fe)) : Sig Fe := SCd d (psG ++ ps)
theorem SGa_ok (d : FuncId → Nat → Nat → Option Bool) (ps : List (ConP Tryz.prog Fe)) : SigOk Tryz.prog (SGa d ps) := SCd_ok _ _
def invF (a : Fe) : Fe := powF a (hexD sLess2)
set_option maxRecDepth 100000 in
theorem entInv : ∀ args w, (callFunc 146 args).run Tryz.prog w = .ok (.enter 146 args) w := ent_of (f := 146) (P := Tryz.prog) rfl rfl rfl
set_option maxRecDepth 100000 in
def invV_G (a : Fe) : Prop := true = true
set_option maxRecDepth 100000 in
theorem invV (a : Fe) : (callF Tryz.prog (SGa noD []) 60 146 [bF [a]] []).map (fun r => (r.1, r.2.2)) = some (.agg [.abs (invF a)], some (invV_G a)) := by kernel_rfl
set_option maxRecDepth 100000 in
theorem invV_ok (a : Fe) : condOk (some (invV_G a)) := by unfold invV_G condOk; and_intros <;> rfl
noncomputable def conInv : ConP Tryz.prog Fe := mkP 146 entInv [1] (fun a => .agg [.abs (invF a)]) fun a => .of (SGa_ok _ _) rfl (invV a) (invV_ok a) rfl rfl
def xyX (p : Pt) : Fe := fmul p.1 (fmul (invF p.2.2) (invF p.2.2))
def xyY (p : Pt) : Fe := fmul (fmul p.2.1 (fmul (invF p.2.2) (invF p.2.2))) (invF p.2.2)
noncomputable def conCXY : ConP Tryz.prog Fe := conFSquare
end Go.Proofs.YtonmjdnkcngfjaaGreat.En

/- DERIVED. The document's product without 2^384: its rows. -/
set_option linter.all false
namespace Go.Proofs.YtonmjdnkcngfjaaGreat.En
open Go Go.RowKit

/-- One part of a row: what is carried, what stands. -/
def rH (a x w t : Int) : Int := IntKind.u64.wrap (IntKind.u64.wrap (m0H a x + adC (m0L a x) w 0) + adC t (adS (m0L a x) w 0) 0)
def rL (a x w t : Int) : Int := adS t (adS (m0L a x) w 0) 0
def rW (x : Int) (a t : Nat → Int) : Nat → Int
  | 0 => IntKind.u64.wrap (m0H (a 0) x + adC (t 0) (m0L (a 0) x) 0)
  | k + 1 => rH (a (k + 1)) x (rW x a t k) (t (k + 1))
def rT (x : Int) (a t : Nat → Int) : Nat → Int
  | 0 => adS (t 0) (m0L (a 0) x) 0
  | k + 1 => rL (a (k + 1)) x (rW x a t k) (t (k + 1))
def rQ (x : Int) (a t : Nat → Int) : Int := IntKind.u64.wrap (rT x a t 0 * 9940570264628428797)
/-- The second pass: its own multiple's low part stands first. -/
def rP (q : Int) (t : Nat → Int) : Nat → Int
  | 0 => IntKind.u64.wrap (m0H q (lm pN 0) + adC (t 0) (m0L q (lm pN 0)) 0)
  | k + 1 => rH q (lm pN (k + 1)) (rP q t k) (t (k + 1))
def rX (x : Int) (a t : Nat → Int) (k : Nat) : Int := rL (rQ x a t) (lm pN (k + 1)) (rP (rQ x a t) (rT x a t) k) (rT x a t (k + 1))
def rX5 (x : Int) (a t : Nat → Int) : Int := IntKind.u64.wrap (rW x a t 5 + rP (rQ x a t) (rT x a t) 5)
noncomputable abbrev moM (a b : Nat → Int) : Mem Empty := [some ⟨.rw, lim a⟩, some ⟨.rw, lim b⟩, some ⟨.rw, lim fun _ => 0⟩]
noncomputable abbrev moT (t0 t1 t2 t3 t4 t5 k : Int) : List (Nat × LV Empty) := [(2, .ptr (.own 0) 0 []), (3, .ptr (.own 1) 0 []), (4, .ptr (.own 2) 0 []), (5, .int .u64 t0), (6, .int .u64 t1), (7, .int .u64 t2), (8, .int .u64 t3), (9, .int .u64 t4), (10, .int .u64 t5), (11, .int .i64 k)]
noncomputable abbrev moJ (a b t : Nat → Int) (k : Int) : LS Empty := ⟨tm 322 (moT (t 0) (t 1) (t 2) (t 3) (t 4) (t 5) k), moM a b, []⟩
noncomputable abbrev moP : List Nat := [0, 0, 1, 0, 1, 1]
noncomputable abbrev moR (a b t : Nat → Int) (x k k1 : Int) : Option Cnd := runG Tryz.prog SM 200 134 moP (moJ a b t k) .normal 3 [some (.own 0), some (.own 1), some (.own 2)] 322 (moT (rX x a t 0) (rX x a t 1) (rX x a t 2) (rX x a t 3) (rX x a t 4) (rX5 x a t) k1) (moM a b)
def moC (a b t : Nat → Int) (x k k1 : Int) : Prop := (true = true ∧ (true = true ∧ in64 (a 0) ∧ in64 x) ∧ (0 : Nat) ≤ 1 ∧ (true = true ∧ in64 (a 1) ∧ in64 x) ∧ (0 : Nat) ≤ 1 ∧ (0 : Nat) ≤ 1 ∧ (true = true ∧ in64 (a 2) ∧ in64 x) ∧ (0 : Nat) ≤ 1 ∧ (0 : Nat) ≤ 1 ∧ (true = true ∧ in64 (a 3) ∧ in64 x) ∧ (0 : Nat) ≤ 1 ∧ (0 : Nat) ≤ 1 ∧ (true = true ∧ in64 (a 4) ∧ in64 x) ∧ (0 : Nat) ≤ 1 ∧ (0 : Nat) ≤ 1 ∧ (true = true ∧ in64 (a 5) ∧ in64 x) ∧ (0 : Nat) ≤ 1 ∧ (0 : Nat) ≤ 1 ∧ (in64 (rQ x a t) ∧ in64 (lm pN 0)) ∧ (0 : Nat) ≤ 1 ∧ (in64 (rQ x a t) ∧ in64 (lm pN 1)) ∧ (0 : Nat) ≤ 1 ∧ (0 : Nat) ≤ 1 ∧ (in64 (rQ x a t) ∧ in64 (lm pN 2)) ∧ (0 : Nat) ≤ 1 ∧ (0 : Nat) ≤ 1 ∧ (in64 (rQ x a t) ∧ in64 (lm pN 3)) ∧ (0 : Nat) ≤ 1 ∧ (0 : Nat) ≤ 1 ∧ (in64 (rQ x a t) ∧ in64 (lm pN 4)) ∧ (0 : Nat) ≤ 1 ∧ (0 : Nat) ≤ 1 ∧ (in64 (rQ x a t) ∧ in64 (lm pN 5)) ∧ (0 : Nat) ≤ 1 ∧ (0 : Nat) ≤ 1) ∧ (rX x a t 0 = rX x a t 0 ∧ rX x a t 1 = rX x a t 1 ∧ rX x a t 2 = rX x a t 2 ∧ rX x a t 3 = rX x a t 3 ∧ rX x a t 4 = rX x a t 4 ∧ rX5 x a t = rX5 x a t ∧ IntKind.wrap IntKind.i64 (k + 1) = k1) ∧ (a 0 = a 0 ∧ a 1 = a 1 ∧ a 2 = a 2 ∧ a 3 = a 3 ∧ a 4 = a 4 ∧ a 5 = a 5) ∧ (b 0 = b 0 ∧ b 1 = b 1 ∧ b 2 = b 2 ∧ b 3 = b 3 ∧ b 4 = b 4 ∧ b 5 = b 5) ∧ (0 : Int) = (0 : Int) ∧ (0 : Int) = (0 : Int) ∧ (0 : Int) = (0 : Int) ∧ (0 : Int) = (0 : Int) ∧ (0 : Int) = (0 : Int) ∧ (0 : Int) = (0 : Int)
theorem moC_of {a b t : Nat → Int} {x k k1 : Int} (hx : in64 x) (ha : ∀ j, in64 (a j)) (hq : in64 (rQ x a t)) (hp : ∀ j, in64 (lm pN j)) (hk : IntKind.wrap IntKind.i64 (k + 1) = k1) : moC a b t x k k1 :=
  ⟨⟨rfl, ⟨rfl, ha 0, hx⟩, Nat.zero_le _, ⟨rfl, ha 1, hx⟩, Nat.zero_le _, Nat.zero_le _, ⟨rfl, ha 2, hx⟩, Nat.zero_le _, Nat.zero_le _, ⟨rfl, ha 3, hx⟩, Nat.zero_le _, Nat.zero_le _, ⟨rfl, ha 4, hx⟩, Nat.zero_le _, Nat.zero_le _, ⟨rfl, ha 5, hx⟩, Nat.zero_le _, Nat.zero_le _, ⟨hq, hp 0⟩, Nat.zero_le _, ⟨hq, hp 1⟩, Nat.zero_le _, Nat.zero_le _, ⟨hq, hp 2⟩, Nat.zero_le _, Nat.zero_le _, ⟨hq, hp 3⟩, Nat.zero_le _, Nat.zero_le _, ⟨hq, hp 4⟩, Nat.zero_le _, Nat.zero_le _, ⟨hq, hp 5⟩, Nat.zero_le _, Nat.zero_le _⟩, ⟨rfl, rfl, rfl, rfl, rfl, rfl, hk⟩, ⟨rfl, rfl, rfl, rfl, rfl, rfl⟩, ⟨rfl, rfl, rfl, rfl, rfl, rfl⟩, rfl, rfl, rfl, rfl, rfl, rfl⟩
set_option maxRecDepth 100000 in
theorem mo0 (a b t : Nat → Int) : moR a b t (b 0) 0 1 = some (some (moC a b t (b 0) 0 1)) := by kernel_rfl
set_option maxRecDepth 100000 in
theorem mo1 (a b t : Nat → Int) : moR a b t (b 1) 1 2 = some (some (moC a b t (b 1) 1 2)) := by kernel_rfl
set_option maxRecDepth 100000 in
theorem mo2 (a b t : Nat → Int) : moR a b t (b 2) 2 3 = some (some (moC a b t (b 2) 2 3)) := by kernel_rfl
set_option maxRecDepth 100000 in
theorem mo3 (a b t : Nat → Int) : moR a b t (b 3) 3 4 = some (some (moC a b t (b 3) 3 4)) := by kernel_rfl
set_option maxRecDepth 100000 in
theorem mo4 (a b t : Nat → Int) : moR a b t (b 4) 4 5 = some (some (moC a b t (b 4) 4 5)) := by kernel_rfl
set_option maxRecDepth 100000 in
theorem mo5 (a b t : Nat → Int) : moR a b t (b 5) 5 6 = some (some (moC a b t (b 5) 5 6)) := by kernel_rfl
end Go.Proofs.YtonmjdnkcngfjaaGreat.En

/- DERIVED. The document's product without 2^384: its rows on numbers, its loop, its call. -/
set_option linter.all false
namespace Go.Proofs.YtonmjdnkcngfjaaGreat.En
open Go Go.RowKit

/-! ## on numbers -/
theorem row_vals (a x w t : Nat) (ha : a < 18446744073709551616) (hx : x < 18446744073709551616) (hw : w < 18446744073709551616) (ht : t < 18446744073709551616) :
    rH (a : Int) x w t = mdHi x a t w ∧ rL (a : Int) x w t = mdLo x a t w := by
  have hP := mul_le64 ha hx
  unfold rH rL mdHi mdLo adS adC m0H m0L
  simp only [Int.toNat_natCast, show (0 : Int).toNat = 0 from rfl]
  rw [Nat.mul_comm x a]
  generalize a * x = Q at *
  refine ⟨?_, ?_⟩
  · have h1 : IntKind.u64.wrap (((Q / 18446744073709551616 : Nat) : Int) + (((Q % 18446744073709551616 + w + 0) / 18446744073709551616 : Nat) : Int)) = ((Q / 18446744073709551616 + (Q % 18446744073709551616 + w + 0) / 18446744073709551616 : Nat) : Int) := by
      rw [← Int.natCast_add]; exact wuN _ (by omega)
    rw [h1, ← Int.natCast_add]
    have h2 := wuN (Q / 18446744073709551616 + (Q % 18446744073709551616 + w + 0) / 18446744073709551616 + (t + (Q % 18446744073709551616 + w + 0) % 18446744073709551616 + 0) / 18446744073709551616) (by omega)
    refine Eq.trans h2 ?_
    congr 1
    omega
  · congr 1
    omega
theorem row_val0 (a x t : Nat) (ha : a < 18446744073709551616) (hx : x < 18446744073709551616) (ht : t < 18446744073709551616) :
    IntKind.u64.wrap (m0H (a : Int) x + adC (t : Int) (m0L (a : Int) x) 0) = mdHi x a t ((0 : Nat) : Int) ∧ adS (t : Int) (m0L (a : Int) x) 0 = mdLo x a t ((0 : Nat) : Int) := by
  have hP := mul_le64 ha hx
  unfold mdHi mdLo adS adC m0H m0L
  simp only [Int.toNat_natCast, show (0 : Int).toNat = 0 from rfl]
  rw [Nat.mul_comm x a]
  generalize a * x = Q at *
  refine ⟨?_, ?_⟩
  · rw [← Int.natCast_add]
    refine Eq.trans (wuN _ (by omega)) ?_
    congr 1
    omega
  · congr 1
    omega
theorem lmN_lt64 (n k : Nat) : lmN n k < 18446744073709551616 := lm_lt n k
theorem cM_lt64 {x : Nat} (b T k : Nat) (hx : x < BB) : cM x b T k < 18446744073709551616 := cM_lt b T k hx
theorem m0H_comm (a b : Int) : m0H a b = m0H b a := by unfold m0H; rw [Nat.mul_comm]
theorem m0L_comm (a b : Int) : m0L a b = m0L b a := by unfold m0L; rw [Nat.mul_comm]
theorem rH_comm (a b w t : Int) : rH a b w t = rH b a w t := by unfold rH; rw [m0H_comm, m0L_comm]
theorem rL_comm (a b w t : Int) : rL a b w t = rL b a w t := by unfold rL; rw [m0L_comm]
theorem rW_lm {x : Nat} (n T : Nat) (hx : x < BB) : ∀ k, rW (x : Int) (lm n) (lm T) k = ((cM x n T (k + 1) : Nat) : Int)
  | 0 => by
    refine Eq.trans ?_ (mdHi_lm x n T 0)
    rw [cM_zero]
    exact (row_val0 (lmN n 0) x (lmN T 0) (lmN_lt64 n 0) hx (lmN_lt64 T 0)).1
  | k + 1 => by
    rw [rW, rW_lm n T hx k]
    refine Eq.trans ?_ (mdHi_lm x n T (k + 1))
    exact (row_vals (lmN n (k + 1)) x (cM x n T (k + 1)) (lmN T (k + 1)) (lmN_lt64 _ _) hx (cM_lt64 n T _ hx) (lmN_lt64 _ _)).1
theorem rT_lm {x : Nat} (n T : Nat) (hx : x < BB) : rT (x : Int) (lm n) (lm T) = lm (x * n + T) := by
  funext k
  refine Eq.trans ?_ (mdLo_lm x n T k)
  cases k with
  | zero =>
    rw [cM_zero]
    exact (row_val0 (lmN n 0) x (lmN T 0) (lmN_lt64 n 0) hx (lmN_lt64 T 0)).2
  | succ k =>
    rw [rT, rW_lm n T hx k]
    exact (row_vals (lmN n (k + 1)) x (cM x n T (k + 1)) (lmN T (k + 1)) (lmN_lt64 _ _) hx (cM_lt64 n T _ hx) (lmN_lt64 _ _)).2
theorem rQ_lm {x : Nat} (n T : Nat) (hx : x < BB) : rQ (x : Int) (lm n) (lm T) = ((qN (x * n + T) : Nat) : Int) := by
  unfold rQ
  rw [rT_lm n T hx]
  show IntKind.u64.wrap (((lmN (x * n + T) 0 : Nat) : Int) * ((9940570264628428797 : Nat) : Int)) = _
  rw [← Int.natCast_mul]
  exact wuM _
/-- The second pass over any number. -/
theorem rPw (q : Int) (t : Nat → Int) (p : Nat → Int) (hp : p = lm pN) : ∀ k, rP q t k = rW q p t k
  | 0 => by subst hp; unfold rP rW; rw [m0H_comm, m0L_comm]
  | k + 1 => by
    have ih := rPw q t p hp k
    subst hp
    unfold rP rW
    rw [ih, rH_comm]
theorem rP_lm {q : Nat} (L : Nat) (hq : q < BB) (k : Nat) : rP (q : Int) (lm L) k = ((cM q pN L (k + 1) : Nat) : Int) := by
  rw [rPw _ _ _ rfl, rW_lm pN L hq]
theorem rX_gen {q : Nat} (n L j : Nat) (hq : q < BB) : rL (q : Int) (lm n (j + 1)) ((cM q n L (j + 1) : Nat) : Int) (lm L (j + 1)) = lm (q * n + L) (j + 1) := by
  rw [rL_comm]
  refine Eq.trans ?_ (mdLo_lm q n L (j + 1))
  exact (row_vals (lmN n (j + 1)) q (cM q n L (j + 1)) (lmN L (j + 1)) (lmN_lt64 _ _) hq (cM_lt64 n L _ hq) (lmN_lt64 _ _)).2
theorem rX_lm {x : Nat} (n T j : Nat) (hx : x < BB) : rX (x : Int) (lm n) (lm T) j = lm (rowT x n (qN (x * n + T)) T) j := by
  unfold rX
  rw [rQ_lm n T hx, rT_lm n T hx, rP_lm _ (qN_lt _), lm_row]
  exact rX_gen pN _ j (qN_lt _)
theorem rX5_lm {x n T : Nat} (hx : x < BB) (hn : n < pN) (hT : T < n + pN) : rX5 (x : Int) (lm n) (lm T) = lm (rowT x n (qN (x * n + T)) T) 5 := by
  unfold rX5
  rw [rQ_lm n T hx, rT_lm n T hx, rW_lm n T hx, rP_lm _ (qN_lt _)]
  obtain ⟨h1, h2⟩ := row_top hx (qN_lt (x * n + T)) hn hT
  rw [← h1, ← Int.natCast_add]
  exact wuN _ h2
theorem mrow_ok {x n T : Nat} {b : Nat → Int} {k k1 : Int} (hx : x < BB) (hk : IntKind.wrap IntKind.i64 (k + 1) = k1) : moC (lm n) b (lm T) (x : Int) k k1 := by
  refine moC_of ?_ (lm_in64 n) ?_ (lm_in64 pN) hk
  · have : x < 18446744073709551616 := hx
    constructor <;> omega
  · rw [rQ_lm n T hx]
    have : qN (x * n + T) < 18446744073709551616 := qN_lt _
    constructor <;> omega

/-! ## the loop -/
noncomputable abbrev moQ : List Nat := [0, 1, 0, 1, 1]
noncomputable def moJn (m n k : Nat) : LS Empty := moJ (lm n) (lm m) (lm (seqT m n k)) ((k : Nat) : Int)
theorem mo_step (m n k : Nat) (hk : k < 6) (hn : n < pN) : ExB 3 Tryz.prog noI (codeAt Tryz.prog 134 moP) (moJn m n k) .normal (moJn m n (k + 1)) := by
  have hT := seqT_lt m (n := n) k
  have hx := lm_lt m k
  have e : ∀ j, rX (lm m k) (lm n) (lm (seqT m n k)) j = lm (seqT m n (k + 1)) j := fun j => rX_lm _ _ _ hx
  have e5 : rX5 (lm m k) (lm n) (lm (seqT m n k)) = lm (seqT m n (k + 1)) 5 := rX5_lm hx hn hT
  have hr : moR (lm n) (lm m) (lm (seqT m n k)) (lm m k) ((k : Nat) : Int) ((k + 1 : Nat) : Int) = some (some (moC (lm n) (lm m) (lm (seqT m n k)) (lm m k) ((k : Nat) : Int) ((k + 1 : Nat) : Int))) := by
    rcases (show k = 0 ∨ k = 1 ∨ k = 2 ∨ k = 3 ∨ k = 4 ∨ k = 5 by omega) with rfl | rfl | rfl | rfl | rfl | rfl
    · exact mo0 _ _ _
    · exact mo1 _ _ _
    · exact mo2 _ _ _
    · exact mo3 _ _ _
    · exact mo4 _ _ _
    · exact mo5 _ _ _
  have hc : moC (lm n) (lm m) (lm (seqT m n k)) (lm m k) ((k : Nat) : Int) ((k + 1 : Nat) : Int) := mrow_ok hx (by rw [IntWalk.i64_in _ (by omega)]; omega)
  have := ExB.auto (cs := []) SM_ok noI_ok rfl mixed 200 _ hr hc
  rw [e, e, e, e, e, e5] at this
  exact this
noncomputable abbrev moZT (t : Nat → Int) : List (Nat × LV Empty) := [(2, .ptr (.own 0) 0 []), (3, .ptr (.own 1) 0 []), (4, .ptr (.own 2) 0 []), (5, .int .u64 (t 0)), (6, .int .u64 (t 1)), (7, .int .u64 (t 2)), (8, .int .u64 (t 3)), (9, .int .u64 (t 4)), (10, .int .u64 (t 5))]
set_option maxRecDepth 100000 in
def moEnd_G (a b t : Nat → Int) : Prop := (t 0 = t 0 ∧ t 1 = t 1 ∧ t 2 = t 2 ∧ t 3 = t 3 ∧ t 4 = t 4 ∧ t 5 = t 5) ∧ (a 0 = a 0 ∧ a 1 = a 1 ∧ a 2 = a 2 ∧ a 3 = a 3 ∧ a 4 = a 4 ∧ a 5 = a 5) ∧ (b 0 = b 0 ∧ b 1 = b 1 ∧ b 2 = b 2 ∧ b 3 = b 3 ∧ b 4 = b 4 ∧ b 5 = b 5) ∧ (0 : Int) = (0 : Int) ∧ (0 : Int) = (0 : Int) ∧ (0 : Int) = (0 : Int) ∧ (0 : Int) = (0 : Int) ∧ (0 : Int) = (0 : Int) ∧ (0 : Int) = (0 : Int)
set_option maxRecDepth 100000 in
theorem moEnd (a b t : Nat → Int) : runG Tryz.prog SM 200 134 moP (moJ a b t 6) (.exit 0) 3 [some (.own 0), some (.own 1), some (.own 2)] 322 (moZT t) (moM a b) = some (some ((moEnd_G a b t))) := by kernel_rfl
noncomputable def moE (a b : Nat → Int) : LS Empty := entry Tryz.prog SM 60 134 moQ [.agg (lim a), .agg (lim b)] []
set_option maxRecDepth 100000 in
def moI_G (a b : Nat → Int) : Prop := ((0 : Int) = (0 : Int) ∧ (0 : Int) = (0 : Int) ∧ (0 : Int) = (0 : Int) ∧ (0 : Int) = (0 : Int) ∧ (0 : Int) = (0 : Int) ∧ (0 : Int) = (0 : Int) ∧ (0 : Int) = (0 : Int)) ∧ (a 0 = a 0 ∧ a 1 = a 1 ∧ a 2 = a 2 ∧ a 3 = a 3 ∧ a 4 = a 4 ∧ a 5 = a 5) ∧ (b 0 = b 0 ∧ b 1 = b 1 ∧ b 2 = b 2 ∧ b 3 = b 3 ∧ b 4 = b 4 ∧ b 5 = b 5) ∧ (0 : Int) = (0 : Int) ∧ (0 : Int) = (0 : Int) ∧ (0 : Int) = (0 : Int) ∧ (0 : Int) = (0 : Int) ∧ (0 : Int) = (0 : Int) ∧ (0 : Int) = (0 : Int)
set_option maxRecDepth 100000 in
theorem moI (a b : Nat → Int) : mS noI [some (.own 0), some (.own 1), some (.own 2)] (moE a b) 322 (moT 0 0 0 0 0 0 0) (moM a b) = some (some ((moI_G a b))) := by kernel_rfl
set_option maxRecDepth 100000 in
theorem mo_code : codeAt Tryz.prog 134 moQ = .loop (codeAt Tryz.prog 134 moP) := by kernel_rfl
theorem mo_loop (m n : Nat) (hn : n < pN) : ExB 3 Tryz.prog noI (codeAt Tryz.prog 134 moQ) (moE (lm n) (lm m)) (.exit 0) ⟨tm 322 (moZT (lm (seqT m n 6))), moM (lm n) (lm m), []⟩ := by
  refine ExB.enter (cs := []) noI_ok _ ?_ (moI _ _) (by unfold condOk moI_G; and_intros <;> rfl) rfl
  rw [mo_code]
  have h0 : moJn m n 0 = ⟨tm 322 (moT 0 0 0 0 0 0 0), moM (lm n) (lm m), []⟩ := by
    have : ∀ j, lm (seqT m n 0) j = 0 := fun j => by simp [seqT, lm, lmN]
    simp only [moJn, moJ, this]
    rfl
  rw [← h0]
  exact ExB.loop (by simp) (moJn m n) 6 (fun k hk => mo_step m n k hk hn) (ExB.auto SM_ok noI_ok rfl mixed 200 _ (moEnd _ _ _) (by unfold condOk moEnd_G; and_intros <;> rfl))
set_option maxRecDepth 100000 in
theorem mo_grow (a b t : Nat → Int) : growB (moE a b) ⟨tm 322 (moZT t), moM a b, []⟩ = true := by kernel_rfl
set_option maxRecDepth 100000 in
theorem mo_three (a b : Nat → Int) : Nat.ble (moE a b).mem.length 3 = true := by kernel_rfl
theorem mo_loopT (m n T : Nat) (hn : n < pN) (hT : seqT m n 6 = T) : ExB 3 Tryz.prog noI (codeAt Tryz.prog 134 moQ) (moE (lm n) (lm m)) (.exit 0) ⟨tm 322 (moZT (lm T)), moM (lm n) (lm m), []⟩ := by
  subst hT
  exact mo_loop m n hn
noncomputable def moL (m n T : Nat) (hn : n < pN) (hT : seqT m n 6 = T) : LoopF Tryz.prog noI := LoopF.of (mo_loopT m n T hn hT) (mo_grow ..) (mo_three ..)
/-- How the test behind the loop turns out. -/
def dMo (b : Bool) : FuncId → Nat → Nat → Option Bool := fun f r i => match Nat.beq f 134, r, i with
  | true, 68, 1 => some b
  | _, _, _ => none
noncomputable abbrev SMo (b : Bool) (ls : List (LoopF Tryz.prog noI)) : Sig Empty := sigQ [conAdd64, conSub64, conMul64] (sigOf (P := Tryz.prog) [] [] [] ls noMs (advF (dMo b)))
theorem SMo_ok (b : Bool) (ls : List (LoopF Tryz.prog noI)) : SigOk Tryz.prog (SMo b ls) := sigQ_ok _ (sigOf_ok [] [] [] ls (noMs_ok _) _ noI_ok)
end Go.Proofs.YtonmjdnkcngfjaaGreat.En

/- DERIVED. The document's difference of six parts; its product, called. -/
set_option linter.all false
namespace Go.Proofs.YtonmjdnkcngfjaaGreat.En
open Go Go.RowKit

/-- Six parts as a sequence. -/
def six (a b c d e f : Int) : Nat → Int
  | 0 => a
  | 1 => b
  | 2 => c
  | 3 => d
  | 4 => e
  | 5 => f
  | _ => 0
def sixOf {A : Type} : LV A → Option (Nat → Int)
  | .agg [.int .u64 a, .int .u64 b, .int .u64 c, .int .u64 d, .int .u64 e, .int .u64 f] => some (six a b c d e f)
  | _ => none
abbrev limA {A : Type} (a : Nat → Int) : LV A := .agg [.int .u64 (a 0), .int .u64 (a 1), .int .u64 (a 2), .int .u64 (a 3), .int .u64 (a 4), .int .u64 (a 5)]
theorem sixOf_some {A : Type} {v : LV A} {a : Nat → Int} (h : sixOf v = some a) : v = limA a := by
  unfold sixOf at h
  split at h
  · cases h; rfl
  · cases h
def six2 {A : Type} (g : (Nat → Int) → (Nat → Int) → LV A) : List (LV A) → Option (LV A)
  | [u, v] => match sixOf u, sixOf v with
    | some a, some b => some (g a b)
    | _, _ => none
  | _ => none
theorem six2_some {A : Type} {g : (Nat → Int) → (Nat → Int) → LV A} {vs : List (LV A)} {v : LV A} (h : six2 g vs = some v) : ∃ a b, vs = [limA a, limA b] ∧ v = g a b := by
  unfold six2 at h
  split at h
  · split at h
    · rename_i a b ha hb
      cases h
      exact ⟨a, b, by rw [sixOf_some ha, sixOf_some hb], rfl⟩
    · cases h
  · cases h
set_option maxRecDepth 100000 in
def rsbG_G (a b : Nat → Int) : Prop := (true = true ∧ true = true ∧ 0 ≤ 1 ∧ true = true ∧ true = true) ∧ (true = true ∧ true = true ∧ Int.toNat (sbB (a 0) (b 0) ((0 : Int))) ≤ 1 ∧ true = true ∧ true = true) ∧ (true = true ∧ true = true ∧ Int.toNat (sbB (a 1) (b 1) (sbB (a 0) (b 0) ((0 : Int)))) ≤ 1 ∧ true = true ∧ true = true) ∧ (true = true ∧ true = true ∧ Int.toNat (sbB (a 2) (b 2) (sbB (a 1) (b 1) (sbB (a 0) (b 0) ((0 : Int))))) ≤ 1 ∧ true = true ∧ true = true) ∧ (true = true ∧ true = true ∧ Int.toNat (sbB (a 3) (b 3) (sbB (a 2) (b 2) (sbB (a 1) (b 1) (sbB (a 0) (b 0) ((0 : Int)))))) ≤ 1 ∧ true = true ∧ true = true) ∧ (true = true ∧ true = true ∧ Int.toNat (sbB (a 4) (b 4) (sbB (a 3) (b 3) (sbB (a 2) (b 2) (sbB (a 1) (b 1) (sbB (a 0) (b 0) ((0 : Int))))))) ≤ 1 ∧ true = true ∧ true = true) ∧ true = true
set_option maxRecDepth 100000 in
theorem rsbG (a b : Nat → Int) : (callF Tryz.prog (SF fun _ _ _ => none) 60 135 [.agg (lim a), .agg (lim b)] []).map (fun r => r.2.2) = some (some ((rsbG_G a b))) := by kernel_rfl
theorem sbB_le (x y b : Int) : (sbB x y b).toNat ≤ 1 := by
  unfold sbB
  split <;> decide
set_option maxRecDepth 100000 in
theorem rsbV (a b : Nat → Int) : (callF Tryz.prog (SF fun _ _ _ => none) 60 135 [.agg (lim a), .agg (lim b)] []).map (fun r => (r.1, r.2.2)) = some (.tup [.agg (lim (dB a b)), .int .u64 (cB a b 6)], some (rsbG_G a b)) := by kernel_rfl
theorem rsb_ok (a b : Nat → Int) : condOk (some (rsbG_G a b)) := by
  unfold condOk rsbG_G
  and_intros <;> first | with_reducible rfl | exact sbB_le _ _ _ | exact Nat.zero_le _
set_option maxRecDepth 100000 in
theorem entRSub : ∀ args w, (callFunc 135 args).run Tryz.prog w = .ok (.enter 135 args) w := ent_of (f := 135) (P := Tryz.prog) rfl rfl rfl
set_option maxRecDepth 100000 in
theorem entRP : ∀ args w, (callFunc 137 args).run Tryz.prog w = .ok (.enter 137 args) w := ent_of (f := 137) (P := Tryz.prog) rfl rfl rfl
theorem rsb_call (a b : Nat → Int) (ρ : Key → Loc) (w : World) : Calls Tryz.prog 135 (trs ρ [(.agg (lim a) : LV Empty), .agg (lim b)]).toArray w fun e w' => e = .returned (LV.tr ρ (.tup [.agg (lim (dB a b)), .int .u64 (cB a b 6)] : LV Empty)) ∧ Below w.heap.size w w' :=
  plain_call (SF_ok _) rfl (rsbV a b) (rsb_ok a b) (fun _ _ => rfl) ⟨⟨trivial, trivial, trivial, trivial, trivial, trivial, trivial⟩, ⟨trivial, trivial, trivial, trivial, trivial, trivial, trivial⟩, trivial⟩ (fun ρ ρ' => rfl) ρ w
noncomputable def conRSub {A : Type} [Ab A] : ConP Tryz.prog A where
  f := 135
  fn := six2 fun a b => .tup [limA (dB a b), .int .u64 (cB a b 6)]
  ent := entRSub
  kin vs v h p := by
    obtain ⟨a, b, _, rfl⟩ := six2_some h
    exact ⟨⟨trivial, trivial, trivial, trivial, trivial, trivial, trivial⟩, trivial, trivial⟩
  call vs v h ρ w := by
    obtain ⟨a, b, rfl, rfl⟩ := six2_some h
    exact rsb_call a b ρ w
set_option maxRecDepth 100000 in
theorem rpV : (callF Tryz.prog (SF fun _ _ _ => none) 60 137 [] []).map (fun r => (r.1, r.2.2)) = some (.agg (lim (lm pN)), some (true = true)) := by kernel_rfl
theorem rp_call (ρ : Key → Loc) (w : World) : Calls Tryz.prog 137 (trs ρ ([] : List (LV Empty))).toArray w fun e w' => e = .returned (LV.tr ρ (.agg (lim (lm pN)) : LV Empty)) ∧ Below w.heap.size w w' :=
  plain_call (SF_ok _) rfl rpV rfl (fun _ _ => rfl) trivial (fun ρ ρ' => rfl) ρ w
def nilFn {A : Type} (v : LV A) : List (LV A) → Option (LV A)
  | [] => some v
  | _ => none
theorem nilFn_some {A : Type} {u v : LV A} {vs : List (LV A)} (h : nilFn u vs = some v) : vs = [] ∧ v = u := by
  unfold nilFn at h
  split at h
  · cases h; exact ⟨rfl, rfl⟩
  · cases h
noncomputable def conRP {A : Type} [Ab A] : ConP Tryz.prog A where
  f := 137
  fn := nilFn (limA (lm pN))
  ent := entRP
  kin vs v h p := by
    obtain ⟨_, rfl⟩ := nilFn_some h
    exact ⟨trivial, trivial, trivial, trivial, trivial, trivial, trivial⟩
  call vs v h ρ w := by
    obtain ⟨rfl, rfl⟩ := nilFn_some h
    exact rp_call ρ w
noncomputable abbrev SMp (b : Bool) (ls : List (LoopF Tryz.prog noI)) : Sig Empty := sigQ [conAdd64, conSub64, conMul64] (sigOf (P := Tryz.prog) [conRSub, conRP] [] [] ls noMs (advF (dMo b)))
theorem SMp_ok (b : Bool) (ls : List (LoopF Tryz.prog noI)) : SigOk Tryz.prog (SMp b ls) := sigQ_ok _ (sigOf_ok [conRSub, conRP] [] [] ls (noMs_ok _) _ noI_ok)
end Go.Proofs.YtonmjdnkcngfjaaGreat.En

/- DERIVED. The document's product without 2^384: its call; products, sums, differences of its field as contracts. -/
set_option linter.all false
namespace Go.Proofs.YtonmjdnkcngfjaaGreat.En
open Go Go.RowKit

def momL (m n T : Nat) (hn : n < pN) (hT : seqT m n 6 = T) : Prop := (moL m n T hn hT).s.tmps = (moL m n T hn hT).s.tmps ∧ (moL m n T hn hT).s.mem = (moL m n T hn hT).s.mem
set_option maxRecDepth 100000 in
theorem momTV (m n T : Nat) (hn : n < pN) (hT : seqT m n 6 = T) : (callF Tryz.prog (SMp true [moL m n T hn hT]) 100 134 [.agg (lim (lm n)), .agg (lim (lm m))] []).map (fun r => (r.1, r.2.2)) = some (.agg (lim (dB (lm T) (lm pN))), some (momL m n T hn hT ∧ true = true ∧ true = true ∧ (cB (lm T) (lm pN) 6 == 0) = true ∧ true = true ∧ true = true)) := by kernel_rfl
set_option maxRecDepth 100000 in
theorem momFV (m n T : Nat) (hn : n < pN) (hT : seqT m n 6 = T) : (callF Tryz.prog (SMp false [moL m n T hn hT]) 100 134 [.agg (lim (lm n)), .agg (lim (lm m))] []).map (fun r => (r.1, r.2.2)) = some (.agg (lim (lm T)), some (momL m n T hn hT ∧ true = true ∧ true = true ∧ (cB (lm T) (lm pN) 6 == 0) = false ∧ true = true)) := by kernel_rfl
theorem mom_callT (m n T : Nat) (hn : n < pN) (hE : seqT m n 6 = T) (hT : T < n + pN) (ρ : Key → Loc) (w : World) :
    Calls Tryz.prog 134 (trs ρ [(.agg (lim (lm n)) : LV Empty), .agg (lim (lm m))]).toArray w fun e w' => e = .returned (LV.tr ρ (.agg (lim (lm (T % pN))) : LV Empty)) ∧ Below w.heap.size w w' := by
  have hp := pN_lt
  have e6 : cB (lm (T)) (lm pN) 6 = if T < pN then 1 else 0 := by
    rw [cB_lm, bw_six (by omega) (by omega)]
    split <;> rfl
  by_cases h : T < pN
  · rw [Nat.mod_eq_of_lt h]
    refine plain_call (SMp_ok _ _) rfl (momFV m n T hn hE) ⟨⟨rfl, rfl⟩, rfl, rfl, ?_, rfl⟩ (fun _ _ => rfl) ⟨⟨trivial, trivial, trivial, trivial, trivial, trivial, trivial⟩, ⟨trivial, trivial, trivial, trivial, trivial, trivial, trivial⟩, trivial⟩ (fun ρ ρ' => rfl) ρ w
    rw [e6, if_pos h]; rfl
  · have h2 : T % pN = T - pN := by rw [Nat.mod_eq_sub_mod (by omega), Nat.mod_eq_of_lt (by omega)]
    rw [h2]
    have ed : ∀ k, k < 6 → dB (lm (T)) (lm pN) k = lm (T - pN) k := fun k hk => by
      rw [dB_lm _ _ _ hk (by omega), show T + BB ^ 6 - pN = (T - pN) + BB ^ 6 by omega, lm_six _ _ hk]
    refine plain_call (SMp_ok _ _) rfl (momTV m n T hn hE) ⟨⟨rfl, rfl⟩, rfl, rfl, ?_, rfl, rfl⟩ (fun _ _ => rfl) ⟨⟨trivial, trivial, trivial, trivial, trivial, trivial, trivial⟩, ⟨trivial, trivial, trivial, trivial, trivial, trivial, trivial⟩, trivial⟩ (fun ρ ρ' => by rw [lim_congr ed]; rfl) ρ w
    rw [e6, if_neg h]; rfl
theorem mom_call (m n : Nat) (hn : n < pN) (ρ : Key → Loc) (w : World) :
    Calls Tryz.prog 134 (trs ρ [(.agg (lim (lm n)) : LV Empty), .agg (lim (lm m))]).toArray w fun e w' => e = .returned (LV.tr ρ (.agg (lim (lm (seqT m n 6 % pN))) : LV Empty)) ∧ Below w.heap.size w w' :=
  mom_callT m n (seqT m n 6) hn rfl (seqT_lt m 6) ρ w
set_option maxRecDepth 100000 in
theorem entMont : ∀ args w, (callFunc 134 args).run Tryz.prog w = .ok (.enter 134 args) w := ent_of (f := 134) (P := Tryz.prog) rfl rfl rfl
theorem fmul_comm (a b : Fe) : fmul a b = fmul b a := by unfold fmul; rw [Nat.mul_comm]
theorem mont_runs (a b : Fe) : Runs 134 [bF [a], bF [b]] (.agg [.abs (fmul a b)]) := by
  refine ⟨rfl, fun ρ w => ?_⟩
  have := mom_call (mo (fv b)) (mo (fv a)) (mo_lt _) ρ w
  rw [mo_mul, ← mo_red (fv b * fv a)] at this
  rw [fmul_comm]
  have e : trs ρ [bF [a], bF [b]] = trs ρ [(.agg (lim (lm (mo (fv a)))) : LV Empty), .agg (lim (lm (mo (fv b))))] := trs_fe a b ρ
  rw [e]
  simp only [tr_fe, fv_mul]
  exact this
noncomputable def conMont : ConP Tryz.prog Fe := mkP 134 entMont [1, 1] (fun a b => .agg [.abs (fmul a b)]) mont_runs
end Go.Proofs.YtonmjdnkcngfjaaGreat.En

/- DERIVED. The document's sums, differences, opposites of its field as contracts. -/
set_option linter.all false
namespace Go.Proofs.YtonmjdnkcngfjaaGreat.En
open Go Go.RowKit

set_option maxRecDepth 100000 in
def raddG_G (a b : Nat → Int) : Prop := (true = true ∧ true = true ∧ 0 ≤ 1 ∧ true = true ∧ true = true) ∧ (true = true ∧ true = true ∧ Int.toNat (adC (a 0) (b 0) ((0 : Int))) ≤ 1 ∧ true = true ∧ true = true) ∧ (true = true ∧ true = true ∧ Int.toNat (adC (a 1) (b 1) (adC (a 0) (b 0) ((0 : Int)))) ≤ 1 ∧ true = true ∧ true = true) ∧ (true = true ∧ true = true ∧ Int.toNat (adC (a 2) (b 2) (adC (a 1) (b 1) (adC (a 0) (b 0) ((0 : Int))))) ≤ 1 ∧ true = true ∧ true = true) ∧ (true = true ∧ true = true ∧ Int.toNat (adC (a 3) (b 3) (adC (a 2) (b 2) (adC (a 1) (b 1) (adC (a 0) (b 0) ((0 : Int)))))) ≤ 1 ∧ true = true ∧ true = true) ∧ (true = true ∧ true = true ∧ Int.toNat (adC (a 4) (b 4) (adC (a 3) (b 3) (adC (a 2) (b 2) (adC (a 1) (b 1) (adC (a 0) (b 0) ((0 : Int))))))) ≤ 1 ∧ true = true ∧ true = true) ∧ true = true
set_option maxRecDepth 100000 in
theorem raddG (a b : Nat → Int) : (callF Tryz.prog (SF fun _ _ _ => none) 60 136 [.agg (lim a), .agg (lim b)] []).map (fun r => r.2.2) = some (some ((raddG_G a b))) := by kernel_rfl
set_option maxRecDepth 100000 in
theorem raddV (a b : Nat → Int) : (callF Tryz.prog (SF fun _ _ _ => none) 60 136 [.agg (lim a), .agg (lim b)] []).map (fun r => (r.1, r.2.2)) = some (.tup [.agg (lim (sA a b)), .int .u64 (cA a b 6)], some (raddG_G a b)) := by kernel_rfl
/-- What is carried is 0 or 1. -/
def caOk (a b : Nat → Int) : Prop := ∀ k, k < 6 → (cA a b k).toNat ≤ 1
theorem raddG_ok {a b : Nat → Int} (h : caOk a b) : condOk (some (raddG_G a b)) := by
  unfold condOk raddG_G
  and_intros <;> first | with_reducible rfl | exact Nat.zero_le _ | exact h 0 (by omega) | exact h 1 (by omega) | exact h 2 (by omega) | exact h 3 (by omega) | exact h 4 (by omega) | exact h 5 (by omega)
set_option maxRecDepth 100000 in
theorem entRAdd : ∀ args w, (callFunc 136 args).run Tryz.prog w = .ok (.enter 136 args) w := ent_of (f := 136) (P := Tryz.prog) rfl rfl rfl
theorem radd_call (a b : Nat → Int) (h : caOk a b) (ρ : Key → Loc) (w : World) : Calls Tryz.prog 136 (trs ρ [(.agg (lim a) : LV Empty), .agg (lim b)]).toArray w fun e w' => e = .returned (LV.tr ρ (.tup [.agg (lim (sA a b)), .int .u64 (cA a b 6)] : LV Empty)) ∧ Below w.heap.size w w' :=
  plain_call (SF_ok _) rfl (raddV a b) (raddG_ok h) (fun _ _ => rfl) ⟨⟨trivial, trivial, trivial, trivial, trivial, trivial, trivial⟩, ⟨trivial, trivial, trivial, trivial, trivial, trivial, trivial⟩, trivial⟩ (fun ρ ρ' => rfl) ρ w
def raddFn {A : Type} : List (LV A) → Option (LV A × Cnd)
  | [u, v] => match sixOf u, sixOf v with
    | some a, some b => some (.tup [limA (sA a b), .int .u64 (cA a b 6)], some (caOk a b))
    | _, _ => none
  | _ => none
noncomputable def conRAdd {A : Type} [Ab A] : ConQ Tryz.prog A where
  f := 136
  fn := raddFn
  kin vs v c h p := by
    unfold raddFn at h
    split at h
    · split at h
      · cases h; exact ⟨⟨trivial, trivial, trivial, trivial, trivial, trivial, trivial⟩, trivial, trivial⟩
      · cases h
    · cases h
  call vs v c h hc ρ w := by
    unfold raddFn at h
    split at h
    · split at h
      · rename_i a b ha hb
        cases h
        rw [sixOf_some ha, sixOf_some hb]
        exact .inl ⟨entRAdd _ w, radd_call a b hc ρ w⟩
      · cases h
    · cases h
noncomputable abbrev SRf (d : FuncId → Nat → Nat → Option Bool) : Sig Empty := sigQ [conRAdd] (sigOf (P := Tryz.prog) [conRSub, conRP] [] [] (I := noI) [] noMs (advF d))
theorem SRf_ok (d : FuncId → Nat → Nat → Option Bool) : SigOk Tryz.prog (SRf d) := sigQ_ok _ (sigOf_ok [conRSub, conRP] [] [] [] (noMs_ok _) _ noI_ok)
/-! ## the runs -/
theorem plain2 (a b : Nat → Int) : plainL [(.agg (lim a) : LV Empty), .agg (lim b)] := ⟨⟨trivial, trivial, trivial, trivial, trivial, trivial, trivial⟩, ⟨trivial, trivial, trivial, trivial, trivial, trivial, trivial⟩, trivial⟩
set_option maxRecDepth 100000 in
def rfa1_G (a b : Nat → Int) : Prop := (caOk (six (a 0) (a 1) (a 2) (a 3) (a 4) (a 5)) (six (b 0) (b 1) (b 2) (b 3) (b 4) (b 5)) ∧ true = true) ∧ (true = true ∧ decide ((1873798617647539866 : Int) ≤ sA (six (a 0) (a 1) (a 2) (a 3) (a 4) (a 5)) (six (b 0) (b 1) (b 2) (b 3) (b 4) (b 5)) 5) = false) ∧ true = true
set_option maxRecDepth 100000 in
theorem rfa1 (a b : Nat → Int) : (callF Tryz.prog (SRf (dci 106 [(2, 2, false)])) 60 106 [.agg (lim a), .agg (lim b)] []).map (fun r => r.2.2) = some (some ((rfa1_G a b))) := by kernel_rfl
set_option maxRecDepth 100000 in
def rfa2_G (a b : Nat → Int) : Prop := (caOk (six (a 0) (a 1) (a 2) (a 3) (a 4) (a 5)) (six (b 0) (b 1) (b 2) (b 3) (b 4) (b 5)) ∧ true = true) ∧ (true = true ∧ decide ((1873798617647539866 : Int) ≤ sA (six (a 0) (a 1) (a 2) (a 3) (a 4) (a 5)) (six (b 0) (b 1) (b 2) (b 3) (b 4) (b 5)) 5) = true) ∧ true = true ∧ (cB (six (sA (six (a 0) (a 1) (a 2) (a 3) (a 4) (a 5)) (six (b 0) (b 1) (b 2) (b 3) (b 4) (b 5)) 0) (sA (six (a 0) (a 1) (a 2) (a 3) (a 4) (a 5)) (six (b 0) (b 1) (b 2) (b 3) (b 4) (b 5)) 1) (sA (six (a 0) (a 1) (a 2) (a 3) (a 4) (a 5)) (six (b 0) (b 1) (b 2) (b 3) (b 4) (b 5)) 2) (sA (six (a 0) (a 1) (a 2) (a 3) (a 4) (a 5)) (six (b 0) (b 1) (b 2) (b 3) (b 4) (b 5)) 3) (sA (six (a 0) (a 1) (a 2) (a 3) (a 4) (a 5)) (six (b 0) (b 1) (b 2) (b 3) (b 4) (b 5)) 4) (sA (six (a 0) (a 1) (a 2) (a 3) (a 4) (a 5)) (six (b 0) (b 1) (b 2) (b 3) (b 4) (b 5)) 5)) (six (lm pN 0) (lm pN 1) (lm pN 2) (lm pN 3) (lm pN 4) (lm pN 5)) 6 == (0 : Int)) = true ∧ true = true ∧ true = true
set_option maxRecDepth 100000 in
theorem rfa2 (a b : Nat → Int) : (callF Tryz.prog (SRf (dci 106 [(2, 2, true), (4, 1, true)])) 60 106 [.agg (lim a), .agg (lim b)] []).map (fun r => r.2.2) = some (some ((rfa2_G a b))) := by kernel_rfl
set_option maxRecDepth 100000 in
def rfa3_G (a b : Nat → Int) : Prop := (caOk (six (a 0) (a 1) (a 2) (a 3) (a 4) (a 5)) (six (b 0) (b 1) (b 2) (b 3) (b 4) (b 5)) ∧ true = true) ∧ (true = true ∧ decide ((1873798617647539866 : Int) ≤ sA (six (a 0) (a 1) (a 2) (a 3) (a 4) (a 5)) (six (b 0) (b 1) (b 2) (b 3) (b 4) (b 5)) 5) = true) ∧ true = true ∧ (cB (six (sA (six (a 0) (a 1) (a 2) (a 3) (a 4) (a 5)) (six (b 0) (b 1) (b 2) (b 3) (b 4) (b 5)) 0) (sA (six (a 0) (a 1) (a 2) (a 3) (a 4) (a 5)) (six (b 0) (b 1) (b 2) (b 3) (b 4) (b 5)) 1) (sA (six (a 0) (a 1) (a 2) (a 3) (a 4) (a 5)) (six (b 0) (b 1) (b 2) (b 3) (b 4) (b 5)) 2) (sA (six (a 0) (a 1) (a 2) (a 3) (a 4) (a 5)) (six (b 0) (b 1) (b 2) (b 3) (b 4) (b 5)) 3) (sA (six (a 0) (a 1) (a 2) (a 3) (a 4) (a 5)) (six (b 0) (b 1) (b 2) (b 3) (b 4) (b 5)) 4) (sA (six (a 0) (a 1) (a 2) (a 3) (a 4) (a 5)) (six (b 0) (b 1) (b 2) (b 3) (b 4) (b 5)) 5)) (six (lm pN 0) (lm pN 1) (lm pN 2) (lm pN 3) (lm pN 4) (lm pN 5)) 6 == (0 : Int)) = false ∧ true = true
set_option maxRecDepth 100000 in
theorem rfa3 (a b : Nat → Int) : (callF Tryz.prog (SRf (dci 106 [(2, 2, true), (4, 1, false)])) 60 106 [.agg (lim a), .agg (lim b)] []).map (fun r => r.2.2) = some (some ((rfa3_G a b))) := by kernel_rfl
set_option maxRecDepth 100000 in
def rfs1_G (a b : Nat → Int) : Prop := true = true ∧ (cB (six (a 0) (a 1) (a 2) (a 3) (a 4) (a 5)) (six (b 0) (b 1) (b 2) (b 3) (b 4) (b 5)) 6 == (1 : Int)) = false ∧ true = true
set_option maxRecDepth 100000 in
theorem rfs1 (a b : Nat → Int) : (callF Tryz.prog (SRf (dci 105 [(2, 1, false)])) 60 105 [.agg (lim a), .agg (lim b)] []).map (fun r => r.2.2) = some (some ((rfs1_G a b))) := by kernel_rfl
set_option maxRecDepth 100000 in
def rfs2_G (a b : Nat → Int) : Prop := true = true ∧ (cB (six (a 0) (a 1) (a 2) (a 3) (a 4) (a 5)) (six (b 0) (b 1) (b 2) (b 3) (b 4) (b 5)) 6 == (1 : Int)) = true ∧ (caOk (six (dB (six (a 0) (a 1) (a 2) (a 3) (a 4) (a 5)) (six (b 0) (b 1) (b 2) (b 3) (b 4) (b 5)) 0) (dB (six (a 0) (a 1) (a 2) (a 3) (a 4) (a 5)) (six (b 0) (b 1) (b 2) (b 3) (b 4) (b 5)) 1) (dB (six (a 0) (a 1) (a 2) (a 3) (a 4) (a 5)) (six (b 0) (b 1) (b 2) (b 3) (b 4) (b 5)) 2) (dB (six (a 0) (a 1) (a 2) (a 3) (a 4) (a 5)) (six (b 0) (b 1) (b 2) (b 3) (b 4) (b 5)) 3) (dB (six (a 0) (a 1) (a 2) (a 3) (a 4) (a 5)) (six (b 0) (b 1) (b 2) (b 3) (b 4) (b 5)) 4) (dB (six (a 0) (a 1) (a 2) (a 3) (a 4) (a 5)) (six (b 0) (b 1) (b 2) (b 3) (b 4) (b 5)) 5)) (six (lm pN 0) (lm pN 1) (lm pN 2) (lm pN 3) (lm pN 4) (lm pN 5)) ∧ true = true) ∧ true = true
set_option maxRecDepth 100000 in
theorem rfs2 (a b : Nat → Int) : (callF Tryz.prog (SRf (dci 105 [(2, 1, true)])) 60 105 [.agg (lim a), .agg (lim b)] []).map (fun r => r.2.2) = some (some ((rfs2_G a b))) := by kernel_rfl
set_option maxRecDepth 100000 in
theorem rfz (a : Nat → Int) : (callF Tryz.prog (SRf noD) 60 80 [.agg (lim a)] []).map (fun r => r.2.2) = some (none) := by kernel_rfl
abbrev S6 (a : Nat → Int) : Nat → Int := six (a 0) (a 1) (a 2) (a 3) (a 4) (a 5)
set_option maxRecDepth 100000 in
theorem rfa1V (a b : Nat → Int) : (callF Tryz.prog (SRf (dci 106 [(2, 2, false)])) 60 106 [.agg (lim a), .agg (lim b)] []).map (fun r => (r.1, r.2.2)) = some (.agg (lim (sA (S6 a) (S6 b))), some (rfa1_G a b)) := by kernel_rfl
set_option maxRecDepth 100000 in
theorem rfa2V (a b : Nat → Int) : (callF Tryz.prog (SRf (dci 106 [(2, 2, true), (4, 1, true)])) 60 106 [.agg (lim a), .agg (lim b)] []).map (fun r => (r.1, r.2.2)) = some (.agg (lim (dB (S6 (sA (S6 a) (S6 b))) (S6 (lm pN)))), some (rfa2_G a b)) := by kernel_rfl
set_option maxRecDepth 100000 in
theorem rfa3V (a b : Nat → Int) : (callF Tryz.prog (SRf (dci 106 [(2, 2, true), (4, 1, false)])) 60 106 [.agg (lim a), .agg (lim b)] []).map (fun r => (r.1, r.2.2)) = some (.agg (lim (sA (S6 a) (S6 b))), some (rfa3_G a b)) := by kernel_rfl
set_option maxRecDepth 100000 in
theorem rfs1V (a b : Nat → Int) : (callF Tryz.prog (SRf (dci 105 [(2, 1, false)])) 60 105 [.agg (lim a), .agg (lim b)] []).map (fun r => (r.1, r.2.2)) = some (.agg (lim (dB (S6 a) (S6 b))), some (rfs1_G a b)) := by kernel_rfl
set_option maxRecDepth 100000 in
theorem rfs2V (a b : Nat → Int) : (callF Tryz.prog (SRf (dci 105 [(2, 1, true)])) 60 105 [.agg (lim a), .agg (lim b)] []).map (fun r => (r.1, r.2.2)) = some (.agg (lim (sA (S6 (dB (S6 a) (S6 b))) (S6 (lm pN)))), some (rfs2_G a b)) := by kernel_rfl
theorem S6_eq (a : Nat → Int) : ∀ k, k < 6 → S6 a k = a k := by
  intro k hk
  rcases (show k = 0 ∨ k = 1 ∨ k = 2 ∨ k = 3 ∨ k = 4 ∨ k = 5 by omega) with rfl | rfl | rfl | rfl | rfl | rfl <;> rfl
theorem cA_cg {a a' b b' : Nat → Int} (h : ∀ k, k < 6 → a k = a' k) (h' : ∀ k, k < 6 → b k = b' k) : ∀ k, k ≤ 6 → cA a b k = cA a' b' k
  | 0, _ => rfl
  | k + 1, hk => by rw [cA, cA, cA_cg h h' k (by omega), h k (by omega), h' k (by omega)]
theorem sA_cg {a a' b b' : Nat → Int} (h : ∀ k, k < 6 → a k = a' k) (h' : ∀ k, k < 6 → b k = b' k) (k : Nat) (hk : k < 6) : sA a b k = sA a' b' k := by
  unfold sA; rw [cA_cg h h' k (by omega), h k hk, h' k hk]
theorem cB_cg {a a' b b' : Nat → Int} (h : ∀ k, k < 6 → a k = a' k) (h' : ∀ k, k < 6 → b k = b' k) : ∀ k, k ≤ 6 → cB a b k = cB a' b' k
  | 0, _ => rfl
  | k + 1, hk => by rw [cB, cB, cB_cg h h' k (by omega), h k (by omega), h' k (by omega)]
theorem dB_cg {a a' b b' : Nat → Int} (h : ∀ k, k < 6 → a k = a' k) (h' : ∀ k, k < 6 → b k = b' k) (k : Nat) (hk : k < 6) : dB a b k = dB a' b' k := by
  unfold dB; rw [cB_cg h h' k (by omega), h k hk, h' k hk]
/-- The parts of a sum and of a difference, of six parts. -/
theorem sS (m n k : Nat) (hk : k < 6) : sA (S6 (lm m)) (S6 (lm n)) k = lm (m + n) k := by rw [sA_cg (S6_eq _) (S6_eq _) k hk, sA_lm]
theorem dS6 (m n k : Nat) (hk : k < 6) (h : n ≤ m + BB ^ 6) : dB (S6 (lm m)) (S6 (lm n)) k = lm (m + BB ^ 6 - n) k := by rw [dB_cg (S6_eq _) (S6_eq _) k hk, dB_lm m n k hk h]
theorem caOk_lm (m n : Nat) : caOk (S6 (lm m)) (S6 (lm n)) := fun k hk => by
  rw [cA_cg (S6_eq _) (S6_eq _) k (by omega), cA_lm]; exact cy_le m n k
theorem cB6 (m n : Nat) (hm : m < BB ^ 6) (hn : n < BB ^ 6) : cB (S6 (lm m)) (S6 (lm n)) 6 = if m < n then 1 else 0 := by
  rw [cB_cg (S6_eq _) (S6_eq _) 6 (by omega), cB_lm, bw_six hm hn]
  split <;> rfl
theorem S6_cg {a b : Nat → Int} (h : ∀ k, k < 6 → a k = b k) : S6 a = S6 b := by
  unfold S6
  rw [h 0 (by omega), h 1 (by omega), h 2 (by omega), h 3 (by omega), h 4 (by omega), h 5 (by omega)]
theorem top_part : pN / BB ^ 5 = 1873798617647539866 := by decide +kernel
theorem rfa_call (m n : Nat) (hm : m < pN) (hn : n < pN) (ρ : Key → Loc) (w : World) :
    Calls Tryz.prog 106 (trs ρ [(.agg (lim (lm m)) : LV Empty), .agg (lim (lm n))]).toArray w fun e w' => e = .returned (LV.tr ρ (.agg (lim (lm ((m + n) % pN))) : LV Empty)) ∧ Below w.heap.size w w' := by
  have hp := pN_lt
  have es : ∀ k, k < 6 → sA (S6 (lm m)) (S6 (lm n)) k = lm (m + n) k := fun k hk => sS m n k hk
  have e5 : sA (S6 (lm m)) (S6 (lm n)) 5 = (((m + n) / BB ^ 5 : Nat) : Int) := by
    rw [es 5 (by omega)]
    unfold lm lmN
    rw [Nat.mod_eq_of_lt (show (m + n) / BB ^ 5 < BB from (Nat.div_lt_iff_lt_mul (BB_pos 5)).2 (by rw [← Nat.pow_succ']; show m + n < BB ^ 6; omega))]
  by_cases ht : (m + n) / BB ^ 5 < 1873798617647539866
  · have h : m + n < pN := by
      have := (Nat.div_lt_iff_lt_mul (BB_pos 5)).1 (show (m + n) / BB ^ 5 < pN / BB ^ 5 by rw [top_part]; exact ht)
      exact Nat.lt_of_lt_of_le this (Nat.div_mul_le_self pN (BB ^ 5))
    rw [Nat.mod_eq_of_lt h]
    refine plain_call (SRf_ok _) rfl (rfa1V _ _) ?_ (fun _ _ => rfl) (plain2 _ _) (fun ρ ρ' => by rw [lim_congr es]; rfl) ρ w
    refine ⟨⟨caOk_lm m n, rfl⟩, ⟨rfl, ?_⟩, rfl⟩
    rw [decide_eq_false_iff_not, e5]
    omega
  · have hge : decide ((1873798617647539866 : Int) ≤ sA (S6 (lm m)) (S6 (lm n)) 5) = true := by
      rw [decide_eq_true_eq, e5]
      omega
    have eS : S6 (sA (S6 (lm m)) (S6 (lm n))) = S6 (lm (m + n)) := S6_cg es
    by_cases h : m + n < pN
    · rw [Nat.mod_eq_of_lt h]
      refine plain_call (SRf_ok _) rfl (rfa3V _ _) ?_ (fun _ _ => rfl) (plain2 _ _) (fun ρ ρ' => by rw [lim_congr es]; rfl) ρ w
      refine ⟨⟨caOk_lm m n, rfl⟩, ⟨rfl, hge⟩, rfl, ?_, ?_⟩
      · show (cB (S6 (sA (S6 (lm m)) (S6 (lm n)))) (S6 (lm pN)) 6 == 0) = false
        rw [eS, cB6 _ _ (by omega) (by omega), if_pos h]; rfl
      · rfl
    · have h2 : (m + n) % pN = m + n - pN := by rw [Nat.mod_eq_sub_mod (by omega), Nat.mod_eq_of_lt (by omega)]
      rw [h2]
      have ed : ∀ k, k < 6 → dB (S6 (sA (S6 (lm m)) (S6 (lm n)))) (S6 (lm pN)) k = lm (m + n - pN) k := fun k hk => by
        rw [eS, dS6 _ _ k hk (by omega), show m + n + BB ^ 6 - pN = (m + n - pN) + BB ^ 6 by omega, lm_six _ _ hk]
      refine plain_call (SRf_ok _) rfl (rfa2V _ _) ?_ (fun _ _ => rfl) (plain2 _ _) (fun ρ ρ' => by rw [lim_congr ed]; rfl) ρ w
      refine ⟨⟨caOk_lm m n, rfl⟩, ⟨rfl, hge⟩, rfl, ?_, ?_⟩
      · show (cB (S6 (sA (S6 (lm m)) (S6 (lm n)))) (S6 (lm pN)) 6 == 0) = true
        rw [eS, cB6 _ _ (by omega) (by omega), if_neg h]; rfl
      · and_intros <;> rfl
theorem rfs_call (m n : Nat) (hm : m < pN) (hn : n < pN) (ρ : Key → Loc) (w : World) :
    Calls Tryz.prog 105 (trs ρ [(.agg (lim (lm m)) : LV Empty), .agg (lim (lm n))]).toArray w fun e w' => e = .returned (LV.tr ρ (.agg (lim (lm ((m + (pN - n)) % pN))) : LV Empty)) ∧ Below w.heap.size w w' := by
  have hp := pN_lt
  have e6 := cB6 m n (by omega) (by omega)
  by_cases h : m < n
  · have h2 : (m + (pN - n)) % pN = m + pN - n := by rw [Nat.mod_eq_of_lt (by omega)]; omega
    rw [h2]
    have ed : ∀ k, k < 6 → dB (S6 (lm m)) (S6 (lm n)) k = lm (m + BB ^ 6 - n) k := fun k hk => dS6 m n k hk (by omega)
    have eS : S6 (dB (S6 (lm m)) (S6 (lm n))) = S6 (lm (m + BB ^ 6 - n)) := S6_cg ed
    have ef : ∀ k, k < 6 → sA (S6 (dB (S6 (lm m)) (S6 (lm n)))) (S6 (lm pN)) k = lm (m + pN - n) k := fun k hk => by
      rw [eS, sS _ _ k hk, show m + BB ^ 6 - n + pN = (m + pN - n) + BB ^ 6 by omega, lm_six _ _ hk]
    refine plain_call (SRf_ok _) rfl (rfs2V _ _) ?_ (fun _ _ => rfl) (plain2 _ _) (fun ρ ρ' => by rw [lim_congr ef]; rfl) ρ w
    have hc : caOk (S6 (dB (S6 (lm m)) (S6 (lm n)))) (S6 (lm pN)) := by rw [eS]; exact caOk_lm _ _
    refine ⟨rfl, ?_, ?_⟩
    · show (cB (S6 (lm m)) (S6 (lm n)) 6 == 1) = true
      rw [e6, if_pos h]; rfl
    · and_intros <;> first | rfl | exact hc
  · have h2 : (m + (pN - n)) % pN = m - n := by
      rw [show m + (pN - n) = m - n + pN by omega, Nat.add_mod_right, Nat.mod_eq_of_lt (by omega)]
    rw [h2]
    have ed : ∀ k, k < 6 → dB (S6 (lm m)) (S6 (lm n)) k = lm (m - n) k := fun k hk => by
      rw [dS6 m n k hk (by omega), show m + BB ^ 6 - n = (m - n) + BB ^ 6 by omega, lm_six _ _ hk]
    refine plain_call (SRf_ok _) rfl (rfs1V _ _) ?_ (fun _ _ => rfl) (plain2 _ _) (fun ρ ρ' => by rw [lim_congr ed]; rfl) ρ w
    refine ⟨rfl, ?_, rfl⟩
    show (cB (S6 (lm m)) (S6 (lm n)) 6 == 1) = false
    rw [e6, if_neg h]; rfl
end Go.Proofs.YtonmjdnkcngfjaaGreat.En

/- DERIVED. The document's field as contracts. -/
set_option linter.all false
namespace Go.Proofs.YtonmjdnkcngfjaaGreat.En
open Go Go.RowKit

theorem runs2 {f : FuncId} {op : Nat → Nat → Nat} {g : Fe → Fe → Fe} (he : ∀ a b, op (mo (fv a)) (mo (fv b)) = mo (fv (g a b)))
    (h : ∀ m n, m < pN → n < pN → ∀ (ρ : Key → Loc) (w : World), Calls Tryz.prog f (trs ρ [(.agg (lim (lm m)) : LV Empty), .agg (lim (lm n))]).toArray w fun e w' => e = .returned (LV.tr ρ (.agg (lim (lm (op m n))) : LV Empty)) ∧ Below w.heap.size w w') (a b : Fe) : Runs f [bF [a], bF [b]] (.agg [.abs (g a b)]) := by
  refine ⟨rfl, fun ρ w => ?_⟩
  have := h (mo (fv a)) (mo (fv b)) (mo_lt _) (mo_lt _) ρ w
  rw [he] at this
  have e : trs ρ [bF [a], bF [b]] = trs ρ [(.agg (lim (lm (mo (fv a)))) : LV Empty), .agg (lim (lm (mo (fv b))))] := trs_fe a b ρ
  rw [e]
  simp only [tr_fe]
  exact this
theorem mo_fadd (a b : Fe) : (mo (fv a) + mo (fv b)) % pN = mo (fv (fadd a b)) := by rw [fv_add, mo_red, mo_add]
theorem mo_fsub (a b : Fe) : (mo (fv a) + (pN - mo (fv b))) % pN = mo (fv (fsub a b)) := by rw [fv_sub, mo_red, mo_sub]
set_option maxRecDepth 100000 in
theorem entRFAdd : ∀ args w, (callFunc 106 args).run Tryz.prog w = .ok (.enter 106 args) w := ent_of (f := 106) (P := Tryz.prog) rfl rfl rfl
set_option maxRecDepth 100000 in
theorem entRFSub : ∀ args w, (callFunc 105 args).run Tryz.prog w = .ok (.enter 105 args) w := ent_of (f := 105) (P := Tryz.prog) rfl rfl rfl
set_option maxRecDepth 100000 in
theorem entRFIsZero : ∀ args w, (callFunc 80 args).run Tryz.prog w = .ok (.enter 80 args) w := ent_of (f := 80) (P := Tryz.prog) rfl rfl rfl
noncomputable def conRFAdd : ConP Tryz.prog Fe := mkP 106 entRFAdd [1, 1] (fun a b => .agg [.abs (fadd a b)]) (runs2 (op := fun m n => (m + n) % pN) mo_fadd fun m n hm hn ρ w => rfa_call m n hm hn ρ w)
noncomputable def conRFSub : ConP Tryz.prog Fe := mkP 105 entRFSub [1, 1] (fun a b => .agg [.abs (fsub a b)]) (runs2 (op := fun m n => (m + (pN - n)) % pN) mo_fsub fun m n hm hn ρ w => rfs_call m n hm hn ρ w)
/-! ## is it nought; the opposite -/
def z6 (t : Nat → Int) : Bool := t 0 == 0 && (t 1 == 0 && (t 2 == 0 && (t 3 == 0 && (t 4 == 0 && (t 5 == 0 && true)))))
set_option maxRecDepth 100000 in
theorem rfzV (t : Nat → Int) : (callF Tryz.prog (SRf noD) 60 80 [.agg (lim t)] []).map (fun r => (r.1, r.2.2)) = some (.bool (z6 t), none) := by kernel_rfl
theorem rfz_call (t : Nat → Int) (ρ : Key → Loc) (w : World) : Calls Tryz.prog 80 (trs ρ [(.agg (lim t) : LV Empty)]).toArray w fun e w' => e = .returned (LV.tr ρ (.bool (z6 t) : LV Empty)) ∧ Below w.heap.size w w' :=
  plain_call (SRf_ok _) rfl (rfzV t) trivial (fun _ _ => rfl) ⟨⟨trivial, trivial, trivial, trivial, trivial, trivial, trivial⟩, trivial⟩ (fun ρ ρ' => rfl) ρ w
def six1 {A : Type} (g : (Nat → Int) → LV A) : List (LV A) → Option (LV A)
  | [u] => match sixOf u with
    | some a => some (g a)
    | _ => none
  | _ => none
theorem six1_some {A : Type} {g : (Nat → Int) → LV A} {vs : List (LV A)} {v : LV A} (h : six1 g vs = some v) : ∃ a, vs = [limA a] ∧ v = g a := by
  unfold six1 at h
  split at h
  · split at h
    · rename_i a ha
      cases h
      exact ⟨a, by rw [sixOf_some ha], rfl⟩
    · cases h
  · cases h
noncomputable def conRZr : ConP Tryz.prog Empty where
  f := 80
  fn := six1 fun a => .bool (z6 a)
  ent := entRFIsZero
  kin vs v h p := by
    obtain ⟨a, _, rfl⟩ := six1_some h
    exact trivial
  call vs v h ρ w := by
    obtain ⟨a, rfl, rfl⟩ := six1_some h
    exact rfz_call a ρ w
theorem rfz_runs (a : Fe) : Runs 80 [bF [a]] (.bool (isz a)) := by
  refine ⟨rfl, fun ρ w => ?_⟩
  have := rfz_call (lm (mo (fv a))) ρ w
  have e : z6 (lm (mo (fv a))) = isz a := iz_eq (fv a)
  rw [e] at this
  have e2 : trs ρ [bF [a]] = trs ρ [(.agg (lim (lm (mo (fv a)))) : LV Empty)] := by simp only [trs, bF, absL, tr_fe]
  rw [e2]
  exact this
noncomputable def conRFIsZero : ConP Tryz.prog Fe := mkP 80 entRFIsZero [1] (fun a => .bool (isz a)) rfz_runs
noncomputable abbrev SRn (b : Bool) : Sig Empty := sigQ [conRAdd] (sigOf (P := Tryz.prog) [conRSub, conRP, conRZr] [] [] (I := noI) [] noMs (advF (dci 123 [(1, 1, b)])))
theorem SRn_ok (b : Bool) : SigOk Tryz.prog (SRn b) := sigQ_ok _ (sigOf_ok [conRSub, conRP, conRZr] [] [] [] (noMs_ok _) _ noI_ok)
set_option maxRecDepth 100000 in
def rfn1_G (a : Nat → Int) : Prop := z6 (six (a 0) (a 1) (a 2) (a 3) (a 4) (a 5)) = true ∧ true = true
set_option maxRecDepth 100000 in
theorem rfn1 (a : Nat → Int) : (callF Tryz.prog (SRn true) 60 123 [.agg (lim a)] []).map (fun r => r.2.2) = some (some ((rfn1_G a))) := by kernel_rfl
set_option maxRecDepth 100000 in
def rfn2_G (a : Nat → Int) : Prop := z6 (six (a 0) (a 1) (a 2) (a 3) (a 4) (a 5)) = false ∧ true = true ∧ true = true
set_option maxRecDepth 100000 in
theorem rfn2 (a : Nat → Int) : (callF Tryz.prog (SRn false) 60 123 [.agg (lim a)] []).map (fun r => r.2.2) = some (some ((rfn2_G a))) := by kernel_rfl
set_option maxRecDepth 100000 in
theorem rfn1V (a : Nat → Int) : (callF Tryz.prog (SRn true) 60 123 [.agg (lim a)] []).map (fun r => (r.1, r.2.2)) = some (.agg (lim a), some (rfn1_G a)) := by kernel_rfl
set_option maxRecDepth 100000 in
theorem rfn2V (a : Nat → Int) : (callF Tryz.prog (SRn false) 60 123 [.agg (lim a)] []).map (fun r => (r.1, r.2.2)) = some (.agg (lim (dB (S6 (lm pN)) (S6 a))), some (rfn2_G a)) := by kernel_rfl
theorem fv_zE : fv (ofSix 0 0 0 0 0 0) = 0 := by decide +kernel
theorem mo_fneg (a : Fe) : (pN - mo (fv a)) % pN = mo (fv (fneg a)) := by
  have := mo_fsub (ofSix 0 0 0 0 0 0) a
  rw [fv_zE, mo_zero, Nat.zero_add] at this
  exact this
set_option maxRecDepth 100000 in
theorem entRFNeg : ∀ args w, (callFunc 123 args).run Tryz.prog w = .ok (.enter 123 args) w := ent_of (f := 123) (P := Tryz.prog) rfl rfl rfl
theorem rfn_runs (a : Fe) : Runs 123 [bF [a]] (.agg [.abs (fneg a)]) := by
  refine ⟨rfl, fun ρ w => ?_⟩
  have hp := pN_lt
  have hm := mo_lt (fv a)
  have e2 : trs ρ [bF [a]] = trs ρ [(.agg (lim (lm (mo (fv a)))) : LV Empty)] := by simp only [trs, bF, absL, tr_fe]
  rw [e2]
  simp only [tr_fe]
  rw [← mo_fneg]
  have hz : z6 (lm (mo (fv a))) = isz a := iz_eq (fv a)
  have pl : plainL [(.agg (lim (lm (mo (fv a)))) : LV Empty)] := ⟨⟨trivial, trivial, trivial, trivial, trivial, trivial, trivial⟩, trivial⟩
  cases h : isz a with
  | true =>
    have h0 : mo (fv a) = 0 := by
      unfold isz at h
      rw [← mo_red, beqN h, mo_zero]
    rw [h0, Nat.sub_zero, Nat.mod_self]
    refine plain_call (SRn_ok _) rfl (rfn1V _) ⟨?_, rfl⟩ (fun _ _ => rfl) ⟨⟨trivial, trivial, trivial, trivial, trivial, trivial, trivial⟩, trivial⟩ (fun _ _ => rfl) ρ w
    decide
  | false =>
    have hne : mo (fv a) ≠ 0 := fun e => by
      unfold isz at h
      have : fv a % pN = 0 % pN := mo_inj (by rw [e, mo_zero])
      rw [this, Nat.zero_mod] at h
      cases h
    rw [Nat.mod_eq_of_lt (by omega)]
    have ed : ∀ k, k < 6 → dB (S6 (lm pN)) (S6 (lm (mo (fv a)))) k = lm (pN - mo (fv a)) k := fun k hk => by
      rw [dS6 _ _ k hk (by omega), show pN + BB ^ 6 - mo (fv a) = (pN - mo (fv a)) + BB ^ 6 by omega, lm_six _ _ hk]
    refine plain_call (SRn_ok _) rfl (rfn2V _) ⟨?_, rfl, rfl⟩ (fun _ _ => rfl) pl (fun _ _ => by rw [lim_congr ed]; rfl) ρ w
    show z6 (lm (mo (fv a))) = false
    rw [hz, h]
noncomputable def conRFNeg : ConP Tryz.prog Fe := mkP 123 entRFNeg [1] (fun a => .agg [.abs (fneg a)]) rfn_runs
/-! ## products, numbers -/
noncomputable abbrev SRF (d : FuncId → Nat → Nat → Option Bool) (ps : List (ConP Tryz.prog Fe)) : Sig Fe := sigOf (P := Tryz.prog) ([conMont, conRFAdd, conRFSub, conRFNeg, conRFIsZero] ++ ps) [] [] (I := noIF) [] msF (advF d)
theorem SRF_ok (d : FuncId → Nat → Nat → Option Bool) (ps : List (ConP Tryz.prog Fe)) : SigOk Tryz.prog (SRF d ps) := sigOf_ok _ [] [] [] msF_ok _ noIF_ok
set_option maxRecDepth 100000 in
theorem entRFMul : ∀ args w, (callFunc 104 args).run Tryz.prog w = .ok (.enter 104 args) w := ent_of (f := 104) (P := Tryz.prog) rfl rfl rfl
set_option maxRecDepth 100000 in
def rfmV_G (a b : Fe) : Prop := true = true
set_option maxRecDepth 100000 in
theorem rfmV (a b : Fe) : (callF Tryz.prog (SRF noD []) 60 104 [bF [a], bF [b]] []).map (fun r => (r.1, r.2.2)) = some (.agg [.abs (fmul a b)], some (rfmV_G a b)) := by kernel_rfl
set_option maxRecDepth 100000 in
theorem rfmV_ok (a b : Fe) : condOk (some (rfmV_G a b)) := by unfold rfmV_G condOk; and_intros <;> rfl
noncomputable def conRFMul : ConP Tryz.prog Fe := mkP 104 entRFMul [1, 1] (fun a b => .agg [.abs (fmul a b)]) fun a b => .of (SRF_ok _ _) rfl (rfmV a b) (rfmV_ok a b) rfl rfl
def ftwo : Fe := ofSix 0xf4df1f341c341746 0xa76e6a609d104f1 0x8de5476c4c95b6d5 0x67eb88a9939d83c0 0x9a793e85b519952d 0x11988fe592cae3aa
def frone : Fe := ofSix 1 0 0 0 0 0
set_option maxRecDepth 100000 in
theorem entRTwo : ∀ args w, (callFunc 139 args).run Tryz.prog w = .ok (.enter 139 args) w := ent_of (f := 139) (P := Tryz.prog) rfl rfl rfl
set_option maxRecDepth 100000 in
theorem entROne : ∀ args w, (callFunc 155 args).run Tryz.prog w = .ok (.enter 155 args) w := ent_of (f := 155) (P := Tryz.prog) rfl rfl rfl
abbrev vTwo : LV Fe := .agg [.int .u64 0xf4df1f341c341746, .int .u64 0xa76e6a609d104f1, .int .u64 0x8de5476c4c95b6d5, .int .u64 0x67eb88a9939d83c0, .int .u64 0x9a793e85b519952d, .int .u64 0x11988fe592cae3aa]
abbrev vOne : LV Fe := .agg [.int .u64 0x760900000002fffd, .int .u64 0xebf4000bc40c0002, .int .u64 0x5f48985753c758ba, .int .u64 0x77ce585370525745, .int .u64 0x5c071a97a256ec6d, .int .u64 0x15f65ec3fa80e493]
set_option maxRecDepth 100000 in
def rtwV_G  : Prop := true = true
set_option maxRecDepth 100000 in
theorem rtwV  : (callF Tryz.prog (SRF noD []) 60 139 [] []).map (fun r => (r.1, r.2.2)) = some (vTwo, some (rtwV_G )) := by kernel_rfl
set_option maxRecDepth 100000 in
theorem rtwV_ok  : condOk (some (rtwV_G )) := by unfold rtwV_G condOk; and_intros <;> rfl
set_option maxRecDepth 100000 in
def ronV_G  : Prop := true = true
set_option maxRecDepth 100000 in
theorem ronV  : (callF Tryz.prog (SRF noD []) 60 155 [] []).map (fun r => (r.1, r.2.2)) = some (vOne, some (ronV_G )) := by kernel_rfl
set_option maxRecDepth 100000 in
theorem ronV_ok  : condOk (some (ronV_G )) := by unfold ronV_G condOk; and_intros <;> rfl
noncomputable def mk0 (f : FuncId) (ent : ∀ args w, (callFunc f args).run Tryz.prog w = .ok (.enter f args) w) (v : LV Fe) (run : Runs f [] v) : ConP Tryz.prog Fe where
  f := f
  fn := nilFn v
  ent := ent
  kin vs v' h p := by
    obtain ⟨_, rfl⟩ := nilFn_some h
    exact pv_kin p _ run.plain
  call vs v' h ρ w := by
    obtain ⟨rfl, rfl⟩ := nilFn_some h
    exact run.run ρ w
noncomputable def conRTwo : ConP Tryz.prog Fe := mk0 139 entRTwo vTwo (.of (SRF_ok _ _) rfl rtwV rtwV_ok rfl rfl)
noncomputable def conROne : ConP Tryz.prog Fe := mk0 155 entROne vOne (.of (SRF_ok _ _) rfl ronV ronV_ok rfl rfl)
set_option maxRecDepth 100000 in
theorem entROf : ∀ args w, (callFunc 110 args).run Tryz.prog w = .ok (.enter 110 args) w := ent_of (f := 110) (P := Tryz.prog) rfl rfl rfl
set_option maxRecDepth 100000 in
def rofV_G (a : Fe) : Prop := true = true
set_option maxRecDepth 100000 in
theorem rofV (a : Fe) : (callF Tryz.prog (SRF noD [conRTwo]) 60 110 [bF [a]] []).map (fun r => (r.1, r.2.2)) = some (.agg [.abs (fmul a ftwo)], some (rofV_G a)) := by kernel_rfl
set_option maxRecDepth 100000 in
theorem rofV_ok (a : Fe) : condOk (some (rofV_G a)) := by unfold rofV_G condOk; and_intros <;> rfl
noncomputable def conROf : ConP Tryz.prog Fe := mkP 110 entROf [1] (fun a => .agg [.abs (fmul a ftwo)]) fun a => .of (SRF_ok _ _) rfl (rofV a) (rofV_ok a) rfl rfl
set_option maxRecDepth 100000 in
theorem entRNum : ∀ args w, (callFunc 151 args).run Tryz.prog w = .ok (.enter 151 args) w := ent_of (f := 151) (P := Tryz.prog) rfl rfl rfl
set_option maxRecDepth 100000 in
def rnuV_G (a : Fe) : Prop := true = true
set_option maxRecDepth 100000 in
theorem rnuV (a : Fe) : (callF Tryz.prog (SRF noD []) 60 151 [bF [a]] []).map (fun r => (r.1, r.2.2)) = some (.agg [.abs (fmul a frone)], some (rnuV_G a)) := by kernel_rfl
set_option maxRecDepth 100000 in
theorem rnuV_ok (a : Fe) : condOk (some (rnuV_G a)) := by unfold rnuV_G condOk; and_intros <;> rfl
noncomputable def conRNum : ConP Tryz.prog Fe := mkP 151 entRNum [1] (fun a => .agg [.abs (fmul a frone)]) fun a => .of (SRF_ok _ _) rfl (rnuV a) (rnuV_ok a) rfl rfl
end Go.Proofs.YtonmjdnkcngfjaaGreat.En

/- DERIVED. The document's extension as contracts. -/
set_option linter.all false
namespace Go.Proofs.YtonmjdnkcngfjaaGreat.En
open Go Go.RowKit

abbrev E2 := Fe × Fe
def eV (x : E2) : LV Fe := .agg [.abs x.1, .abs x.2]
def eadd (x y : E2) : E2 := (fadd x.1 y.1, fadd x.2 y.2)
def esub (x y : E2) : E2 := (fsub x.1 y.1, fsub x.2 y.2)
def eneg (x : E2) : E2 := (fneg x.1, fneg x.2)
def eisz (x : E2) : Bool := isz x.1 && isz x.2
def emulN (x y : E2) : E2 :=
  let u := fmul x.1 y.1
  let v := fmul x.2 y.2
  (fsub u v, fsub (fsub (fmul (fadd x.1 x.2) (fadd y.1 y.2)) u) v)
def emul (x y : E2) : E2 := bif isz x.2 && isz y.2 then (fmul x.1 y.1, zE) else emulN x y
noncomputable abbrev SRE (d : FuncId → Nat → Nat → Option Bool) (ps : List (ConP Tryz.prog Fe)) : Sig Fe := SRF d ([conRFMul, conROf, conRNum, conRTwo, conROne] ++ ps)
theorem SRE_ok (d : FuncId → Nat → Nat → Option Bool) (ps : List (ConP Tryz.prog Fe)) : SigOk Tryz.prog (SRE d ps) := SRF_ok _ _
set_option maxRecDepth 100000 in
theorem entREAdd : ∀ args w, (callFunc 55 args).run Tryz.prog w = .ok (.enter 55 args) w := ent_of (f := 55) (P := Tryz.prog) rfl rfl rfl
set_option maxRecDepth 100000 in
def readV_G (a b c d : Fe) : Prop := true = true
set_option maxRecDepth 100000 in
theorem readV (a b c d : Fe) : (callF Tryz.prog (SRE noD []) 60 55 [bF [a, b], bF [c, d]] []).map (fun r => (r.1, r.2.2)) = some (eV (eadd (a, b) (c, d)), some (readV_G a b c d)) := by kernel_rfl
set_option maxRecDepth 100000 in
theorem readV_ok (a b c d : Fe) : condOk (some (readV_G a b c d)) := by unfold readV_G condOk; and_intros <;> rfl
noncomputable def conREAdd : ConP Tryz.prog Fe := mkP 55 entREAdd [2, 2] (fun a b c d => eV (eadd (a, b) (c, d))) fun a b c d => .of (SRE_ok _ _) rfl (readV a b c d) (readV_ok a b c d) rfl rfl
set_option maxRecDepth 100000 in
theorem entRESub : ∀ args w, (callFunc 87 args).run Tryz.prog w = .ok (.enter 87 args) w := ent_of (f := 87) (P := Tryz.prog) rfl rfl rfl
set_option maxRecDepth 100000 in
def resbV_G (a b c d : Fe) : Prop := true = true
set_option maxRecDepth 100000 in
theorem resbV (a b c d : Fe) : (callF Tryz.prog (SRE noD []) 60 87 [bF [a, b], bF [c, d]] []).map (fun r => (r.1, r.2.2)) = some (eV (esub (a, b) (c, d)), some (resbV_G a b c d)) := by kernel_rfl
set_option maxRecDepth 100000 in
theorem resbV_ok (a b c d : Fe) : condOk (some (resbV_G a b c d)) := by unfold resbV_G condOk; and_intros <;> rfl
noncomputable def conRESub : ConP Tryz.prog Fe := mkP 87 entRESub [2, 2] (fun a b c d => eV (esub (a, b) (c, d))) fun a b c d => .of (SRE_ok _ _) rfl (resbV a b c d) (resbV_ok a b c d) rfl rfl
set_option maxRecDepth 100000 in
theorem entRENeg : ∀ args w, (callFunc 82 args).run Tryz.prog w = .ok (.enter 82 args) w := ent_of (f := 82) (P := Tryz.prog) rfl rfl rfl
set_option maxRecDepth 100000 in
def rengV_G (a b : Fe) : Prop := true = true
set_option maxRecDepth 100000 in
theorem rengV (a b : Fe) : (callF Tryz.prog (SRE noD []) 60 82 [bF [a, b]] []).map (fun r => (r.1, r.2.2)) = some (eV (eneg (a, b)), some (rengV_G a b)) := by kernel_rfl
set_option maxRecDepth 100000 in
theorem rengV_ok (a b : Fe) : condOk (some (rengV_G a b)) := by unfold rengV_G condOk; and_intros <;> rfl
noncomputable def conRENeg : ConP Tryz.prog Fe := mkP 82 entRENeg [2] (fun a b => eV (eneg (a, b))) fun a b => .of (SRE_ok _ _) rfl (rengV a b) (rengV_ok a b) rfl rfl
/-! ## is it nought -/
set_option maxRecDepth 100000 in
theorem entREIsZero : ∀ args w, (callFunc 88 args).run Tryz.prog w = .ok (.enter 88 args) w := ent_of (f := 88) (P := Tryz.prog) rfl rfl rfl
set_option maxRecDepth 100000 in
def rez1V_G (a b : Fe) : Prop := isz a = true
set_option maxRecDepth 100000 in
theorem rez1V (a b : Fe) : (callF Tryz.prog (SRE (dci 88 [(1, 2, true)]) []) 60 88 [bF [a, b]] []).map (fun r => (r.1, r.2.2)) = some (.bool (isz b), some (rez1V_G a b)) := by kernel_rfl
set_option maxRecDepth 100000 in
def rez2V_G (a b : Fe) : Prop := isz a = false
set_option maxRecDepth 100000 in
theorem rez2V (a b : Fe) : (callF Tryz.prog (SRE (dci 88 [(1, 2, false)]) []) 60 88 [bF [a, b]] []).map (fun r => (r.1, r.2.2)) = some (.bool false, some (rez2V_G a b)) := by kernel_rfl
theorem rez_runs (a b : Fe) : Runs 88 [bF [a, b]] (.bool (eisz (a, b))) := by
  cases h : isz a with
  | true =>
    rw [show eisz (a, b) = isz b by simp only [eisz, h, Bool.true_and]]
    exact .of (SRE_ok _ _) rfl (rez1V a b) (by unfold condOk rez1V_G; and_intros <;> first | with_reducible rfl | assumption) rfl rfl
  | false =>
    rw [show eisz (a, b) = false by simp only [eisz, h, Bool.false_and]]
    exact .of (SRE_ok _ _) rfl (rez2V a b) (by unfold condOk rez2V_G; and_intros <;> first | with_reducible rfl | assumption) rfl rfl
noncomputable def conREIsZero : ConP Tryz.prog Fe := mkP 88 entREIsZero [2] (fun a b => .bool (eisz (a, b))) rez_runs
/-! ## products -/
set_option maxRecDepth 100000 in
theorem entREMul : ∀ args w, (callFunc 54 args).run Tryz.prog w = .ok (.enter 54 args) w := ent_of (f := 54) (P := Tryz.prog) rfl rfl rfl
set_option maxRecDepth 100000 in
def rem1V_G (a b c d : Fe) : Prop := true = true ∧ (isz b = true ∧ isz d = true) ∧ true = true
set_option maxRecDepth 100000 in
theorem rem1V (a b c d : Fe) : (callF Tryz.prog (SRE (dci 54 [(2, 2, true), (2, 6, true)]) []) 60 54 [bF [a, b], bF [c, d]] []).map (fun r => (r.1, r.2.2)) = some (.agg [.abs (fmul a c), .int .u64 0, .int .u64 0, .int .u64 0, .int .u64 0, .int .u64 0, .int .u64 0], some (rem1V_G a b c d)) := by kernel_rfl
set_option maxRecDepth 100000 in
def rem2V_G (a b c d : Fe) : Prop := true = true ∧ (isz b = true ∧ isz d = false) ∧ true = true ∧ true = true
set_option maxRecDepth 100000 in
theorem rem2V (a b c d : Fe) : (callF Tryz.prog (SRE (dci 54 [(2, 2, true), (2, 6, false)]) []) 60 54 [bF [a, b], bF [c, d]] []).map (fun r => (r.1, r.2.2)) = some (eV (emulN (a, b) (c, d)), some (rem2V_G a b c d)) := by kernel_rfl
set_option maxRecDepth 100000 in
def rem3V_G (a b c d : Fe) : Prop := true = true ∧ isz b = false ∧ true = true ∧ true = true
set_option maxRecDepth 100000 in
theorem rem3V (a b c d : Fe) : (callF Tryz.prog (SRE (dci 54 [(2, 2, false)]) []) 60 54 [bF [a, b], bF [c, d]] []).map (fun r => (r.1, r.2.2)) = some (eV (emulN (a, b) (c, d)), some (rem3V_G a b c d)) := by kernel_rfl
theorem zE_cells (ρ : Key → Loc) (l : List (LV Fe)) : cellsL ρ (.int .u64 0 :: .int .u64 0 :: .int .u64 0 :: .int .u64 0 :: .int .u64 0 :: .int .u64 0 :: l) = cellsL ρ (.abs zE :: l) := pF_cells (a := zE) (t := l) rfl ρ
theorem rem_runs (a b c d : Fe) : Runs 54 [bF [a, b], bF [c, d]] (eV (emul (a, b) (c, d))) := by
  cases h : isz b with
  | true => cases h2 : isz d with
    | true =>
      rw [show emul (a, b) (c, d) = (fmul a c, zE) by simp only [emul, h, h2, Bool.and_self, cond_true]]
      refine (Runs.of (SRE_ok _ _) rfl (rem1V a b c d) (by unfold condOk rem1V_G; and_intros <;> first | with_reducible rfl | assumption) rfl rfl).as rfl fun ρ => ?_
      exact congrArg (fun l : List Value => Value.agg (LV.cells ρ (.abs (fmul a c) : LV Fe) ++ l).toArray) (zE_cells ρ [])
    | false =>
      rw [show emul (a, b) (c, d) = emulN (a, b) (c, d) by simp only [emul, h, h2, Bool.true_and, cond_false]]
      exact .of (SRE_ok _ _) rfl (rem2V a b c d) (by unfold condOk rem2V_G; and_intros <;> first | with_reducible rfl | assumption) rfl rfl
  | false =>
    rw [show emul (a, b) (c, d) = emulN (a, b) (c, d) by simp only [emul, h, Bool.false_and, cond_false]]
    exact .of (SRE_ok _ _) rfl (rem3V a b c d) (by unfold condOk rem3V_G; and_intros <;> first | with_reducible rfl | assumption) rfl rfl
noncomputable def conREMul : ConP Tryz.prog Fe := mkP 54 entREMul [2, 2] (fun a b c d => eV (emul (a, b) (c, d))) rem_runs
end Go.Proofs.YtonmjdnkcngfjaaGreat.En

/- DERIVED. The document's points as contracts. -/
set_option linter.all false
namespace Go.Proofs.YtonmjdnkcngfjaaGreat.En
open Go Go.RowKit

theorem pair_eta (x : E2) : (x.1, x.2) = x := rfl
abbrev C3 := E2 × E2 × E2
def cV (p : C3) : LV Fe := .agg [.abs p.1.1, .abs p.1.2, .abs p.2.1.1, .abs p.2.1.2, .abs p.2.2.1, .abs p.2.2.2]
noncomputable abbrev psC : List (ConP Tryz.prog Fe) := [conREAdd, conRESub, conRENeg, conREIsZero, conREMul]
noncomputable abbrev SRC (d : FuncId → Nat → Nat → Option Bool) (ps : List (ConP Tryz.prog Fe)) : Sig Fe := SRE d (psC ++ ps)
def cnegF (p : C3) : C3 := (p.1, eneg p.2.1, p.2.2)
set_option maxRecDepth 100000 in
theorem entRCNone : ∀ args w, (callFunc 43 args).run Tryz.prog w = .ok (.enter 43 args) w := ent_of (f := 43) (P := Tryz.prog) rfl rfl rfl
set_option maxRecDepth 100000 in
theorem rcnoneV (a b c d e f : Fe) : (callF Tryz.prog (SRC noD []) 60 43 [bF [a, b, c, d, e, f]] []).map (fun r => (r.1, r.2.2)) = some (.bool (eisz (e, f)), none) := by kernel_rfl
theorem rcnoneV_ok (a b c d e f : Fe) : condOk none := trivial
noncomputable def conRCNone : ConP Tryz.prog Fe := mkP 43 entRCNone [6] (fun a b c d e f => .bool (eisz (e, f))) fun a b c d e f => .of (SRE_ok _ _) rfl (rcnoneV a b c d e f) (rcnoneV_ok a b c d e f) rfl rfl
set_option maxRecDepth 100000 in
theorem entRCNeg : ∀ args w, (callFunc 41 args).run Tryz.prog w = .ok (.enter 41 args) w := ent_of (f := 41) (P := Tryz.prog) rfl rfl rfl
set_option maxRecDepth 100000 in
def rcnegV_G (a b c d e f : Fe) : Prop := true = true
set_option maxRecDepth 100000 in
theorem rcnegV (a b c d e f : Fe) : (callF Tryz.prog (SRC noD []) 60 41 [bF [a, b, c, d, e, f]] []).map (fun r => (r.1, r.2.2)) = some (cV (cnegF ((a, b), (c, d), (e, f))), some (rcnegV_G a b c d e f)) := by kernel_rfl
set_option maxRecDepth 100000 in
theorem rcnegV_ok (a b c d e f : Fe) : condOk (some (rcnegV_G a b c d e f)) := by unfold rcnegV_G condOk; and_intros <;> rfl
noncomputable def conRCNeg : ConP Tryz.prog Fe := mkP 41 entRCNeg [6] (fun a b c d e f => cV (cnegF ((a, b), (c, d), (e, f)))) fun a b c d e f => .of (SRE_ok _ _) rfl (rcnegV a b c d e f) (rcnegV_ok a b c d e f) rfl rfl
/-! ## twice -/
def cz : C3 := ((zE, zE), (zE, zE), (zE, zE))
def cdblN (p : C3) : C3 :=
  let a := emul p.1 p.1
  let b := emul p.2.1 p.2.1
  let s0 := emul p.1 b
  let s1 := eadd s0 s0
  let s := eadd s1 s1
  let m := eadd (eadd a a) a
  let x := esub (esub (emul m m) s) s
  let c0 := emul b b
  let c1 := eadd c0 c0
  let c2 := eadd c1 c1
  let c := eadd c2 c2
  let z := emul p.2.1 p.2.2
  (x, esub (emul m (esub s x)) c, eadd z z)
def cdbl (p : C3) : C3 := bif eisz p.2.2 || eisz p.2.1 then cz else cdblN p
abbrev z36 : LV Fe := .agg (List.replicate 36 (.int .u64 0))
theorem z36_tr (ρ : Key → Loc) : LV.tr ρ z36 = LV.tr ρ (cV cz) := by kernel_rfl
set_option maxRecDepth 100000 in
theorem entRCDouble : ∀ args w, (callFunc 40 args).run Tryz.prog w = .ok (.enter 40 args) w := ent_of (f := 40) (P := Tryz.prog) rfl rfl rfl
set_option maxRecDepth 100000 in
def rcd1V_G (a b c d e f : Fe) : Prop := eisz (e, f) = true ∧ true = true
set_option maxRecDepth 100000 in
theorem rcd1V (a b c d e f : Fe) : (callF Tryz.prog (SRC (dci 40 [(1, 1, true)]) [conRCNone]) 90 40 [bF [a, b, c, d, e, f]] []).map (fun r => (r.1, r.2.2)) = some (z36, some (rcd1V_G a b c d e f)) := by kernel_rfl
set_option maxRecDepth 100000 in
def rcd2V_G (a b c d e f : Fe) : Prop := (eisz (e, f) = false ∧ eisz (c, d) = true) ∧ true = true
set_option maxRecDepth 100000 in
theorem rcd2V (a b c d e f : Fe) : (callF Tryz.prog (SRC (dci 40 [(1, 1, false), (1, 5, true)]) [conRCNone]) 90 40 [bF [a, b, c, d, e, f]] []).map (fun r => (r.1, r.2.2)) = some (z36, some (rcd2V_G a b c d e f)) := by kernel_rfl
set_option maxRecDepth 100000 in
def rcd3V_G (a b c d e f : Fe) : Prop := (eisz (e, f) = false ∧ eisz (c, d) = false) ∧ true = true ∧ true = true ∧ true = true ∧ true = true ∧ true = true ∧ true = true ∧ true = true ∧ true = true ∧ true = true ∧ true = true ∧ true = true ∧ true = true ∧ true = true
set_option maxRecDepth 100000 in
theorem rcd3V (a b c d e f : Fe) : (callF Tryz.prog (SRC (dci 40 [(1, 1, false), (1, 5, false)]) [conRCNone]) 90 40 [bF [a, b, c, d, e, f]] []).map (fun r => (r.1, r.2.2)) = some (cV (cdblN ((a, b), (c, d), (e, f))), some (rcd3V_G a b c d e f)) := by kernel_rfl
theorem rcd_runs (a b c d e f : Fe) : Runs 40 [bF [a, b, c, d, e, f]] (cV (cdbl ((a, b), (c, d), (e, f)))) := by
  cases h1 : eisz (e, f) with
  | true =>
    rw [show cdbl ((a, b), (c, d), (e, f)) = cz by simp only [cdbl, h1, Bool.true_or, cond_true]]
    exact (Runs.of (SRE_ok _ _) rfl (rcd1V a b c d e f) (by unfold condOk rcd1V_G; and_intros <;> first | with_reducible rfl | assumption) rfl rfl).as rfl z36_tr
  | false => cases h2 : eisz (c, d) with
    | true =>
      rw [show cdbl ((a, b), (c, d), (e, f)) = cz by simp only [cdbl, h1, h2, Bool.or_true, cond_true]]
      exact (Runs.of (SRE_ok _ _) rfl (rcd2V a b c d e f) (by unfold condOk rcd2V_G; and_intros <;> first | with_reducible rfl | assumption) rfl rfl).as rfl z36_tr
    | false =>
      rw [show cdbl ((a, b), (c, d), (e, f)) = cdblN ((a, b), (c, d), (e, f)) by simp only [cdbl, h1, h2, Bool.or_false, cond_false]]
      exact .of (SRE_ok _ _) rfl (rcd3V a b c d e f) (by unfold condOk rcd3V_G; and_intros <;> first | with_reducible rfl | assumption) rfl rfl
noncomputable def conRCDouble : ConP Tryz.prog Fe := mkP 40 entRCDouble [6] (fun a b c d e f => cV (cdbl ((a, b), (c, d), (e, f)))) rcd_runs
/-! ## sums -/
def caddH (p q : C3) : E2 := esub (emul q.1 (emul p.2.2 p.2.2)) (emul p.1 (emul q.2.2 q.2.2))
def caddR (p q : C3) : E2 := esub (emul (emul q.2.1 (emul p.2.2 p.2.2)) p.2.2) (emul (emul p.2.1 (emul q.2.2 q.2.2)) q.2.2)
def caddN (p q : C3) : C3 :=
  let qz := emul q.2.2 q.2.2
  let u := emul p.1 qz
  let s := emul (emul p.2.1 qz) q.2.2
  let h := caddH p q
  let r := caddR p q
  let h2 := emul h h
  let h3 := emul h2 h
  let w := emul u h2
  let x := esub (esub (esub (emul r r) h3) w) w
  (x, esub (emul r (esub w x)) (emul s h3), emul (emul p.2.2 q.2.2) h)
def cadd (p q : C3) : C3 := bif eisz p.2.2 then q else bif eisz q.2.2 then p else bif eisz (caddH p q) then (bif eisz (caddR p q) then cdbl p else cz) else caddN p q
set_option maxRecDepth 100000 in
theorem entRCAdd : ∀ args w, (callFunc 38 args).run Tryz.prog w = .ok (.enter 38 args) w := ent_of (f := 38) (P := Tryz.prog) rfl rfl rfl
set_option maxRecDepth 100000 in
def rca1V_G (a b c d e f g h i j k l : Fe) : Prop := eisz (e, f) = true ∧ true = true
set_option maxRecDepth 100000 in
theorem rca1V (a b c d e f g h i j k l : Fe) : (callF Tryz.prog (SRC (dci 38 [(1, 1, true)]) [conRCNone, conRCDouble]) 90 38 [bF [a, b, c, d, e, f], bF [g, h, i, j, k, l]] []).map (fun r => (r.1, r.2.2)) = some (cV ((g, h), (i, j), (k, l)), some (rca1V_G a b c d e f g h i j k l)) := by kernel_rfl
set_option maxRecDepth 100000 in
def rca2V_G (a b c d e f g h i j k l : Fe) : Prop := eisz (e, f) = false ∧ eisz (k, l) = true ∧ true = true
set_option maxRecDepth 100000 in
theorem rca2V (a b c d e f g h i j k l : Fe) : (callF Tryz.prog (SRC (dci 38 [(1, 1, false), (3, 1, true)]) [conRCNone, conRCDouble]) 90 38 [bF [a, b, c, d, e, f], bF [g, h, i, j, k, l]] []).map (fun r => (r.1, r.2.2)) = some (cV ((a, b), (c, d), (e, f)), some (rca2V_G a b c d e f g h i j k l)) := by kernel_rfl
set_option maxRecDepth 100000 in
def rca3V_G (a b c d e f g h i j k l : Fe) : Prop := eisz (e, f) = false ∧ eisz (k, l) = false ∧ (true = true ∧ true = true) ∧ (true = true ∧ true = true) ∧ (true = true ∧ true = true) ∧ (true = true ∧ true = true) ∧ eisz (fsub (Prod.fst (emul (g, h) (Prod.fst (emul (e, f) (e, f)), Prod.snd (emul (e, f) (e, f))))) (Prod.fst (emul (a, b) (Prod.fst (emul (k, l) (k, l)), Prod.snd (emul (k, l) (k, l))))), fsub (Prod.snd (emul (g, h) (Prod.fst (emul (e, f) (e, f)), Prod.snd (emul (e, f) (e, f))))) (Prod.snd (emul (a, b) (Prod.fst (emul (k, l) (k, l)), Prod.snd (emul (k, l) (k, l)))))) = true ∧ eisz (fsub (Prod.fst (emul (Prod.fst (emul (i, j) (Prod.fst (emul (e, f) (e, f)), Prod.snd (emul (e, f) (e, f)))), Prod.snd (emul (i, j) (Prod.fst (emul (e, f) (e, f)), Prod.snd (emul (e, f) (e, f))))) (e, f))) (Prod.fst (emul (Prod.fst (emul (c, d) (Prod.fst (emul (k, l) (k, l)), Prod.snd (emul (k, l) (k, l)))), Prod.snd (emul (c, d) (Prod.fst (emul (k, l) (k, l)), Prod.snd (emul (k, l) (k, l))))) (k, l))), fsub (Prod.snd (emul (Prod.fst (emul (i, j) (Prod.fst (emul (e, f) (e, f)), Prod.snd (emul (e, f) (e, f)))), Prod.snd (emul (i, j) (Prod.fst (emul (e, f) (e, f)), Prod.snd (emul (e, f) (e, f))))) (e, f))) (Prod.snd (emul (Prod.fst (emul (c, d) (Prod.fst (emul (k, l) (k, l)), Prod.snd (emul (k, l) (k, l)))), Prod.snd (emul (c, d) (Prod.fst (emul (k, l) (k, l)), Prod.snd (emul (k, l) (k, l))))) (k, l)))) = true ∧ true = true
set_option maxRecDepth 100000 in
theorem rca3V (a b c d e f g h i j k l : Fe) : (callF Tryz.prog (SRC (dci 38 [(1, 1, false), (3, 1, false), (9, 1, true), (10, 1, true)]) [conRCNone, conRCDouble]) 90 38 [bF [a, b, c, d, e, f], bF [g, h, i, j, k, l]] []).map (fun r => (r.1, r.2.2)) = some (cV (cdbl ((a, b), (c, d), (e, f))), some (rca3V_G a b c d e f g h i j k l)) := by kernel_rfl
set_option maxRecDepth 100000 in
def rca4V_G (a b c d e f g h i j k l : Fe) : Prop := eisz (e, f) = false ∧ eisz (k, l) = false ∧ (true = true ∧ true = true) ∧ (true = true ∧ true = true) ∧ (true = true ∧ true = true) ∧ (true = true ∧ true = true) ∧ eisz (fsub (Prod.fst (emul (g, h) (Prod.fst (emul (e, f) (e, f)), Prod.snd (emul (e, f) (e, f))))) (Prod.fst (emul (a, b) (Prod.fst (emul (k, l) (k, l)), Prod.snd (emul (k, l) (k, l))))), fsub (Prod.snd (emul (g, h) (Prod.fst (emul (e, f) (e, f)), Prod.snd (emul (e, f) (e, f))))) (Prod.snd (emul (a, b) (Prod.fst (emul (k, l) (k, l)), Prod.snd (emul (k, l) (k, l)))))) = true ∧ eisz (fsub (Prod.fst (emul (Prod.fst (emul (i, j) (Prod.fst (emul (e, f) (e, f)), Prod.snd (emul (e, f) (e, f)))), Prod.snd (emul (i, j) (Prod.fst (emul (e, f) (e, f)), Prod.snd (emul (e, f) (e, f))))) (e, f))) (Prod.fst (emul (Prod.fst (emul (c, d) (Prod.fst (emul (k, l) (k, l)), Prod.snd (emul (k, l) (k, l)))), Prod.snd (emul (c, d) (Prod.fst (emul (k, l) (k, l)), Prod.snd (emul (k, l) (k, l))))) (k, l))), fsub (Prod.snd (emul (Prod.fst (emul (i, j) (Prod.fst (emul (e, f) (e, f)), Prod.snd (emul (e, f) (e, f)))), Prod.snd (emul (i, j) (Prod.fst (emul (e, f) (e, f)), Prod.snd (emul (e, f) (e, f))))) (e, f))) (Prod.snd (emul (Prod.fst (emul (c, d) (Prod.fst (emul (k, l) (k, l)), Prod.snd (emul (k, l) (k, l)))), Prod.snd (emul (c, d) (Prod.fst (emul (k, l) (k, l)), Prod.snd (emul (k, l) (k, l))))) (k, l)))) = false ∧ true = true
set_option maxRecDepth 100000 in
theorem rca4V (a b c d e f g h i j k l : Fe) : (callF Tryz.prog (SRC (dci 38 [(1, 1, false), (3, 1, false), (9, 1, true), (10, 1, false)]) [conRCNone, conRCDouble]) 90 38 [bF [a, b, c, d, e, f], bF [g, h, i, j, k, l]] []).map (fun r => (r.1, r.2.2)) = some (z36, some (rca4V_G a b c d e f g h i j k l)) := by kernel_rfl
set_option maxRecDepth 100000 in
def rca5V_G (a b c d e f g h i j k l : Fe) : Prop := eisz (e, f) = false ∧ eisz (k, l) = false ∧ (true = true ∧ true = true) ∧ (true = true ∧ true = true) ∧ (true = true ∧ true = true) ∧ (true = true ∧ true = true) ∧ eisz (fsub (Prod.fst (emul (g, h) (Prod.fst (emul (e, f) (e, f)), Prod.snd (emul (e, f) (e, f))))) (Prod.fst (emul (a, b) (Prod.fst (emul (k, l) (k, l)), Prod.snd (emul (k, l) (k, l))))), fsub (Prod.snd (emul (g, h) (Prod.fst (emul (e, f) (e, f)), Prod.snd (emul (e, f) (e, f))))) (Prod.snd (emul (a, b) (Prod.fst (emul (k, l) (k, l)), Prod.snd (emul (k, l) (k, l)))))) = false ∧ true = true ∧ true = true ∧ true = true ∧ true = true ∧ true = true
set_option maxRecDepth 100000 in
theorem rca5V (a b c d e f g h i j k l : Fe) : (callF Tryz.prog (SRC (dci 38 [(1, 1, false), (3, 1, false), (9, 1, false)]) [conRCNone, conRCDouble]) 90 38 [bF [a, b, c, d, e, f], bF [g, h, i, j, k, l]] []).map (fun r => (r.1, r.2.2)) = some (cV (caddN ((a, b), (c, d), (e, f)) ((g, h), (i, j), (k, l))), some (rca5V_G a b c d e f g h i j k l)) := by kernel_rfl
end Go.Proofs.YtonmjdnkcngfjaaGreat.En

/- DERIVED. The document's sums of points as contracts. -/
set_option linter.all false
namespace Go.Proofs.YtonmjdnkcngfjaaGreat.En
open Go Go.RowKit

theorem cadd_1 {p q : C3} (h : eisz p.2.2 = true) : cadd p q = q := by unfold cadd; rw [h]; rfl
theorem cadd_2 {p q : C3} (h : eisz p.2.2 = false) (h2 : eisz q.2.2 = true) : cadd p q = p := by unfold cadd; rw [h, h2]; rfl
theorem cadd_3 {p q : C3} (h : eisz p.2.2 = false) (h2 : eisz q.2.2 = false) (h3 : eisz (caddH p q) = true) (h4 : eisz (caddR p q) = true) : cadd p q = cdbl p := by unfold cadd; rw [h, h2, h3, h4]; rfl
theorem cadd_4 {p q : C3} (h : eisz p.2.2 = false) (h2 : eisz q.2.2 = false) (h3 : eisz (caddH p q) = true) (h4 : eisz (caddR p q) = false) : cadd p q = cz := by unfold cadd; rw [h, h2, h3, h4]; rfl
theorem cadd_5 {p q : C3} (h : eisz p.2.2 = false) (h2 : eisz q.2.2 = false) (h3 : eisz (caddH p q) = false) : cadd p q = caddN p q := by unfold cadd; rw [h, h2, h3]; rfl
theorem rca_1 (a b c d e f g h i j k l : Fe) (h1 : eisz (e, f) = true) : Runs 38 [bF [a, b, c, d, e, f], bF [g, h, i, j, k, l]] (cV ((g, h), (i, j), (k, l))) := .of (SRE_ok _ _) rfl (rca1V a b c d e f g h i j k l) (by unfold condOk rca1V_G; and_intros <;> first | with_reducible rfl | assumption) rfl rfl
theorem rca_2 (a b c d e f g h i j k l : Fe) (h1 : eisz (e, f) = false) (h2 : eisz (k, l) = true) : Runs 38 [bF [a, b, c, d, e, f], bF [g, h, i, j, k, l]] (cV ((a, b), (c, d), (e, f))) := .of (SRE_ok _ _) rfl (rca2V a b c d e f g h i j k l) (by unfold condOk rca2V_G; and_intros <;> first | with_reducible rfl | assumption) rfl rfl
theorem rca_3 (a b c d e f g h i j k l : Fe) (h1 : eisz (e, f) = false) (h2 : eisz (k, l) = false) (h3 : eisz (caddH ((a, b), (c, d), (e, f)) ((g, h), (i, j), (k, l))) = true) (h4 : eisz (caddR ((a, b), (c, d), (e, f)) ((g, h), (i, j), (k, l))) = true) : Runs 38 [bF [a, b, c, d, e, f], bF [g, h, i, j, k, l]] (cV (cdbl ((a, b), (c, d), (e, f)))) := by
  simp only [caddH, esub] at h3; simp only [caddR, esub] at h4
  exact .of (SRE_ok _ _) rfl (rca3V a b c d e f g h i j k l) (by unfold condOk rca3V_G; simp only [pair_eta]; and_intros <;> first | exact True.intro | with_reducible rfl | assumption) rfl rfl
theorem rca_4 (a b c d e f g h i j k l : Fe) (h1 : eisz (e, f) = false) (h2 : eisz (k, l) = false) (h3 : eisz (caddH ((a, b), (c, d), (e, f)) ((g, h), (i, j), (k, l))) = true) (h4 : eisz (caddR ((a, b), (c, d), (e, f)) ((g, h), (i, j), (k, l))) = false) : Runs 38 [bF [a, b, c, d, e, f], bF [g, h, i, j, k, l]] (cV cz) := by
  simp only [caddH, esub] at h3; simp only [caddR, esub] at h4
  exact (Runs.of (SRE_ok _ _) rfl (rca4V a b c d e f g h i j k l) (by unfold condOk rca4V_G; simp only [pair_eta]; and_intros <;> first | exact True.intro | with_reducible rfl | assumption) rfl rfl).as rfl z36_tr
theorem rca_5 (a b c d e f g h i j k l : Fe) (h1 : eisz (e, f) = false) (h2 : eisz (k, l) = false) (h3 : eisz (caddH ((a, b), (c, d), (e, f)) ((g, h), (i, j), (k, l))) = false) : Runs 38 [bF [a, b, c, d, e, f], bF [g, h, i, j, k, l]] (cV (caddN ((a, b), (c, d), (e, f)) ((g, h), (i, j), (k, l)))) := by
  simp only [caddH, esub] at h3
  exact .of (SRE_ok _ _) rfl (rca5V a b c d e f g h i j k l) (by unfold condOk rca5V_G; simp only [pair_eta]; and_intros <;> first | exact True.intro | with_reducible rfl | assumption) rfl rfl
theorem rca_runs (a b c d e f g h i j k l : Fe) : Runs 38 [bF [a, b, c, d, e, f], bF [g, h, i, j, k, l]] (cV (cadd ((a, b), (c, d), (e, f)) ((g, h), (i, j), (k, l)))) := by
  cases h1 : eisz (e, f) with
  | true => rw [cadd_1 (p := ((a, b), (c, d), (e, f))) (q := ((g, h), (i, j), (k, l))) h1]; exact rca_1 a b c d e f g h i j k l h1
  | false => cases h2 : eisz (k, l) with
    | true => rw [cadd_2 (p := ((a, b), (c, d), (e, f))) (q := ((g, h), (i, j), (k, l))) h1 h2]; exact rca_2 a b c d e f g h i j k l h1 h2
    | false => cases h3 : eisz (caddH ((a, b), (c, d), (e, f)) ((g, h), (i, j), (k, l))) with
      | true => cases h4 : eisz (caddR ((a, b), (c, d), (e, f)) ((g, h), (i, j), (k, l))) with
        | true => rw [cadd_3 h1 h2 h3 h4]; exact rca_3 a b c d e f g h i j k l h1 h2 h3 h4
        | false => rw [cadd_4 h1 h2 h3 h4]; exact rca_4 a b c d e f g h i j k l h1 h2 h3 h4
      | false => rw [cadd_5 h1 h2 h3]; exact rca_5 a b c d e f g h i j k l h1 h2 h3
noncomputable def conRCAdd : ConP Tryz.prog Fe := mkP 38 entRCAdd [6, 6] (fun a b c d e f g h i j k l => cV (cadd ((a, b), (c, d), (e, f)) ((g, h), (i, j), (k, l)))) rca_runs
set_option maxRecDepth 100000 in
theorem entRCEqual : ∀ args w, (callFunc 42 args).run Tryz.prog w = .ok (.enter 42 args) w := ent_of (f := 42) (P := Tryz.prog) rfl rfl rfl
set_option maxRecDepth 100000 in
theorem rcequalV (a b c d e f g h i j k l : Fe) : (callF Tryz.prog (SRC noD [conRCNone, conRCNeg, conRCAdd]) 60 42 [bF [a, b, c, d, e, f], bF [g, h, i, j, k, l]] []).map (fun r => (r.1, r.2.2)) = some (.bool (eisz (cadd ((a, b), (c, d), (e, f)) (cnegF ((g, h), (i, j), (k, l)))).2.2), none) := by kernel_rfl
theorem rcequalV_ok (a b c d e f g h i j k l : Fe) : condOk none := trivial
noncomputable def conRCEqual : ConP Tryz.prog Fe := mkP 42 entRCEqual [6, 6] (fun a b c d e f g h i j k l => .bool (eisz (cadd ((a, b), (c, d), (e, f)) (cnegF ((g, h), (i, j), (k, l)))).2.2)) fun a b c d e f g h i j k l => .of (SRE_ok _ _) rfl (rcequalV a b c d e f g h i j k l) (rcequalV_ok a b c d e f g h i j k l) rfl rfl
end Go.Proofs.YtonmjdnkcngfjaaGreat.En

/- DERIVED. The document's curve: its numbers, its equation. -/
set_option linter.all false
namespace Go.Proofs.YtonmjdnkcngfjaaGreat.En
open Go Go.RowKit

def eOne : E2 := (fmul frone ftwo, zE)
theorem pad0_tr (a : Fe) (ρ : Key → Loc) : LV.tr ρ (.agg [.abs a, .int .u64 0, .int .u64 0, .int .u64 0, .int .u64 0, .int .u64 0, .int .u64 0] : LV Fe) = LV.tr ρ (eV (a, zE)) :=
  congrArg (fun l : List Value => Value.agg (LV.cells ρ (.abs a : LV Fe) ++ l).toArray) (zE_cells ρ [])
set_option maxRecDepth 100000 in
theorem entREOne : ∀ args w, (callFunc 93 args).run Tryz.prog w = .ok (.enter 93 args) w := ent_of (f := 93) (P := Tryz.prog) rfl rfl rfl
set_option maxRecDepth 100000 in
def reoV_G  : Prop := true = true ∧ true = true
set_option maxRecDepth 100000 in
theorem reoV  : (callF Tryz.prog (SRC noD []) 60 93 [] []).map (fun r => (r.1, r.2.2)) = some (.agg [.abs (fmul frone ftwo), .int .u64 0, .int .u64 0, .int .u64 0, .int .u64 0, .int .u64 0, .int .u64 0], some (reoV_G )) := by kernel_rfl
set_option maxRecDepth 100000 in
theorem reoV_ok  : condOk (some (reoV_G )) := by unfold reoV_G condOk; and_intros <;> rfl
noncomputable def conREOne : ConP Tryz.prog Fe := mk0 93 entREOne (eV eOne) ((Runs.of (SRE_ok _ _) rfl reoV reoV_ok rfl rfl).as rfl (pad0_tr _))
set_option maxRecDepth 100000 in
theorem entRAt : ∀ args w, (callFunc 83 args).run Tryz.prog w = .ok (.enter 83 args) w := ent_of (f := 83) (P := Tryz.prog) rfl rfl rfl
set_option maxRecDepth 100000 in
def ratV_G (a b c d : Fe) : Prop := true = true
set_option maxRecDepth 100000 in
theorem ratV (a b c d : Fe) : (callF Tryz.prog (SRC noD [conREOne]) 60 83 [bF [a, b], bF [c, d]] []).map (fun r => (r.1, r.2.2)) = some (cV ((a, b), (c, d), eOne), some (ratV_G a b c d)) := by kernel_rfl
set_option maxRecDepth 100000 in
theorem ratV_ok (a b c d : Fe) : condOk (some (ratV_G a b c d)) := by unfold ratV_G condOk; and_intros <;> rfl
noncomputable def conRAt : ConP Tryz.prog Fe := mkP 83 entRAt [2, 2] (fun a b c d => cV ((a, b), (c, d), eOne)) fun a b c d => .of (SRE_ok _ _) rfl (ratV a b c d) (ratV_ok a b c d) rfl rfl
/-! ## the curve's number -/
def four : Fe := fmul (ofSix 4 0 0 0 0 0) ftwo
def eB (s : Bool) : E2 := bif s then (four, four) else (four, fmul zE ftwo)
set_option maxRecDepth 100000 in
theorem entRB : ∀ args w, (callFunc 56 args).run Tryz.prog w = .ok (.enter 56 args) w := ent_of (f := 56) (P := Tryz.prog) rfl rfl rfl
set_option maxRecDepth 100000 in
def rb0V_G  : Prop := (true = true ∧ true = true ∧ true = true) ∧ true = true
set_option maxRecDepth 100000 in
theorem rb0V  : (callF Tryz.prog (SRC noD []) 60 56 [.bool false] []).map (fun r => (r.1, r.2.2)) = some (eV (eB false), some (rb0V_G )) := by kernel_rfl
set_option maxRecDepth 100000 in
theorem rb0V_ok  : condOk (some (rb0V_G )) := by unfold rb0V_G condOk; and_intros <;> rfl
set_option maxRecDepth 100000 in
def rb1V_G  : Prop := (true = true ∧ true = true ∧ true = true) ∧ true = true
set_option maxRecDepth 100000 in
theorem rb1V  : (callF Tryz.prog (SRC noD []) 60 56 [.bool true] []).map (fun r => (r.1, r.2.2)) = some (eV (eB true), some (rb1V_G )) := by kernel_rfl
set_option maxRecDepth 100000 in
theorem rb1V_ok  : condOk (some (rb1V_G )) := by unfold rb1V_G condOk; and_intros <;> rfl
def boolFn (g : Bool → LV Fe) : List (LV Fe) → Option (LV Fe)
  | [.bool b] => some (g b)
  | _ => none
theorem boolFn_some {g : Bool → LV Fe} {vs : List (LV Fe)} {v : LV Fe} (h : boolFn g vs = some v) : ∃ b, vs = [.bool b] ∧ v = g b := by
  unfold boolFn at h
  split at h
  · cases h; exact ⟨_, rfl, rfl⟩
  · cases h
theorem rb_runs : ∀ b, Runs 56 [.bool b] (eV (eB b))
  | false => .of (SRE_ok _ _) rfl rb0V rb0V_ok rfl rfl
  | true => .of (SRE_ok _ _) rfl rb1V rb1V_ok rfl rfl
noncomputable def conRB : ConP Tryz.prog Fe where
  f := 56
  fn := boolFn fun b => eV (eB b)
  ent := entRB
  kin vs v h p := by
    obtain ⟨b, _, rfl⟩ := boolFn_some h
    exact pv_kin p _ rfl
  call vs v h ρ w := by
    obtain ⟨b, rfl, rfl⟩ := boolFn_some h
    exact (rb_runs b).run ρ w
/-! ## the equation -/
def eeq (x y : E2) : Bool := Nat.beq (fv x.1 % pN) (fv y.1 % pN) && (Nat.beq (fv x.2 % pN) (fv y.2 % pN) && true)
def ronF (x y : E2) (s : Bool) : Bool := eeq (emul y y) (eadd (emul (emul x x) x) (eB s))
set_option maxRecDepth 100000 in
theorem entROn : ∀ args w, (callFunc 14 args).run Tryz.prog w = .ok (.enter 14 args) w := ent_of (f := 14) (P := Tryz.prog) rfl rfl rfl
set_option maxRecDepth 100000 in
theorem rocV (a b c d : Fe) (s : Bool) : (callF Tryz.prog (SRC noD [conRB]) 60 14 [bF [a, b], bF [c, d], .bool s] []).map (fun r => (r.1, r.2.2)) = some (.bool (ronF (a, b) (c, d) s), none) := by kernel_rfl
theorem rocV_ok (a b c d : Fe) (s : Bool) : condOk none := trivial
/-- Groups of elements and a plain bool behind them. -/
def splitB : List (LV Fe) → Option (List (LV Fe) × Bool)
  | [.bool s] => some ([], s)
  | v :: l => match splitB l with
    | some (t, s) => some (v :: t, s)
    | none => none
  | [] => none
theorem splitB_eq : ∀ {l t : List (LV Fe)} {s : Bool}, splitB l = some (t, s) → l = t ++ [.bool s]
  | [], _, _, h => by cases h
  | [v], t, s, h => by
    cases v <;> first | (cases h; rfl) | (simp [splitB] at h)
  | v :: u :: l, t, s, h => by
    have h : (match splitB (u :: l) with
      | some (t, s) => some (v :: t, s)
      | none => none) = some (t, s) := by
      cases v <;> exact h
    split at h
    · rename_i t' s' hs
      cases h
      rw [splitB_eq hs]; rfl
    · cases h
theorem trs_app (ρ : Key → Loc) : ∀ l m : List (LV Fe), trs ρ (l ++ m) = trs ρ l ++ trs ρ m
  | [], _ => rfl
  | v :: l, m => by simp only [List.cons_append, trs, trs_app ρ l m]
def fnPB (ks : List Nat) (val : Bool → Fn (sumN ks)) (vs : List (LV Fe)) : Option (LV Fe) := match splitB vs with
  | some (us, s) => match pA ks us with
    | some xs => apF (sumN ks) (val s) xs.flatten
    | none => none
  | none => none
noncomputable def mkPB (f : FuncId) (ent : ∀ args w, (callFunc f args).run Tryz.prog w = .ok (.enter f args) w) (ks : List Nat) (val : Bool → Fn (sumN ks)) (run : ∀ s, AllF (sumN ks) (val s) fun l v => Runs f (bA (cut ks l) ++ [.bool s]) v) : ConP Tryz.prog Fe where
  f := f
  fn := fnPB ks val
  ent := ent
  kin vs v h p := by
    unfold fnPB at h
    split at h
    · rename_i us s hs
      split at h
      · exact pv_kin p v (AllF.at _ _ _ v (run s) h).plain
      · cases h
    · cases h
  call vs v h ρ w := by
    unfold fnPB at h
    split at h
    · rename_i us s hs
      split at h
      · rename_i xs hx
        obtain ⟨e, m⟩ := pA_trs _ _ _ hx
        have := AllF.at _ _ _ v (run s) h
        rw [cut_flat _ _ e] at this
        rw [splitB_eq hs, trs_app, m ρ, ← trs_app]
        exact this.run ρ w
      · cases h
    · cases h
noncomputable def conROn : ConP Tryz.prog Fe := mkPB 14 entROn [2, 2] (fun s a b c d => .bool (ronF (a, b) (c, d) s)) fun s a b c d => .of (SRE_ok _ _) rfl (rocV a b c d s) (rocV_ok a b c d s) rfl rfl
end Go.Proofs.YtonmjdnkcngfjaaGreat.En

/- DERIVED. The field's written numbers; the first group's points as contracts. -/
set_option linter.all false
namespace Go.Proofs.YtonmjdnkcngfjaaGreat.En
open Go Go.RowKit

set_option maxRecDepth 100000 in
theorem entSquare : ∀ args w, (callFunc 131 args).run Tryz.prog w = .ok (.enter 131 args) w := ent_of (f := 131) (P := Tryz.prog) rfl rfl rfl
set_option maxRecDepth 100000 in
def sqrV_G  : Prop := true = true
set_option maxRecDepth 100000 in
theorem sqrV  : (callF Tryz.prog (SGa noD []) 60 131 [] []).map (fun r => (r.1, r.2.2)) = some (vTwo, some (sqrV_G )) := by kernel_rfl
set_option maxRecDepth 100000 in
theorem sqrV_ok  : condOk (some (sqrV_G )) := by unfold sqrV_G condOk; and_intros <;> rfl
noncomputable def conSqC : ConP Tryz.prog Fe := mk0 131 entSquare vTwo (.of (SGa_ok _ _) rfl sqrV sqrV_ok rfl rfl)
set_option maxRecDepth 100000 in
theorem entMade : ∀ args w, (callFunc 96 args).run Tryz.prog w = .ok (.enter 96 args) w := ent_of (f := 96) (P := Tryz.prog) rfl rfl rfl
set_option maxRecDepth 100000 in
def madV_G (a : Fe) : Prop := true = true
set_option maxRecDepth 100000 in
theorem madV (a : Fe) : (callF Tryz.prog (SGa noD [conSqC]) 60 96 [bF [a]] []).map (fun r => (r.1, r.2.2)) = some (.agg [.abs (fmul a ftwo)], some (madV_G a)) := by kernel_rfl
set_option maxRecDepth 100000 in
theorem madV_ok (a : Fe) : condOk (some (madV_G a)) := by unfold madV_G condOk; and_intros <;> rfl
noncomputable def conMade : ConP Tryz.prog Fe := mkP 96 entMade [1] (fun a => .agg [.abs (fmul a ftwo)]) fun a => .of (SGa_ok _ _) rfl (madV a) (madV_ok a) rfl rfl
set_option maxRecDepth 100000 in
theorem entNumber : ∀ args w, (callFunc 138 args).run Tryz.prog w = .ok (.enter 138 args) w := ent_of (f := 138) (P := Tryz.prog) rfl rfl rfl
set_option maxRecDepth 100000 in
def nmbV_G (a : Fe) : Prop := true = true
set_option maxRecDepth 100000 in
theorem nmbV (a : Fe) : (callF Tryz.prog (SGa noD []) 60 138 [bF [a]] []).map (fun r => (r.1, r.2.2)) = some (.agg [.abs (fmul a frone)], some (nmbV_G a)) := by kernel_rfl
set_option maxRecDepth 100000 in
theorem nmbV_ok (a : Fe) : condOk (some (nmbV_G a)) := by unfold nmbV_G condOk; and_intros <;> rfl
noncomputable def conNumber : ConP Tryz.prog Fe := mkP 138 entNumber [1] (fun a => .agg [.abs (fmul a frone)]) fun a => .of (SGa_ok _ _) rfl (nmbV a) (nmbV_ok a) rfl rfl
/-! ## small numbers -/
def fOne : Fe := fmul frone ftwo
set_option maxRecDepth 100000 in
def of1V_G  : Prop := true = true
set_option maxRecDepth 100000 in
theorem of1V  : (callF Tryz.prog (SGa noD [conMade]) 60 103 [.int .u64 1] []).map (fun r => (r.1, r.2.2)) = some (.agg [.abs fOne], some (of1V_G )) := by kernel_rfl
set_option maxRecDepth 100000 in
theorem of1V_ok  : condOk (some (of1V_G )) := by unfold of1V_G condOk; and_intros <;> rfl
set_option maxRecDepth 100000 in
def of4V_G  : Prop := true = true
set_option maxRecDepth 100000 in
theorem of4V  : (callF Tryz.prog (SGa noD [conMade]) 60 103 [.int .u64 4] []).map (fun r => (r.1, r.2.2)) = some (.agg [.abs four], some (of4V_G )) := by kernel_rfl
set_option maxRecDepth 100000 in
theorem of4V_ok  : condOk (some (of4V_G )) := by unfold of4V_G condOk; and_intros <;> rfl
set_option maxRecDepth 100000 in
theorem entOf : ∀ args w, (callFunc 103 args).run Tryz.prog w = .ok (.enter 103 args) w := ent_of (f := 103) (P := Tryz.prog) rfl rfl rfl
def ofFn : List (LV Fe) → Option (LV Fe)
  | [.int .u64 n] => match decide (n = 1) with
    | true => some (.agg [.abs fOne])
    | false => match decide (n = 4) with
      | true => some (.agg [.abs four])
      | false => none
  | _ => none
theorem ofFn_runs {vs : List (LV Fe)} {v : LV Fe} (h : ofFn vs = some v) : Runs 103 vs v := by
  unfold ofFn at h
  split at h
  · split at h
    · rename_i hn
      cases h
      rw [of_decide_eq_true hn]
      exact .of (SGa_ok _ _) rfl of1V of1V_ok rfl rfl
    · split at h
      · rename_i hn
        cases h
        rw [of_decide_eq_true hn]
        exact .of (SGa_ok _ _) rfl of4V of4V_ok rfl rfl
      · cases h
  · cases h
noncomputable def mkFn (f : FuncId) (ent : ∀ args w, (callFunc f args).run Tryz.prog w = .ok (.enter f args) w) (fn : List (LV Fe) → Option (LV Fe)) (run : ∀ {vs v}, fn vs = some v → Runs f vs v) : ConP Tryz.prog Fe where
  f := f
  fn := fn
  ent := ent
  kin vs v h p := pv_kin p _ (run h).plain
  call vs v h ρ w := (run h).run ρ w
noncomputable def conOf : ConP Tryz.prog Fe := mkFn 103 entOf ofFn ofFn_runs
/-! ## written numbers -/
/-- What a call of one string tells. -/
structure Calls2 (f : FuncId) (args : List (LV Fe)) (v : LV Fe) : Prop where
  plain : plainB v = true
  run : ∀ (ρ : Key → Loc) (w : World), Calls Tryz.prog f (trs ρ args).toArray w fun e w' => e = .returned (LV.tr ρ v) ∧ Below w.heap.size w w'
theorem Calls2.of {f : FuncId} {n : Nat} {s : ByteArray} {S : Sig Fe} (hS : SigOk Tryz.prog S) (hI : S.inp = noIF) {a : Fe} {c : Cnd} (h : (callF Tryz.prog S n f [.str s] []).map (fun r => (r.1, r.2.2)) = some (.agg [.abs a], c)) (hc : condOk c) : Calls2 f [.str s] (.agg [.abs a]) :=
  ⟨rfl, fun ρ w => plain_callF hS hI h hc (fun _ _ => rfl) ⟨trivial, trivial⟩ (fun _ _ => rfl) ρ w⟩
def sGx : List UInt8 := [49, 55, 102, 49, 100, 51, 97, 55, 51, 49, 57, 55, 100, 55, 57, 52, 50, 54, 57, 53, 54, 51, 56, 99, 52, 102, 97, 57, 97, 99, 48, 102, 99, 51, 54, 56, 56, 99, 52, 102, 57, 55, 55, 52, 98, 57, 48, 53, 97, 49, 52, 101, 51, 97, 51, 102, 49, 55, 49, 98, 97, 99, 53, 56, 54, 99, 53, 53, 101, 56, 51, 102, 102, 57, 55, 97, 49, 97, 101, 102, 102, 98, 51, 97, 102, 48, 48, 97, 100, 98, 50, 50, 99, 54, 98, 98]
def sGy : List UInt8 := [56, 98, 51, 102, 52, 56, 49, 101, 51, 97, 97, 97, 48, 102, 49, 97, 48, 57, 101, 51, 48, 101, 100, 55, 52, 49, 100, 56, 97, 101, 52, 102, 99, 102, 53, 101, 48, 57, 53, 100, 53, 100, 48, 48, 97, 102, 54, 48, 48, 100, 98, 49, 56, 99, 98, 50, 99, 48, 52, 98, 51, 101, 100, 100, 48, 51, 99, 99, 55, 52, 52, 97, 50, 56, 56, 56, 97, 101, 52, 48, 99, 97, 97, 50, 51, 50, 57, 52, 54, 99, 53, 101, 55, 101, 49]
def sThird : List UInt8 := [53, 102, 49, 57, 54, 55, 50, 102, 100, 102, 55, 54, 99, 101, 53, 49, 98, 97, 54, 57, 99, 54, 48, 55, 54, 97, 48, 102, 55, 55, 101, 97, 100, 100, 98, 51, 97, 57, 51, 98, 101, 54, 102, 56, 57, 54, 56, 56, 100, 101, 49, 55, 100, 56, 49, 51, 54, 50, 48, 97, 48, 48, 48, 50, 50, 101, 48, 49, 102, 102, 102, 102, 102, 102, 102, 101, 102, 102, 102, 101]
def fGx : Fe := fmul (ofSix 18103045581585958587 7806400890582735599 11623291730934869080 14080658508445169925 2780237799254240271 1725392847304644500) ftwo
def fGy : Fe := fmul (ofSix 912580534683953121 15005087156090211044 61670280795567085 18227722000993880822 11573741888802228964 627113611842199793) ftwo
def fThird : Fe := fmul (ofSix 3315212275698040830 16003497378645147650 15975298377956497032 13432485098755684330 6852621763331149393 0) ftwo
set_option maxRecDepth 100000 in
def txxV_G  : Prop := (true = true ∧ true = true ∧ true = true ∧ true = true ∧ true = true ∧ true = true) ∧ (true = true ∧ true = true ∧ true = true ∧ true = true ∧ true = true ∧ true = true) ∧ (true = true ∧ true = true ∧ true = true ∧ true = true ∧ true = true ∧ true = true) ∧ (true = true ∧ true = true ∧ true = true ∧ true = true ∧ true = true ∧ true = true) ∧ (true = true ∧ true = true ∧ true = true ∧ true = true ∧ true = true ∧ true = true) ∧ (true = true ∧ true = true ∧ true = true ∧ true = true ∧ true = true ∧ true = true) ∧ (true = true ∧ true = true ∧ true = true ∧ true = true ∧ true = true ∧ true = true) ∧ (true = true ∧ true = true ∧ true = true ∧ true = true ∧ true = true ∧ true = true) ∧ (true = true ∧ true = true ∧ true = true ∧ true = true ∧ true = true ∧ true = true) ∧ (true = true ∧ true = true ∧ true = true ∧ true = true ∧ true = true ∧ true = true) ∧ (true = true ∧ true = true ∧ true = true ∧ true = true ∧ true = true ∧ true = true) ∧ (true = true ∧ true = true ∧ true = true ∧ true = true ∧ true = true ∧ true = true) ∧ (true = true ∧ true = true ∧ true = true ∧ true = true ∧ true = true ∧ true = true) ∧ (true = true ∧ true = true ∧ true = true ∧ true = true ∧ true = true ∧ true = true) ∧ (true = true ∧ true = true ∧ true = true ∧ true = true ∧ true = true ∧ true = true) ∧ (true = true ∧ true = true ∧ true = true ∧ true = true ∧ true = true ∧ true = true) ∧ (true = true ∧ true = true ∧ true = true ∧ true = true ∧ true = true ∧ true = true) ∧ (true = true ∧ true = true ∧ true = true ∧ true = true ∧ true = true ∧ true = true) ∧ (true = true ∧ true = true ∧ true = true ∧ true = true ∧ true = true ∧ true = true) ∧ (true = true ∧ true = true ∧ true = true ∧ true = true ∧ true = true ∧ true = true) ∧ (true = true ∧ true = true ∧ true = true ∧ true = true ∧ true = true ∧ true = true) ∧ (true = true ∧ true = true ∧ true = true ∧ true = true ∧ true = true ∧ true = true) ∧ (true = true ∧ true = true ∧ true = true ∧ true = true ∧ true = true ∧ true = true) ∧ (true = true ∧ true = true ∧ true = true ∧ true = true ∧ true = true ∧ true = true) ∧ (true = true ∧ true = true ∧ true = true ∧ true = true ∧ true = true ∧ true = true) ∧ (true = true ∧ true = true ∧ true = true ∧ true = true ∧ true = true ∧ true = true) ∧ (true = true ∧ true = true ∧ true = true ∧ true = true ∧ true = true ∧ true = true) ∧ (true = true ∧ true = true ∧ true = true ∧ true = true ∧ true = true ∧ true = true) ∧ (true = true ∧ true = true ∧ true = true ∧ true = true ∧ true = true ∧ true = true) ∧ (true = true ∧ true = true ∧ true = true ∧ true = true ∧ true = true ∧ true = true) ∧ (true = true ∧ true = true ∧ true = true ∧ true = true ∧ true = true ∧ true = true) ∧ (true = true ∧ true = true ∧ true = true ∧ true = true ∧ true = true ∧ true = true) ∧ (true = true ∧ true = true ∧ true = true ∧ true = true ∧ true = true ∧ true = true) ∧ (true = true ∧ true = true ∧ true = true ∧ true = true ∧ true = true ∧ true = true) ∧ (true = true ∧ true = true ∧ true = true ∧ true = true ∧ true = true ∧ true = true) ∧ (true = true ∧ true = true ∧ true = true ∧ true = true ∧ true = true ∧ true = true) ∧ (true = true ∧ true = true ∧ true = true ∧ true = true ∧ true = true ∧ true = true) ∧ (true = true ∧ true = true ∧ true = true ∧ true = true ∧ true = true ∧ true = true) ∧ (true = true ∧ true = true ∧ true = true ∧ true = true ∧ true = true ∧ true = true) ∧ (true = true ∧ true = true ∧ true = true ∧ true = true ∧ true = true ∧ true = true) ∧ (true = true ∧ true = true ∧ true = true ∧ true = true ∧ true = true ∧ true = true) ∧ (true = true ∧ true = true ∧ true = true ∧ true = true ∧ true = true ∧ true = true) ∧ (true = true ∧ true = true ∧ true = true ∧ true = true ∧ true = true ∧ true = true) ∧ (true = true ∧ true = true ∧ true = true ∧ true = true ∧ true = true ∧ true = true) ∧ (true = true ∧ true = true ∧ true = true ∧ true = true ∧ true = true ∧ true = true) ∧ (true = true ∧ true = true ∧ true = true ∧ true = true ∧ true = true ∧ true = true) ∧ (true = true ∧ true = true ∧ true = true ∧ true = true ∧ true = true ∧ true = true) ∧ (true = true ∧ true = true ∧ true = true ∧ true = true ∧ true = true ∧ true = true) ∧ (true = true ∧ true = true ∧ true = true ∧ true = true ∧ true = true ∧ true = true) ∧ (true = true ∧ true = true ∧ true = true ∧ true = true ∧ true = true ∧ true = true) ∧ (true = true ∧ true = true ∧ true = true ∧ true = true ∧ true = true ∧ true = true) ∧ (true = true ∧ true = true ∧ true = true ∧ true = true ∧ true = true ∧ true = true) ∧ (true = true ∧ true = true ∧ true = true ∧ true = true ∧ true = true ∧ true = true) ∧ (true = true ∧ true = true ∧ true = true ∧ true = true ∧ true = true ∧ true = true) ∧ (true = true ∧ true = true ∧ true = true ∧ true = true ∧ true = true ∧ true = true) ∧ (true = true ∧ true = true ∧ true = true ∧ true = true ∧ true = true ∧ true = true) ∧ (true = true ∧ true = true ∧ true = true ∧ true = true ∧ true = true ∧ true = true) ∧ (true = true ∧ true = true ∧ true = true ∧ true = true ∧ true = true ∧ true = true) ∧ (true = true ∧ true = true ∧ true = true ∧ true = true ∧ true = true ∧ true = true) ∧ (true = true ∧ true = true ∧ true = true ∧ true = true ∧ true = true ∧ true = true) ∧ (true = true ∧ true = true ∧ true = true ∧ true = true ∧ true = true ∧ true = true) ∧ (true = true ∧ true = true ∧ true = true ∧ true = true ∧ true = true ∧ true = true) ∧ (true = true ∧ true = true ∧ true = true ∧ true = true ∧ true = true ∧ true = true) ∧ (true = true ∧ true = true ∧ true = true ∧ true = true ∧ true = true ∧ true = true) ∧ (true = true ∧ true = true ∧ true = true ∧ true = true ∧ true = true ∧ true = true) ∧ (true = true ∧ true = true ∧ true = true ∧ true = true ∧ true = true ∧ true = true) ∧ (true = true ∧ true = true ∧ true = true ∧ true = true ∧ true = true ∧ true = true) ∧ (true = true ∧ true = true ∧ true = true ∧ true = true ∧ true = true ∧ true = true) ∧ (true = true ∧ true = true ∧ true = true ∧ true = true ∧ true = true ∧ true = true) ∧ (true = true ∧ true = true ∧ true = true ∧ true = true ∧ true = true ∧ true = true) ∧ (true = true ∧ true = true ∧ true = true ∧ true = true ∧ true = true ∧ true = true) ∧ (true = true ∧ true = true ∧ true = true ∧ true = true ∧ true = true ∧ true = true) ∧ (true = true ∧ true = true ∧ true = true ∧ true = true ∧ true = true ∧ true = true) ∧ (true = true ∧ true = true ∧ true = true ∧ true = true ∧ true = true ∧ true = true) ∧ (true = true ∧ true = true ∧ true = true ∧ true = true ∧ true = true ∧ true = true) ∧ (true = true ∧ true = true ∧ true = true ∧ true = true ∧ true = true ∧ true = true) ∧ (true = true ∧ true = true ∧ true = true ∧ true = true ∧ true = true ∧ true = true) ∧ (true = true ∧ true = true ∧ true = true ∧ true = true ∧ true = true ∧ true = true) ∧ (true = true ∧ true = true ∧ true = true ∧ true = true ∧ true = true ∧ true = true) ∧ (true = true ∧ true = true ∧ true = true ∧ true = true ∧ true = true ∧ true = true) ∧ (true = true ∧ true = true ∧ true = true ∧ true = true ∧ true = true ∧ true = true) ∧ (true = true ∧ true = true ∧ true = true ∧ true = true ∧ true = true ∧ true = true) ∧ (true = true ∧ true = true ∧ true = true ∧ true = true ∧ true = true ∧ true = true) ∧ (true = true ∧ true = true ∧ true = true ∧ true = true ∧ true = true ∧ true = true) ∧ (true = true ∧ true = true ∧ true = true ∧ true = true ∧ true = true ∧ true = true) ∧ (true = true ∧ true = true ∧ true = true ∧ true = true ∧ true = true ∧ true = true) ∧ (true = true ∧ true = true ∧ true = true ∧ true = true ∧ true = true ∧ true = true) ∧ (true = true ∧ true = true ∧ true = true ∧ true = true ∧ true = true ∧ true = true) ∧ (true = true ∧ true = true ∧ true = true ∧ true = true ∧ true = true ∧ true = true) ∧ (true = true ∧ true = true ∧ true = true ∧ true = true ∧ true = true ∧ true = true) ∧ (true = true ∧ true = true ∧ true = true ∧ true = true ∧ true = true ∧ true = true) ∧ (true = true ∧ true = true ∧ true = true ∧ true = true ∧ true = true ∧ true = true) ∧ (true = true ∧ true = true ∧ true = true ∧ true = true ∧ true = true ∧ true = true) ∧ (true = true ∧ true = true ∧ true = true ∧ true = true ∧ true = true ∧ true = true) ∧ (true = true ∧ true = true ∧ true = true ∧ true = true ∧ true = true ∧ true = true) ∧ (true = true ∧ true = true ∧ true = true ∧ true = true ∧ true = true ∧ true = true) ∧ true = true
set_option maxRecDepth 100000 in
theorem txxV  : (callF Tryz.prog (SGa noD [conMade]) 300 111 [.str ⟨⟨sGx⟩⟩] []).map (fun r => (r.1, r.2.2)) = some (.agg [.abs fGx], some (txxV_G )) := by kernel_rfl
set_option maxRecDepth 100000 in
theorem txxV_ok  : condOk (some (txxV_G )) := by unfold txxV_G condOk; and_intros <;> rfl
set_option maxRecDepth 100000 in
def txyV_G  : Prop := (true = true ∧ true = true ∧ true = true ∧ true = true ∧ true = true ∧ true = true) ∧ (true = true ∧ true = true ∧ true = true ∧ true = true ∧ true = true ∧ true = true) ∧ (true = true ∧ true = true ∧ true = true ∧ true = true ∧ true = true ∧ true = true) ∧ (true = true ∧ true = true ∧ true = true ∧ true = true ∧ true = true ∧ true = true) ∧ (true = true ∧ true = true ∧ true = true ∧ true = true ∧ true = true ∧ true = true) ∧ (true = true ∧ true = true ∧ true = true ∧ true = true ∧ true = true ∧ true = true) ∧ (true = true ∧ true = true ∧ true = true ∧ true = true ∧ true = true ∧ true = true) ∧ (true = true ∧ true = true ∧ true = true ∧ true = true ∧ true = true ∧ true = true) ∧ (true = true ∧ true = true ∧ true = true ∧ true = true ∧ true = true ∧ true = true) ∧ (true = true ∧ true = true ∧ true = true ∧ true = true ∧ true = true ∧ true = true) ∧ (true = true ∧ true = true ∧ true = true ∧ true = true ∧ true = true ∧ true = true) ∧ (true = true ∧ true = true ∧ true = true ∧ true = true ∧ true = true ∧ true = true) ∧ (true = true ∧ true = true ∧ true = true ∧ true = true ∧ true = true ∧ true = true) ∧ (true = true ∧ true = true ∧ true = true ∧ true = true ∧ true = true ∧ true = true) ∧ (true = true ∧ true = true ∧ true = true ∧ true = true ∧ true = true ∧ true = true) ∧ (true = true ∧ true = true ∧ true = true ∧ true = true ∧ true = true ∧ true = true) ∧ (true = true ∧ true = true ∧ true = true ∧ true = true ∧ true = true ∧ true = true) ∧ (true = true ∧ true = true ∧ true = true ∧ true = true ∧ true = true ∧ true = true) ∧ (true = true ∧ true = true ∧ true = true ∧ true = true ∧ true = true ∧ true = true) ∧ (true = true ∧ true = true ∧ true = true ∧ true = true ∧ true = true ∧ true = true) ∧ (true = true ∧ true = true ∧ true = true ∧ true = true ∧ true = true ∧ true = true) ∧ (true = true ∧ true = true ∧ true = true ∧ true = true ∧ true = true ∧ true = true) ∧ (true = true ∧ true = true ∧ true = true ∧ true = true ∧ true = true ∧ true = true) ∧ (true = true ∧ true = true ∧ true = true ∧ true = true ∧ true = true ∧ true = true) ∧ (true = true ∧ true = true ∧ true = true ∧ true = true ∧ true = true ∧ true = true) ∧ (true = true ∧ true = true ∧ true = true ∧ true = true ∧ true = true ∧ true = true) ∧ (true = true ∧ true = true ∧ true = true ∧ true = true ∧ true = true ∧ true = true) ∧ (true = true ∧ true = true ∧ true = true ∧ true = true ∧ true = true ∧ true = true) ∧ (true = true ∧ true = true ∧ true = true ∧ true = true ∧ true = true ∧ true = true) ∧ (true = true ∧ true = true ∧ true = true ∧ true = true ∧ true = true ∧ true = true) ∧ (true = true ∧ true = true ∧ true = true ∧ true = true ∧ true = true ∧ true = true) ∧ (true = true ∧ true = true ∧ true = true ∧ true = true ∧ true = true ∧ true = true) ∧ (true = true ∧ true = true ∧ true = true ∧ true = true ∧ true = true ∧ true = true) ∧ (true = true ∧ true = true ∧ true = true ∧ true = true ∧ true = true ∧ true = true) ∧ (true = true ∧ true = true ∧ true = true ∧ true = true ∧ true = true ∧ true = true) ∧ (true = true ∧ true = true ∧ true = true ∧ true = true ∧ true = true ∧ true = true) ∧ (true = true ∧ true = true ∧ true = true ∧ true = true ∧ true = true ∧ true = true) ∧ (true = true ∧ true = true ∧ true = true ∧ true = true ∧ true = true ∧ true = true) ∧ (true = true ∧ true = true ∧ true = true ∧ true = true ∧ true = true ∧ true = true) ∧ (true = true ∧ true = true ∧ true = true ∧ true = true ∧ true = true ∧ true = true) ∧ (true = true ∧ true = true ∧ true = true ∧ true = true ∧ true = true ∧ true = true) ∧ (true = true ∧ true = true ∧ true = true ∧ true = true ∧ true = true ∧ true = true) ∧ (true = true ∧ true = true ∧ true = true ∧ true = true ∧ true = true ∧ true = true) ∧ (true = true ∧ true = true ∧ true = true ∧ true = true ∧ true = true ∧ true = true) ∧ (true = true ∧ true = true ∧ true = true ∧ true = true ∧ true = true ∧ true = true) ∧ (true = true ∧ true = true ∧ true = true ∧ true = true ∧ true = true ∧ true = true) ∧ (true = true ∧ true = true ∧ true = true ∧ true = true ∧ true = true ∧ true = true) ∧ (true = true ∧ true = true ∧ true = true ∧ true = true ∧ true = true ∧ true = true) ∧ (true = true ∧ true = true ∧ true = true ∧ true = true ∧ true = true ∧ true = true) ∧ (true = true ∧ true = true ∧ true = true ∧ true = true ∧ true = true ∧ true = true) ∧ (true = true ∧ true = true ∧ true = true ∧ true = true ∧ true = true ∧ true = true) ∧ (true = true ∧ true = true ∧ true = true ∧ true = true ∧ true = true ∧ true = true) ∧ (true = true ∧ true = true ∧ true = true ∧ true = true ∧ true = true ∧ true = true) ∧ (true = true ∧ true = true ∧ true = true ∧ true = true ∧ true = true ∧ true = true) ∧ (true = true ∧ true = true ∧ true = true ∧ true = true ∧ true = true ∧ true = true) ∧ (true = true ∧ true = true ∧ true = true ∧ true = true ∧ true = true ∧ true = true) ∧ (true = true ∧ true = true ∧ true = true ∧ true = true ∧ true = true ∧ true = true) ∧ (true = true ∧ true = true ∧ true = true ∧ true = true ∧ true = true ∧ true = true) ∧ (true = true ∧ true = true ∧ true = true ∧ true = true ∧ true = true ∧ true = true) ∧ (true = true ∧ true = true ∧ true = true ∧ true = true ∧ true = true ∧ true = true) ∧ (true = true ∧ true = true ∧ true = true ∧ true = true ∧ true = true ∧ true = true) ∧ (true = true ∧ true = true ∧ true = true ∧ true = true ∧ true = true ∧ true = true) ∧ (true = true ∧ true = true ∧ true = true ∧ true = true ∧ true = true ∧ true = true) ∧ (true = true ∧ true = true ∧ true = true ∧ true = true ∧ true = true ∧ true = true) ∧ (true = true ∧ true = true ∧ true = true ∧ true = true ∧ true = true ∧ true = true) ∧ (true = true ∧ true = true ∧ true = true ∧ true = true ∧ true = true ∧ true = true) ∧ (true = true ∧ true = true ∧ true = true ∧ true = true ∧ true = true ∧ true = true) ∧ (true = true ∧ true = true ∧ true = true ∧ true = true ∧ true = true ∧ true = true) ∧ (true = true ∧ true = true ∧ true = true ∧ true = true ∧ true = true ∧ true = true) ∧ (true = true ∧ true = true ∧ true = true ∧ true = true ∧ true = true ∧ true = true) ∧ (true = true ∧ true = true ∧ true = true ∧ true = true ∧ true = true ∧ true = true) ∧ (true = true ∧ true = true ∧ true = true ∧ true = true ∧ true = true ∧ true = true) ∧ (true = true ∧ true = true ∧ true = true ∧ true = true ∧ true = true ∧ true = true) ∧ (true = true ∧ true = true ∧ true = true ∧ true = true ∧ true = true ∧ true = true) ∧ (true = true ∧ true = true ∧ true = true ∧ true = true ∧ true = true ∧ true = true) ∧ (true = true ∧ true = true ∧ true = true ∧ true = true ∧ true = true ∧ true = true) ∧ (true = true ∧ true = true ∧ true = true ∧ true = true ∧ true = true ∧ true = true) ∧ (true = true ∧ true = true ∧ true = true ∧ true = true ∧ true = true ∧ true = true) ∧ (true = true ∧ true = true ∧ true = true ∧ true = true ∧ true = true ∧ true = true) ∧ (true = true ∧ true = true ∧ true = true ∧ true = true ∧ true = true ∧ true = true) ∧ (true = true ∧ true = true ∧ true = true ∧ true = true ∧ true = true ∧ true = true) ∧ (true = true ∧ true = true ∧ true = true ∧ true = true ∧ true = true ∧ true = true) ∧ (true = true ∧ true = true ∧ true = true ∧ true = true ∧ true = true ∧ true = true) ∧ (true = true ∧ true = true ∧ true = true ∧ true = true ∧ true = true ∧ true = true) ∧ (true = true ∧ true = true ∧ true = true ∧ true = true ∧ true = true ∧ true = true) ∧ (true = true ∧ true = true ∧ true = true ∧ true = true ∧ true = true ∧ true = true) ∧ (true = true ∧ true = true ∧ true = true ∧ true = true ∧ true = true ∧ true = true) ∧ (true = true ∧ true = true ∧ true = true ∧ true = true ∧ true = true ∧ true = true) ∧ (true = true ∧ true = true ∧ true = true ∧ true = true ∧ true = true ∧ true = true) ∧ (true = true ∧ true = true ∧ true = true ∧ true = true ∧ true = true ∧ true = true) ∧ (true = true ∧ true = true ∧ true = true ∧ true = true ∧ true = true ∧ true = true) ∧ (true = true ∧ true = true ∧ true = true ∧ true = true ∧ true = true ∧ true = true) ∧ (true = true ∧ true = true ∧ true = true ∧ true = true ∧ true = true ∧ true = true) ∧ (true = true ∧ true = true ∧ true = true ∧ true = true ∧ true = true ∧ true = true) ∧ (true = true ∧ true = true ∧ true = true ∧ true = true ∧ true = true ∧ true = true) ∧ true = true
set_option maxRecDepth 100000 in
theorem txyV  : (callF Tryz.prog (SGa noD [conMade]) 300 111 [.str ⟨⟨sGy⟩⟩] []).map (fun r => (r.1, r.2.2)) = some (.agg [.abs fGy], some (txyV_G )) := by kernel_rfl
set_option maxRecDepth 100000 in
theorem txyV_ok  : condOk (some (txyV_G )) := by unfold txyV_G condOk; and_intros <;> rfl
set_option maxRecDepth 100000 in
def txtV_G  : Prop := (true = true ∧ true = true ∧ true = true ∧ true = true ∧ true = true ∧ true = true) ∧ (true = true ∧ true = true ∧ true = true ∧ true = true ∧ true = true ∧ true = true) ∧ (true = true ∧ true = true ∧ true = true ∧ true = true ∧ true = true ∧ true = true) ∧ (true = true ∧ true = true ∧ true = true ∧ true = true ∧ true = true ∧ true = true) ∧ (true = true ∧ true = true ∧ true = true ∧ true = true ∧ true = true ∧ true = true) ∧ (true = true ∧ true = true ∧ true = true ∧ true = true ∧ true = true ∧ true = true) ∧ (true = true ∧ true = true ∧ true = true ∧ true = true ∧ true = true ∧ true = true) ∧ (true = true ∧ true = true ∧ true = true ∧ true = true ∧ true = true ∧ true = true) ∧ (true = true ∧ true = true ∧ true = true ∧ true = true ∧ true = true ∧ true = true) ∧ (true = true ∧ true = true ∧ true = true ∧ true = true ∧ true = true ∧ true = true) ∧ (true = true ∧ true = true ∧ true = true ∧ true = true ∧ true = true ∧ true = true) ∧ (true = true ∧ true = true ∧ true = true ∧ true = true ∧ true = true ∧ true = true) ∧ (true = true ∧ true = true ∧ true = true ∧ true = true ∧ true = true ∧ true = true) ∧ (true = true ∧ true = true ∧ true = true ∧ true = true ∧ true = true ∧ true = true) ∧ (true = true ∧ true = true ∧ true = true ∧ true = true ∧ true = true ∧ true = true) ∧ (true = true ∧ true = true ∧ true = true ∧ true = true ∧ true = true ∧ true = true) ∧ (true = true ∧ true = true ∧ true = true ∧ true = true ∧ true = true ∧ true = true) ∧ (true = true ∧ true = true ∧ true = true ∧ true = true ∧ true = true ∧ true = true) ∧ (true = true ∧ true = true ∧ true = true ∧ true = true ∧ true = true ∧ true = true) ∧ (true = true ∧ true = true ∧ true = true ∧ true = true ∧ true = true ∧ true = true) ∧ (true = true ∧ true = true ∧ true = true ∧ true = true ∧ true = true ∧ true = true) ∧ (true = true ∧ true = true ∧ true = true ∧ true = true ∧ true = true ∧ true = true) ∧ (true = true ∧ true = true ∧ true = true ∧ true = true ∧ true = true ∧ true = true) ∧ (true = true ∧ true = true ∧ true = true ∧ true = true ∧ true = true ∧ true = true) ∧ (true = true ∧ true = true ∧ true = true ∧ true = true ∧ true = true ∧ true = true) ∧ (true = true ∧ true = true ∧ true = true ∧ true = true ∧ true = true ∧ true = true) ∧ (true = true ∧ true = true ∧ true = true ∧ true = true ∧ true = true ∧ true = true) ∧ (true = true ∧ true = true ∧ true = true ∧ true = true ∧ true = true ∧ true = true) ∧ (true = true ∧ true = true ∧ true = true ∧ true = true ∧ true = true ∧ true = true) ∧ (true = true ∧ true = true ∧ true = true ∧ true = true ∧ true = true ∧ true = true) ∧ (true = true ∧ true = true ∧ true = true ∧ true = true ∧ true = true ∧ true = true) ∧ (true = true ∧ true = true ∧ true = true ∧ true = true ∧ true = true ∧ true = true) ∧ (true = true ∧ true = true ∧ true = true ∧ true = true ∧ true = true ∧ true = true) ∧ (true = true ∧ true = true ∧ true = true ∧ true = true ∧ true = true ∧ true = true) ∧ (true = true ∧ true = true ∧ true = true ∧ true = true ∧ true = true ∧ true = true) ∧ (true = true ∧ true = true ∧ true = true ∧ true = true ∧ true = true ∧ true = true) ∧ (true = true ∧ true = true ∧ true = true ∧ true = true ∧ true = true ∧ true = true) ∧ (true = true ∧ true = true ∧ true = true ∧ true = true ∧ true = true ∧ true = true) ∧ (true = true ∧ true = true ∧ true = true ∧ true = true ∧ true = true ∧ true = true) ∧ (true = true ∧ true = true ∧ true = true ∧ true = true ∧ true = true ∧ true = true) ∧ (true = true ∧ true = true ∧ true = true ∧ true = true ∧ true = true ∧ true = true) ∧ (true = true ∧ true = true ∧ true = true ∧ true = true ∧ true = true ∧ true = true) ∧ (true = true ∧ true = true ∧ true = true ∧ true = true ∧ true = true ∧ true = true) ∧ (true = true ∧ true = true ∧ true = true ∧ true = true ∧ true = true ∧ true = true) ∧ (true = true ∧ true = true ∧ true = true ∧ true = true ∧ true = true ∧ true = true) ∧ (true = true ∧ true = true ∧ true = true ∧ true = true ∧ true = true ∧ true = true) ∧ (true = true ∧ true = true ∧ true = true ∧ true = true ∧ true = true ∧ true = true) ∧ (true = true ∧ true = true ∧ true = true ∧ true = true ∧ true = true ∧ true = true) ∧ (true = true ∧ true = true ∧ true = true ∧ true = true ∧ true = true ∧ true = true) ∧ (true = true ∧ true = true ∧ true = true ∧ true = true ∧ true = true ∧ true = true) ∧ (true = true ∧ true = true ∧ true = true ∧ true = true ∧ true = true ∧ true = true) ∧ (true = true ∧ true = true ∧ true = true ∧ true = true ∧ true = true ∧ true = true) ∧ (true = true ∧ true = true ∧ true = true ∧ true = true ∧ true = true ∧ true = true) ∧ (true = true ∧ true = true ∧ true = true ∧ true = true ∧ true = true ∧ true = true) ∧ (true = true ∧ true = true ∧ true = true ∧ true = true ∧ true = true ∧ true = true) ∧ (true = true ∧ true = true ∧ true = true ∧ true = true ∧ true = true ∧ true = true) ∧ (true = true ∧ true = true ∧ true = true ∧ true = true ∧ true = true ∧ true = true) ∧ (true = true ∧ true = true ∧ true = true ∧ true = true ∧ true = true ∧ true = true) ∧ (true = true ∧ true = true ∧ true = true ∧ true = true ∧ true = true ∧ true = true) ∧ (true = true ∧ true = true ∧ true = true ∧ true = true ∧ true = true ∧ true = true) ∧ (true = true ∧ true = true ∧ true = true ∧ true = true ∧ true = true ∧ true = true) ∧ (true = true ∧ true = true ∧ true = true ∧ true = true ∧ true = true ∧ true = true) ∧ (true = true ∧ true = true ∧ true = true ∧ true = true ∧ true = true ∧ true = true) ∧ (true = true ∧ true = true ∧ true = true ∧ true = true ∧ true = true ∧ true = true) ∧ (true = true ∧ true = true ∧ true = true ∧ true = true ∧ true = true ∧ true = true) ∧ (true = true ∧ true = true ∧ true = true ∧ true = true ∧ true = true ∧ true = true) ∧ (true = true ∧ true = true ∧ true = true ∧ true = true ∧ true = true ∧ true = true) ∧ (true = true ∧ true = true ∧ true = true ∧ true = true ∧ true = true ∧ true = true) ∧ (true = true ∧ true = true ∧ true = true ∧ true = true ∧ true = true ∧ true = true) ∧ (true = true ∧ true = true ∧ true = true ∧ true = true ∧ true = true ∧ true = true) ∧ (true = true ∧ true = true ∧ true = true ∧ true = true ∧ true = true ∧ true = true) ∧ (true = true ∧ true = true ∧ true = true ∧ true = true ∧ true = true ∧ true = true) ∧ (true = true ∧ true = true ∧ true = true ∧ true = true ∧ true = true ∧ true = true) ∧ (true = true ∧ true = true ∧ true = true ∧ true = true ∧ true = true ∧ true = true) ∧ (true = true ∧ true = true ∧ true = true ∧ true = true ∧ true = true ∧ true = true) ∧ (true = true ∧ true = true ∧ true = true ∧ true = true ∧ true = true ∧ true = true) ∧ (true = true ∧ true = true ∧ true = true ∧ true = true ∧ true = true ∧ true = true) ∧ (true = true ∧ true = true ∧ true = true ∧ true = true ∧ true = true ∧ true = true) ∧ (true = true ∧ true = true ∧ true = true ∧ true = true ∧ true = true ∧ true = true) ∧ (true = true ∧ true = true ∧ true = true ∧ true = true ∧ true = true ∧ true = true) ∧ true = true
set_option maxRecDepth 100000 in
theorem txtV  : (callF Tryz.prog (SGa noD [conMade]) 300 111 [.str ⟨⟨sThird⟩⟩] []).map (fun r => (r.1, r.2.2)) = some (.agg [.abs fThird], some (txtV_G )) := by kernel_rfl
set_option maxRecDepth 100000 in
theorem txtV_ok  : condOk (some (txtV_G )) := by unfold txtV_G condOk; and_intros <;> rfl
set_option maxRecDepth 100000 in
theorem entText : ∀ args w, (callFunc 111 args).run Tryz.prog w = .ok (.enter 111 args) w := ent_of (f := 111) (P := Tryz.prog) rfl rfl rfl
def textFn : List (LV Fe) → Option (LV Fe)
  | [.str s] => match eqBs s.data.toList sGx with
    | true => some (.agg [.abs fGx])
    | false => match eqBs s.data.toList sGy with
      | true => some (.agg [.abs fGy])
      | false => match eqBs s.data.toList sThird with
        | true => some (.agg [.abs fThird])
        | false => none
  | _ => none
theorem textFn_runs {vs : List (LV Fe)} {v : LV Fe} (h : textFn vs = some v) : Calls2 111 vs v := by
  unfold textFn at h
  split at h
  · rename_i s
    have es : ∀ l, s.data.toList = l → s = ⟨⟨l⟩⟩ := fun l e => by subst e; rfl
    split at h
    · rename_i e
      cases h
      rw [es _ (eqBs_list e)]
      exact .of (SGa_ok _ _) rfl txxV txxV_ok
    · split at h
      · rename_i e
        cases h
        rw [es _ (eqBs_list e)]
        exact .of (SGa_ok _ _) rfl txyV txyV_ok
      · split at h
        · rename_i e
          cases h
          rw [es _ (eqBs_list e)]
          exact .of (SGa_ok _ _) rfl txtV txtV_ok
        · cases h
  · cases h
noncomputable def conText : ConP Tryz.prog Fe where
  f := 111
  fn := textFn
  ent := entText
  kin vs v h p := pv_kin p _ (textFn_runs h).plain
  call vs v h ρ w := (textFn_runs h).run ρ w
end Go.Proofs.YtonmjdnkcngfjaaGreat.En

/- DERIVED. The second field's elements: their functions on pairs. -/
set_option linter.all false
namespace Go.Proofs.YtonmjdnkcngfjaaGreat.En
open Go Go.RowKit

def qsq (x : E2) : E2 := (fmul (fadd x.1 x.2) (fsub x.1 x.2), fadd (fmul x.1 x.2) (fmul x.1 x.2))
def qcj (x : E2) : E2 := (x.1, fneg x.2)
def qsc (x : E2) (c : Fe) : E2 := (fmul x.1 c, fmul x.2 c)
def qxi (x : E2) : E2 := (fsub x.1 x.2, fadd x.1 x.2)
def qnm (x : E2) : Fe := fadd (fmul x.1 x.1) (fmul x.2 x.2)
def qiv (x : E2) : E2 := qsc (qcj x) (invF (qnm x))
def qeq (x y : E2) : Bool := feq x.1 y.1 && feq x.2 y.2
set_option maxRecDepth 100000 in
theorem entQAdd : ∀ args w, (callFunc 85 args).run Tryz.prog w = .ok (.enter 85 args) w := ent_of (f := 85) (P := Tryz.prog) rfl rfl rfl
set_option maxRecDepth 100000 in
def QAddV_G (a b c d : Fe) : Prop := true = true
set_option maxRecDepth 100000 in
theorem QAddV (a b c d : Fe) : (callF Tryz.prog (SGa noD []) 60 85 [bF [a, b], bF [c, d]] []).map (fun r => (r.1, r.2.2)) = some (eV (eadd (a, b) (c, d)), some (QAddV_G a b c d)) := by kernel_rfl
set_option maxRecDepth 100000 in
theorem QAddV_ok (a b c d : Fe) : condOk (some (QAddV_G a b c d)) := by unfold QAddV_G condOk; and_intros <;> rfl
theorem QAdd_runs (a b c d : Fe) : Runs 85 [bF [a, b], bF [c, d]] (eV (eadd (a, b) (c, d))) := .of (SGa_ok _ _) rfl (QAddV a b c d) (QAddV_ok a b c d) rfl rfl
noncomputable def conQAdd : ConP Tryz.prog Fe := mkP 85 entQAdd [2, 2] (fun a b c d => eV (eadd (a, b) (c, d))) QAdd_runs
set_option maxRecDepth 100000 in
theorem entQSub : ∀ args w, (callFunc 175 args).run Tryz.prog w = .ok (.enter 175 args) w := ent_of (f := 175) (P := Tryz.prog) rfl rfl rfl
set_option maxRecDepth 100000 in
def QSubV_G (a b c d : Fe) : Prop := true = true
set_option maxRecDepth 100000 in
theorem QSubV (a b c d : Fe) : (callF Tryz.prog (SGa noD []) 60 175 [bF [a, b], bF [c, d]] []).map (fun r => (r.1, r.2.2)) = some (eV (esub (a, b) (c, d)), some (QSubV_G a b c d)) := by kernel_rfl
set_option maxRecDepth 100000 in
theorem QSubV_ok (a b c d : Fe) : condOk (some (QSubV_G a b c d)) := by unfold QSubV_G condOk; and_intros <;> rfl
theorem QSub_runs (a b c d : Fe) : Runs 175 [bF [a, b], bF [c, d]] (eV (esub (a, b) (c, d))) := .of (SGa_ok _ _) rfl (QSubV a b c d) (QSubV_ok a b c d) rfl rfl
noncomputable def conQSub : ConP Tryz.prog Fe := mkP 175 entQSub [2, 2] (fun a b c d => eV (esub (a, b) (c, d))) QSub_runs
set_option maxRecDepth 100000 in
theorem entQMul : ∀ args w, (callFunc 100 args).run Tryz.prog w = .ok (.enter 100 args) w := ent_of (f := 100) (P := Tryz.prog) rfl rfl rfl
set_option maxRecDepth 100000 in
def QMulV_G (a b c d : Fe) : Prop := (true = true ∧ true = true) ∧ true = true ∧ true = true
set_option maxRecDepth 100000 in
theorem QMulV (a b c d : Fe) : (callF Tryz.prog (SGa noD []) 60 100 [bF [a, b], bF [c, d]] []).map (fun r => (r.1, r.2.2)) = some (eV (emulN (a, b) (c, d)), some (QMulV_G a b c d)) := by kernel_rfl
set_option maxRecDepth 100000 in
theorem QMulV_ok (a b c d : Fe) : condOk (some (QMulV_G a b c d)) := by unfold QMulV_G condOk; and_intros <;> rfl
theorem QMul_runs (a b c d : Fe) : Runs 100 [bF [a, b], bF [c, d]] (eV (emulN (a, b) (c, d))) := .of (SGa_ok _ _) rfl (QMulV a b c d) (QMulV_ok a b c d) rfl rfl
noncomputable def conQMul : ConP Tryz.prog Fe := mkP 100 entQMul [2, 2] (fun a b c d => eV (emulN (a, b) (c, d))) QMul_runs
set_option maxRecDepth 100000 in
theorem entQNeg : ∀ args w, (callFunc 78 args).run Tryz.prog w = .ok (.enter 78 args) w := ent_of (f := 78) (P := Tryz.prog) rfl rfl rfl
set_option maxRecDepth 100000 in
def QNegV_G (a b : Fe) : Prop := true = true
set_option maxRecDepth 100000 in
theorem QNegV (a b : Fe) : (callF Tryz.prog (SGa noD []) 60 78 [bF [a, b]] []).map (fun r => (r.1, r.2.2)) = some (eV (eneg (a, b)), some (QNegV_G a b)) := by kernel_rfl
set_option maxRecDepth 100000 in
theorem QNegV_ok (a b : Fe) : condOk (some (QNegV_G a b)) := by unfold QNegV_G condOk; and_intros <;> rfl
theorem QNeg_runs (a b : Fe) : Runs 78 [bF [a, b]] (eV (eneg (a, b))) := .of (SGa_ok _ _) rfl (QNegV a b) (QNegV_ok a b) rfl rfl
noncomputable def conQNeg : ConP Tryz.prog Fe := mkP 78 entQNeg [2] (fun a b => eV (eneg (a, b))) QNeg_runs
set_option maxRecDepth 100000 in
theorem entQSq : ∀ args w, (callFunc 51 args).run Tryz.prog w = .ok (.enter 51 args) w := ent_of (f := 51) (P := Tryz.prog) rfl rfl rfl
set_option maxRecDepth 100000 in
def QSqV_G (a b : Fe) : Prop := true = true ∧ true = true
set_option maxRecDepth 100000 in
theorem QSqV (a b : Fe) : (callF Tryz.prog (SGa noD []) 60 51 [bF [a, b]] []).map (fun r => (r.1, r.2.2)) = some (eV (qsq (a, b)), some (QSqV_G a b)) := by kernel_rfl
set_option maxRecDepth 100000 in
theorem QSqV_ok (a b : Fe) : condOk (some (QSqV_G a b)) := by unfold QSqV_G condOk; and_intros <;> rfl
theorem QSq_runs (a b : Fe) : Runs 51 [bF [a, b]] (eV (qsq (a, b))) := .of (SGa_ok _ _) rfl (QSqV a b) (QSqV_ok a b) rfl rfl
noncomputable def conQSq : ConP Tryz.prog Fe := mkP 51 entQSq [2] (fun a b => eV (qsq (a, b))) QSq_runs
set_option maxRecDepth 100000 in
theorem entQCj : ∀ args w, (callFunc 128 args).run Tryz.prog w = .ok (.enter 128 args) w := ent_of (f := 128) (P := Tryz.prog) rfl rfl rfl
set_option maxRecDepth 100000 in
def QCjV_G (a b : Fe) : Prop := true = true
set_option maxRecDepth 100000 in
theorem QCjV (a b : Fe) : (callF Tryz.prog (SGa noD []) 60 128 [bF [a, b]] []).map (fun r => (r.1, r.2.2)) = some (eV (qcj (a, b)), some (QCjV_G a b)) := by kernel_rfl
set_option maxRecDepth 100000 in
theorem QCjV_ok (a b : Fe) : condOk (some (QCjV_G a b)) := by unfold QCjV_G condOk; and_intros <;> rfl
theorem QCj_runs (a b : Fe) : Runs 128 [bF [a, b]] (eV (qcj (a, b))) := .of (SGa_ok _ _) rfl (QCjV a b) (QCjV_ok a b) rfl rfl
noncomputable def conQCj : ConP Tryz.prog Fe := mkP 128 entQCj [2] (fun a b => eV (qcj (a, b))) QCj_runs
set_option maxRecDepth 100000 in
theorem entQXi : ∀ args w, (callFunc 101 args).run Tryz.prog w = .ok (.enter 101 args) w := ent_of (f := 101) (P := Tryz.prog) rfl rfl rfl
set_option maxRecDepth 100000 in
def QXiV_G (a b : Fe) : Prop := true = true
set_option maxRecDepth 100000 in
theorem QXiV (a b : Fe) : (callF Tryz.prog (SGa noD []) 60 101 [bF [a, b]] []).map (fun r => (r.1, r.2.2)) = some (eV (qxi (a, b)), some (QXiV_G a b)) := by kernel_rfl
set_option maxRecDepth 100000 in
theorem QXiV_ok (a b : Fe) : condOk (some (QXiV_G a b)) := by unfold QXiV_G condOk; and_intros <;> rfl
theorem QXi_runs (a b : Fe) : Runs 101 [bF [a, b]] (eV (qxi (a, b))) := .of (SGa_ok _ _) rfl (QXiV a b) (QXiV_ok a b) rfl rfl
noncomputable def conQXi : ConP Tryz.prog Fe := mkP 101 entQXi [2] (fun a b => eV (qxi (a, b))) QXi_runs
set_option maxRecDepth 100000 in
theorem entQNm : ∀ args w, (callFunc 145 args).run Tryz.prog w = .ok (.enter 145 args) w := ent_of (f := 145) (P := Tryz.prog) rfl rfl rfl
set_option maxRecDepth 100000 in
def QNmV_G (a b : Fe) : Prop := true = true
set_option maxRecDepth 100000 in
theorem QNmV (a b : Fe) : (callF Tryz.prog (SGa noD []) 60 145 [bF [a, b]] []).map (fun r => (r.1, r.2.2)) = some (.agg [.abs (qnm (a, b))], some (QNmV_G a b)) := by kernel_rfl
set_option maxRecDepth 100000 in
theorem QNmV_ok (a b : Fe) : condOk (some (QNmV_G a b)) := by unfold QNmV_G condOk; and_intros <;> rfl
noncomputable def conQNm : ConP Tryz.prog Fe := mkP 145 entQNm [2] (fun a b => .agg [.abs (qnm (a, b))]) fun a b => .of (SGa_ok _ _) rfl (QNmV a b) (QNmV_ok a b) rfl rfl
set_option maxRecDepth 100000 in
theorem entQSc : ∀ args w, (callFunc 102 args).run Tryz.prog w = .ok (.enter 102 args) w := ent_of (f := 102) (P := Tryz.prog) rfl rfl rfl
set_option maxRecDepth 100000 in
def QScV_G (a b c : Fe) : Prop := true = true
set_option maxRecDepth 100000 in
theorem QScV (a b c : Fe) : (callF Tryz.prog (SGa noD []) 60 102 [bF [a, b], bF [c]] []).map (fun r => (r.1, r.2.2)) = some (eV (qsc (a, b) c), some (QScV_G a b c)) := by kernel_rfl
set_option maxRecDepth 100000 in
theorem QScV_ok (a b c : Fe) : condOk (some (QScV_G a b c)) := by unfold QScV_G condOk; and_intros <;> rfl
noncomputable def conQSc : ConP Tryz.prog Fe := mkP 102 entQSc [2, 1] (fun a b c => eV (qsc (a, b) c)) fun a b c => .of (SGa_ok _ _) rfl (QScV a b c) (QScV_ok a b c) rfl rfl
set_option maxRecDepth 100000 in
theorem entQIv : ∀ args w, (callFunc 172 args).run Tryz.prog w = .ok (.enter 172 args) w := ent_of (f := 172) (P := Tryz.prog) rfl rfl rfl
set_option maxRecDepth 100000 in
def QIvV_G (a b : Fe) : Prop := true = true
set_option maxRecDepth 100000 in
theorem QIvV (a b : Fe) : (callF Tryz.prog (SGa noD [conInv, conQCj, conQNm, conQSc]) 60 172 [bF [a, b]] []).map (fun r => (r.1, r.2.2)) = some (eV (qiv (a, b)), some (QIvV_G a b)) := by kernel_rfl
set_option maxRecDepth 100000 in
theorem QIvV_ok (a b : Fe) : condOk (some (QIvV_G a b)) := by unfold QIvV_G condOk; and_intros <;> rfl
theorem QIv_runs (a b : Fe) : Runs 172 [bF [a, b]] (eV (qiv (a, b))) := .of (SGa_ok _ _) rfl (QIvV a b) (QIvV_ok a b) rfl rfl
noncomputable def conQIv : ConP Tryz.prog Fe := mkP 172 entQIv [2] (fun a b => eV (qiv (a, b))) QIv_runs
set_option maxRecDepth 100000 in
theorem entQZ : ∀ args w, (callFunc 174 args).run Tryz.prog w = .ok (.enter 174 args) w := ent_of (f := 174) (P := Tryz.prog) rfl rfl rfl
set_option maxRecDepth 100000 in
def QZ1V_G (a b : Fe) : Prop := isz a = true ∧ isz b = true
set_option maxRecDepth 100000 in
theorem QZ1V (a b : Fe) : (callF Tryz.prog (SGa (dci 174 [(1, 2, true), (1, 6, true)]) []) 60 174 [bF [a, b]] []).map (fun r => (r.1, r.2.2)) = some (.bool true, some (QZ1V_G a b)) := by kernel_rfl
set_option maxRecDepth 100000 in
def QZ2V_G (a b : Fe) : Prop := isz a = true ∧ isz b = false
set_option maxRecDepth 100000 in
theorem QZ2V (a b : Fe) : (callF Tryz.prog (SGa (dci 174 [(1, 2, true), (1, 6, false)]) []) 60 174 [bF [a, b]] []).map (fun r => (r.1, r.2.2)) = some (.bool false, some (QZ2V_G a b)) := by kernel_rfl
set_option maxRecDepth 100000 in
def QZ3V_G (a b : Fe) : Prop := isz a = false
set_option maxRecDepth 100000 in
theorem QZ3V (a b : Fe) : (callF Tryz.prog (SGa (dci 174 [(1, 2, false)]) []) 60 174 [bF [a, b]] []).map (fun r => (r.1, r.2.2)) = some (.bool false, some (QZ3V_G a b)) := by kernel_rfl
theorem QZ_runs (a b : Fe) : Runs 174 [bF [a, b]] (.bool (eisz (a, b))) := by
  cases h : isz a with
  | true => cases k : isz b with
    | true =>
      rw [show eisz (a, b) = true by simp only [eisz, h, k, Bool.and_self]]
      exact .of (SGa_ok _ _) rfl (QZ1V a b) (by unfold condOk QZ1V_G; and_intros <;> first | with_reducible rfl | assumption) rfl rfl
    | false =>
      rw [show eisz (a, b) = false by simp only [eisz, h, k, Bool.and_false]]
      exact .of (SGa_ok _ _) rfl (QZ2V a b) (by unfold condOk QZ2V_G; and_intros <;> first | with_reducible rfl | assumption) rfl rfl
  | false =>
    rw [show eisz (a, b) = false by simp only [eisz, h, Bool.false_and]]
    exact .of (SGa_ok _ _) rfl (QZ3V a b) (by unfold condOk QZ3V_G; and_intros <;> first | with_reducible rfl | assumption) rfl rfl
noncomputable def conQZ : ConP Tryz.prog Fe := mkP 174 entQZ [2] (fun a b => .bool (eisz (a, b))) QZ_runs
set_option maxRecDepth 100000 in
theorem entQE : ∀ args w, (callFunc 18 args).run Tryz.prog w = .ok (.enter 18 args) w := ent_of (f := 18) (P := Tryz.prog) rfl rfl rfl
set_option maxRecDepth 100000 in
def QE1V_G (a b c d : Fe) : Prop := feq a c = true ∧ feq b d = true
set_option maxRecDepth 100000 in
theorem QE1V (a b c d : Fe) : (callF Tryz.prog (SGa (dci 18 [(1, 4, true), (1, 10, true)]) []) 60 18 [bF [a, b], bF [c, d]] []).map (fun r => (r.1, r.2.2)) = some (.bool true, some (QE1V_G a b c d)) := by kernel_rfl
set_option maxRecDepth 100000 in
def QE2V_G (a b c d : Fe) : Prop := feq a c = true ∧ feq b d = false
set_option maxRecDepth 100000 in
theorem QE2V (a b c d : Fe) : (callF Tryz.prog (SGa (dci 18 [(1, 4, true), (1, 10, false)]) []) 60 18 [bF [a, b], bF [c, d]] []).map (fun r => (r.1, r.2.2)) = some (.bool false, some (QE2V_G a b c d)) := by kernel_rfl
set_option maxRecDepth 100000 in
def QE3V_G (a b c d : Fe) : Prop := feq a c = false
set_option maxRecDepth 100000 in
theorem QE3V (a b c d : Fe) : (callF Tryz.prog (SGa (dci 18 [(1, 4, false)]) []) 60 18 [bF [a, b], bF [c, d]] []).map (fun r => (r.1, r.2.2)) = some (.bool false, some (QE3V_G a b c d)) := by kernel_rfl
theorem QE_runs (a b c d : Fe) : Runs 18 [bF [a, b], bF [c, d]] (.bool (qeq (a, b) (c, d))) := by
  cases h : feq a c with
  | true => cases k : feq b d with
    | true =>
      rw [show qeq (a, b) (c, d) = true by simp only [qeq, h, k, Bool.and_self]]
      exact .of (SGa_ok _ _) rfl (QE1V a b c d) (by unfold condOk QE1V_G; and_intros <;> first | with_reducible rfl | assumption) rfl rfl
    | false =>
      rw [show qeq (a, b) (c, d) = false by simp only [qeq, h, k, Bool.and_false]]
      exact .of (SGa_ok _ _) rfl (QE2V a b c d) (by unfold condOk QE2V_G; and_intros <;> first | with_reducible rfl | assumption) rfl rfl
  | false =>
    rw [show qeq (a, b) (c, d) = false by simp only [qeq, h, Bool.false_and]]
    exact .of (SGa_ok _ _) rfl (QE3V a b c d) (by unfold condOk QE3V_G; and_intros <;> first | with_reducible rfl | assumption) rfl rfl
noncomputable def conQE : ConP Tryz.prog Fe := mkP 18 entQE [2, 2] (fun a b c d => .bool (qeq (a, b) (c, d))) QE_runs
end Go.Proofs.YtonmjdnkcngfjaaGreat.En

/- DERIVED. Pairs of elements as chunks of their own. -/
set_option linter.all false
namespace Go.Proofs.YtonmjdnkcngfjaaGreat.En2
open Go Go.RowKit Go.Proofs.YtonmjdnkcngfjaaGreat.En

/-- An element of the second field. -/
abbrev Fe : Type := En.Fe × En.Fe
instance abF : Ab Fe where
  cells x := Ab.cells x.1 ++ Ab.cells x.2
  size _ := 12
  beq _ _ := none
instance lawF : LawAb Fe := ⟨fun x => rfl, fun x v hv => by
  rcases List.mem_append.1 hv with h | h
  · exact LawAb.flat x.1 v h
  · exact LawAb.flat x.2 v h⟩
instance eqF : LawEq Fe := ⟨fun x y b h => by cases h⟩
noncomputable abbrev noIF : Inp Fe := inOf []
theorem noIF_ok : InpOk noIF := inOf_ok fun l h => absurd h List.not_mem_nil
/-- The methods of an element in an interface. -/
def msF (t : TypeId) (m : String) : Option FuncId := match Nat.beq t 30 with
  | false => none
  | true => if m = "Add" then some 85 else if m = "Sub" then some 175 else if m = "Mul" then some 100 else if m = "Square" then some 51 else if m = "Neg" then some 78 else if m = "Inv" then some 172 else if m = "Equal" then some 18 else if m = "IsZero" then some 174 else none
set_option maxRecDepth 100000 in
theorem msF_ok : ∀ t m f, msF t m = some f → ∀ v w, (method (Tryz.prog.types.size + Made.depth) t v m).run Tryz.prog w = .ok (f, v) w := by
  intro t m f h v w
  unfold msF at h
  split at h
  · cases h
  · rename_i ht
    have ht := beqN ht
    subst ht
    split at h
    · rename_i e; cases h; subst e; rfl
    split at h
    · rename_i e; cases h; subst e; rfl
    split at h
    · rename_i e; cases h; subst e; rfl
    split at h
    · rename_i e; cases h; subst e; rfl
    split at h
    · rename_i e; cases h; subst e; rfl
    split at h
    · rename_i e; cases h; subst e; rfl
    split at h
    · rename_i e; cases h; subst e; rfl
    split at h
    · rename_i e; cases h; subst e; rfl
    cases h
theorem plain_callF {f : FuncId} {n : Nat} {args : List (LV Fe)} {S : Sig Fe} (hS : SigOk Tryz.prog S) (hI : S.inp = noIF) {v : LV Fe} {c : Cnd} (h : (callF Tryz.prog S n f args []).map (fun r => (r.1, r.2.2)) = some (v, c)) (hc : condOk c)
    (ha : ∀ ρ ρ' : Key → En.Loc, trs ρ args = trs ρ' args) (hk : plainL args) (hv : ∀ ρ ρ' : Key → En.Loc, LV.tr ρ v = LV.tr ρ' v) (ρ : Key → En.Loc) (w : World) :
    Calls Tryz.prog f (trs ρ args).toArray w fun e w' => e = .returned (LV.tr ρ v) ∧ Below w.heap.size w w' := by
  have hm : MemRel noIF (fun _ => ⟨0, 0, 0, true, none⟩) [] w := by
    have e : ∀ t i, noIF t i = [] := fun t i => by cases t <;> rfl
    refine memRel_nil _ _ w (fun t i j v h => ?_) (fun t i h => ?_) (fun k h => ?_) (fun t i h => ?_)
    · rw [e] at h; simp [cellsL] at h
    · cases h
    · rfl
    · rw [e]; rfl
  have := calls_top hS mixed h hc (ρ := fun _ => ⟨0, 0, 0, true, none⟩) (w := w) (by rw [hI]; exact hm) (plainL_kin _ _ hk) (fun t i => by rw [hI]; cases t <;> trivial) fun ρ ρ' => (hv ρ' ρ).trans (hv ρ ρ).symm
  rw [ha ρ fun _ => ⟨0, 0, 0, true, none⟩]
  refine this.mono ?_
  rintro e w' ⟨rfl, h2⟩
  exact ⟨by rw [hv _ ρ], h2⟩
def fadd (x y : Fe) : Fe := eadd x y
def fsub (x y : Fe) : Fe := esub x y
def fneg (x : Fe) : Fe := eneg x
def fmul (x y : Fe) : Fe := emulN x y
def isz (x : Fe) : Bool := eisz x
def feq (x y : Fe) : Bool := qeq x y
def invF (x : Fe) : Fe := qiv x
def zE : Fe := (En.zE, En.zE)
def ofTw (a b c d e f g h i j k l : Int) : Fe := (En.ofSix a b c d e f, En.ofSix g h i j k l)
end Go.Proofs.YtonmjdnkcngfjaaGreat.En2

/- DERIVED. Contracts of plain calls on the field's elements, from their runs. -/
set_option linter.all false
namespace Go.Proofs.YtonmjdnkcngfjaaGreat.En2
open Go Go.RowKit Go.Proofs.YtonmjdnkcngfjaaGreat.En

/-- A value without a place in it. -/
def plainB : LV Fe → Bool
  | .int _ _ => true
  | .bool _ => true
  | .abs _ => true
  | .agg us => plainBs us
  | .tup us => plainBs us
  | _ => false
where plainBs : List (LV Fe) → Bool
  | [] => true
  | v :: l => plainB v && plainBs l
mutual
theorem pv_plain : ∀ v : LV Fe, plainB v = true → v.plain
  | .int _ _, _ => trivial
  | .bool _, _ => trivial
  | .abs _, _ => trivial
  | .agg us, h => pvl_plain us h
  | .tup us, h => pvl_plain us h
  | .any, h => nomatch h
  | .undef, h => nomatch h
  | .str _, h => nomatch h
  | .ptr _ _ _, h => nomatch h
  | .nilp, h => nomatch h
  | .slice _ _ _ _ _, h => nomatch h
  | .vec _ _, h => nomatch h
  | .nils, h => nomatch h
  | .nilfn, h => nomatch h
  | .niliface, h => nomatch h
  | .rows _ _ _, h => nomatch h
  | .iface _ _, h => nomatch h
  | .func _ _, h => nomatch h
theorem pvl_plain : ∀ l : List (LV Fe), plainB.plainBs l = true → plainL l
  | [], _ => trivial
  | v :: l, h => by
    have h : (plainB v && plainB.plainBs l) = true := h
    rw [Bool.and_eq_true] at h
    exact ⟨pv_plain v h.1, pvl_plain l h.2⟩
end
theorem pv_kin (p : Key → Nat → Prop) (v : LV Fe) (h : plainB v = true) : v.kin p := plain_kin p v (pv_plain v h)
theorem pvl_kin (p : Key → Nat → Prop) (l : List (LV Fe)) (h : plainB.plainBs l = true) : kinL p l := plainL_kin p l (pvl_plain l h)
theorem pv_tr (v : LV Fe) (h : plainB v = true) (ρ ρ' : Key → En.Loc) : LV.tr ρ v = LV.tr ρ' v :=
  tr_congr (p := fun _ _ => False) (fun k m h => absurd h (fun h => h)) v (pv_kin _ v h)
theorem pv_trs (l : List (LV Fe)) (h : plainB.plainBs l = true) (ρ ρ' : Key → En.Loc) : trs ρ l = trs ρ' l :=
  trs_congr (p := fun _ _ => False) (fun k m h => absurd h (fun h => h)) l (pvl_kin _ l h)

/-- What a call of plain values tells. -/
structure Runs (f : FuncId) (args : List (LV Fe)) (v : LV Fe) : Prop where
  plain : plainB v = true
  run : ∀ (ρ : Key → En.Loc) (w : World), Calls Tryz.prog f (trs ρ args).toArray w fun e w' => e = .returned (LV.tr ρ v) ∧ Below w.heap.size w w'
theorem Runs.of {f : FuncId} {n : Nat} {args : List (LV Fe)} {S : Sig Fe} (hS : SigOk Tryz.prog S) (hI : S.inp = noIF) {v : LV Fe} {c : Cnd} (h : (callF Tryz.prog S n f args []).map (fun r => (r.1, r.2.2)) = some (v, c)) (hc : condOk c) (ha : plainB.plainBs args = true) (hv : plainB v = true) : Runs f args v :=
  ⟨hv, fun ρ w => plain_callF hS hI h hc (pv_trs args ha) (pvl_plain args ha) (pv_tr v hv) ρ w⟩
theorem Runs.as {f : FuncId} {args : List (LV Fe)} {v v' : LV Fe} (h : Runs f args v) (hv : plainB v' = true) (e : ∀ ρ : Key → En.Loc, LV.tr ρ v = LV.tr ρ v') : Runs f args v' :=
  ⟨hv, fun ρ w => by rw [← e ρ]; exact h.run ρ w⟩

/-! ## groups of elements as arguments -/
def pF : List (LV Fe) → Option (Fe × List (LV Fe))
  | .abs a :: l => some (a, l)
  | .int .u64 a :: .int .u64 b :: .int .u64 c :: .int .u64 d :: .int .u64 e :: .int .u64 f :: .int .u64 g :: .int .u64 h :: .int .u64 i :: .int .u64 j :: .int .u64 k :: .int .u64 m :: l => match isSix (ofSix a b c d e f) a b c d e f, isSix (ofSix g h i j k m) g h i j k m with
    | true, true => some (ofTw a b c d e f g h i j k m, l)
    | _, _ => none
  | _ => none
def pFs : Nat → List (LV Fe) → Option (List Fe)
  | 0, [] => some []
  | n + 1, l => match pF l with
    | some (a, l) => match pFs n l with
      | some t => some (a :: t)
      | none => none
    | none => none
  | _, _ => none
def absL : List Fe → List (LV Fe)
  | [] => []
  | a :: l => .abs a :: absL l
theorem cellsL_cons (ρ : Key → En.Loc) (v : LV Fe) (l : List (LV Fe)) : cellsL ρ (v :: l) = LV.cells ρ v ++ cellsL ρ l := rfl
theorem pF_cells {l t : List (LV Fe)} {a : Fe} (h : pF l = some (a, t)) (ρ : Key → En.Loc) : cellsL ρ l = cellsL ρ (.abs a :: t) := by
  unfold pF at h
  split at h
  · cases h; rfl
  · split at h
    · rename_i hs hs'
      cases h
      unfold isSix at hs hs'
      simp only [Bool.and_eq_true, decide_eq_true_eq] at hs hs'
      obtain ⟨h0, h1, h2, h3, h4, h5⟩ := hs
      obtain ⟨k0, k1, k2, k3, k4, k5⟩ := hs'
      simp only [cellsL, LV.cells, Ab.cells, ofTw, h0, h1, h2, h3, h4, h5, k0, k1, k2, k3, k4, k5, List.cons_append, List.nil_append]
    · cases h
  · cases h
theorem pFs_cells : ∀ (n : Nat) (l : List (LV Fe)) (t : List Fe), pFs n l = some t → t.length = n ∧ ∀ ρ : Key → En.Loc, cellsL ρ l = cellsL ρ (absL t)
  | 0, [], t, h => by cases h; exact ⟨rfl, fun _ => rfl⟩
  | 0, _ :: _, t, h => by simp [pFs] at h
  | n + 1, l, t, h => by
    simp only [pFs] at h
    split at h
    · rename_i a r hp
      split at h
      · rename_i t' ht
        cases h
        obtain ⟨e, k⟩ := pFs_cells n r t' ht
        refine ⟨by simp [e], fun ρ => ?_⟩
        rw [pF_cells hp, cellsL_cons, k ρ]
        rfl
      · cases h
    · cases h
def bF (xs : List Fe) : LV Fe := .agg (absL xs)
/-- Arguments: groups of so many elements. -/
def pA : List Nat → List (LV Fe) → Option (List (List Fe))
  | [], vs => match vs with
    | [] => some []
    | _ => none
  | k :: ks, vs => match vs with
    | .agg l :: t => match pFs k l with
      | some a => match pA ks t with
        | some b => some (a :: b)
        | none => none
      | none => none
    | _ => none
def bA : List (List Fe) → List (LV Fe)
  | [] => []
  | a :: l => bF a :: bA l
theorem pA_trs : ∀ (ks : List Nat) (vs : List (LV Fe)) (xs : List (List Fe)), pA ks vs = some xs → xs.map List.length = ks ∧ ∀ ρ : Key → En.Loc, trs ρ vs = trs ρ (bA xs)
  | [], vs, xs, h => by
    unfold pA at h
    split at h
    · cases h; exact ⟨rfl, fun _ => rfl⟩
    · cases h
  | k :: ks, vs, xs, h => by
    unfold pA at h
    split at h
    · rename_i l t
      split at h
      · rename_i a ha
        split at h
        · rename_i b hb
          cases h
          obtain ⟨e, m⟩ := pA_trs ks t b hb
          obtain ⟨e', m'⟩ := pFs_cells k l a ha
          refine ⟨by simp [e, e'], fun ρ => ?_⟩
          simp only [trs, bA, bF, m ρ]
          simp only [LV.tr, m' ρ]
        · cases h
      · cases h
    · cases h
def Fn : Nat → Type
  | 0 => LV Fe
  | n + 1 => Fe → Fn n
def apF : (n : Nat) → Fn n → List Fe → Option (LV Fe)
  | 0, v, l => match l with
    | [] => some v
    | _ => none
  | n + 1, g, l => match l with
    | a :: l => apF n (g a) l
    | _ => none
def AllF : (n : Nat) → Fn n → (List Fe → LV Fe → Prop) → Prop
  | 0, v, P => P [] v
  | n + 1, g, P => ∀ a : Fe, AllF n (g a) fun l v => P (a :: l) v
theorem AllF.at {P : List Fe → LV Fe → Prop} : ∀ (n : Nat) (g : Fn n) (l : List Fe) (v : LV Fe), AllF n g P → apF n g l = some v → P l v := by
  intro n
  induction n generalizing P with
  | zero =>
    intro g l v h e
    cases l with
    | nil => cases e; exact h
    | cons a l => cases e
  | succ n ih =>
    intro g l v h e
    cases l with
    | nil => cases e
    | cons a l => exact ih (P := fun l v => P (a :: l) v) (g a) l v (h a) e
def cut : List Nat → List Fe → List (List Fe)
  | [], _ => []
  | k :: ks, l => l.take k :: cut ks (l.drop k)
theorem cut_flat : ∀ (ks : List Nat) (xs : List (List Fe)), xs.map List.length = ks → cut ks xs.flatten = xs
  | [], xs, h => by
    cases xs with
    | nil => rfl
    | cons a l => cases h
  | k :: ks, xs, h => by
    cases xs with
    | nil => cases h
    | cons a l =>
      simp only [List.map_cons, List.cons.injEq] at h
      obtain ⟨h1, h2⟩ := h
      simp only [List.flatten_cons, cut, ← h1]
      rw [List.take_left, List.drop_left, cut_flat ks l h2]
def sumN : List Nat → Nat
  | [] => 0
  | k :: l => k + sumN l
def fnP (ks : List Nat) (val : Fn (sumN ks)) (vs : List (LV Fe)) : Option (LV Fe) := match pA ks vs with
  | some xs => apF (sumN ks) val xs.flatten
  | none => none
/-- The contract of a function of groups of elements. -/
noncomputable def mkP (f : FuncId) (ent : ∀ args w, (callFunc f args).run Tryz.prog w = .ok (.enter f args) w) (ks : List Nat) (val : Fn (sumN ks)) (run : AllF (sumN ks) val fun l v => Runs f (bA (cut ks l)) v) : ConP Tryz.prog Fe where
  f := f
  fn := fnP ks val
  ent := ent
  kin vs v h p := by
    unfold fnP at h
    split at h
    · exact pv_kin p v (AllF.at _ val _ v run h).plain
    · cases h
  call vs v h ρ w := by
    unfold fnP at h
    split at h
    · rename_i xs hx
      obtain ⟨e, m⟩ := pA_trs _ _ _ hx
      have := AllF.at _ val _ v run h
      rw [cut_flat _ _ e] at this
      rw [m ρ]
      exact this.run ρ w
    · cases h
end Go.Proofs.YtonmjdnkcngfjaaGreat.En2

/- DERIVED. Commutative rings: a normaliser. -/

set_option linter.all false
namespace Go.Proofs.YtonmjdnkcngfjaaGreat.Alg

/-- A commutative ring, by its plain laws. -/
class CR (K : Type) extends Zero K, One K, Add K, Mul K, Neg K, Sub K where
  sub_def : ∀ a b : K, a - b = a + -b
  add_assoc : ∀ a b c : K, a + b + c = a + (b + c)
  add_comm : ∀ a b : K, a + b = b + a
  add_zero : ∀ a : K, a + 0 = a
  add_neg : ∀ a : K, a + -a = 0
  mul_assoc : ∀ a b c : K, a * b * c = a * (b * c)
  mul_comm : ∀ a b : K, a * b = b * a
  mul_one : ∀ a : K, a * 1 = a
  mul_add : ∀ a b c : K, a * (b + c) = a * b + a * c

section
variable {K : Type} [CR K]
open CR
theorem zero_add (a : K) : 0 + a = a := by rw [add_comm, add_zero]
theorem one_mul (a : K) : 1 * a = a := by rw [mul_comm, mul_one]
theorem add_mul (a b c : K) : (a + b) * c = a * c + b * c := by rw [mul_comm, mul_add, mul_comm c a, mul_comm c b]
theorem add_left_comm (a b c : K) : a + (b + c) = b + (a + c) := by rw [← add_assoc, add_comm a b, add_assoc]
theorem mul_left_comm (a b c : K) : a * (b * c) = b * (a * c) := by rw [← mul_assoc, mul_comm a b, mul_assoc]
theorem neg_add_self (a : K) : -a + a = 0 := by rw [add_comm, add_neg]
theorem add_left_cancel {a b c : K} (h : a + b = a + c) : b = c := by
  have : -a + (a + b) = -a + (a + c) := by rw [h]
  rwa [← add_assoc, ← add_assoc, neg_add_self, zero_add, zero_add] at this
theorem neg_unique {a b : K} (h : a + b = 0) : b = -a := add_left_cancel (by rw [h, add_neg])
theorem neg_neg (a : K) : - -a = a := (neg_unique (neg_add_self a)).symm
theorem neg_zero : -(0 : K) = 0 := (neg_unique (add_zero 0)).symm
theorem mul_zero (a : K) : a * 0 = 0 := by
  have : a * 0 + a * 0 = a * 0 + 0 := by rw [← mul_add, add_zero, add_zero]
  exact add_left_cancel this
theorem zero_mul (a : K) : 0 * a = 0 := by rw [mul_comm, mul_zero]
theorem mul_neg (a b : K) : a * -b = -(a * b) := neg_unique (by rw [← mul_add, add_neg, mul_zero])
theorem neg_mul (a b : K) : -a * b = -(a * b) := by rw [mul_comm, mul_neg, mul_comm]
theorem neg_add (a b : K) : -(a + b) = -a + -b := by
  refine (neg_unique ?_).symm
  rw [add_assoc, add_left_comm b, ← add_assoc, add_neg, add_neg, add_zero]
theorem sub_self (a : K) : a - a = 0 := by rw [sub_def, add_neg]
theorem sub_zero (a : K) : a - 0 = a := by rw [sub_def, neg_zero, add_zero]
theorem eq_of_sub {a b : K} (h : a - b = 0) : a = b := by
  rw [sub_def] at h
  have := neg_unique (a := -b) (b := a) (by rw [add_comm]; exact h)
  rwa [neg_neg] at this
theorem sub_of_eq {a b : K} (h : a = b) : a - b = 0 := by rw [h, sub_self]

/-- A natural number, an integer, in the ring. -/
def natC : Nat → K
  | 0 => 0
  | n + 1 => natC n + 1
def intC : Int → K
  | .ofNat n => natC n
  | .negSucc n => -natC (n + 1)

theorem natC_add (a b : Nat) : (natC (a + b) : K) = natC a + natC b := by
  induction b with
  | zero => exact (add_zero _).symm
  | succ b ih => show natC (a + b) + 1 = natC a + (natC b + 1); rw [ih, add_assoc]
theorem natC_mul (a b : Nat) : (natC (a * b) : K) = natC a * natC b := by
  induction b with
  | zero => exact (mul_zero _).symm
  | succ b ih => show natC (a * b + a) = natC a * (natC b + 1); rw [natC_add, ih, mul_add, mul_one]
theorem intC_neg (a : Int) : (intC (-a) : K) = -intC a := by
  cases a with
  | ofNat n =>
    cases n with
    | zero => exact neg_zero.symm
    | succ n => rfl
  | negSucc n => exact (neg_neg _).symm
theorem intC_subNatNat (a b : Nat) : (intC (Int.subNatNat a b) : K) = natC a + -natC b := by
  by_cases h : b ≤ a
  · obtain ⟨c, rfl⟩ := Nat.exists_eq_add_of_le h
    rw [Int.subNatNat_of_le (by omega), Nat.add_sub_cancel_left, natC_add, add_comm (natC b), add_assoc, add_neg, add_zero]; rfl
  · obtain ⟨c, rfl⟩ := Nat.exists_eq_add_of_lt (by omega : a < b)
    rw [Int.subNatNat_of_lt (by omega), show a + c + 1 - a = c + 1 by omega]
    show -natC (c + 1) = _
    rw [show a + c + 1 = a + (c + 1) by omega, natC_add a (c + 1), neg_add, ← add_assoc, add_neg, zero_add]
theorem intC_add (a b : Int) : (intC (a + b) : K) = intC a + intC b := by
  cases a <;> cases b
  · exact natC_add _ _
  · rename_i m n; show intC (Int.subNatNat m (n + 1)) = _; rw [intC_subNatNat]; rfl
  · rename_i m n; show intC (Int.subNatNat n (m + 1)) = _; rw [intC_subNatNat, add_comm]; rfl
  · rename_i m n
    show -natC (m + n + 1 + 1) = -natC (m + 1) + -natC (n + 1)
    rw [← neg_add, ← natC_add, show m + n + 1 + 1 = m + 1 + (n + 1) by omega]
theorem intC_mul (a b : Int) : (intC (a * b) : K) = intC a * intC b := by
  cases a <;> cases b
  · exact natC_mul _ _
  · rename_i m n
    rw [show Int.ofNat m * Int.negSucc n = -(Int.ofNat (m * (n + 1))) by rw [Int.negSucc_eq]; simp [Int.mul_neg], intC_neg]
    show -natC (m * (n + 1)) = natC m * -natC (n + 1)
    rw [natC_mul, mul_neg]
  · rename_i m n
    rw [show Int.negSucc m * Int.ofNat n = -(Int.ofNat ((m + 1) * n)) by rw [Int.negSucc_eq]; simp [Int.neg_mul], intC_neg]
    show -natC ((m + 1) * n) = -natC (m + 1) * natC n
    rw [natC_mul, neg_mul]
  · rename_i m n
    rw [Int.negSucc_mul_negSucc]
    show natC ((m + 1) * (n + 1)) = -natC (m + 1) * -natC (n + 1)
    rw [natC_mul, neg_mul, mul_neg, neg_neg]
theorem intC_one : (intC 1 : K) = 1 := zero_add 1
theorem intC_zero : (intC 0 : K) = 0 := rfl

/-- A power. -/
def pw (a : K) : Nat → K
  | 0 => 1
  | n + 1 => pw a n * a

/-! ## Polynomials, dense, one variable over the others -/
def P : Nat → Type
  | 0 => Int
  | n + 1 => List (P n)

def zipAdd {α : Type} (f : α → α → α) : List α → List α → List α
  | [], m => m
  | l, [] => l
  | a :: l, b :: m => f a b :: zipAdd f l m

def pzero : (n : Nat) → P n
  | 0 => (0 : Int)
  | _ + 1 => []
def pconst : (n : Nat) → Int → P n
  | 0, z => z
  | n + 1, z => [pconst n z]
def padd : (n : Nat) → P n → P n → P n
  | 0, a, b => Int.add a b
  | n + 1, l, m => zipAdd (padd n) l m
def pneg : (n : Nat) → P n → P n
  | 0, a => Int.neg a
  | n + 1, l => List.map (pneg n) l
def mulL {α : Type} (z : α) (f g : α → α → α) : List α → List α → List α
  | [], _ => []
  | a :: l, m => zipAdd g (m.map (f a)) (z :: mulL z f g l m)
def pmul : (n : Nat) → P n → P n → P n
  | 0, a, b => Int.mul a b
  | n + 1, l, m => mulL (pzero n) (pmul n) (padd n) l m
def pvar : (n : Nat) → Nat → P n
  | 0, _ => (0 : Int)
  | n + 1, i => match Nat.beq i n with
    | true => [pzero n, pconst n 1]
    | false => [pvar n i]
def isZ : (n : Nat) → P n → Bool
  | 0, a => match (a : Int) with | .ofNat k => Nat.beq k 0 | .negSucc _ => false
  | n + 1, l => List.all l (isZ n)
def ppow (n : Nat) (a : P n) : Nat → P n
  | 0 => pconst n 1
  | k + 1 => pmul n (ppow n a k) a

def horner {α : Type} (d : α → K) (x : K) : List α → K
  | [] => 0
  | a :: l => d a + x * horner d x l
def den (ρ : Nat → K) : (n : Nat) → P n → K
  | 0, a => intC a
  | n + 1, l => horner (den ρ n) (ρ n) l

theorem horner_zip {α : Type} {d : α → K} {x : K} {f : α → α → α} (h : ∀ a b, d (f a b) = d a + d b) : ∀ l m, horner d x (zipAdd f l m) = horner d x l + horner d x m
  | [], m => by simp only [zipAdd, horner, zero_add]
  | a :: l, [] => by simp only [zipAdd, horner, add_zero]
  | a :: l, b :: m => by
    simp only [zipAdd, horner]
    rw [h, horner_zip h l m, mul_add, add_assoc, add_left_comm (d b), ← add_assoc]
theorem horner_map {α : Type} {d : α → K} {x y : K} {f : α → α} (h : ∀ a, d (f a) = y * d a) : ∀ l, horner d x (l.map f) = y * horner d x l
  | [] => (mul_zero _).symm
  | a :: l => by simp only [List.map, horner]; rw [h, horner_map h l, mul_add, mul_left_comm]
theorem horner_neg {α : Type} {d : α → K} {x : K} {f : α → α} (h : ∀ a, d (f a) = -d a) : ∀ l, horner d x (l.map f) = -horner d x l
  | [] => neg_zero.symm
  | a :: l => by simp only [List.map, horner]; rw [h, horner_neg h l, mul_neg, neg_add]
theorem den_zero (ρ : Nat → K) : ∀ n, den ρ n (pzero n) = 0
  | 0 => rfl
  | _ + 1 => rfl
theorem den_const (ρ : Nat → K) (z : Int) : ∀ n, den ρ n (pconst n z) = intC z
  | 0 => rfl
  | n + 1 => by simp only [pconst, den, horner]; rw [den_const ρ z n, mul_zero, add_zero]
theorem den_add (ρ : Nat → K) : ∀ n a b, den ρ n (padd n a b) = den ρ n a + den ρ n b
  | 0, a, b => intC_add a b
  | n + 1, l, m => horner_zip (den_add ρ n) l m
theorem den_neg (ρ : Nat → K) : ∀ n a, den ρ n (pneg n a) = -den ρ n a
  | 0, a => intC_neg a
  | n + 1, l => horner_neg (den_neg ρ n) l
theorem horner_mul {α : Type} {d : α → K} {x : K} {z : α} {f g : α → α → α} (hz : d z = 0) (hf : ∀ a b, d (f a b) = d a * d b) (hg : ∀ a b, d (g a b) = d a + d b) :
    ∀ l m, horner d x (mulL z f g l m) = horner d x l * horner d x m
  | [], m => (zero_mul _).symm
  | a :: l, m => by
    simp only [mulL, horner]
    rw [horner_zip hg, horner_map (hf a), horner, hz, zero_add, horner_mul hz hf hg l m, add_mul, mul_assoc]
theorem den_mul (ρ : Nat → K) : ∀ n a b, den ρ n (pmul n a b) = den ρ n a * den ρ n b
  | 0, a, b => intC_mul a b
  | n + 1, l, m => horner_mul (den_zero ρ n) (den_mul ρ n) (den_add ρ n) l m
theorem den_var (ρ : Nat → K) (i : Nat) : ∀ n, i < n → den ρ n (pvar n i) = ρ i
  | 0, h => absurd h (Nat.not_lt_zero _)
  | n + 1, h => by
    by_cases e : i = n
    · subst e
      have : pvar (i + 1) i = [pzero i, pconst i 1] := by show (match Nat.beq i i with | true => _ | false => _) = _; rw [Nat.beq_refl]
      rw [this]
      show Alg.den ρ i (pzero i) + ρ i * (Alg.den ρ i (pconst i 1) + ρ i * 0) = ρ i
      rw [den_zero, den_const, intC_one, zero_add, mul_zero, add_zero, mul_one]
    · have hb : Nat.beq i n = false := by
        cases hb : Nat.beq i n
        · rfl
        · exact absurd (Nat.eq_of_beq_eq_true hb) e
      have : pvar (n + 1) i = [pvar n i] := by show (match Nat.beq i n with | true => _ | false => _) = _; rw [hb]
      rw [this]
      show Alg.den ρ n (pvar n i) + ρ n * 0 = ρ i
      rw [den_var ρ i n (by omega), mul_zero, add_zero]
theorem den_pow (ρ : Nat → K) (n : Nat) (a : P n) : ∀ k, den ρ n (ppow n a k) = pw (den ρ n a) k
  | 0 => by simp only [ppow, pw]; rw [den_const, intC_one]
  | k + 1 => by simp only [ppow, pw]; rw [den_mul, den_pow ρ n a k]
theorem horner_all {α : Type} {d : α → K} {x : K} {p : α → Bool} (h : ∀ a, p a = true → d a = 0) : ∀ l : List α, l.all p = true → horner d x l = 0
  | [], _ => rfl
  | a :: l, hl => by
    simp only [List.all_cons, Bool.and_eq_true] at hl
    simp only [horner]
    rw [h a hl.1, horner_all h l hl.2, mul_zero, add_zero]
theorem den_isZ (ρ : Nat → K) : ∀ n a, isZ n a = true → den ρ n a = 0
  | 0, a, h => by
    simp only [isZ] at h
    split at h
    · rename_i k; have := Nat.eq_of_beq_eq_true h; subst this; rfl
    · cases h
  | n + 1, l, h => horner_all (den_isZ ρ n) l h

/-! ## Expressions -/
inductive E where
  | v (i : Nat)
  | c (z : Int)
  | add (a b : E)
  | mul (a b : E)
  | neg (a : E)
  | sub (a b : E)
  | pow (a : E) (k : Nat)

/-- A small integer, 1 and 0 as they are written. -/
def smallC (z : Int) : K := match z with
  | 0 => 0
  | 1 => 1
  | z => intC z
theorem smallC_eq (z : Int) : (smallC z : K) = intC z := by
  unfold smallC
  split
  · rfl
  · exact intC_one.symm
  · rfl
def E.den (ρ : Nat → K) : E → K
  | .v i => ρ i
  | .c z => smallC z
  | .add a b => a.den ρ + b.den ρ
  | .mul a b => a.den ρ * b.den ρ
  | .neg a => -a.den ρ
  | .sub a b => a.den ρ - b.den ρ
  | .pow a k => pw (a.den ρ) k
def E.ok (n : Nat) : E → Bool
  | .v i => Nat.blt i n
  | .c _ => true
  | .add a b => a.ok n && b.ok n
  | .mul a b => a.ok n && b.ok n
  | .neg a => a.ok n
  | .sub a b => a.ok n && b.ok n
  | .pow a _ => a.ok n
def E.nf (n : Nat) : E → P n
  | .v i => pvar n i
  | .c z => pconst n z
  | .add a b => padd n (a.nf n) (b.nf n)
  | .mul a b => pmul n (a.nf n) (b.nf n)
  | .neg a => pneg n (a.nf n)
  | .sub a b => padd n (a.nf n) (pneg n (b.nf n))
  | .pow a k => ppow n (a.nf n) k
theorem E.den_nf (ρ : Nat → K) (n : Nat) : ∀ e : E, e.ok n = true → Alg.den ρ n (e.nf n) = e.den ρ
  | .v i, h => den_var ρ i n (Nat.le_of_ble_eq_true h)
  | .c z, _ => (den_const ρ z n).trans (smallC_eq z).symm
  | .add a b, h => by
    simp only [E.ok, Bool.and_eq_true] at h
    simp only [E.nf, E.den]; rw [den_add, E.den_nf ρ n a h.1, E.den_nf ρ n b h.2]
  | .mul a b, h => by
    simp only [E.ok, Bool.and_eq_true] at h
    simp only [E.nf, E.den]; rw [den_mul, E.den_nf ρ n a h.1, E.den_nf ρ n b h.2]
  | .neg a, h => by
    simp only [E.ok] at h
    simp only [E.nf, E.den]; rw [den_neg, E.den_nf ρ n a h]
  | .sub a b, h => by
    simp only [E.ok, Bool.and_eq_true] at h
    simp only [E.nf, E.den]; rw [den_add, den_neg, E.den_nf ρ n a h.1, E.den_nf ρ n b h.2, sub_def]
  | .pow a k, h => by
    simp only [E.ok] at h
    simp only [E.nf, E.den]; rw [den_pow, E.den_nf ρ n a h]

instance : Add E := ⟨.add⟩
instance : Mul E := ⟨.mul⟩
instance : Sub E := ⟨.sub⟩
instance : Neg E := ⟨.neg⟩

/-- What normalises to nought is nought. -/
theorem zero_of (ρ : Nat → K) (n : Nat) (e : E) (h : (e.ok n && isZ n (e.nf n)) = true) : e.den ρ = 0 := by
  simp only [Bool.and_eq_true] at h
  rw [← E.den_nf ρ n e h.1, den_isZ ρ n _ h.2]
theorem eq_of (ρ : Nat → K) (n : Nat) (a b : E) (h : ((E.sub a b).ok n && isZ n ((E.sub a b).nf n)) = true) : a.den ρ = b.den ρ :=
  eq_of_sub (zero_of ρ n (.sub a b) h)
/-- .. with relations, and their factors. -/
def comb : List (E × E) → E
  | [] => .c 0
  | (k, r) :: l => .add (.mul k r) (comb l)
theorem comb_zero (ρ : Nat → K) : ∀ l : List (E × E), (∀ q ∈ l, q.2.den ρ = 0) → (comb l).den ρ = 0
  | [], _ => rfl
  | (k, r) :: l, h => by
    simp only [comb, E.den]
    rw [h (k, r) (by simp), comb_zero ρ l (fun q hq => h q (by simp [hq])), mul_zero, add_zero]
theorem all_nil {ρ : Nat → K} : ∀ q ∈ ([] : List (E × E)), q.2.den ρ = 0 := fun _ h => by cases h
theorem all_cons {ρ : Nat → K} {k r : E} {l : List (E × E)} (h : r.den ρ = 0) (hl : ∀ q ∈ l, q.2.den ρ = 0) : ∀ q ∈ (k, r) :: l, q.2.den ρ = 0 := fun q hq => by
  rcases List.mem_cons.1 hq with e | e
  · rw [e]; exact h
  · exact hl q e
theorem zero_of_rel (ρ : Nat → K) (n : Nat) (e : E) (l : List (E × E)) (hl : ∀ q ∈ l, q.2.den ρ = 0) (h : ((E.sub e (comb l)).ok n && isZ n ((E.sub e (comb l)).nf n)) = true) : e.den ρ = 0 := by
  have := zero_of ρ n _ h
  simp only [E.den] at this
  rw [comb_zero ρ l hl, sub_zero] at this
  exact this
end
end Go.Proofs.YtonmjdnkcngfjaaGreat.Alg

/- DERIVED. Prime numbers: the little theorem, and a test by the factors of a number less one. -/
set_option linter.all false
namespace Go.Proofs.YtonmjdnkcngfjaaGreat.Alg

structure Pr (p : Nat) : Prop where
  two : 1 < p
  div : ∀ d, d ∣ p → d = 1 ∨ d = p
theorem Pr.pos {p : Nat} (h : Pr p) : 0 < p := Nat.lt_trans Nat.zero_lt_one h.two
theorem Pr.co {p : Nat} (h : Pr p) {a : Nat} (ha : ¬p ∣ a) : Nat.Coprime p a := by
  rcases h.div (Nat.gcd p a) (Nat.gcd_dvd_left p a) with e | e
  · exact e
  · exact absurd (e ▸ Nat.gcd_dvd_right p a) ha
theorem Pr.dvd_mul {p : Nat} (h : Pr p) {a b : Nat} (hab : p ∣ a * b) : p ∣ a ∨ p ∣ b := by
  by_cases ha : p ∣ a
  · exact .inl ha
  · exact .inr ((h.co ha).dvd_of_dvd_mul_left hab)
/-! ## the little theorem -/
def bin : Nat → Nat → Nat
  | _, 0 => 1
  | 0, _ + 1 => 0
  | n + 1, k + 1 => bin n k + bin n (k + 1)
theorem bin_big : ∀ n k, n < k → bin n k = 0
  | 0, k + 1, _ => rfl
  | n + 1, 0, h => absurd h (Nat.not_lt_zero _)
  | n + 1, k + 1, h => by simp only [bin]; rw [bin_big n k (by omega), bin_big n (k + 1) (by omega)]
theorem bin_self : ∀ n, bin n n = 1
  | 0 => rfl
  | n + 1 => by simp only [bin]; rw [bin_self n, bin_big n (n + 1) (by omega)]
theorem bin_zero (n : Nat) : bin n 0 = 1 := by cases n <;> rfl
theorem bin_mul : ∀ n k, (k + 1) * bin (n + 1) (k + 1) = (n + 1) * bin n k
  | 0, 0 => rfl
  | 0, k + 1 => by simp [bin]
  | n + 1, 0 => by
    have h := bin_mul n 0
    simp only [bin, bin_zero, Nat.zero_add, Nat.one_mul] at h ⊢
    first | omega | done
  | n + 1, k + 1 => by
    have h1 := bin_mul n k
    have h2 := bin_mul n (k + 1)
    have e1 : bin (n + 2) (k + 2) = bin (n + 1) (k + 1) + bin (n + 1) (k + 2) := rfl
    have e2 : bin (n + 1) (k + 1) = bin n k + bin n (k + 1) := rfl
    rw [show n + 1 + 1 = n + 2 from rfl, show k + 1 + 1 = k + 2 from rfl, e1, Nat.mul_add, h2, show k + 2 = (k + 1) + 1 from rfl, Nat.add_mul (k + 1) 1, h1, Nat.one_mul]
    rw [show n + 2 = (n + 1) + 1 from rfl, Nat.add_mul (n + 1) 1, Nat.one_mul]
    rw [show (n + 1) * bin (n + 1) (k + 1) = (n + 1) * bin n k + (n + 1) * bin n (k + 1) by rw [e2, Nat.mul_add]]
    omega
def sumTo (f : Nat → Nat) : Nat → Nat
  | 0 => 0
  | n + 1 => sumTo f n + f n
theorem sumTo_congr {f g : Nat → Nat} : ∀ n, (∀ k, k < n → f k = g k) → sumTo f n = sumTo g n
  | 0, _ => rfl
  | n + 1, h => by simp only [sumTo]; rw [sumTo_congr n fun k hk => h k (by omega), h n (by omega)]
theorem sumTo_add (f g : Nat → Nat) : ∀ n, sumTo (fun k => f k + g k) n = sumTo f n + sumTo g n
  | 0 => rfl
  | n + 1 => by simp only [sumTo]; rw [sumTo_add f g n]; omega
theorem sumTo_mul (f : Nat → Nat) (c : Nat) : ∀ n, sumTo (fun k => c * f k) n = c * sumTo f n
  | 0 => rfl
  | n + 1 => by simp only [sumTo]; rw [sumTo_mul f c n, Nat.mul_add]
theorem sumTo_head (f : Nat → Nat) : ∀ n, sumTo f (n + 1) = f 0 + sumTo (fun k => f (k + 1)) n
  | 0 => by simp [sumTo]
  | n + 1 => by rw [sumTo, sumTo_head f n]; simp only [sumTo]; omega
theorem sumTo_mod {f : Nat → Nat} {p : Nat} : ∀ n, (∀ k, k < n → p ∣ f k) → p ∣ sumTo f n
  | 0, _ => ⟨0, rfl⟩
  | n + 1, h => Nat.dvd_add (sumTo_mod n fun k hk => h k (by omega)) (h n (by omega))
theorem bin_pow (a : Nat) : ∀ n, (a + 1) ^ n = sumTo (fun k => bin n k * a ^ k) (n + 1)
  | 0 => by simp [sumTo, bin]
  | n + 1 => by
    rw [Nat.pow_succ, bin_pow a n, sumTo_head, Nat.mul_add, Nat.mul_one]
    have e : sumTo (fun k => bin (n + 1) (k + 1) * a ^ (k + 1)) (n + 1) = a * sumTo (fun k => bin n k * a ^ k) (n + 1) + sumTo (fun k => bin n (k + 1) * a ^ (k + 1)) (n + 1) := by
      rw [← sumTo_mul, ← sumTo_add]
      refine sumTo_congr _ fun k _ => ?_
      rw [bin, Nat.add_mul, Nat.pow_succ, ← Nat.mul_assoc, Nat.mul_comm a (bin n k * a ^ k)]
    have e2 : bin n 0 * a ^ 0 + sumTo (fun k => bin n (k + 1) * a ^ (k + 1)) n = sumTo (fun k => bin n k * a ^ k) (n + 1) := (sumTo_head (fun k => bin n k * a ^ k) n).symm
    have e3 : sumTo (fun k => bin n (k + 1) * a ^ (k + 1)) (n + 1) = sumTo (fun k => bin n (k + 1) * a ^ (k + 1)) n := by
      simp only [sumTo]; rw [bin_big n (n + 1) (by omega), Nat.zero_mul, Nat.add_zero]
    rw [sumTo_head _ (n + 1), e, e3, e2, bin_zero, Nat.pow_zero]
    rw [bin_zero, Nat.pow_zero] at e2
    generalize sumTo (fun k => bin n k * a ^ k) (n + 1) = S at *
    rw [Nat.mul_comm a S]
    omega
theorem Pr.bin {p : Nat} (h : Pr p) {k : Nat} (h0 : 0 < k) (hk : k < p) : p ∣ Alg.bin p k := by
  obtain ⟨n, rfl⟩ : ∃ n, p = n + 1 := ⟨p - 1, by have := h.pos; omega⟩
  obtain ⟨j, rfl⟩ : ∃ j, k = j + 1 := ⟨k - 1, by omega⟩
  have e := bin_mul n j
  rcases h.dvd_mul (a := j + 1) (b := Alg.bin (n + 1) (j + 1)) ⟨_, e⟩ with hd | hd
  · exact absurd (Nat.le_of_dvd (by omega) hd) (by omega)
  · exact hd
/-- The little theorem. -/
theorem Pr.little {p : Nat} (h : Pr p) : ∀ a, a ^ p % p = a % p
  | 0 => by rw [Nat.zero_pow h.pos]
  | a + 1 => by
    rw [bin_pow a p]
    obtain ⟨n, rfl⟩ : ∃ n, p = n + 1 := ⟨p - 1, by have := h.pos; omega⟩
    rw [sumTo, sumTo_head, bin_self, Nat.one_mul]
    have hd : n + 1 ∣ sumTo (fun k => Alg.bin (n + 1) (k + 1) * a ^ (k + 1)) n := sumTo_mod n fun k hk => Nat.dvd_trans (h.bin (by omega) (by omega)) ⟨_, rfl⟩
    obtain ⟨c, hc⟩ := hd
    rw [hc, bin_zero, Nat.pow_zero, Nat.add_assoc, Nat.add_comm ((n + 1) * c), ← Nat.add_assoc, Nat.add_mul_mod_self_left, Nat.add_mod, h.little a, ← Nat.add_mod]
    congr 1
    omega
theorem Pr.unit {p : Nat} (h : Pr p) {a : Nat} (ha : ¬p ∣ a) : a ^ (p - 1) % p = 1 := by
  have h1 := h.little a
  have h2 := h.two
  obtain ⟨n, rfl⟩ : ∃ n, p = n + 1 := ⟨p - 1, by omega⟩
  rw [Nat.add_sub_cancel]
  have hp1 : 1 ≤ a ^ n := Nat.pos_of_ne_zero fun e => by
    rcases Nat.eq_zero_or_pos a with rfl | ha0
    · exact ha ⟨0, rfl⟩
    · exact absurd e (Nat.ne_of_gt (Nat.pow_pos ha0))
  have hd : n + 1 ∣ a * (a ^ n - 1) := by
    rw [Nat.mul_sub, Nat.mul_one, ← Nat.pow_succ']
    exact Nat.dvd_of_mod_eq_zero (Nat.sub_mod_eq_zero_of_mod_eq h1)
  rcases h.dvd_mul hd with hd | hd
  · exact absurd hd ha
  · obtain ⟨c, hc⟩ := hd
    rw [show a ^ n = 1 + (n + 1) * c by omega, Nat.add_mul_mod_self_left, Nat.mod_eq_of_lt h2]
/-! ## powers modulo a number -/
def pmL (n a : Nat) : List Bool → Nat → Nat
  | [], x => x
  | b :: l, x => pmL n a l (match b with | true => x * x % n * a % n | false => x * x % n)
def valL : List Bool → Nat → Nat
  | [], v => v
  | b :: l, v => valL l (match b with | true => 2 * v + 1 | false => 2 * v)
def bitsL : Nat → Nat → List Bool → List Bool
  | 0, _, l => l
  | f + 1, e, l => bitsL f (e / 2) (Nat.beq (e % 2) 1 :: l)
theorem pmL_eq (n a : Nat) : ∀ l v, pmL n a l (a ^ v % n) = a ^ valL l v % n
  | [], v => rfl
  | true :: l, v => by
    simp only [pmL, valL]
    rw [← pmL_eq n a l]
    congr 1
    rw [Nat.pow_succ, Nat.two_mul, Nat.pow_add, ← Nat.mul_mod, Nat.mul_mod (a ^ v * a ^ v) a n, Nat.mod_mul_mod, ← Nat.mul_mod]
  | false :: l, v => by
    simp only [pmL, valL]
    rw [← pmL_eq n a l]
    congr 1
    rw [Nat.two_mul, Nat.pow_add, ← Nat.mul_mod]
theorem valL_bits : ∀ f e l, e < 2 ^ f → valL (bitsL f e l) 0 = valL l e
  | 0, e, l, h => by
    have : e = 0 := by simp at h; omega
    subst this; rfl
  | f + 1, e, l, h => by
    rw [bitsL, valL_bits f (e / 2) _ (by rw [Nat.pow_succ] at h; omega)]
    cases hb : Nat.beq (e % 2) 1 with
    | true => have := Nat.eq_of_beq_eq_true hb; simp only [valL]; congr 1; omega
    | false => have := Nat.ne_of_beq_eq_false hb; simp only [valL]; congr 1; omega
/-- a^e modulo n, e below 2^f. -/
def pm (n a f e : Nat) : Nat := pmL n a (bitsL f e []) (1 % n)
theorem pm_eq {n a f e : Nat} (h : e < 2 ^ f) : pm n a f e = a ^ e % n := by
  unfold pm
  rw [show 1 % n = a ^ 0 % n by rw [Nat.pow_zero], pmL_eq, valL_bits f e [] h]
  rfl
/-! ## a test -/
theorem pow_gcd {n x : Nat} (hn : 1 < n) : ∀ a b, x ^ a % n = 1 → x ^ b % n = 1 → x ^ (Nat.gcd a b) % n = 1 := by
  intro a b
  induction a, b using Nat.gcd.induction with
  | H0 b => intro _ h; rwa [Nat.gcd_zero_left]
  | H1 a b ha ih =>
    intro h1 h2
    rw [Nat.gcd_rec]
    refine ih ?_ h1
    have e : x ^ (a * (b / a) + b % a) % n = x ^ (b % a) % n := by
      rw [Nat.pow_add, Nat.pow_mul, Nat.mul_mod, Nat.pow_mod, h1, Nat.one_pow, Nat.mod_eq_of_lt hn, Nat.one_mul, Nat.mod_mod]
    rw [Nat.div_add_mod] at e
    rw [← e]; exact h2
theorem has_pr (n : Nat) : 1 < n → ∃ d, Pr d ∧ d ∣ n := by
  induction n using Nat.strongRecOn with
  | ind n ih =>
    intro hn
    by_cases h : ∃ d, d ∣ n ∧ d ≠ 1 ∧ d ≠ n
    · obtain ⟨d, hd, h1, h2⟩ := h
      have hle := Nat.le_of_dvd (by omega) hd
      have h0 : d ≠ 0 := fun e => by subst e; have := Nat.eq_zero_of_zero_dvd hd; omega
      obtain ⟨e, he, hed⟩ := ih d (by omega) (by omega)
      exact ⟨e, he, Nat.dvd_trans hed hd⟩
    · refine ⟨n, ⟨hn, fun d hd => ?_⟩, ⟨1, (Nat.mul_one n).symm⟩⟩
      by_cases h1 : d = 1
      · exact .inl h1
      · by_cases h2 : d = n
        · exact .inr h2
        · exact absurd ⟨d, hd, h1, h2⟩ h
theorem small_pr {n : Nat} (hn : 1 < n) (h : ∀ d, Pr d → d ∣ n → n < d * d) : Pr n := by
  refine ⟨hn, fun d hd => ?_⟩
  by_cases h1 : d = 1
  · exact .inl h1
  by_cases h2 : d = n
  · exact .inr h2
  exfalso
  obtain ⟨e, rfl⟩ := hd
  have hd0 : d ≠ 0 := fun e0 => by subst e0; simp at hn
  have he0 : e ≠ 0 := fun e0 => by subst e0; simp at hn
  have he1 : e ≠ 1 := fun e0 => by subst e0; simp at h2
  have key : ∀ a b, a ≤ b → 1 < a → a * b = d * e → False := fun a b hab ha hm => by
    obtain ⟨q, hq, hqa⟩ := has_pr a ha
    have h3 := h q hq (Nat.dvd_trans hqa ⟨b, hm.symm⟩)
    have h4 := Nat.le_of_dvd (by omega) hqa
    have h5 : q * q ≤ a * b := Nat.mul_le_mul h4 (by omega)
    omega
  rcases Nat.le_total d e with hle | hle
  · exact key d e hle (by omega) rfl
  · exact key e d hle (by omega) (Nat.mul_comm _ _)
theorem poc_one {n q a d : Nat} (hn : 1 < n) (hq : Pr q) (hqn : q ∣ n - 1) (h1 : a ^ (n - 1) % n = 1) (h2 : Nat.gcd (a ^ ((n - 1) / q) % n + (n - 1)) n = 1) (hd : Pr d) (hdn : d ∣ n) : q ∣ d - 1 := by
  by_cases hqd : q ∣ d - 1
  · exact hqd
  exfalso
  have hd1 : 1 % d = 1 := Nat.mod_eq_of_lt hd.two
  have hx : (a ^ ((n - 1) / q)) ^ q % d = 1 := by
    rw [← Nat.pow_mul, Nat.div_mul_cancel hqn, ← Nat.mod_mod_of_dvd _ hdn, h1, hd1]
  generalize hxe : a ^ ((n - 1) / q) = x at *
  have hnd : ¬d ∣ x := fun h => by
    obtain ⟨m, rfl⟩ : ∃ m, q = m + 1 := ⟨q - 1, by have := hq.pos; omega⟩
    have : x ^ (m + 1) % d = 0 := Nat.mod_eq_zero_of_dvd (Nat.dvd_trans h ⟨x ^ m, by rw [Nat.pow_succ, Nat.mul_comm]⟩)
    omega
  have h4 := pow_gcd hd.two q (d - 1) hx (hd.unit hnd)
  have h5 : Nat.gcd q (d - 1) = 1 := hq.co hqd
  rw [h5, Nat.pow_one] at h4
  have h6 : x % n % d = 1 := by rw [Nat.mod_mod_of_dvd _ hdn]; exact h4
  have h7 : d ∣ x % n + (n - 1) := by
    have h8 := Nat.div_add_mod (x % n) d
    obtain ⟨c, hc⟩ := hdn
    refine ⟨x % n / d + c, ?_⟩
    rw [Nat.mul_add, ← hc]
    omega
  have h9 := Nat.dvd_gcd h7 hdn
  rw [h2] at h9
  have := Nat.le_of_dvd (by omega) h9
  have := hd.two
  omega
def prodL : List Nat → Nat
  | [] => 1
  | q :: l => q * prodL l
def coL : List Nat → Bool
  | [] => true
  | q :: l => Nat.beq (Nat.gcd q (prodL l)) 1 && coL l
theorem prod_dvd {m : Nat} : ∀ l : List Nat, coL l = true → (∀ q ∈ l, q ∣ m) → prodL l ∣ m
  | [], _, _ => ⟨m, (Nat.one_mul m).symm⟩
  | q :: l, h, hl => by
    simp only [coL, Bool.and_eq_true] at h
    exact Nat.Coprime.mul_dvd_of_dvd_of_dvd (Nat.eq_of_beq_eq_true h.1) (hl q (by simp)) (prod_dvd l h.2 fun q hq => hl q (by simp [hq]))
/-- The test: of all of l it is known that they're prime. -/
def pocB (n a f : Nat) (l : List Nat) : Bool :=
  Nat.blt 1 n && (Nat.blt n (2 ^ f) && (Nat.beq (pm n a f (n - 1)) 1 && (coL l && (Nat.blt n (prodL l * prodL l) && l.all fun q => Nat.beq ((n - 1) % q) 0 && Nat.beq (Nat.gcd (pm n a f ((n - 1) / q) + (n - 1)) n) 1))))
theorem poc {n a f : Nat} {l : List Nat} (hl : ∀ q ∈ l, Pr q) (h : pocB n a f l = true) : Pr n := by
  unfold pocB at h
  simp only [Bool.and_eq_true, List.all_eq_true] at h
  obtain ⟨h1, h2, h3, h4, h5, h6⟩ := h
  have h1 : 1 < n := Nat.le_of_ble_eq_true h1
  have h2 : n < 2 ^ f := Nat.le_of_ble_eq_true h2
  have h3 := Nat.eq_of_beq_eq_true h3
  rw [pm_eq (by omega)] at h3
  have h5 : n < prodL l * prodL l := Nat.le_of_ble_eq_true h5
  refine small_pr h1 fun d hd hdn => ?_
  have h7 : prodL l ∣ d - 1 := prod_dvd l h4 fun q hq => by
    obtain ⟨h8, h9⟩ := h6 q hq
    have h9 := Nat.eq_of_beq_eq_true h9
    rw [pm_eq (Nat.lt_of_le_of_lt (Nat.div_le_self _ _) (by omega))] at h9
    exact poc_one h1 (hl q hq) (Nat.dvd_of_mod_eq_zero (Nat.eq_of_beq_eq_true h8)) h3 h9 hd hdn
  have h8 := Nat.le_of_dvd (by have := hd.two; omega) h7
  have h9 : prodL l * prodL l ≤ d * d := Nat.mul_le_mul (by omega) (by omega)
  omega
/-- A small one: by all that could divide it. -/
def trialB (n : Nat) : Nat → Bool
  | 0 => true
  | k + 1 => (Nat.ble (k + 1) 1 || !Nat.beq (n % (k + 1)) 0) && trialB n k
theorem trialB_spec {n d : Nat} (h1 : 1 < d) : ∀ k, trialB n k = true → d ≤ k → ¬d ∣ n
  | 0, _, hk => by omega
  | k + 1, h, hk => by
    simp only [trialB, Bool.and_eq_true, Bool.or_eq_true] at h
    by_cases e : d = k + 1
    · subst e
      intro hd
      rcases h.1 with h | h
      · have := Nat.le_of_ble_eq_true h; omega
      · rw [Nat.mod_eq_zero_of_dvd hd] at h; cases h
    · exact trialB_spec h1 k h.2 (by omega)
theorem trial {n k : Nat} (h : (Nat.blt 1 n && (Nat.blt n ((k + 1) * (k + 1)) && trialB n k)) = true) : Pr n := by
  simp only [Bool.and_eq_true] at h
  obtain ⟨h1, h2, h3⟩ := h
  have h2 : n < (k + 1) * (k + 1) := Nat.le_of_ble_eq_true h2
  refine small_pr (Nat.le_of_ble_eq_true h1) fun d hd hdn => ?_
  by_cases hk : d ≤ k
  · exact absurd hdn (trialB_spec hd.two k h3 hk)
  · exact Nat.lt_of_lt_of_le h2 (Nat.mul_le_mul (by omega) (by omega))
end Go.Proofs.YtonmjdnkcngfjaaGreat.Alg

/- DERIVED. The field's number and the group's are prime. -/
set_option linter.all false
namespace Go.Proofs.YtonmjdnkcngfjaaGreat.Alg
theorem pr_421987 : Pr 421987 := trial (k := 649) (by decide +kernel)
theorem pr_13090036741 : Pr 13090036741 := poc (a := 2) (f := 34) (l := [421987]) (by simp only [List.mem_cons, List.not_mem_nil, or_false, forall_eq_or_imp, forall_eq]; exact pr_421987) (by decide +kernel)
theorem pr_755057 : Pr 755057 := trial (k := 868) (by decide +kernel)
theorem pr_3819663927398918131021 : Pr 3819663927398918131021 := poc (a := 2) (f := 72) (l := [13090036741, 755057]) (by simp only [List.mem_cons, List.not_mem_nil, or_false, forall_eq_or_imp, forall_eq]; exact ⟨pr_13090036741, pr_755057⟩) (by decide +kernel)
theorem pr_1125266252156850182658904441386709967 : Pr 1125266252156850182658904441386709967 := poc (a := 2) (f := 120) (l := [3819663927398918131021]) (by simp only [List.mem_cons, List.not_mem_nil, or_false, forall_eq_or_imp, forall_eq]; exact pr_3819663927398918131021) (by decide +kernel)
theorem pr_15778400344354997994418419698270088123916926905054652752758194827714659 : Pr 15778400344354997994418419698270088123916926905054652752758194827714659 := poc (a := 2) (f := 234) (l := [1125266252156850182658904441386709967]) (by simp only [List.mem_cons, List.not_mem_nil, or_false, forall_eq_or_imp, forall_eq]; exact pr_1125266252156850182658904441386709967) (by decide +kernel)
theorem pr_p : Pr 4002409555221667393417789825735904156556882819939007885332058136124031650490837864442687629129015664037894272559787 := poc (a := 2) (f := 381) (l := [15778400344354997994418419698270088123916926905054652752758194827714659]) (by simp only [List.mem_cons, List.not_mem_nil, or_false, forall_eq_or_imp, forall_eq]; exact pr_15778400344354997994418419698270088123916926905054652752758194827714659) (by decide +kernel)
theorem pr_2653753 : Pr 2653753 := trial (k := 1629) (by decide +kernel)
theorem pr_63690073 : Pr 63690073 := poc (a := 2) (f := 26) (l := [2653753]) (by simp only [List.mem_cons, List.not_mem_nil, or_false, forall_eq_or_imp, forall_eq]; exact pr_2653753) (by decide +kernel)
theorem pr_254760293 : Pr 254760293 := poc (a := 2) (f := 28) (l := [63690073]) (by simp only [List.mem_cons, List.not_mem_nil, or_false, forall_eq_or_imp, forall_eq]; exact pr_63690073) (by decide +kernel)
theorem pr_52437899 : Pr 52437899 := trial (k := 7241) (by decide +kernel)
theorem pr_2529403 : Pr 2529403 := trial (k := 1590) (by decide +kernel)
theorem pr_2508409 : Pr 2508409 := trial (k := 1583) (by decide +kernel)
theorem pr_906349 : Pr 906349 := trial (k := 952) (by decide +kernel)
theorem pr_859267 : Pr 859267 := trial (k := 926) (by decide +kernel)
theorem pr_r : Pr 52435875175126190479447740508185965837690552500527637822603658699938581184513 := poc (a := 2) (f := 255) (l := [254760293, 52437899, 2529403, 2508409, 906349, 859267]) (by simp only [List.mem_cons, List.not_mem_nil, or_false, forall_eq_or_imp, forall_eq]; exact ⟨pr_254760293, pr_52437899, pr_2529403, pr_2508409, pr_906349, pr_859267⟩) (by decide +kernel)
end Go.Proofs.YtonmjdnkcngfjaaGreat.Alg

/- DERIVED. Fields; numbers modulo a prime. -/
set_option linter.all false
namespace Go.Proofs.YtonmjdnkcngfjaaGreat.Alg

/-- A field, by its plain laws. -/
class Fld (K : Type) extends CR K where
  one_ne : (1 : K) ≠ 0
  inv : ∀ a : K, a ≠ 0 → ∃ b : K, a * b = 1

section
variable {K : Type} [Fld K]
open CR
theorem mul_left_cancel {a b c : K} (ha : a ≠ 0) (h : a * b = a * c) : b = c := by
  obtain ⟨i, hi⟩ := Fld.inv a ha
  have : i * (a * b) = i * (a * c) := by rw [h]
  rwa [← mul_assoc, ← mul_assoc, mul_comm i a, hi, one_mul, one_mul] at this
theorem mul_right_cancel {a b c : K} (ha : a ≠ 0) (h : b * a = c * a) : b = c := mul_left_cancel ha (by rw [mul_comm a b, h, mul_comm])
theorem mul_eq_zero {a b : K} (h : a * b = 0) : a = 0 ∨ b = 0 := by
  by_cases ha : a = 0
  · exact .inl ha
  · exact .inr (mul_left_cancel ha (by rw [h, mul_zero]))
theorem mul_ne {a b : K} (ha : a ≠ 0) (hb : b ≠ 0) : a * b ≠ 0 := fun h => by
  rcases mul_eq_zero h with h | h
  · exact ha h
  · exact hb h
theorem eq_neg_of {a b : K} (h : a + b = 0) : a = -b := neg_unique (by rw [add_comm]; exact h)
theorem sq_eq {a b : K} (h : a * a = b * b) : a = b ∨ a = -b := by
  have e : (a - b) * (a + b) = 0 := by
    have := eq_of (fun i => [a, b].getD i 0) 2 ((.v 0 - .v 1) * (.v 0 + .v 1)) (.v 0 * .v 0 - .v 1 * .v 1) (by decide +kernel)
    exact this.trans (sub_of_eq h)
  rcases mul_eq_zero e with e | e
  · exact .inl (eq_of_sub e)
  · exact .inr (eq_neg_of e)
end

/-! ## numbers modulo a prime -/
class IsPr (n : Nat) : Prop where
  pr : Pr n
structure Zm (n : Nat) where
  v : Nat
  lt : v < n
theorem Zm.ext {n : Nat} : ∀ {a b : Zm n}, a.v = b.v → a = b
  | ⟨_, _⟩, ⟨_, _⟩, rfl => rfl
section
variable {n : Nat} [hn : IsPr n]
def zr (a : Nat) : Zm n := ⟨a % n, Nat.mod_lt _ hn.pr.pos⟩
theorem zr_eq {a b : Nat} : (zr a : Zm n) = zr b ↔ a % n = b % n := ⟨fun h => congrArg Zm.v h, fun h => Zm.ext h⟩
theorem zr_v (a : Zm n) : zr a.v = a := Zm.ext (Nat.mod_eq_of_lt a.lt)
instance : Add (Zm n) := ⟨fun a b => zr (a.v + b.v)⟩
instance : Mul (Zm n) := ⟨fun a b => zr (a.v * b.v)⟩
instance : Neg (Zm n) := ⟨fun a => zr (n - a.v)⟩
instance : Sub (Zm n) := ⟨fun a b => zr (a.v + (n - b.v))⟩
instance : Zero (Zm n) := ⟨zr 0⟩
instance : One (Zm n) := ⟨zr 1⟩
theorem zr_add (a b : Nat) : (zr a + zr b : Zm n) = zr (a + b) := Zm.ext (by show (a % n + b % n) % n = _; rw [← Nat.add_mod]; rfl)
theorem zr_mul (a b : Nat) : (zr a * zr b : Zm n) = zr (a * b) := Zm.ext (by show (a % n * (b % n)) % n = _; rw [← Nat.mul_mod]; rfl)
theorem zr_neg (a : Nat) : (-zr a : Zm n) = zr (n - a % n) := rfl
theorem zr_sub (a b : Nat) : (zr a - zr b : Zm n) = zr (a + (n - b % n)) := Zm.ext (by show (a % n + (n - b % n)) % n = _; rw [Nat.add_mod, Nat.mod_mod, ← Nat.add_mod]; rfl)
theorem zr_zero : (zr 0 : Zm n) = 0 := rfl
theorem zr_one : (zr 1 : Zm n) = 1 := rfl
theorem zr_ind {p : Zm n → Prop} (h : ∀ a, p (zr a)) (a : Zm n) : p a := zr_v a ▸ h a.v
instance : CR (Zm n) where
  sub_def a b := by
    revert a b; refine zr_ind fun a => zr_ind fun b => ?_
    rw [zr_sub, zr_neg, zr_add]
  add_assoc a b c := by
    revert a b c; refine zr_ind fun a => zr_ind fun b => zr_ind fun c => ?_
    rw [zr_add, zr_add, zr_add, zr_add, Nat.add_assoc]
  add_comm a b := by
    revert a b; refine zr_ind fun a => zr_ind fun b => ?_
    rw [zr_add, zr_add, Nat.add_comm]
  add_zero a := by
    revert a; refine zr_ind fun a => ?_
    rw [← zr_zero, zr_add, Nat.add_zero]
  add_neg a := by
    revert a; refine zr_ind fun a => ?_
    rw [zr_neg, zr_add, ← zr_zero, zr_eq]
    have h := Nat.mod_lt a hn.pr.pos
    have h2 := Nat.div_add_mod a n
    rw [show a + (n - a % n) = n * (a / n + 1) by rw [Nat.mul_add, Nat.mul_one]; omega, Nat.mul_mod_right, Nat.zero_mod]
  mul_assoc a b c := by
    revert a b c; refine zr_ind fun a => zr_ind fun b => zr_ind fun c => ?_
    rw [zr_mul, zr_mul, zr_mul, zr_mul, Nat.mul_assoc]
  mul_comm a b := by
    revert a b; refine zr_ind fun a => zr_ind fun b => ?_
    rw [zr_mul, zr_mul, Nat.mul_comm]
  mul_one a := by
    revert a; refine zr_ind fun a => ?_
    rw [← zr_one, zr_mul, Nat.mul_one]
  mul_add a b c := by
    revert a b c; refine zr_ind fun a => zr_ind fun b => zr_ind fun c => ?_
    rw [zr_add, zr_mul, zr_mul, zr_mul, zr_add, Nat.mul_add]
theorem zr_pow (a : Nat) : ∀ k, (pw (zr a) k : Zm n) = zr (a ^ k)
  | 0 => rfl
  | k + 1 => by rw [pw, zr_pow a k, zr_mul, Nat.pow_succ]
/-- Fermat's inverse. -/
theorem zm_inv (a : Zm n) (ha : a ≠ 0) : a * pw a (n - 2) = 1 := by
  revert ha
  revert a
  refine zr_ind fun a ha => ?_
  have hd : ¬n ∣ a := fun h => ha (by rw [← zr_zero, zr_eq, Nat.mod_eq_zero_of_dvd h, Nat.zero_mod])
  have h2 := hn.pr.two
  rw [zr_pow, zr_mul, ← zr_one, zr_eq, ← Nat.pow_succ', show (n - 2).succ = n - 1 by omega, hn.pr.unit hd, Nat.mod_eq_of_lt h2]
instance : Fld (Zm n) where
  one_ne h := by
    have h2 := hn.pr.two
    rw [← zr_one, ← zr_zero, zr_eq, Nat.mod_eq_of_lt h2, Nat.zero_mod] at h
    cases h
  inv a ha := ⟨_, zm_inv a ha⟩
instance : DecidableEq (Zm n) := fun a b => if h : a.v = b.v then isTrue (Zm.ext h) else isFalse fun e => h (e ▸ rfl)
end
end Go.Proofs.YtonmjdnkcngfjaaGreat.Alg

/- DERIVED. The identities of the curve, on commutative rings. -/
set_option linter.all false
namespace Go.Proofs.YtonmjdnkcngfjaaGreat.Alg
open CR E
variable {K : Type} [CR K]
theorem ec_on (x y l d : K) (h0 : (l * (y + (y + (l * d)))) = (((x * x) + (x * (x + d))) + ((x + d) * (x + d)))) : ((((l * (x - (((l * l) - x) - (x + d)))) - y) * ((l * (x - (((l * l) - x) - (x + d)))) - y)) - (((((l * l) - x) - (x + d)) * (((l * l) - x) - (x + d))) * (((l * l) - x) - (x + d)))) = ((y * y) - ((x * x) * x)) := by
  exact eq_of_sub (zero_of_rel (fun i => [x, y, l, d].getD i 0) 4 (((((v 2 * (v 0 - (((v 2 * v 2) - v 0) - (v 0 + v 3)))) - v 1) * ((v 2 * (v 0 - (((v 2 * v 2) - v 0) - (v 0 + v 3)))) - v 1)) - (((((v 2 * v 2) - v 0) - (v 0 + v 3)) * (((v 2 * v 2) - v 0) - (v 0 + v 3))) * (((v 2 * v 2) - v 0) - (v 0 + v 3)))) - ((v 1 * v 1) - ((v 0 * v 0) * v 0))) [(((c (-1) * v 3) + ((v 2 * v 2) + (c (-3) * v 0))), (v 2 * (v 1 + (v 1 + (v 2 * v 3)))) - (((v 0 * v 0) + (v 0 * (v 0 + v 3))) + ((v 0 + v 3) * (v 0 + v 3))))] (all_cons (sub_of_eq h0) all_nil) (by decide +kernel))

theorem ec_back1 (x y l d : K)  : ((-l) * ((x + d) - (((l * l) - x) - (x + d)))) = ((-(y + (l * d))) - ((l * (x - (((l * l) - x) - (x + d)))) - y)) := by
  exact eq_of (fun i => [x, y, l, d].getD i 0) 4 (((-v 2) * ((v 0 + v 3) - (((v 2 * v 2) - v 0) - (v 0 + v 3))))) (((-(v 1 + (v 2 * v 3))) - ((v 2 * (v 0 - (((v 2 * v 2) - v 0) - (v 0 + v 3)))) - v 1))) (by decide +kernel)

theorem ec_back2 (x y l d : K) (h0 : (l * (y + (y + (l * d)))) = (((x * x) + (x * (x + d))) + ((x + d) * (x + d)))) : ((-l) * (((l * (x - (((l * l) - x) - (x + d)))) - y) + (-(y + (l * d))))) = ((((((l * l) - x) - (x + d)) * (((l * l) - x) - (x + d))) + ((((l * l) - x) - (x + d)) * (x + d))) + ((x + d) * (x + d))) := by
  exact eq_of_sub (zero_of_rel (fun i => [x, y, l, d].getD i 0) 4 (((-v 2) * (((v 2 * (v 0 - (((v 2 * v 2) - v 0) - (v 0 + v 3)))) - v 1) + (-(v 1 + (v 2 * v 3))))) - ((((((v 2 * v 2) - v 0) - (v 0 + v 3)) * (((v 2 * v 2) - v 0) - (v 0 + v 3))) + ((((v 2 * v 2) - v 0) - (v 0 + v 3)) * (v 0 + v 3))) + ((v 0 + v 3) * (v 0 + v 3)))) [(c 1, (v 2 * (v 1 + (v 1 + (v 2 * v 3)))) - (((v 0 * v 0) + (v 0 * (v 0 + v 3))) + ((v 0 + v 3) * (v 0 + v 3))))] (all_cons (sub_of_eq h0) all_nil) (by decide +kernel))

theorem ec_xAB (x y l m d e n k : K) (h0 : (l * ((y - (l * d)) + y)) = ((((x - d) * (x - d)) + ((x - d) * x)) + (x * x))) (h1 : (m * (y + (y + (m * e)))) = (((x * x) + (x * (x + e))) + ((x + e) * (x + e)))) (h2 : (n * ((x + e) - (((l * l) - (x - d)) - x))) = ((y + (m * e)) - ((l * ((x - d) - (((l * l) - (x - d)) - x))) - (y - (l * d))))) (h3 : (k * ((((m * m) - x) - (x + e)) - (x - d))) = (((m * (x - (((m * m) - x) - (x + e)))) - y) - (y - (l * d)))) : (((((n * n) - (((l * l) - (x - d)) - x)) - (x + e)) - (((k * k) - (x - d)) - (((m * m) - x) - (x + e)))) * ((((x + e) - (((l * l) - (x - d)) - x)) * ((x + e) - (((l * l) - (x - d)) - x))) * (((((m * m) - x) - (x + e)) - (x - d)) * ((((m * m) - x) - (x + e)) - (x - d))))) = 0 := by
  exact eq_of_sub (zero_of_rel (fun i => [x, y, l, m, d, e, n, k].getD i 0) 8 ((((((v 6 * v 6) - (((v 2 * v 2) - (v 0 - v 4)) - v 0)) - (v 0 + v 5)) - (((v 7 * v 7) - (v 0 - v 4)) - (((v 3 * v 3) - v 0) - (v 0 + v 5)))) * ((((v 0 + v 5) - (((v 2 * v 2) - (v 0 - v 4)) - v 0)) * ((v 0 + v 5) - (((v 2 * v 2) - (v 0 - v 4)) - v 0))) * (((((v 3 * v 3) - v 0) - (v 0 + v 5)) - (v 0 - v 4)) * ((((v 3 * v 3) - v 0) - (v 0 + v 5)) - (v 0 - v 4))))) - c 0) [(((((((c 4 * v 5) + ((c 4 * v 4) + (((c (-6) * v 3) * v 3) + (((c 2 * v 2) * v 2) + (c 12 * v 0))))) * v 5) + ((((c (-6) * v 4) + (((c (-4) * v 3) * v 3) + (((c (-6) * v 2) * v 2) + (c 30 * v 0)))) * v 4) + (((((((c 2 * v 3) * v 3) + (((c (-2) * v 2) * v 2) + (c (-6) * v 0))) * v 3) + (((((c 2 * v 2) * v 2) + (c (-6) * v 0)) * v 2) + (c (-8) * v 1))) * v 3) + ((((c 12 * v 0) * v 2) + (c 4 * v 1)) * v 2)))) * v 5) + ((((((c 2 * v 4) + (((c 3 * v 3) * v 3) + (((c 3 * v 2) * v 2) + (c (-18) * v 0)))) * v 4) + (((((((c (-2) * v 2) * v 3) + (((c 3 * v 2) * v 2) + (c (-15) * v 0))) * v 3) + ((c 6 * v 0) * v 2)) * v 3) + ((((((v 2 * v 2) + (c (-15) * v 0)) * v 2) + (c (-4) * v 1)) * v 2) + ((c 48 * v 0) * v 0)))) * v 4) + (((((((((((c (-2) * v 2) * v 2) + (c 6 * v 0)) * v 2) + (c 4 * v 1)) * v 3) + (((((c (-6) * v 0) * v 2) + (c (-2) * v 1)) * v 2) + ((c 9 * v 0) * v 0))) * v 3) + ((((((c 6 * v 0) * v 2) * v 2) + ((c (-18) * v 0) * v 0)) * v 2) + ((c (-12) * v 0) * v 1))) * v 3) + (((((((c (-2) * v 1) * v 2) + ((c 15 * v 0) * v 0)) * v 2) + ((c 12 * v 0) * v 1)) * v 2) + (((c (-18) * v 0) * v 0) * v 0))))), (v 2 * ((v 1 - (v 2 * v 4)) + v 1)) - ((((v 0 - v 4) * (v 0 - v 4)) + ((v 0 - v 4) * v 0)) + (v 0 * v 0))), (((((((c 2 * v 5) + ((c (-6) * v 4) + (((c (-3) * v 3) * v 3) + (((c (-3) * v 2) * v 2) + (c 18 * v 0))))) * v 5) + (((((c 6 * v 3) * v 3) + (c (-18) * v 0)) * v 4) + ((((((v 3 * v 3) + (((c 3 * v 2) * v 2) + (c (-15) * v 0))) * v 3) + (((((c (-2) * v 2) * v 2) + (c 6 * v 0)) * v 2) + (c (-4) * v 1))) * v 3) + (((((c (-15) * v 0) * v 2) + (c 8 * v 1)) * v 2) + ((c 36 * v 0) * v 0))))) * v 5) + (((((((((c 2 * v 2) * v 3) + (c 6 * v 0)) * v 3) + (((c (-6) * v 0) * v 2) + (c 4 * v 1))) * v 3) + ((c (-12) * v 0) * v 0)) * v 4) + (((((((((((c 2 * v 2) * v 2) + (c (-6) * v 0)) * v 2) + (c 2 * v 1)) * v 3) + (((((c 6 * v 0) * v 2) + (c (-4) * v 1)) * v 2) + ((c (-9) * v 0) * v 0))) * v 3) + (((((((c (-6) * v 0) * v 2) + (c 2 * v 1)) * v 2) + ((c 18 * v 0) * v 0)) * v 2) + ((c (-12) * v 0) * v 1))) * v 3) + ((((((c (-15) * v 0) * v 0) * v 2) + ((c 12 * v 0) * v 1)) * v 2) + (((c 18 * v 0) * v 0) * v 0))))), (v 3 * (v 1 + (v 1 + (v 3 * v 5)))) - (((v 0 * v 0) + (v 0 * (v 0 + v 5))) + ((v 0 + v 5) * (v 0 + v 5)))), ((((v 6 * ((v 0 + v 5) - (((v 2 * v 2) - (v 0 - v 4)) - v 0))) + ((v 1 + (v 3 * v 5)) - ((v 2 * ((v 0 - v 4) - (((v 2 * v 2) - (v 0 - v 4)) - v 0))) - (v 1 - (v 2 * v 4))))) * (((((v 3 * v 3) - v 0) - (v 0 + v 5)) - (v 0 - v 4)) * ((((v 3 * v 3) - v 0) - (v 0 + v 5)) - (v 0 - v 4)))), (v 6 * ((v 0 + v 5) - (((v 2 * v 2) - (v 0 - v 4)) - v 0))) - ((v 1 + (v 3 * v 5)) - ((v 2 * ((v 0 - v 4) - (((v 2 * v 2) - (v 0 - v 4)) - v 0))) - (v 1 - (v 2 * v 4))))), (((-((v 7 * ((((v 3 * v 3) - v 0) - (v 0 + v 5)) - (v 0 - v 4))) + (((v 3 * (v 0 - (((v 3 * v 3) - v 0) - (v 0 + v 5)))) - v 1) - (v 1 - (v 2 * v 4))))) * (((v 0 + v 5) - (((v 2 * v 2) - (v 0 - v 4)) - v 0)) * ((v 0 + v 5) - (((v 2 * v 2) - (v 0 - v 4)) - v 0)))), (v 7 * ((((v 3 * v 3) - v 0) - (v 0 + v 5)) - (v 0 - v 4))) - (((v 3 * (v 0 - (((v 3 * v 3) - v 0) - (v 0 + v 5)))) - v 1) - (v 1 - (v 2 * v 4))))] (all_cons (sub_of_eq h0) (all_cons (sub_of_eq h1) (all_cons (sub_of_eq h2) (all_cons (sub_of_eq h3) all_nil)))) (by decide +kernel))

theorem ec_yAB (x y l m d e n k : K) (h0 : (l * ((y - (l * d)) + y)) = ((((x - d) * (x - d)) + ((x - d) * x)) + (x * x))) (h1 : (m * (y + (y + (m * e)))) = (((x * x) + (x * (x + e))) + ((x + e) * (x + e)))) (h2 : (n * ((x + e) - (((l * l) - (x - d)) - x))) = ((y + (m * e)) - ((l * ((x - d) - (((l * l) - (x - d)) - x))) - (y - (l * d))))) (h3 : (k * ((((m * m) - x) - (x + e)) - (x - d))) = (((m * (x - (((m * m) - x) - (x + e)))) - y) - (y - (l * d)))) : ((((n * ((((l * l) - (x - d)) - x) - (((n * n) - (((l * l) - (x - d)) - x)) - (x + e)))) - ((l * ((x - d) - (((l * l) - (x - d)) - x))) - (y - (l * d)))) - ((k * ((x - d) - (((n * n) - (((l * l) - (x - d)) - x)) - (x + e)))) - (y - (l * d)))) * (((((x + e) - (((l * l) - (x - d)) - x)) * ((x + e) - (((l * l) - (x - d)) - x))) * ((x + e) - (((l * l) - (x - d)) - x))) * ((((m * m) - x) - (x + e)) - (x - d)))) = 0 := by
  exact eq_of_sub (zero_of_rel (fun i => [x, y, l, m, d, e, n, k].getD i 0) 8 (((((v 6 * ((((v 2 * v 2) - (v 0 - v 4)) - v 0) - (((v 6 * v 6) - (((v 2 * v 2) - (v 0 - v 4)) - v 0)) - (v 0 + v 5)))) - ((v 2 * ((v 0 - v 4) - (((v 2 * v 2) - (v 0 - v 4)) - v 0))) - (v 1 - (v 2 * v 4)))) - ((v 7 * ((v 0 - v 4) - (((v 6 * v 6) - (((v 2 * v 2) - (v 0 - v 4)) - v 0)) - (v 0 + v 5)))) - (v 1 - (v 2 * v 4)))) * (((((v 0 + v 5) - (((v 2 * v 2) - (v 0 - v 4)) - v 0)) * ((v 0 + v 5) - (((v 2 * v 2) - (v 0 - v 4)) - v 0))) * ((v 0 + v 5) - (((v 2 * v 2) - (v 0 - v 4)) - v 0))) * ((((v 3 * v 3) - v 0) - (v 0 + v 5)) - (v 0 - v 4)))) - c 0) [((((((((c (-4) * v 2) * v 5) + (((c 4 * v 3) * v 4) + (((((c 6 * v 2) * v 3) + (((c 2 * v 2) * v 2) + (c (-6) * v 0))) * v 3) + ((c (-18) * v 0) * v 2)))) * v 5) + ((((((c (-2) * v 3) + (c 4 * v 2)) * v 4) + ((((((c (-1) * v 3) + (c 3 * v 2)) * v 3) + ((v 2 * v 2) + (c 12 * v 0))) * v 3) + (((((c 7 * v 2) * v 2) + (c (-18) * v 0)) * v 2) + (c 4 * v 1)))) * v 4) + (((((((((c (-2) * v 2) * v 3) + (((c (-1) * v 2) * v 2) + (c 3 * v 0))) * v 3) + ((((c 3 * v 2) * v 2) + (c 3 * v 0)) * v 2)) * v 3) + (((((((c 3 * v 2) * v 2) + (c (-3) * v 0)) * v 2) + (c 12 * v 1)) * v 2) + ((c (-12) * v 0) * v 0))) * v 3) + (((((((((c 3 * v 2) * v 2) + (c (-15) * v 0)) * v 2) + (c 2 * v 1)) * v 2) + ((c (-12) * v 0) * v 0)) * v 2) + ((c (-6) * v 0) * v 1))))) * v 5) + (((((((c (-2) * v 2) * v 4) + ((((c (-2) * v 2) * v 3) * v 3) + (((((c (-4) * v 2) * v 2) + (c 18 * v 0)) * v 2) + (c (-2) * v 1)))) * v 4) + ((((((((c (-4) * v 2) * v 2) + (c 12 * v 0)) * v 2) + (c (-2) * v 1)) * v 3) * v 3) + (((((((((c (-2) * v 2) * v 2) + (c 24 * v 0)) * v 2) + (c 2 * v 1)) * v 2) + ((c (-48) * v 0) * v 0)) * v 2) + ((c 12 * v 0) * v 1)))) * v 4) + ((((((((c (-4) * v 1) * v 2) * v 3) + (((((((((c (-2) * v 2) * v 2) + (c 12 * v 0)) * v 2) + (c (-2) * v 1)) * v 2) + ((c (-12) * v 0) * v 0)) * v 2) + ((c 6 * v 0) * v 1))) * v 3) + (((c 12 * v 0) * v 1) * v 2)) * v 3) + (((((((((((c 6 * v 0) * v 2) + (c 4 * v 1)) * v 2) + ((c (-30) * v 0) * v 0)) * v 2) + ((c (-6) * v 0) * v 1)) * v 2) + (((c 4 * v 1) * v 1) + (((c 18 * v 0) * v 0) * v 0))) * v 2) + (((c (-12) * v 0) * v 0) * v 1))))), (v 2 * ((v 1 - (v 2 * v 4)) + v 1)) - ((((v 0 - v 4) * (v 0 - v 4)) + ((v 0 - v 4) * v 0)) + (v 0 * v 0))), ((((((((c 2 * v 3) * v 5) + ((((c (-4) * v 3) + (c 2 * v 2)) * v 4) + (((((c (-2) * v 3) * v 3) + (((c (-2) * v 2) * v 2) + (c 12 * v 0))) * v 3) + (((((c 2 * v 2) * v 2) + (c (-6) * v 0)) * v 2) + (c 2 * v 1))))) * v 5) + (((((((v 3 + (c (-5) * v 2)) * v 3) + (((c (-3) * v 2) * v 2) + (c (-6) * v 0))) * v 3) + (((((c (-3) * v 2) * v 2) + (c 12 * v 0)) * v 2) + (c (-4) * v 1))) * v 4) + ((((((((v 2 * v 2) + (c (-3) * v 0)) * v 3) + (((((c (-5) * v 2) * v 2) + (c 15 * v 0)) * v 2) + (c (-6) * v 1))) * v 3) + ((((((c (-3) * v 2) * v 2) + (c 3 * v 0)) * v 2) * v 2) + ((c 12 * v 0) * v 0))) * v 3) + (((((((((c (-3) * v 2) * v 2) + (c 21 * v 0)) * v 2) + (c (-10) * v 1)) * v 2) + ((c (-24) * v 0) * v 0)) * v 2) + ((c 12 * v 0) * v 1))))) * v 5) + (((((((((((c 2 * v 2) * v 2) + (c (-6) * v 0)) * v 2) + (c 2 * v 1)) * v 3) + ((c (-4) * v 1) * v 2)) * v 3) + ((((((c (-6) * v 0) * v 2) * v 2) + ((c 12 * v 0) * v 0)) * v 2) + ((c (-6) * v 0) * v 1))) * v 4) + (((((((((((((c 2 * v 2) * v 2) + (c (-12) * v 0)) * v 2) + (c 6 * v 1)) * v 2) + ((c 12 * v 0) * v 0)) * v 2) + ((c (-6) * v 0) * v 1)) * v 3) + ((((((c (-4) * v 1) * v 2) * v 2) + ((c 12 * v 0) * v 1)) * v 2) + ((c (-4) * v 1) * v 1))) * v 3) + ((((((((((c (-6) * v 0) * v 2) * v 2) + ((c 30 * v 0) * v 0)) * v 2) + ((c (-18) * v 0) * v 1)) * v 2) + (((c (-18) * v 0) * v 0) * v 0)) * v 2) + (((c 12 * v 0) * v 0) * v 1))))), (v 3 * (v 1 + (v 1 + (v 3 * v 5)))) - (((v 0 * v 0) + (v 0 * (v 0 + v 5))) + ((v 0 + v 5) * (v 0 + v 5)))), (((((((((v 2 * v 2) - (v 0 - v 4)) - v 0) * (((v 0 + v 5) - (((v 2 * v 2) - (v 0 - v 4)) - v 0)) * ((v 0 + v 5) - (((v 2 * v 2) - (v 0 - v 4)) - v 0)))) - ((((v 6 * v 6) - (((v 2 * v 2) - (v 0 - v 4)) - v 0)) - (v 0 + v 5)) * (((v 0 + v 5) - (((v 2 * v 2) - (v 0 - v 4)) - v 0)) * ((v 0 + v 5) - (((v 2 * v 2) - (v 0 - v 4)) - v 0))))) - (((v 1 + (v 3 * v 5)) - ((v 2 * ((v 0 - v 4) - (((v 2 * v 2) - (v 0 - v 4)) - v 0))) - (v 1 - (v 2 * v 4)))) * ((v 6 * ((v 0 + v 5) - (((v 2 * v 2) - (v 0 - v 4)) - v 0))) + ((v 1 + (v 3 * v 5)) - ((v 2 * ((v 0 - v 4) - (((v 2 * v 2) - (v 0 - v 4)) - v 0))) - (v 1 - (v 2 * v 4))))))) * ((((v 3 * v 3) - v 0) - (v 0 + v 5)) - (v 0 - v 4))) + (((((v 3 * (v 0 - (((v 3 * v 3) - v 0) - (v 0 + v 5)))) - v 1) - (v 1 - (v 2 * v 4))) * ((v 6 * ((v 0 + v 5) - (((v 2 * v 2) - (v 0 - v 4)) - v 0))) + ((v 1 + (v 3 * v 5)) - ((v 2 * ((v 0 - v 4) - (((v 2 * v 2) - (v 0 - v 4)) - v 0))) - (v 1 - (v 2 * v 4)))))) * ((v 0 + v 5) - (((v 2 * v 2) - (v 0 - v 4)) - v 0)))), (v 6 * ((v 0 + v 5) - (((v 2 * v 2) - (v 0 - v 4)) - v 0))) - ((v 1 + (v 3 * v 5)) - ((v 2 * ((v 0 - v 4) - (((v 2 * v 2) - (v 0 - v 4)) - v 0))) - (v 1 - (v 2 * v 4))))), ((-((((v 0 - v 4) - (((v 6 * v 6) - (((v 2 * v 2) - (v 0 - v 4)) - v 0)) - (v 0 + v 5))) * (((v 0 + v 5) - (((v 2 * v 2) - (v 0 - v 4)) - v 0)) * ((v 0 + v 5) - (((v 2 * v 2) - (v 0 - v 4)) - v 0)))) * ((v 0 + v 5) - (((v 2 * v 2) - (v 0 - v 4)) - v 0)))), (v 7 * ((((v 3 * v 3) - v 0) - (v 0 + v 5)) - (v 0 - v 4))) - (((v 3 * (v 0 - (((v 3 * v 3) - v 0) - (v 0 + v 5)))) - v 1) - (v 1 - (v 2 * v 4))))] (all_cons (sub_of_eq h0) (all_cons (sub_of_eq h1) (all_cons (sub_of_eq h2) (all_cons (sub_of_eq h3) all_nil)))) (by decide +kernel))

theorem ec_xAD (x y l m d e n k : K) (h0 : (l * ((y - (l * d)) + y)) = ((((x - d) * (x - d)) + ((x - d) * x)) + (x * x))) (h1 : (m * (y + (y + (m * e)))) = (((x * x) + (x * (x + e))) + ((x + e) * (x + e)))) (h2 : (n * ((x + e) - (((l * l) - (x - d)) - x))) = ((y + (m * e)) - ((l * ((x - d) - (((l * l) - (x - d)) - x))) - (y - (l * d))))) (h3 : (k * ((y - (l * d)) + ((m * (x - (((m * m) - x) - (x + e)))) - y))) = ((((x - d) * (x - d)) + ((x - d) * (((m * m) - x) - (x + e)))) + ((((m * m) - x) - (x + e)) * (((m * m) - x) - (x + e))))) : (((((n * n) - (((l * l) - (x - d)) - x)) - (x + e)) - (((k * k) - (x - d)) - (((m * m) - x) - (x + e)))) * ((((x + e) - (((l * l) - (x - d)) - x)) * ((x + e) - (((l * l) - (x - d)) - x))) * (((y - (l * d)) + ((m * (x - (((m * m) - x) - (x + e)))) - y)) * ((y - (l * d)) + ((m * (x - (((m * m) - x) - (x + e)))) - y))))) = 0 := by
  exact eq_of_sub (zero_of_rel (fun i => [x, y, l, m, d, e, n, k].getD i 0) 8 ((((((v 6 * v 6) - (((v 2 * v 2) - (v 0 - v 4)) - v 0)) - (v 0 + v 5)) - (((v 7 * v 7) - (v 0 - v 4)) - (((v 3 * v 3) - v 0) - (v 0 + v 5)))) * ((((v 0 + v 5) - (((v 2 * v 2) - (v 0 - v 4)) - v 0)) * ((v 0 + v 5) - (((v 2 * v 2) - (v 0 - v 4)) - v 0))) * (((v 1 - (v 2 * v 4)) + ((v 3 * (v 0 - (((v 3 * v 3) - v 0) - (v 0 + v 5)))) - v 1)) * ((v 1 - (v 2 * v 4)) + ((v 3 * (v 0 - (((v 3 * v 3) - v 0) - (v 0 + v 5)))) - v 1))))) - c 0) [(((((((((c (-2) * v 4) + (((c 4 * v 2) * v 3) + ((c 2 * v 2) * v 2))) * v 5) + ((((((c 6 * v 3) + (c 4 * v 2)) * v 3) + (c (-12) * v 0)) * v 4) + (((((((c (-8) * v 2) * v 3) + (c (-6) * v 0)) * v 3) + ((c 24 * v 0) * v 2)) * v 3) + (((c 6 * v 0) * v 2) * v 2)))) * v 5) + (((((((c (-2) * v 3) + (c (-4) * v 2)) * v 3) * v 4) + ((((((((c (-4) * v 3) + (c (-2) * v 2)) * v 3) + (((c (-4) * v 2) * v 2) + (c 30 * v 0))) * v 3) + ((((c (-6) * v 2) * v 2) + (c 24 * v 0)) * v 2)) * v 3) + ((c (-24) * v 0) * v 0))) * v 4) + (((((((((((c 4 * v 2) * v 3) + (((c (-2) * v 2) * v 2) + (c 6 * v 0))) * v 3) + ((((c 2 * v 2) * v 2) + (c (-30) * v 0)) * v 2)) * v 3) + (((((c 12 * v 0) * v 2) + (c (-4) * v 1)) * v 2) + ((c (-30) * v 0) * v 0))) * v 3) + ((((c (-4) * v 1) * v 2) + ((c 48 * v 0) * v 0)) * v 2)) * v 3) + ((((c 6 * v 0) * v 0) * v 2) * v 2)))) * v 5) + (((((((v 4 + (((c (-2) * v 3) * v 3) + (((c 3 * v 2) * v 2) + (c (-3) * v 0)))) * v 4) + ((((((((c 3 * v 3) + (c 4 * v 2)) * v 3) + ((c (-3) * v 2) * v 2)) * v 3) + ((c (-12) * v 0) * v 2)) * v 3) + (((((((c 2 * v 2) * v 2) + (c (-6) * v 0)) * v 2) + (c 2 * v 1)) * v 2) + ((c 3 * v 0) * v 0)))) * v 4) + (((((((((((c (-2) * v 2) * v 3) + (((c 3 * v 2) * v 2) + (c (-15) * v 0))) * v 3) + ((((c 4 * v 2) * v 2) + (c (-6) * v 0)) * v 2)) * v 3) + (((((((c (-1) * v 2) * v 2) + (c (-3) * v 0)) * v 2) + (c (-4) * v 1)) * v 2) + ((c 36 * v 0) * v 0))) * v 3) + (((((c (-12) * v 0) * v 2) * v 2) + ((c 36 * v 0) * v 0)) * v 2)) * v 3) + (((c (-18) * v 0) * v 0) * v 0))) * v 4) + (((((((((((((c (-2) * v 2) * v 2) + (c 6 * v 0)) * v 2) * v 3) + (((((c (-6) * v 0) * v 2) + (c 6 * v 1)) * v 2) + ((c 15 * v 0) * v 0))) * v 3) + (((((c 6 * v 0) * v 2) * v 2) + ((c (-30) * v 0) * v 0)) * v 2)) * v 3) + (((((((c (-2) * v 1) * v 2) + ((c 15 * v 0) * v 0)) * v 2) + ((c (-12) * v 0) * v 1)) * v 2) + (((c (-36) * v 0) * v 0) * v 0))) * v 3) + ((((c 36 * v 0) * v 0) * v 0) * v 2)) * v 3))), (v 2 * ((v 1 - (v 2 * v 4)) + v 1)) - ((((v 0 - v 4) * (v 0 - v 4)) + ((v 0 - v 4) * v 0)) + (v 0 * v 0))), ((((((((v 5 + (((c (-1) * v 3) * v 3) + (((c (-2) * v 2) * v 2) + (c 9 * v 0)))) * v 5) + (((((c (-4) * v 2) * v 3) + ((c (-2) * v 2) * v 2)) * v 4) + (((((((c (-1) * v 3) * v 3) + (((c 3 * v 2) * v 2) + (c (-6) * v 0))) * v 3) + (c 2 * v 1)) * v 3) + (((((v 2 * v 2) + (c (-12) * v 0)) * v 2) * v 2) + ((c 30 * v 0) * v 0))))) * v 5) + ((((((((c 2 * v 2) * v 3) * v 3) + ((((c 2 * v 2) * v 2) + (c (-12) * v 0)) * v 2)) * v 3) + ((c (-4) * v 1) * v 2)) * v 4) + ((((((((((v 3 * v 3) + (((c (-1) * v 2) * v 2) + (c (-3) * v 0))) * v 3) + (((((c (-2) * v 2) * v 2) + (c 6 * v 0)) * v 2) + (c (-4) * v 1))) * v 3) + ((((((c (-3) * v 2) * v 2) + (c 15 * v 0)) * v 2) * v 2) + ((c (-15) * v 0) * v 0))) * v 3) + (((((c 4 * v 1) * v 2) + ((c (-12) * v 0) * v 0)) * v 2) + ((c 12 * v 0) * v 1))) * v 3) + ((((((((c 3 * v 0) * v 2) + (c 4 * v 1)) * v 2) + ((c (-30) * v 0) * v 0)) * v 2) * v 2) + (((c 45 * v 0) * v 0) * v 0))))) * v 5) + (((((((((((((c 2 * v 2) * v 3) + ((c 2 * v 2) * v 2)) * v 3) + ((c (-6) * v 0) * v 2)) * v 3) + ((((c (-6) * v 0) * v 2) + (c 4 * v 1)) * v 2)) * v 3) + (((c 4 * v 1) * v 2) * v 2)) * v 3) + (((((c 6 * v 0) * v 0) * v 2) + ((c (-12) * v 0) * v 1)) * v 2)) * v 4) + (((((((((((((((c 2 * v 2) * v 2) + (c (-6) * v 0)) * v 2) + (c 2 * v 1)) * v 3) + ((((((c 2 * v 2) * v 2) + (c (-6) * v 0)) * v 2) * v 2) + ((c 3 * v 0) * v 0))) * v 3) + (((((((c (-6) * v 0) * v 2) + (c (-6) * v 1)) * v 2) + ((c 30 * v 0) * v 0)) * v 2) + ((c (-12) * v 0) * v 1))) * v 3) + (((((((c (-6) * v 0) * v 2) * v 2) + ((c 21 * v 0) * v 0)) * v 2) * v 2) + (((c (-18) * v 0) * v 0) * v 0))) * v 3) + ((((((((c 2 * v 1) * v 2) * v 2) + ((c 12 * v 0) * v 1)) * v 2) + (((c (-36) * v 0) * v 0) * v 0)) * v 2) + (((c 18 * v 0) * v 0) * v 1))) * v 3) + ((((((((c 3 * v 0) * v 0) * v 2) * v 2) + (((c (-18) * v 0) * v 0) * v 0)) * v 2) * v 2) + ((((c 27 * v 0) * v 0) * v 0) * v 0))))), (v 3 * (v 1 + (v 1 + (v 3 * v 5)))) - (((v 0 * v 0) + (v 0 * (v 0 + v 5))) + ((v 0 + v 5) * (v 0 + v 5)))), ((((v 6 * ((v 0 + v 5) - (((v 2 * v 2) - (v 0 - v 4)) - v 0))) + ((v 1 + (v 3 * v 5)) - ((v 2 * ((v 0 - v 4) - (((v 2 * v 2) - (v 0 - v 4)) - v 0))) - (v 1 - (v 2 * v 4))))) * (((v 1 - (v 2 * v 4)) + ((v 3 * (v 0 - (((v 3 * v 3) - v 0) - (v 0 + v 5)))) - v 1)) * ((v 1 - (v 2 * v 4)) + ((v 3 * (v 0 - (((v 3 * v 3) - v 0) - (v 0 + v 5)))) - v 1)))), (v 6 * ((v 0 + v 5) - (((v 2 * v 2) - (v 0 - v 4)) - v 0))) - ((v 1 + (v 3 * v 5)) - ((v 2 * ((v 0 - v 4) - (((v 2 * v 2) - (v 0 - v 4)) - v 0))) - (v 1 - (v 2 * v 4))))), (((-((v 7 * ((v 1 - (v 2 * v 4)) + ((v 3 * (v 0 - (((v 3 * v 3) - v 0) - (v 0 + v 5)))) - v 1))) + ((((v 0 - v 4) * (v 0 - v 4)) + ((v 0 - v 4) * (((v 3 * v 3) - v 0) - (v 0 + v 5)))) + ((((v 3 * v 3) - v 0) - (v 0 + v 5)) * (((v 3 * v 3) - v 0) - (v 0 + v 5)))))) * (((v 0 + v 5) - (((v 2 * v 2) - (v 0 - v 4)) - v 0)) * ((v 0 + v 5) - (((v 2 * v 2) - (v 0 - v 4)) - v 0)))), (v 7 * ((v 1 - (v 2 * v 4)) + ((v 3 * (v 0 - (((v 3 * v 3) - v 0) - (v 0 + v 5)))) - v 1))) - ((((v 0 - v 4) * (v 0 - v 4)) + ((v 0 - v 4) * (((v 3 * v 3) - v 0) - (v 0 + v 5)))) + ((((v 3 * v 3) - v 0) - (v 0 + v 5)) * (((v 3 * v 3) - v 0) - (v 0 + v 5)))))] (all_cons (sub_of_eq h0) (all_cons (sub_of_eq h1) (all_cons (sub_of_eq h2) (all_cons (sub_of_eq h3) all_nil)))) (by decide +kernel))

theorem ec_yAD (x y l m d e n k : K) (h0 : (l * ((y - (l * d)) + y)) = ((((x - d) * (x - d)) + ((x - d) * x)) + (x * x))) (h1 : (m * (y + (y + (m * e)))) = (((x * x) + (x * (x + e))) + ((x + e) * (x + e)))) (h2 : (n * ((x + e) - (((l * l) - (x - d)) - x))) = ((y + (m * e)) - ((l * ((x - d) - (((l * l) - (x - d)) - x))) - (y - (l * d))))) (h3 : (k * ((y - (l * d)) + ((m * (x - (((m * m) - x) - (x + e)))) - y))) = ((((x - d) * (x - d)) + ((x - d) * (((m * m) - x) - (x + e)))) + ((((m * m) - x) - (x + e)) * (((m * m) - x) - (x + e))))) : ((((n * ((((l * l) - (x - d)) - x) - (((n * n) - (((l * l) - (x - d)) - x)) - (x + e)))) - ((l * ((x - d) - (((l * l) - (x - d)) - x))) - (y - (l * d)))) - ((k * ((x - d) - (((n * n) - (((l * l) - (x - d)) - x)) - (x + e)))) - (y - (l * d)))) * (((((x + e) - (((l * l) - (x - d)) - x)) * ((x + e) - (((l * l) - (x - d)) - x))) * ((x + e) - (((l * l) - (x - d)) - x))) * ((y - (l * d)) + ((m * (x - (((m * m) - x) - (x + e)))) - y)))) = 0 := by
  exact eq_of_sub (zero_of_rel (fun i => [x, y, l, m, d, e, n, k].getD i 0) 8 (((((v 6 * ((((v 2 * v 2) - (v 0 - v 4)) - v 0) - (((v 6 * v 6) - (((v 2 * v 2) - (v 0 - v 4)) - v 0)) - (v 0 + v 5)))) - ((v 2 * ((v 0 - v 4) - (((v 2 * v 2) - (v 0 - v 4)) - v 0))) - (v 1 - (v 2 * v 4)))) - ((v 7 * ((v 0 - v 4) - (((v 6 * v 6) - (((v 2 * v 2) - (v 0 - v 4)) - v 0)) - (v 0 + v 5)))) - (v 1 - (v 2 * v 4)))) * (((((v 0 + v 5) - (((v 2 * v 2) - (v 0 - v 4)) - v 0)) * ((v 0 + v 5) - (((v 2 * v 2) - (v 0 - v 4)) - v 0))) * ((v 0 + v 5) - (((v 2 * v 2) - (v 0 - v 4)) - v 0))) * ((v 1 - (v 2 * v 4)) + ((v 3 * (v 0 - (((v 3 * v 3) - v 0) - (v 0 + v 5)))) - v 1)))) - c 0) [((((((((v 5 + ((c (-1) * v 4) + (((c 2 * v 2) * v 2) + (c 6 * v 0)))) * v 5) + ((((c 2 * v 4) + (((c (-2) * v 3) * v 3) + (c (-6) * v 0))) * v 4) + ((((((((c (-1) * v 3) + (c (-2) * v 2)) * v 3) + (((c (-4) * v 2) * v 2) + (c 6 * v 0))) * v 3) + (((c 2 * v 2) * v 2) * v 2)) * v 3) + (((((((c (-2) * v 2) * v 2) + (c 12 * v 0)) * v 2) + (c (-2) * v 1)) * v 2) + ((c 12 * v 0) * v 0))))) * v 5) + ((((((c (-1) * v 4) + (((v 3 + (c 2 * v 2)) * v 3) + (((c (-3) * v 2) * v 2) + (c 6 * v 0)))) * v 4) + (((((((v 3 + (c (-5) * v 2)) * v 3) + (c (-9) * v 0)) * v 3) + (((((c (-1) * v 2) * v 2) + (c 6 * v 0)) * v 2) + (c 2 * v 1))) * v 3) + (((((((c (-2) * v 2) * v 2) + (c 3 * v 0)) * v 2) + (c (-2) * v 1)) * v 2) + ((c (-9) * v 0) * v 0)))) * v 4) + (((((((((((c 2 * v 2) * v 3) + ((v 2 * v 2) + (c (-3) * v 0))) * v 3) + (((((c (-5) * v 2) * v 2) + (c 3 * v 0)) * v 2) + (c (-4) * v 1))) * v 3) + (((((((c (-1) * v 2) * v 2) + (c (-3) * v 0)) * v 2) + (c (-2) * v 1)) * v 2) + ((c 15 * v 0) * v 0))) * v 3) + (((((((((c (-3) * v 2) * v 2) + (c 21 * v 0)) * v 2) + (c (-6) * v 1)) * v 2) + ((c (-18) * v 0) * v 0)) * v 2) + ((c 6 * v 0) * v 1))) * v 3) + ((((((((c (-6) * v 0) * v 2) * v 2) + ((c 24 * v 0) * v 0)) * v 2) + ((c (-6) * v 0) * v 1)) * v 2) + (((c 9 * v 0) * v 0) * v 0))))) * v 5) + ((((((((c 2 * v 2) * v 2) * v 4) + ((((((c 2 * v 2) * v 3) * v 3) + ((c (-6) * v 0) * v 2)) * v 3) + ((((((c 4 * v 2) * v 2) + (c (-12) * v 0)) * v 2) + (c 6 * v 1)) * v 2))) * v 4) + (((((((((((c 4 * v 2) * v 2) + (c (-12) * v 0)) * v 2) + (c 2 * v 1)) * v 3) + ((c (-4) * v 1) * v 2)) * v 3) + ((((((c (-12) * v 0) * v 2) * v 2) + ((c 36 * v 0) * v 0)) * v 2) + ((c (-6) * v 0) * v 1))) * v 3) + (((((((((((c 2 * v 2) * v 2) + (c (-12) * v 0)) * v 2) + (c 6 * v 1)) * v 2) + ((c 12 * v 0) * v 0)) * v 2) + ((c (-18) * v 0) * v 1)) * v 2) + ((c 4 * v 1) * v 1)))) * v 4) + ((((((((((c 4 * v 1) * v 2) * v 3) + (((((((((c 2 * v 2) * v 2) + (c (-12) * v 0)) * v 2) + (c 2 * v 1)) * v 2) + ((c 12 * v 0) * v 0)) * v 2) + ((c (-6) * v 0) * v 1))) * v 3) + (((((c (-4) * v 1) * v 2) * v 2) * v 2) + ((c (-4) * v 1) * v 1))) * v 3) + ((((((((((c (-6) * v 0) * v 2) * v 2) + ((c 36 * v 0) * v 0)) * v 2) + ((c (-6) * v 0) * v 1)) * v 2) + (((c (-36) * v 0) * v 0) * v 0)) * v 2) + (((c 18 * v 0) * v 0) * v 1))) * v 3) + ((((((((c (-6) * v 0) * v 0) * v 2) * v 2) + (((c 18 * v 0) * v 0) * v 0)) * v 2) + (((c (-6) * v 0) * v 0) * v 1)) * v 2)))), (v 2 * ((v 1 - (v 2 * v 4)) + v 1)) - ((((v 0 - v 4) * (v 0 - v 4)) + ((v 0 - v 4) * v 0)) + (v 0 * v 0))), ((((((((v 5 + ((c (-2) * v 4) + (((c (-3) * v 3) * v 3) + (((c (-2) * v 2) * v 2) + (c 9 * v 0))))) * v 5) + ((((((c 3 * v 3) + (c (-2) * v 2)) * v 3) + (c (-9) * v 0)) * v 4) + (((((((c 2 * v 3) * v 3) + (((c 3 * v 2) * v 2) + (c (-15) * v 0))) * v 3) + (((((c (-4) * v 2) * v 2) + (c 12 * v 0)) * v 2) + (c (-6) * v 1))) * v 3) + (((((c (-9) * v 0) * v 2) + (c 2 * v 1)) * v 2) + ((c 24 * v 0) * v 0))))) * v 5) + ((((((((((c (-1) * v 3) + (c 5 * v 2)) * v 3) + (((c 3 * v 2) * v 2) + (c 6 * v 0))) * v 3) + (((((c 5 * v 2) * v 2) + (c (-18) * v 0)) * v 2) + (c 2 * v 1))) * v 3) + (((((v 2 * v 2) * v 2) + (c (-2) * v 1)) * v 2) + ((c (-9) * v 0) * v 0))) * v 4) + (((((((((((c (-1) * v 2) * v 2) + (c 3 * v 0)) * v 3) + (((((c 5 * v 2) * v 2) + (c (-15) * v 0)) * v 2) + (c 6 * v 1))) * v 3) + (((((((c 3 * v 2) * v 2) + (c (-3) * v 0)) * v 2) + (c 2 * v 1)) * v 2) + ((c (-15) * v 0) * v 0))) * v 3) + (((((((((c 5 * v 2) * v 2) + (c (-33) * v 0)) * v 2) + (c 6 * v 1)) * v 2) + ((c 54 * v 0) * v 0)) * v 2) + ((c (-24) * v 0) * v 1))) * v 3) + (((((((((v 2 * v 2) + (c (-3) * v 0)) * v 2) * v 2) + ((c (-15) * v 0) * v 0)) * v 2) + ((c 18 * v 0) * v 1)) * v 2) + (((c (-4) * v 1) * v 1) + (((c 18 * v 0) * v 0) * v 0)))))) * v 5) + (((((((((((((c (-2) * v 2) * v 2) + (c 6 * v 0)) * v 2) + (c (-2) * v 1)) * v 3) + ((c 4 * v 1) * v 2)) * v 3) + (((((((c 6 * v 0) * v 2) + (c 4 * v 1)) * v 2) + ((c (-18) * v 0) * v 0)) * v 2) + ((c 6 * v 0) * v 1))) * v 3) + (((((c 6 * v 0) * v 0) * v 2) + ((c (-12) * v 0) * v 1)) * v 2)) * v 4) + (((((((((((((((c (-2) * v 2) * v 2) + (c 12 * v 0)) * v 2) + (c (-6) * v 1)) * v 2) + ((c (-12) * v 0) * v 0)) * v 2) + ((c 6 * v 0) * v 1)) * v 3) + ((((((c 4 * v 1) * v 2) * v 2) + ((c (-12) * v 0) * v 1)) * v 2) + ((c 4 * v 1) * v 1))) * v 3) + (((((((((((c 6 * v 0) * v 2) + (c 4 * v 1)) * v 2) + ((c (-36) * v 0) * v 0)) * v 2) + ((c 6 * v 0) * v 1)) * v 2) + (((c 4 * v 1) * v 1) + (((c 36 * v 0) * v 0) * v 0))) * v 2) + (((c (-18) * v 0) * v 0) * v 1))) * v 3) + ((((((((((c 6 * v 0) * v 0) * v 2) + ((c (-12) * v 0) * v 1)) * v 2) + (((c (-18) * v 0) * v 0) * v 0)) * v 2) + (((c 42 * v 0) * v 0) * v 1)) * v 2) + (((c (-12) * v 0) * v 1) * v 1))))), (v 3 * (v 1 + (v 1 + (v 3 * v 5)))) - (((v 0 * v 0) + (v 0 * (v 0 + v 5))) + ((v 0 + v 5) * (v 0 + v 5)))), (((((((((v 2 * v 2) - (v 0 - v 4)) - v 0) * (((v 0 + v 5) - (((v 2 * v 2) - (v 0 - v 4)) - v 0)) * ((v 0 + v 5) - (((v 2 * v 2) - (v 0 - v 4)) - v 0)))) - ((((v 6 * v 6) - (((v 2 * v 2) - (v 0 - v 4)) - v 0)) - (v 0 + v 5)) * (((v 0 + v 5) - (((v 2 * v 2) - (v 0 - v 4)) - v 0)) * ((v 0 + v 5) - (((v 2 * v 2) - (v 0 - v 4)) - v 0))))) - (((v 1 + (v 3 * v 5)) - ((v 2 * ((v 0 - v 4) - (((v 2 * v 2) - (v 0 - v 4)) - v 0))) - (v 1 - (v 2 * v 4)))) * ((v 6 * ((v 0 + v 5) - (((v 2 * v 2) - (v 0 - v 4)) - v 0))) + ((v 1 + (v 3 * v 5)) - ((v 2 * ((v 0 - v 4) - (((v 2 * v 2) - (v 0 - v 4)) - v 0))) - (v 1 - (v 2 * v 4))))))) * ((v 1 - (v 2 * v 4)) + ((v 3 * (v 0 - (((v 3 * v 3) - v 0) - (v 0 + v 5)))) - v 1))) + ((((((v 0 - v 4) * (v 0 - v 4)) + ((v 0 - v 4) * (((v 3 * v 3) - v 0) - (v 0 + v 5)))) + ((((v 3 * v 3) - v 0) - (v 0 + v 5)) * (((v 3 * v 3) - v 0) - (v 0 + v 5)))) * ((v 6 * ((v 0 + v 5) - (((v 2 * v 2) - (v 0 - v 4)) - v 0))) + ((v 1 + (v 3 * v 5)) - ((v 2 * ((v 0 - v 4) - (((v 2 * v 2) - (v 0 - v 4)) - v 0))) - (v 1 - (v 2 * v 4)))))) * ((v 0 + v 5) - (((v 2 * v 2) - (v 0 - v 4)) - v 0)))), (v 6 * ((v 0 + v 5) - (((v 2 * v 2) - (v 0 - v 4)) - v 0))) - ((v 1 + (v 3 * v 5)) - ((v 2 * ((v 0 - v 4) - (((v 2 * v 2) - (v 0 - v 4)) - v 0))) - (v 1 - (v 2 * v 4))))), ((-((((v 0 - v 4) - (((v 6 * v 6) - (((v 2 * v 2) - (v 0 - v 4)) - v 0)) - (v 0 + v 5))) * (((v 0 + v 5) - (((v 2 * v 2) - (v 0 - v 4)) - v 0)) * ((v 0 + v 5) - (((v 2 * v 2) - (v 0 - v 4)) - v 0)))) * ((v 0 + v 5) - (((v 2 * v 2) - (v 0 - v 4)) - v 0)))), (v 7 * ((v 1 - (v 2 * v 4)) + ((v 3 * (v 0 - (((v 3 * v 3) - v 0) - (v 0 + v 5)))) - v 1))) - ((((v 0 - v 4) * (v 0 - v 4)) + ((v 0 - v 4) * (((v 3 * v 3) - v 0) - (v 0 + v 5)))) + ((((v 3 * v 3) - v 0) - (v 0 + v 5)) * (((v 3 * v 3) - v 0) - (v 0 + v 5)))))] (all_cons (sub_of_eq h0) (all_cons (sub_of_eq h1) (all_cons (sub_of_eq h2) (all_cons (sub_of_eq h3) all_nil)))) (by decide +kernel))

end Go.Proofs.YtonmjdnkcngfjaaGreat.Alg
