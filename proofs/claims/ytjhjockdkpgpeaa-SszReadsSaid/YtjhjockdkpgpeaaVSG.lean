/- DERIVED. One step of the executor, and a region in its own order. -/
import Derived.Test.YtjhjockdkpgpeaaVSF
set_option linter.all false
namespace Go.Proofs.Ytjhjockdkpgpeaa.En
open Go Go.RowKit

section
variable {A : Type} [Ab A] {P : Program}
variable {I : Nat → Nat → List (LV A)} {Own : Dom} {w0 : World} {ρ : Key → Loc} {s : LS A} {a : Act} {w : World}

theorem pureL_sound [LawAb A] [LawEq A] {S : Sig A} (hI : S.inp = I) (hS : SigOk P S) {o : Oper} {rc : Bool} {d : Option Bool} {v : LV A} {c : Cnd} (h : pureL P S rc d (ev s.tmps) o.op = some (v, c)) (hc : condOk c)
    (hr : Rl I Own w0 ρ s a w) : Does P o a w (LV.tr ρ v) ∧ v.kin (okKey s.mem ρ) := by
  unfold pureL at h
  split at h
  · exact look_sound (base := 0) hI hS h hc hr
  · exact pure_sound hS h hc hr
/-- One step. -/
theorem step_sound [LawAb A] [LawEq A] {S : Sig A} (hI : S.inp = I) (hS : SigOk P S) {cr : CallR A} (hcr : CallOk P I cr) {x : Ctl} {o : Oper} {s' : LS A} (h : step P S cr x o s = some s')
    (hc : ∀ c, s'.conds[x.ck]? = some c → condOk c) (hck : x.ck < s.conds.length) (hk : 0 < x.r → s.mem[x.key]? = some none) (hkl : x.key ≤ s.mem.length) (hfree : kind P S.how x.fz o.op = .wr → ∀ k, x.key ≤ k → ∀ bl, s.mem[k]? ≠ some (some bl)) (hr : Rl I Own w0 ρ s a w)
    {K : Act → World → Prop} {Q : Exit → Act → World → Prop} (hK : ∀ ρ' a' w', (∀ k m, okKey s.mem ρ k m → ρ k = ρ' k) → Rl I Own w0 ρ' s' a' w' → K a' w') : o.wp P a w K Q := by
  unfold step at h
  simp only at h
  split at h
  · split at h
    · rename_i v c hp
      cases h
      have hc := hc c (by simp [hck])
      obtain ⟨h1, h2⟩ := pureL_sound hI hS hp hc hr
      exact h1 K Q fun w' hb => hK ρ _ _ (fun _ _ _ => rfl) (hr.next (hr.under hb) o.dst h2 _)
    · cases h
  · split at h
    · rename_i v c hp
      cases h
      have hc := hc c (by simp [hck])
      obtain ⟨h1, h2⟩ := look_sound hI hS hp hc hr
      exact h1 K Q fun w' hb => hK ρ _ _ (fun _ _ _ => rfl) (hr.next (hr.under hb) o.dst h2 _)
    · cases h
  · split at h
    · rename_i v b c hp
      split at h
      · rename_i hb
        cases h
        have hc := hc c (by simp [hck])
        obtain ⟨w', ρ', h1, h2, h3⟩ := new_sound hI hp hc (fun e => hk (by
          rcases Nat.eq_zero_or_pos x.r with h' | h'
          · rw [e, h'] at hb; simp [Nat.beq_refl] at hb
          · exact h')) hr
        unfold Oper.wp
        rw [h1, Oper.upon_value]
        exact hK ρ' _ _ h2.agree (hr.next h2 o.dst h3 _)
      · cases h
    · cases h
  · rename_i hkd
    split at h
    · rename_i v m c hp
      cases h
      have hc := hc c (by simp [hck])
      exact wr_sound hI hcr hp hc hk hkl (hfree hkd) hr fun ρ' w' h2 h3 => hK ρ' _ _ h2.agree (hr.next h2 o.dst h3 _)
    · cases h

theorem want_sound {ops : Array Oper} {o : Oper} {b : Bool} (h : want ops.toList s.tmps o = some b) (hr : Rl I Own w0 ρ s a w) : Region.wanted o (yielded ops a.tmps) = b := by
  unfold want at h
  unfold Region.wanted
  split at h
  · rename_i hg; cases h; simp [hg]
  · rename_i j wnt hg
    simp only [hg, yielded]
    split at h
    · rename_i oj hj
      have hj' : ops[j]? = some oj := by simpa using hj
      simp only [hj', Option.bind_some]
      split at h
      · rename_i t ht
        simp only [ht, Option.bind_some]
        split at h
        · rename_i x hx
          cases h
          rcases hr.val t _ hx with e | e
          · cases e
          · simp [e, LV.tr]
        · rename_i hx
          cases h
          rcases hr.val t _ hx with e | e
          · cases e
          · simp [e, LV.tr, Go.undef]
        · cases h
      · rename_i ht; cases h; simp [ht]
    · rename_i hj
      have hj' : ops[j]? = none := by simpa using hj
      cases h; simp [hj']

/-- One step of a region. -/
theorem stepG_sound [LawAb A] [LawEq A] {S : Sig A} (hI : S.inp = I) (hS : SigOk P S) {cr : CallR A} (hcr : CallOk P I cr) {x : Ctl} {ops : Array Oper} {i : Nat} {o : Oper} (ho : ops[i]? = some o) {s' : LS A} (h : stepG P S cr x ops.toList o s = some s')
    (hc : ∀ c, s'.conds[x.ck]? = some c → condOk c) (hck : x.ck < s.conds.length) (hk : 0 < x.r → s.mem[x.key]? = some none) (hkl : x.key ≤ s.mem.length) (hfree : kind P S.how x.fz o.op = .wr → ∀ k, x.key ≤ k → ∀ bl, s.mem[k]? ≠ some (some bl)) (hr : Rl I Own w0 ρ s a w)
    {K : Act → World → Prop} {Q : Exit → Act → World → Prop} (hK : ∀ ρ' a' w', (∀ k m, okKey s.mem ρ k m → ρ k = ρ' k) → Rl I Own w0 ρ' s' a' w' → K a' w') : wpOp P ops Q i K a w := by
  unfold wpOp
  simp only [ho]
  unfold stepG at h
  split at h
  · rename_i hw
    rw [if_pos (want_sound hw hr)]
    exact .inl (step_sound hI hS hcr h hc hck hk hkl hfree hr hK)
  · rename_i hw
    rw [if_neg (by rw [want_sound hw hr]; simp)]
    cases h
    exact hK ρ _ _ (fun _ _ _ => rfl) (hr.next hr.self o.dst (v := .undef) trivial s.conds)
  · cases h

/-- What a step leaves of the state's shape. -/
structure Shape (key r ck : Nat) (s s' : LS A) : Prop where
  mlen : s'.mem.length = s.mem.length
  clen : s'.conds.length = s.conds.length
  tlen : s'.tmps.length = s.tmps.length
  none : ∀ k : Nat, k < key ∨ key + r ≤ k → s.mem[k]? = some none → s'.mem[k]? = some none
  live : ∀ (k : Nat) (bl : Blk A), s.mem[k]? = some (some bl) → ∃ bl' : Blk A, s'.mem[k]? = some (some bl')
  cond : ∀ j : Nat, j ≠ ck → s'.conds[j]? = s.conds[j]?

/-- Calls leave the blocks that there were. -/
def GrowOk (cr : CallR A) : Prop := ∀ f vs mem v mem' c, cr f vs mem = some (v, mem', c) → mem.length ≤ mem'.length ∧ ∀ (k : Nat), k < mem.length → ((∃ bl, mem[k]? = some (some bl)) ↔ ∃ bl, mem'[k]? = some (some bl))

structure MShape (key r : Nat) (m m' : Mem A) : Prop where
  len : m'.length = m.length
  none : ∀ k : Nat, k < key ∨ key + r ≤ k → m[k]? = some none → m'[k]? = some none
  live : ∀ (k : Nat) (bl : Blk A), m[k]? = some (some bl) → ∃ bl' : Blk A, m'[k]? = some (some bl')

theorem MShape.refl (key r : Nat) (m : Mem A) : MShape key r m m := ⟨rfl, fun _ _ h => h, fun _ bl h => ⟨bl, h⟩⟩
theorem MShape.set {key r : Nat} {m m' : Mem A} (h : MShape key r m m') {b : Nat} (hb : (∃ bl, m[b]? = some (some bl)) ∨ (key = b ∧ 0 < r)) (y : Blk A) : MShape key r m (m'.set b (some y)) where
  len := by simp [h.len]
  none k hk hn := by
    have : b ≠ k := by
      rintro rfl
      rcases hb with ⟨bl, hb⟩ | ⟨rfl, hr⟩
      · rw [hb] at hn; cases hn
      · omega
    rw [List.getElem?_set_ne this]
    exact h.none k hk hn
  live k bl hk := by
    obtain ⟨bl', h'⟩ := h.live k bl hk
    exact set_live h'

theorem wrR_shape {S : Sig A} {cr : CallR A} (hg : GrowOk cr) {rc : Bool} {E : Operand → Option (LV A)} {mem m : Mem A} {key r : Nat} {o : Op} {v : LV A} {c : Cnd} (h : wrR P S cr rc E mem key r o = some (v, m, c)) (hkr : key + r ≤ mem.length) (hn : ∀ k, key ≤ k → k < key + r → mem[k]? = some none) : MShape key r mem m := by
  cases o <;> simp only [wrR] at h <;> try (cases h; done)
  case store t x y =>
    repeat' split at h
    all_goals first
      | (cases h; done)
      | (simp only [Option.some.injEq, Prod.mk.injEq] at h; obtain ⟨_, rfl, _⟩ := h; exact (MShape.refl _ _ _).set (.inl ⟨_, by assumption⟩) _)
  case slice t x low high max =>
    repeat' split at h
    all_goals first
      | (cases h; done)
      | skip
    rename_i hdd
    simp only [Option.some.injEq, Prod.mk.injEq] at h; obtain ⟨_, rfl, _⟩ := h
    simp only [Bool.or_eq_false_iff] at hdd
    refine ((MShape.refl _ _ _).set (.inl ⟨_, by assumption⟩) _).set (.inr ⟨rfl, ?_⟩) _
    rcases Nat.eq_zero_or_pos r with h' | h'
    · have := hdd.2; subst h'; simp [Nat.beq_refl] at this
    · exact h'
  case call cl =>
    obtain ⟨callee, args, ats⟩ := cl
    simp only at h
    split at h
    rotate_left
    · cases h
    split at h
    · repeat' split at h
      all_goals first
        | (cases h; done)
        | skip
      · simp only [Option.some.injEq, Prod.mk.injEq] at h; obtain ⟨_, rfl, _⟩ := h
        exact (MShape.refl _ _ _).set (.inr ⟨rfl, Nat.succ_pos _⟩) _
      · simp only [Option.some.injEq, Prod.mk.injEq] at h; obtain ⟨_, rfl, _⟩ := h
        exact ((MShape.refl _ _ _).set (.inl ⟨_, by assumption⟩) _).set (.inr ⟨rfl, Nat.succ_pos _⟩) _
    · repeat' split at h
      all_goals first
        | (cases h; done)
        | (simp only [Option.some.injEq, Prod.mk.injEq] at h; obtain ⟨_, rfl, _⟩ := h; exact (MShape.refl _ _ _).set (.inl ⟨_, by assumption⟩) _)
    · split at h
      rotate_left
      · cases h
      split at h
      rotate_left
      · cases h
      rename_i v' m' c' hcall
      split at h
      rotate_left
      · cases h
      rename_i hle
      have hle := bleN hle
      simp only [Option.some.injEq, Prod.mk.injEq] at h; obtain ⟨_, rfl, _⟩ := h
      obtain ⟨g1, g2⟩ := hg _ _ _ _ _ _ hcall
      rw [List.length_take, Nat.min_eq_left (by omega)] at g1 g2
      refine ⟨by simp; omega, ?_, ?_⟩
      · intro k hk hn0
        rcases hk with hk | hk
        · rw [List.append_assoc, List.getElem?_append_left (by omega)]
          have h2 : m'[k]? = some m'[k] := List.getElem?_eq_getElem (by omega)
          rw [h2]
          cases hq : m'[k] with
          | none => rfl
          | some bl =>
            exfalso
            obtain ⟨b1, hb1⟩ := (g2 k hk).2 ⟨bl, by rw [h2, hq]⟩
            rw [List.getElem?_take_of_lt hk, hn0] at hb1
            cases hb1
        · rw [List.getElem?_append_right (by simp; omega), List.getElem?_drop]
          rw [← hn0]; congr 1; simp; omega
      · intro k bl hk
        rcases Nat.lt_or_ge k key with h' | h'
        · obtain ⟨b1, hb1⟩ := (g2 k h').1 ⟨bl, by rw [List.getElem?_take_of_lt h']; exact hk⟩
          exact ⟨b1, by rw [List.append_assoc, List.getElem?_append_left (by omega)]; exact hb1⟩
        · rcases Nat.lt_or_ge k (key + r) with h2 | h2
          · rw [hn k h' h2] at hk; cases hk
          · exact ⟨bl, by rw [List.getElem?_append_right (by simp; omega), List.getElem?_drop, ← hk]; congr 1; simp; omega⟩
    · cases h

theorem step_shape {S : Sig A} {cr : CallR A} (hg : GrowOk cr) {x : Ctl} {o : Oper} {s s' : LS A} (h : step P S cr x o s = some s') (hkr : x.key + x.r ≤ s.mem.length) (hn : ∀ k, x.key ≤ k → k < x.key + x.r → s.mem[k]? = some none) : Shape x.key x.r x.ck s s' := by
  have ck' : ∀ (cs : List Cnd) (c : Cnd) (j : Nat), j ≠ x.ck → (cs.set x.ck c)[j]? = cs[j]? := fun cs c j hj => List.getElem?_set_ne (fun e => hj e.symm)
  unfold step at h
  simp only at h
  split at h
  · split at h
    · cases h
      exact ⟨rfl, by simp, len_put _ _ _, fun _ _ h => h, fun k bl h => ⟨bl, h⟩, fun j hj => ck' _ _ j hj⟩
    · cases h
  · split at h
    · cases h
      exact ⟨rfl, by simp, len_put _ _ _, fun _ _ h => h, fun k bl h => ⟨bl, h⟩, fun j hj => ck' _ _ j hj⟩
    · cases h
  · split at h
    · rename_i v b c hp
      split at h
      · rename_i hb
        cases h
        have hms : MShape x.key x.r s.mem (putB s.mem x.key b) := by
          cases b with
          | none => exact MShape.refl _ _ _
          | some b =>
            refine (MShape.refl _ _ _).set (.inr ⟨rfl, ?_⟩) _
            rcases Nat.eq_zero_or_pos x.r with h' | h'
            · rw [h'] at hb; simp [Nat.beq_refl] at hb
            · exact h'
        exact ⟨hms.len, by simp, len_put _ _ _, hms.none, hms.live, fun j hj => ck' _ _ j hj⟩
      · cases h
    · cases h
  · split at h
    · rename_i v m c hw
      cases h
      have hms := wrR_shape hg hw hkr hn
      exact ⟨hms.len, by simp, len_put _ _ _, hms.none, hms.live, fun j hj => ck' _ _ j hj⟩
    · cases h

theorem stepG_shape {S : Sig A} {cr : CallR A} (hg : GrowOk cr) {x : Ctl} {ops : List Oper} {o : Oper} {s s' : LS A} (h : stepG P S cr x ops o s = some s') (hkr : x.key + x.r ≤ s.mem.length) (hn : ∀ k, x.key ≤ k → k < x.key + x.r → s.mem[k]? = some none) : Shape x.key x.r x.ck s s' := by
  unfold stepG at h
  split at h
  · exact step_shape hg h hkr hn
  · cases h
    exact ⟨rfl, rfl, len_put _ _ _, fun _ _ h => h, fun k bl h => ⟨bl, h⟩, fun _ _ => rfl⟩
  · cases h

/-- The free places and the open conditions ahead of the operation number i. -/
structure Ready (n0 r c0 n i : Nat) (s : LS A) : Prop where
  mem : ∀ k, n0 + r * i ≤ k → k < n0 + r * n → s.mem[k]? = some none
  mlen : s.mem.length = n0 + r * n
  clen : s.conds.length = c0 + n

theorem Ready.next {n0 r c0 n i : Nat} {s s' : LS A} (h : Ready n0 r c0 n i s) (hs : Shape (n0 + r * i) r (c0 + i) s s') : Ready n0 r c0 n (i + 1) s' :=
  ⟨fun k h1 h2 => by
    rw [Nat.mul_succ] at h1
    exact hs.none k (.inr (by omega)) (h.mem k (by omega) h2), by rw [hs.mlen, h.mlen], by rw [hs.clen, h.clen]⟩

theorem Ready.room {n0 r c0 n i : Nat} {s : LS A} (h : Ready n0 r c0 n i s) (hi : i < n) : n0 + r * i + r ≤ s.mem.length ∧ ∀ k, n0 + r * i ≤ k → k < n0 + r * i + r → s.mem[k]? = some none := by
  have h1 : r * i + r ≤ r * n := by
    have := Nat.mul_le_mul_left r (show i + 1 ≤ n from hi)
    rwa [Nat.mul_succ] at this
  refine ⟨by rw [h.mlen]; omega, fun k h2 h3 => h.mem k h2 (by omega)⟩

theorem trim_get : ∀ (m : Mem A) (k : Nat) (bl : Blk A), (trimM.trim m)[k]? = some (some bl) ↔ m[k]? = some (some bl)
  | [], _, _ => Iff.rfl
  | some b :: l, k, bl => by
    cases k with
    | zero => simp [trimM.trim]
    | succ k => simpa [trimM.trim] using trim_get l k bl
  | none :: l, k, bl => by
    simp only [trimM.trim]
    split
    · rename_i h
      constructor
      · intro h'; simp at h'
      · intro h'
        cases k with
        | zero => simp at h'
        | succ k =>
          have := (trim_get l k bl).2 (by simpa using h')
          rw [h] at this; simp at this
    · cases k with
      | zero => simp
      | succ k => simpa using trim_get l k bl
theorem trimM_get (n : Nat) (m : Mem A) (k : Nat) (bl : Blk A) : (trimM n m)[k]? = some (some bl) ↔ m[k]? = some (some bl) := by
  unfold trimM
  by_cases hk : k < (m.take n).length
  · rw [List.getElem?_append_left hk, List.getElem?_take_of_lt (by simp at hk; omega)]
  · rw [List.getElem?_append_right (by omega), trim_get, List.getElem?_drop]
    by_cases hn : n ≤ m.length
    · rw [show n + (k - (m.take n).length) = k by simp at hk ⊢; omega]
    · rw [List.getElem?_eq_none (by omega), List.getElem?_eq_none (by simp at hk; omega)]
theorem trimM_len (n : Nat) (m : Mem A) (h : n ≤ m.length) : n ≤ (trimM n m).length := by
  unfold trimM
  simp
  omega

def AllOk (cs : List Cnd) : Prop := ∀ c ∈ cs, condOk c
theorem forceN_eq {β : Type} (n : Nat) (f : Nat → β) : forceN n f = f n := by cases n <;> rfl

theorem pad_get {s : LS A} {n r k : Nat} {bl : Blk A} (h : (pad n r s).mem[k]? = some (some bl)) : s.mem[k]? = some (some bl) := by
  simp only [pad] at h
  rw [List.getElem?_append] at h
  split at h
  · exact h
  · rw [List.getElem?_replicate] at h
    split at h <;> cases h
theorem get_pad {s : LS A} {n r k : Nat} {bl : Blk A} (h : s.mem[k]? = some (some bl)) : (pad n r s).mem[k]? = some (some bl) := by
  simp only [pad]
  rw [List.getElem?_append_left (lt_of_get h)]; exact h

theorem Rl.padded {s : LS A} (h : Rl I Own w0 ρ s a w) (n r : Nat) : Rl I Own w0 ρ (pad n r s) a w := by
  have at' : ∀ k bl, at? I (pad n r s).mem k = some bl → at? I s.mem k = some bl := by
    intro k bl hk
    cases k with
    | own k => exact at_own (pad_get (at_own' hk))
    | inp t i => exact hk
  have key : ∀ k m, okKey s.mem ρ k m → okKey (pad n r s).mem ρ k m := by
    intro k m hk
    cases k with
    | own k => obtain ⟨⟨bl, hb⟩, hm⟩ := hk; exact ⟨⟨bl, get_pad hb⟩, hm⟩
    | inp t i => exact hk
  exact {
    size := h.size, val := h.val, defers := h.defers,
    mem := h.mem.sub fun k bl hk => pad_get hk,
    mine := h.mine.sub fun k bl hk => pad_get hk, new := h.new, keeps := h.keeps,
    occT := fun i v hv => kin_mono key v (h.occT i v hv), occM := fun k bl hk => kinL_mono key bl.us (h.occM k bl (at' k bl hk)) }

theorem pad_ready (s : LS A) (n r : Nat) : Ready s.mem.length r 0 n 0 (pad n (r * n) s) := by
  refine ⟨fun k h1 h2 => ?_, by simp [pad], by simp [pad]⟩
  simp only [pad]
  rw [List.getElem?_append_right (by omega), List.getElem?_replicate, if_pos (by omega)]


theorem Rl.sub' {s t : LS A} (h : Rl I Own w0 ρ s a w) (ht : t.tmps = s.tmps) (hm : ∀ (k : Nat) (bl : Blk A), t.mem[k]? = some (some bl) ↔ s.mem[k]? = some (some bl)) : Rl I Own w0 ρ t a w := by
  have at' : ∀ k bl, at? I t.mem k = some bl → at? I s.mem k = some bl := by
    intro k bl hk
    cases k with
    | own k => exact at_own ((hm k bl).1 (at_own' hk))
    | inp t i => exact hk
  have key : ∀ k m, okKey s.mem ρ k m → okKey t.mem ρ k m := by
    intro k m hk
    cases k with
    | own k => obtain ⟨⟨bl, hb⟩, hm'⟩ := hk; exact ⟨⟨bl, (hm k bl).2 hb⟩, hm'⟩
    | inp t i => exact hk
  exact {
    size := by rw [ht]; exact h.size, val := by rw [ht]; exact h.val, defers := h.defers,
    mem := h.mem.sub fun k bl hk => (hm k bl).1 hk,
    mine := h.mine.sub fun k bl hk => (hm k bl).1 hk, new := h.new, keeps := h.keeps,
    occT := fun i v hv => kin_mono key v (h.occT i v (by rw [← ht]; exact hv)), occM := fun k bl hk => kinL_mono key bl.us (h.occM k bl (at' k bl hk)) }
theorem more_get (r : Nat) (s : LS A) (k : Nat) (bl : Blk A) : (more r s).mem[k]? = some (some bl) ↔ s.mem[k]? = some (some bl) := by
  simp only [more]
  rw [List.getElem?_append]
  split
  · exact Iff.rfl
  · rename_i hk
    rw [List.getElem?_replicate]
    constructor
    · intro h; split at h <;> cases h
    · intro h; rw [List.getElem?_eq_none (by omega)] at h; cases h
theorem trimM_none (n : Nat) (m : Mem A) (k : Nat) (hk : k < n) : (trimM n m)[k]? = m[k]? := by
  unfold trimM
  by_cases hm : k < m.length
  · rw [List.getElem?_append_left (by simp; omega), List.getElem?_take_of_lt hk]
  · rw [List.getElem?_eq_none (by omega : m.length ≤ k)]
    rw [List.take_of_length_le (by omega), List.drop_of_length_le (by omega)]
    simp only [trimM.trim, List.append_nil]
    exact List.getElem?_eq_none (by omega)

/-- What one operation leaves, its free places put by. -/
theorem stepO_shape {S : Sig A} {cr : CallR A} (hg : GrowOk cr) {x : Ctl} {ops : List Oper} {o : Oper} {s s' : LS A} (hx : x.key = s.mem.length) (h : stepG P S cr x ops o (more x.r s) = some s') :
    (cutS s.mem.length s').conds.length = s.conds.length ∧ (cutS s.mem.length s').tmps.length = s.tmps.length ∧ s.mem.length ≤ (cutS s.mem.length s').mem.length ∧
    (∀ (k : Nat) (bl : Blk A), s.mem[k]? = some (some bl) → ∃ bl' : Blk A, (cutS s.mem.length s').mem[k]? = some (some bl')) ∧
    (∀ k : Nat, k < s.mem.length → s.mem[k]? = some none → (cutS s.mem.length s').mem[k]? = some none) ∧ ∀ j : Nat, j ≠ x.ck → (cutS s.mem.length s').conds[j]? = s.conds[j]? := by
  have hl : (more x.r s).mem.length = s.mem.length + x.r := by simp [more]
  have sh := stepG_shape hg h (by rw [hl, hx]; exact Nat.le_refl _) fun k h1 h2 => by
    simp only [more]
    rw [List.getElem?_append_right (by omega), List.getElem?_replicate, if_pos (by omega)]
  refine ⟨sh.clen, sh.tlen, trimM_len _ _ (by rw [sh.mlen, hl]; omega), fun k bl hb => ?_, fun k hk hn => ?_, sh.cond⟩
  · obtain ⟨b1, hb1⟩ := sh.live k bl ((more_get _ _ _ _).2 hb)
    exact ⟨b1, (trimM_get _ _ _ _).2 hb1⟩
  · show (trimM _ _)[k]? = _
    rw [trimM_none _ _ _ hk]
    refine sh.none k (.inl (by omega)) ?_
    simp only [more]
    rw [List.getElem?_append_left hk]; exact hn

section
variable {S : Sig A} {cr : CallR A} {cur rid r : Nat}

/-- What conditions and blocks a run leaves. -/
structure Kept (c0 : Nat) (s t : LS A) : Prop where
  cond : ∀ j : Nat, j < c0 → t.conds[j]? = s.conds[j]?
  mlen : s.mem.length ≤ t.mem.length
  clen : t.conds.length = s.conds.length
  tlen : t.tmps.length = s.tmps.length
  live : ∀ (k : Nat) (bl : Blk A), s.mem[k]? = some (some bl) → ∃ bl' : Blk A, t.mem[k]? = some (some bl')
  none : ∀ k, k < s.mem.length → s.mem[k]? = some none → t.mem[k]? = some none

theorem runOps_keeps (hg : GrowOk cr) {ops : List Oper} {c0 : Nat} : ∀ (os : List Oper) (i : Nat) (s t : LS A), runOpsO P S cr cur rid ops c0 i os s = some t → Kept (c0 + i) s t
  | [], i, s, t, h => by
    simp only [runOpsO] at h; cases h
    exact ⟨fun _ _ => rfl, Nat.le_refl _, rfl, rfl, fun k bl h => ⟨bl, h⟩, fun _ _ h => h⟩
  | o :: os, i, s, t, h => by
    simp only [runOpsO, forceN_eq] at h
    split at h
    · rename_i s' hs
      obtain ⟨e1, e2, e3, e4, e5, e6⟩ := stepO_shape hg rfl hs
      have hk := runOps_keeps hg os (i + 1) _ t h
      refine ⟨fun j hj => (hk.cond j (by omega)).trans (e6 j (by show j ≠ c0 + i; omega)), Nat.le_trans e3 hk.mlen, hk.clen.trans e1, hk.tlen.trans e2, fun k bl hb => ?_, fun k h3 h4 => hk.none k (by omega) (e5 k h3 h4)⟩
      obtain ⟨b1, hb1⟩ := e4 k bl hb
      exact hk.live k b1 hb1
    · cases h

theorem runOps_sound [LawAb A] [LawEq A] (hI : S.inp = I) (hS : SigOk P S) (hcr : CallOk P I cr) {ops : Array Oper} {c0 : Nat} {Q : Exit → Act → World → Prop} :
    ∀ (os : List Oper) (i : Nat) (s t : LS A) (ρ : Key → Loc) (a : Act) (w : World), runOpsO P S cr cur rid ops.toList c0 i os s = some t → (∀ j, os[j]? = ops[i + j]?) → i + os.length = ops.size → AllOk t.conds → s.conds.length = c0 + ops.size →
      Rl I Own w0 ρ s a w → (∀ ρ' a' w', (∀ k m, okKey s.mem ρ k m → ρ k = ρ' k) → Rl I Own w0 ρ' t a' w' → Q .normal a' w') → wpOps P ops Q (List.range' i os.length) a w
  | [], i, s, t, ρ, a, w, h, _, _, _, _, hr, hQ => by
    simp only [runOpsO] at h; cases h
    exact hQ ρ a w (fun _ _ _ => rfl) hr
  | o :: os, i, s, t, ρ, a, w, h, ho, hn, hc, hcl, hr, hQ => by
    simp only [runOpsO, forceN_eq] at h
    split at h
    · rename_i s' hs
      simp only [List.length_cons] at hn
      obtain ⟨e1, e2, e3, e4, e5, e6⟩ := stepO_shape hcr.grow rfl hs
      have kp := runOps_keeps hcr.grow os (i + 1) _ t h
      rw [List.length_cons, List.range'_succ, wpOps_cons]
      have hoi : ops[i]? = some o := by have := ho 0; simpa using this.symm
      have hl : (more (rO P S cur rid o) s).mem.length = s.mem.length + rO P S cur rid o := by simp [more]
      refine stepG_sound hI hS hcr hoi hs ?_ (by show c0 + i < s.conds.length; omega) (fun hp => ?_) (by show s.mem.length ≤ _; omega) ?_ (hr.sub' rfl fun k bl => more_get _ s k bl) ?_
      · intro c hcc
        have hcc : (cutS s.mem.length s').conds[c0 + i]? = some c := hcc
        rw [← kp.cond (c0 + i) (by omega)] at hcc
        exact hc c (List.mem_of_getElem? hcc)
      · have hp : 0 < rO P S cur rid o := hp
        show (more (rO P S cur rid o) s).mem[s.mem.length]? = _
        simp only [more]
        rw [List.getElem?_append_right (Nat.le_refl _), List.getElem?_replicate, if_pos (by omega)]
      · intro _ k hk bl hb
        have hk : s.mem.length ≤ k := hk
        have := lt_of_get ((more_get _ s k bl).1 hb)
        omega
      · intro ρ' a' w' he hr'
        refine runOps_sound hI hS hcr os (i + 1) _ t ρ' a' w' h (fun j => ?_) (by omega) hc (by rw [e1]; exact hcl) (hr'.sub' rfl fun k bl => trimM_get _ _ k bl) ?_
        · have := ho (j + 1)
          rw [List.getElem?_cons_succ] at this
          rw [this]; congr 1; omega
        · intro ρ2 a2 w2 he2 hr2
          have up : ∀ k m, okKey s.mem ρ k m → okKey (more (rO P S cur rid o) s).mem ρ k m := by
            intro k m hk
            cases k with
            | own k => obtain ⟨⟨bl, hb⟩, hm⟩ := hk; exact ⟨⟨bl, (more_get _ _ _ _).2 hb⟩, hm⟩
            | inp t i => exact hk
          refine hQ ρ2 a2 w2 (fun k m hk => (he k m (up k m hk)).trans (he2 k m ?_)) hr2
          have e := he k m (up k m hk)
          cases k with
          | own k =>
            obtain ⟨⟨bl, hb⟩, hm⟩ := hk
            exact ⟨e4 k bl hb, by rw [← e]; exact hm⟩
          | inp t i => show m ≤ _; rw [← e]; exact hk
    · cases h

/-- A region whose order is that of the text. -/
theorem region_sound [LawAb A] [LawEq A] (hI : S.inp = I) (hS : SigOk P S) (hcr : CallOk P I cr) {ops : Array Oper} {Q : Exit → Act → World → Prop} {s t : LS A} {ρ : Key → Loc} {a : Act} {w : World}
    (h : runOpsO P S cr cur rid ops.toList 0 0 ops.toList (pad ops.toList.length 0 s) = some t) (hc : AllOk t.conds) (hr : Rl I Own w0 ρ s a w)
    (hQ : ∀ ρ' a' w', (∀ k m, okKey s.mem ρ k m → ρ k = ρ' k) → Rl I Own w0 ρ' t a' w' → Q .normal a' w') : (Code.region rid ops false).wp P Q a w := by
  refine wp_region ?_
  have := runOps_sound (Q := Q) hI hS hcr ops.toList 0 (pad ops.toList.length 0 s) t ρ a w h (fun j => by simp) (by simp) hc (by simp [pad]) (hr.padded _ _) ?_
  · rw [List.range_eq_range']
    simpa using this
  · intro ρ' a' w' he hr'
    refine hQ ρ' a' w' (fun k m hk => he k m ?_) hr'
    cases k with
    | own k => obtain ⟨⟨bl, hb⟩, hm⟩ := hk; exact ⟨⟨bl, get_pad hb⟩, hm⟩
    | inp t i => exact hk
end
end
end Go.Proofs.Ytjhjockdkpgpeaa.En
