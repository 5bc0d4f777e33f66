/- DERIVED. The executor is sound: results, code. -/
import Derived.Test.YtjhjockdkpgpeaaVSJ
import Derived.Scope
set_option linter.all false
namespace Go.Proofs.Ytjhjockdkpgpeaa.En
open Go Go.RowKit

section
variable {A : Type} [Ab A] {P : Program} {S : Sig A} {I : Nat → Nat → List (LV A)}

/-! ## results -/
def resOne (tmps : Array Value) : ResultVar → Sem Value
  | .tmp t => pure (tmps.getD t Go.undef)
  | .cell x t => do loadVar t (← asAddr (tmps.getD x Go.undef))
theorem results_eq (fn : Func) (tmps : Array Value) : results fn tmps = (do
    let vs ← fn.results.mapM (resOne tmps)
    pure (if h : vs.size = 1 then vs[0] else .tuple vs)) := by
  unfold results
  congr 1

section
variable {Own : Dom} {w0 : World} {ρ : Key → Loc} {s : LS A} {a : Act} {w : World}

theorem resV_sound [LawAb A] (hr : Rl I Own w0 ρ s a w) {rc : Bool} {r : ResultVar} {v : LV A} {c : Cnd} (h : resV P rc s r = some (v, c)) (hc : condOk c) :
    (resOne a.tmps r).run P w = .ok (LV.tr ρ v) w ∧ v.kin (okKey s.mem ρ) := by
  cases r with
  | tmp t =>
    simp only [resV] at h
    split at h
    · rename_i u hu
      simp only [Option.some.injEq, Prod.mk.injEq] at h; obtain ⟨rfl, rfl⟩ := h
      have he : ev s.tmps (.tmp t) = some u := hu
      have := ev_sound hr he
      refine ⟨?_, this.2⟩
      have e : a.tmps.getD t Go.undef = LV.tr ρ u := this.1
      simp only [resOne, e, Sem.run_pure]
    · cases h
  | cell x t =>
    simp only [resV] at h
    split at h
    · rename_i b o p hx
      have he : ev s.tmps (.tmp x) = some (.ptr (.own b) o p) := hx
      have he := (ev_sound hr he).1
      have e : a.tmps.getD x Go.undef = LV.tr ρ (.ptr (.own b) o p : LV A) := he
      split at h
      · rename_i bl hb
        have hl := run_load_sound (P := P) hr.mem (at_own hb) h hc
        refine ⟨?_, hl.2 _ (hr.occM _ bl (at_own hb))⟩
        have h1 := hl.1
        simp only [Instr.loadAt, Instr.sureAddr, LV.tr, Sem.run_bind, Sem.run_pure, Result.andThen_ok] at h1
        simp only [resOne, e, LV.tr, asAddr, Sem.run_bind, Sem.run_pure, Result.andThen_ok]
        exact h1
      · cases h
    · cases h

theorem resVs_sound [LawAb A] (hr : Rl I Own w0 ρ s a w) {rc : Bool} : ∀ {rs : List ResultVar} {vs : List (LV A)} {c : Cnd}, resVs P rc s rs = some (vs, c) → condOk c →
    (rs.mapM (resOne a.tmps)).run P w = .ok (trs ρ vs) w ∧ kinL (okKey s.mem ρ) vs
  | [], vs, c, h, _ => by simp only [resVs, Option.some.injEq, Prod.mk.injEq] at h; obtain ⟨rfl, _⟩ := h; exact ⟨rfl, trivial⟩
  | r :: rs, vs, c, h, hc => by
    simp only [resVs] at h
    split at h
    · rename_i v c1 hv
      split at h
      · rename_i vs' c2 hvs
        simp only [Option.some.injEq, Prod.mk.injEq] at h; obtain ⟨rfl, rfl⟩ := h
        obtain ⟨k1, k2⟩ := andC_ok hc
        obtain ⟨h1, h2⟩ := resV_sound hr hv k1
        obtain ⟨h3, h4⟩ := resVs_sound hr hvs k2
        refine ⟨?_, h2, h4⟩
        simp only [List.mapM_cons, Sem.run_bind, h1, h3, Result.andThen_ok, Sem.run_pure, trs]
      · cases h
    · cases h

theorem resF_sound [LawAb A] (hr : Rl I Own w0 ρ s a w) {rc : Bool} {fn : Func} {v : LV A} {c : Cnd} (h : resF P rc fn s = some (v, c)) (hc : condOk c) :
    (results fn a.tmps).run P w = .ok (LV.tr ρ v) w ∧ v.kin (okKey s.mem ρ) := by
  unfold resF at h
  have key : ∀ vs, resVs P rc s fn.results.toList = some (vs, c) → (results fn a.tmps).run P w = .ok (if h : (trs ρ vs).toArray.size = 1 then (trs ρ vs).toArray[0] else .tuple (trs ρ vs).toArray) w ∧ kinL (okKey s.mem ρ) vs := by
    intro vs hvs
    obtain ⟨h1, h2⟩ := resVs_sound hr hvs hc
    refine ⟨?_, h2⟩
    rw [results_eq, Array.mapM_eq_mapM_toList]
    simp only [Sem.run_bind, Sem.run_map, Sem.run_pure]
    rw [h1]
    rfl
  split at h
  · rename_i u c' hvs
    simp only [Option.some.injEq, Prod.mk.injEq] at h; obtain ⟨rfl, rfl⟩ := h
    obtain ⟨h1, h2⟩ := key _ hvs
    exact ⟨by rw [h1]; simp [trs], h2.1⟩
  · rename_i vs c' hne hvs
    simp only [Option.some.injEq, Prod.mk.injEq] at h; obtain ⟨rfl, rfl⟩ := h
    obtain ⟨h1, h2⟩ := key _ hvs
    refine ⟨?_, h2⟩
    rw [h1]
    have : ¬ (trs ρ vs).toArray.size = 1 := by
      intro e
      match vs, hne with
      | [], _ => simp [trs] at e
      | [u], hne => exact hne u rfl
      | u1 :: u2 :: l, _ => simp [trs] at e
    rw [dif_neg this]
    rfl
  · cases h

theorem trs_length : ∀ l : List (LV A), (trs ρ l).length = l.length
  | [] => rfl
  | _ :: l => by simp [trs, trs_length l]

/-- The state at a call's beginning. -/
theorem start_rl {fn : Func} {args : List (LV A)} {mem : Mem A} (h : Ahead I Own ρ mem args w) :
    Rl I Own w ρ (startS fn args mem) { tmps := (trs ρ args).toArray ++ Array.replicate (fn.ntmps - (trs ρ args).toArray.size) Go.undef, defers := [] } w where
  size := by simp [startS, trs_length]
  val i v hv := by
    right
    simp only [startS] at hv
    by_cases hi : i < args.length
    · rw [List.getElem?_append_left hi] at hv
      have := trs_get (ρ := ρ) hv
      rw [Array.getElem?_append_left (by simp [trs_length]; exact hi)]
      simpa using this
    · rw [List.getElem?_append_right (by omega), List.getElem?_replicate] at hv
      split at hv
      · rename_i hlt
        cases hv
        rw [Array.getElem?_append_right (by simp [trs_length]; omega)]
        simp only [List.size_toArray, trs_length, Array.getElem?_replicate, LV.tr]
        rw [if_pos hlt]
      · cases hv
  defers := rfl
  mem := h.mem
  mine := h.mine
  new := h.new
  keeps := Keeps.refl _ _
  occT i v hv := by
    simp only [startS] at hv
    by_cases hi : i < args.length
    · rw [List.getElem?_append_left hi] at hv
      exact kinL_get h.kinV hv
    · rw [List.getElem?_append_right (by omega), List.getElem?_replicate] at hv
      split at hv
      · cases hv; trivial
      · cases hv
  occM := h.kinM
end

/-- A call, out of what its body comes to. -/
theorem calls_of_ex [LawAb A] {f : FuncId} {fn : Func} {c : Code} {args : List (LV A)} {mem : Mem A} {o : Out} {t : LS A} {rc : Bool} {v : LV A} {cv : Cnd} (hf : P.funcs[f]? = some fn) (hb : fn.body = some c) (hex : Ex P I c (startS fn args mem) o t) (ho : o = .normal ∨ o = .ret) (hv : resF P rc fn t = some (v, cv)) (hc : condOk cv)
    {Own : Dom} {ρ : Key → Loc} {w : World} (h : Ahead I Own ρ mem args w) :
    Calls P f (trs ρ args).toArray w fun e w' => ∃ ρ', e = .returned (LV.tr ρ' v) ∧ Left' I Own w mem ρ ρ' t.mem v w' := by
  refine calls_of_wp hf hb ?_
  refine hex.run Own w ρ _ w _ (start_rl h) fun ρ' a' w' he hr' => ?_
  have hr := resF_sound hr' hv hc
  have hl : Left' I Own w mem ρ ρ' t.mem v w' := ⟨he, hr'.mem, hr'.mine, hr'.keeps, hr.2, hr'.occM⟩
  rcases ho with rfl | rfl
  · exact ⟨hr'.defers, _, hr.1, ρ', rfl, hl⟩
  · exact ⟨hr'.defers, _, hr.1, ρ', rfl, hl⟩

/-! ## the rules -/
theorem Ex.seq {x y : Code} {s s' t : LS A} {o : Out} (h1 : Ex P I x s .normal s') (h2 : Ex P I y s' o t) : Ex P I (.seq x y) s o t := by
  refine ⟨fun k bl hb => ?_, fun Own w0 ρ a w Q hr hQ => wp_seq ?_⟩
  · obtain ⟨b1, hb1⟩ := h1.live k bl hb
    exact h2.live k b1 hb1
  refine h1.run Own w0 ρ a w _ hr fun ρ' a' w' he hr' => ?_
  show Code.wp P y Q a' w'
  exact h2.run Own w0 ρ' a' w' Q hr' fun ρ2 a2 w2 he2 hr2 => hQ ρ2 a2 w2 (fun k m hk => (he k m hk).trans (he2 k m (okKey_to h1.live hk (he k m hk)))) hr2
theorem Ex.seq_out {x y : Code} {s t : LS A} {o : Out} (h1 : Ex P I x s o t) (ho : o ≠ .normal) : Ex P I (.seq x y) s o t := by
  refine ⟨h1.live, fun Own w0 ρ a w Q hr hQ => wp_seq ?_⟩
  refine h1.run Own w0 ρ a w _ hr fun ρ' a' w' he hr' => ?_
  have := hQ ρ' a' w' he hr'
  cases o <;> first | exact absurd rfl ho | exact this
theorem Ex.block {b : Code} {id : Nat} {s t : LS A} (h : Ex P I b s (.exit id) t) : Ex P I (.block id b) s .normal t := by
  refine ⟨h.live, fun Own w0 ρ a w Q hr hQ => wp_block ?_⟩
  refine h.run Own w0 ρ a w _ hr fun ρ' a' w' he hr' => ?_
  show (if id = id then Q .normal a' w' else _)
  rw [if_pos rfl]
  exact hQ ρ' a' w' he hr'
theorem Ex.block_out {b : Code} {id : Nat} {s t : LS A} {o : Out} (h : Ex P I b s o t) (ho : o ≠ .exit id) : Ex P I (.block id b) s o t := by
  refine ⟨h.live, fun Own w0 ρ a w Q hr hQ => wp_block ?_⟩
  refine h.run Own w0 ρ a w _ hr fun ρ' a' w' he hr' => ?_
  have := hQ ρ' a' w' he hr'
  cases o with
  | normal => exact this
  | ret => exact this
  | exit id' =>
    show (if id' = id then _ else _)
    rw [if_neg (fun e => ho (by rw [e]))]
    exact this
theorem Ex.scope {b : Code} {s t : LS A} {o : Out} (h : Ex P I b s o t) : Ex P I (.scope b) s o t := by
  refine ⟨h.live, fun Own w0 ρ a w Q hr hQ => wp_scope_straight ?_⟩
  refine h.run Own w0 ρ a w _ hr fun ρ' a' w' he hr' => ?_
  have := hQ ρ' a' w' he hr'
  cases o <;> exact this
theorem Ex.refl {c : Code} {o : Out} (h : ∀ (Own : Dom) (w0 : World) (ρ : Key → Loc) (a : Act) (w : World) (Q : Exit → Act → World → Prop), Q o.toExit a w → Code.wp P c Q a w) (s : LS A) : Ex P I c s o s :=
  ⟨fun k bl hb => ⟨bl, hb⟩, fun Own w0 ρ a w Q hr hQ => h Own w0 ρ a w Q (hQ ρ a w (fun _ _ _ => rfl) hr)⟩

/-- A loop: so many rounds that come to their end, and one that leaves. -/
theorem Ex.loop {b : Code} {t : LS A} {o : Out} (ho : o ≠ .normal) (J : Nat → LS A) : ∀ (n : Nat), (∀ k, k < n → Ex P I b (J k) .normal (J (k + 1))) → Ex P I b (J n) o t → Ex P I (.loop b) (J 0) o t := by
  intro n h hl
  have live : ∀ m, m ≤ n → ∀ (k : Nat) (bl : Blk A), (J (n - m)).mem[k]? = some (some bl) → ∃ bl' : Blk A, t.mem[k]? = some (some bl') := by
    intro m
    induction m with
    | zero => intro _; exact hl.live
    | succ m ih =>
      intro hm k bl hb
      have h1 := (h (n - (m + 1)) (by omega)).live k bl hb
      rw [show n - (m + 1) + 1 = n - m by omega] at h1
      obtain ⟨b1, hb1⟩ := h1
      exact ih (by omega) k b1 hb1
  refine ⟨by simpa using live n (Nat.le_refl _), fun Own w0 ρ a w Q hr hQ => ?_⟩
  refine wp_loop_rounds (n + 1) ?_
  have key : ∀ m, m ≤ n → ∀ ρ a w, Rl I Own w0 ρ (J (n - m)) a w → (∀ ρ' a' w', (∀ k q, okKey (J (n - m)).mem ρ k q → ρ k = ρ' k) → Rl I Own w0 ρ' t a' w' → Q o.toExit a' w') → Code.rounds P b Q (m + 1) a w := by
    intro m
    induction m with
    | zero =>
      intro _ ρ a w hr hQ
      rw [rounds_succ]
      refine hl.run Own w0 ρ a w _ hr fun ρ' a' w' he hr' => ?_
      have := hQ ρ' a' w' he hr'
      cases o <;> first | exact absurd rfl ho | exact this
    | succ m ih =>
      intro hm ρ a w hr hQ
      rw [rounds_succ]
      have h1 := h (n - (m + 1)) (by omega)
      rw [show n - (m + 1) + 1 = n - m by omega] at h1
      refine h1.run Own w0 ρ a w _ hr fun ρ' a' w' he hr' => ?_
      show Code.rounds P b Q (m + 1) a' w'
      exact ih (by omega) ρ' a' w' hr' fun ρ2 a2 w2 he2 hr2 => hQ ρ2 a2 w2 (fun k q hk => (he k q hk).trans (he2 k q (okKey_to h1.live hk (he k q hk)))) hr2
  exact key n (Nat.le_refl _) ρ a w (by simpa using hr) (by simpa using hQ)

/-! ## the shape that an execution leaves -/
theorem Grew.refl (s : LS A) : Grew s s := ⟨fun _ _ => rfl, Nat.le_refl _, Nat.le_refl _, rfl, fun _ bl h => ⟨bl, h⟩, fun _ _ h => h⟩
theorem Grew.trans {a b c : LS A} (h : Grew a b) (k : Grew b c) : Grew a c :=
  ⟨fun j hj => (k.conds j (Nat.lt_of_lt_of_le hj h.clen)).trans (h.conds j hj), Nat.le_trans h.clen k.clen, Nat.le_trans h.mlen k.mlen, k.tlen.trans h.tlen,
   fun i bl hb => by
    obtain ⟨b1, h1⟩ := h.live i bl hb
    exact k.live i b1 h1,
   fun i hi hn => k.none i (Nat.lt_of_lt_of_le hi h.mlen) (h.none i hi hn)⟩
theorem Grew.allOk {s t : LS A} (h : Grew s t) (hc : AllOk t.conds) : AllOk s.conds := by
  intro c hm
  obtain ⟨j, hj, rfl⟩ := List.mem_iff_getElem.1 hm
  have := h.conds j hj
  rw [List.getElem?_eq_getElem hj] at this
  exact hc _ (List.mem_of_getElem? this)

theorem known_grew (hS : SigOk P S) {f : FuncId} {p : List Nat} {h : LS A → Option (Out × List (LV A) × Mem A × Cnd)} (hl : S.lp f p = some h) {s t : LS A} {o : Out} (hk : known h s = some (o, t)) : Grew s t := by
  unfold known at hk
  split at hk
  · rename_i o' tm m c hh
    cases hk
    obtain ⟨h1, h2, h3⟩ := hS.lpG f p h s _ _ _ _ hl hh
    refine ⟨fun j hj => by simp only; rw [List.getElem?_append_left hj], by simp, h2, h1, fun k bl hb => (h3 k (lt_of_get hb)).1 ⟨bl, hb⟩, fun k hk hn => ?_⟩
    show m[k]? = some none
    have e : m[k]? = some m[k] := List.getElem?_eq_getElem (by omega)
    rw [e]
    cases hq : m[k] with
    | none => rfl
    | some bl =>
      obtain ⟨b1, hb1⟩ := (h3 k hk).2 ⟨bl, by rw [e, hq]⟩
      rw [hn] at hb1; cases hb1
  · cases hk

theorem callN_grow {ex : Code → LS A → Option (Out × LS A)} (hex : ∀ c s o t, ex c s = some (o, t) → Grew s t) {f : FuncId} {args : List (LV A)} {mem mem' : Mem A} {v : LV A} {c : Cnd} (h : callN P S ex f args mem = some (v, mem', c)) :
    mem.length ≤ mem'.length ∧ ∀ (k : Nat), k < mem.length → ((∃ bl, mem[k]? = some (some bl)) ↔ ∃ bl, mem'[k]? = some (some bl)) := by
  unfold callN at h
  split at h
  rotate_left
  · cases h
  rename_i fn hf
  split at h
  rotate_left
  · cases h
  rename_i cd hb hnm
  split at h
  · cases h
  · rename_i o t _ he
    split at h
    · cases h
      have g := hex _ _ _ _ he
      refine ⟨trimM_len _ _ g.mlen, fun k hk => ⟨fun ⟨bl, hb⟩ => ?_, fun ⟨bl, hb⟩ => ?_⟩⟩
      · obtain ⟨b1, hb1⟩ := g.live k bl hb
        exact ⟨b1, (trimM_get _ _ _ _).2 hb1⟩
      rw [trimM_get] at hb
      have e : mem[k]? = some mem[k] := List.getElem?_eq_getElem hk
      cases hq : mem[k] with
      | none =>
        have := g.none k hk (by show mem[k]? = some none; rw [e, hq])
        rw [this] at hb; cases hb
      | some b1 => exact ⟨b1, by rw [e, hq]⟩
    · cases h
  · cases h

def inner (P : Program) (S : Sig A) (n : Nat) : CallR A := fun f args mem => match S.il f with
  | true => callN P S (exec P S n f []) f args mem
  | false => S.cs f args mem

theorem exec_grew (hS : SigOk P S) : ∀ (n : Nat) (cur : FuncId) (p : List Nat) (c : Code) (s t : LS A) (o : Out), exec P S n cur p c s = some (o, t) → Grew s t
  | 0, cur, p, c, s, t, o, h => by simp [exec] at h
  | n + 1, cur, p, c, s, t, o, h => by
    have ih := exec_grew hS n
    have hg : GrowOk (inner P S n) := by
      intro f vs mem v mem' c h
      unfold inner at h
      split at h
      · exact callN_grow (fun c s o t h => ih _ _ _ _ _ _ h) h
      · exact hS.cs.grow f vs mem v mem' c h
    cases c <;> simp only [exec] at h
    case skip => cases h; exact Grew.refl _
    case label => cases h; exact Grew.refl _
    case region id ops draw =>
      split at h
      · rename_i s' hs; cases h; exact execR_grew hg hs
      · cases h
    case seq x y =>
      split at h
      · rename_i s' hs; exact (ih _ _ _ _ _ _ hs).trans (ih _ _ _ _ _ _ h)
      · exact ih _ _ _ _ _ _ h
    case cond c x y =>
      split at h
      · exact ih _ _ _ _ _ _ h
      · exact ih _ _ _ _ _ _ h
      · cases h
    case block id b =>
      split at h
      · rename_i id' s' hs
        split at h <;> cases h <;> exact ih _ _ _ _ _ _ hs
      · exact ih _ _ _ _ _ _ h
    case scope b => exact ih _ _ _ _ _ _ h
    case loop b =>
      split at h
      · rename_i hh hl; exact known_grew hS hl h
      · split at h
        · rename_i s' hs; exact (ih _ _ _ _ _ _ hs).trans (ih _ _ _ _ _ _ h)
        · exact ih _ _ _ _ _ _ h
    case rangeFunc =>
      split at h
      · rename_i hh hl; exact known_grew hS hl h
      · cases h
    case exit id => cases h; exact Grew.refl _
    case ret => cases h; exact Grew.refl _
    all_goals (cases h; done)

/-! ## what is told of a call in place -/
theorem allC_ok : ∀ {cs : List Cnd}, condOk (allC cs) → AllOk cs
  | [], _ => by intro c hc; cases hc
  | c :: cs, h => by
    obtain ⟨h1, h2⟩ := andC_ok h
    intro d hd
    rcases List.mem_cons.1 hd with rfl | hd
    · exact h1
    · exact allC_ok h2 d hd

theorem callN_ent {ex : Code → LS A → Option (Out × LS A)} {f : FuncId} {args : List (LV A)} {mem : Mem A} {r : LV A × Mem A × Cnd} (h : callN P S ex f args mem = some r) : ∀ args w, (callFunc f args).run P w = .ok (.enter f args) w := by
  unfold callN at h
  split at h
  rotate_left
  · cases h
  rename_i fn hf
  split at h
  rotate_left
  · cases h
  rename_i cd hb hnm
  intro args w
  have hn : ¬ (fn.name = "runtime.NumGoroutine") := by
    intro e
    rw [e] at hnm
    simp at hnm
  simp [callFunc, hf, hb, hn]

theorem callN_call [LawAb A] {ex : Code → LS A → Option (Out × LS A)} {f : FuncId} (hex : ∀ s o t, ex (bodyOf P f) s = some (o, t) → AllOk t.conds → Ex P I (bodyOf P f) s o t) {args : List (LV A)} {mem mem' : Mem A} {v : LV A} {c : Cnd} (h : callN P S ex f args mem = some (v, mem', c)) (hc : condOk c)
    {Own : Dom} {ρ : Key → Loc} {w : World} (ha : Ahead I Own ρ mem args w) :
    Calls P f (trs ρ args).toArray w fun e w' => ∃ ρ', e = .returned (LV.tr ρ' v) ∧ Left' I Own w mem ρ ρ' mem' v w' := by
  unfold callN at h
  split at h
  rotate_left
  · cases h
  rename_i fn hf
  split at h
  rotate_left
  · cases h
  rename_i cd hb hnm
  have hbo : bodyOf P f = cd := by simp [bodyOf, hf, hb]
  rw [hbo] at hex
  split at h
  · cases h
  · rename_i o t hno he
    split at h
    · rename_i v' c' hv
      simp only [Option.some.injEq, Prod.mk.injEq] at h; obtain ⟨rfl, rfl, rfl⟩ := h
      obtain ⟨k1, k2⟩ := andC_ok hc
      have ho : o = .normal ∨ o = .ret := by
        cases o with
        | normal => exact .inl rfl
        | ret => exact .inr rfl
        | exit id => exact absurd rfl (hno id)
      refine (calls_of_ex hf hb (hex _ _ _ he (allC_ok k2)) ho hv k1 ha).mono ?_
      rintro e w' ⟨ρ', he', hl⟩
      have tok : ∀ k m, okKey t.mem ρ' k m → okKey (trimM mem.length t.mem) ρ' k m := by
        intro k m hk
        cases k with
        | own k => obtain ⟨⟨bl, hb⟩, hm⟩ := hk; exact ⟨⟨bl, (trimM_get _ _ _ _).2 hb⟩, hm⟩
        | inp t i => exact hk
      refine ⟨ρ', he', hl.agree, hl.mem.sub fun k bl hk => (trimM_get _ _ _ _).1 hk, hl.mine.sub (fun k bl hk => (trimM_get _ _ _ _).1 hk), hl.keeps, kin_mono tok _ hl.kinV, fun k bl hk => kinL_mono tok _ (hl.kinM k bl ?_)⟩
      cases k with
      | own k => exact at_own ((trimM_get _ _ _ _).1 (at_own' hk))
      | inp t i => exact hk
    · cases h
  · cases h

/-! ## the executor is sound -/
theorem exec_sound [LawAb A] [LawEq A] (hS : SigOk P S) (hm : P.follows .mixedOrders = true) : ∀ (n : Nat),
    (∀ (cur : FuncId) (p : List Nat) (c : Code) (s t : LS A) (o : Out), exec P S n cur p c s = some (o, t) → codeAt P cur p = c → AllOk t.conds → Ex P S.inp c s o t) ∧
    (∀ (cur : FuncId) (p : List Nat) (b : Code) (s t : LS A) (o : Out), S.lp cur p = none → exec P S n cur p (.loop b) s = some (o, t) → codeAt P cur p = .loop b → AllOk t.conds → ∀ (Own : Dom) (w0 : World) (ρ : Key → Loc) (a : Act) (w : World) (Q : Exit → Act → World → Prop), Rl S.inp Own w0 ρ s a w →
      (∀ ρ' a' w', (∀ k m, okKey s.mem ρ k m → ρ k = ρ' k) → Rl S.inp Own w0 ρ' t a' w' → Q o.toExit a' w') → Code.rounds P b Q n a w)
  | 0 => ⟨fun cur p c s t o h => by simp [exec] at h, fun cur p b s t o _ h => by simp [exec] at h⟩
  | n + 1 => by
    obtain ⟨ih, ihl⟩ := exec_sound hS hm n
    have hcr : CallOk P S.inp (inner P S n) := {
      ent := fun f vs mem r h => by
        unfold inner at h
        split at h
        · exact callN_ent h
        · exact hS.cs.ent f vs mem r h
      grow := fun f vs mem v mem' c h => by
        unfold inner at h
        split at h
        · exact callN_grow (fun c s o t h => exec_grew hS n _ _ _ _ _ _ h) h
        · exact hS.cs.grow f vs mem v mem' c h
      call := fun f vs mem v mem' c h hc Own ρ w ha => by
        unfold inner at h
        split at h
        · exact callN_call (fun s o t h hc => ih f [] _ s t o h rfl hc) h hc ha
        · exact hS.cs.call f vs mem v mem' c h hc Own ρ w ha }
    have loop : ∀ (cur : FuncId) (p : List Nat) (b : Code) (s t : LS A) (o : Out), S.lp cur p = none → exec P S (n + 1) cur p (.loop b) s = some (o, t) → codeAt P cur p = .loop b → AllOk t.conds → ∀ (Own : Dom) (w0 : World) (ρ : Key → Loc) (a : Act) (w : World) (Q : Exit → Act → World → Prop), Rl S.inp Own w0 ρ s a w →
      (∀ ρ' a' w', (∀ k m, okKey s.mem ρ k m → ρ k = ρ' k) → Rl S.inp Own w0 ρ' t a' w' → Q o.toExit a' w') → Code.rounds P b Q (n + 1) a w := by
      intro cur p b s t o hl h hp hc Own w0 ρ a w Q hr hQ
      simp only [exec, hl] at h
      rw [rounds_succ]
      have hp0 : codeAt P cur (0 :: p) = b := by show child 0 (codeAt P cur p) = b; rw [hp]; rfl
      split at h
      · rename_i s' hs
        have h1 := ih _ _ _ _ _ _ hs hp0 ((exec_grew hS n _ _ _ _ _ _ h).allOk hc)
        refine h1.run Own w0 ρ a w _ hr fun ρ' a' w' he hr' => ?_
        show Code.rounds P b Q n a' w'
        exact ihl _ _ _ _ _ _ hl h hp hc Own w0 ρ' a' w' Q hr' fun ρ2 a2 w2 he2 hr2 => hQ ρ2 a2 w2 (fun k m hk => (he k m hk).trans (he2 k m (okKey_to h1.live hk (he k m hk)))) hr2
      · rename_i r hne
        have h1 := ih _ _ _ _ _ _ h hp0 hc
        refine h1.run Own w0 ρ a w _ hr fun ρ' a' w' he hr' => ?_
        have := hQ ρ' a' w' he hr'
        cases o with
        | normal => exact absurd h (hne _)
        | exit id => exact this
        | ret => exact this
    refine ⟨fun cur p c s t o h hp hc => ?_, loop⟩
    have hg := exec_grew hS _ _ _ _ _ _ _ h
    have knw : ∀ {hh : LS A → Option (Out × List (LV A) × Mem A × Cnd)}, S.lp cur p = some hh → known hh s = some (o, t) → Ex P S.inp c s o t := by
      intro hh hl hk
      unfold known at hk
      split at hk
      · rename_i o' tm m cc e
        cases hk
        have hck : condOk cc := hc cc (by simp)
        have := hS.lpC cur p hh s _ _ _ _ hl e hck
        rw [hp] at this
        refine ⟨this.live, fun Own w0 ρ a w Q hr hQ => this.run Own w0 ρ a w Q hr fun ρ' a' w' he hr' => hQ ρ' a' w' he { hr' with }⟩
      · cases hk
    cases c
    case loop b =>
      cases hl : S.lp cur p with
      | some hh =>
        simp only [exec, hl] at h
        exact knw hl h
      | none => exact ⟨hg.live, fun Own w0 ρ a w Q hr hQ => wp_loop_rounds (n + 1) (loop cur p b s t o hl h hp hc Own w0 ρ a w Q hr hQ)⟩
    all_goals simp only [exec] at h
    case skip => cases h; exact Ex.refl (o := .normal) (fun Own w0 ρ a w Q hq => wp_skip hq) s
    case label => cases h; exact Ex.refl (o := .normal) (fun Own w0 ρ a w Q hq => wp_label hq) s
    case region id ops draw =>
      split at h
      · rename_i s' hs
        cases h
        refine ⟨hg.live, fun Own w0 ρ a w Q hr hQ => ?_⟩
        have sh : ∀ {q : Option (LS A)} {u : LS A}, shutR s q = some u → ∃ t, q = some t := by
          intro q u hq
          cases q with
          | none => cases hq
          | some t => exact ⟨t, rfl⟩
        unfold execR at hs
        split at hs
        · obtain ⟨t', ht⟩ := sh hs
          rw [ht] at hs
          obtain ⟨k1, k2, k3⟩ := shutR_ok hs hc
          exact region_sound rfl hS hcr ht k1 hr fun ρ' a' w' he hr' => hQ ρ' a' w' he { hr' with size := by rw [k3]; exact hr'.size, val := by rw [k3]; exact hr'.val, mem := by rw [k2]; exact hr'.mem, mine := by rw [k2]; exact hr'.mine, occT := by rw [k2, k3]; exact hr'.occT, occM := by rw [k2]; exact hr'.occM }
        · split at hs
          · rename_i hd
            obtain ⟨t', ht⟩ := sh hs
            rw [ht] at hs
            obtain ⟨k1, k2, k3⟩ := shutR_ok hs hc
            exact regionD_sound rfl hS hcr hm hd ht k1 hr fun ρ' a' w' he hr' => hQ ρ' a' w' he { hr' with size := by rw [k3]; exact hr'.size, val := by rw [k3]; exact hr'.val, mem := by rw [k2]; exact hr'.mem, mine := by rw [k2]; exact hr'.mine, occT := by rw [k2, k3]; exact hr'.occT, occM := by rw [k2]; exact hr'.occM }
          · cases hs
      · cases h
    case seq x y =>
      have h0 : codeAt P cur (0 :: p) = x := by show child 0 (codeAt P cur p) = x; rw [hp]; rfl
      have h1 : codeAt P cur (1 :: p) = y := by show child 1 (codeAt P cur p) = y; rw [hp]; rfl
      split at h
      · rename_i s' hs; exact (ih _ _ _ _ _ _ hs h0 ((exec_grew hS n _ _ _ _ _ _ h).allOk hc)).seq (ih _ _ _ _ _ _ h h1 hc)
      · rename_i r hne
        refine (ih _ _ _ _ _ _ h h0 hc).seq_out ?_
        rintro rfl
        exact hne _ h
    case cond c x y =>
      have h0 : codeAt P cur (0 :: p) = x := by show child 0 (codeAt P cur p) = x; rw [hp]; rfl
      have h1 : codeAt P cur (1 :: p) = y := by show child 1 (codeAt P cur p) = y; rw [hp]; rfl
      have two : ∀ (b : Bool), ev s.tmps c = some (.bool b) → Ex P S.inp (if b then x else y) s o t → Ex P S.inp (.cond c x y) s o t := by
        intro b he hx
        refine ⟨hg.live, fun Own w0 ρ a w Q hr hQ => ?_⟩
        exact wp_cond (ev_sound hr he).1 (hx.run Own w0 ρ a w Q hr hQ)
      split at h
      · rename_i he; exact two true he (ih _ _ _ _ _ _ h h0 hc)
      · rename_i he; exact two false he (ih _ _ _ _ _ _ h h1 hc)
      · cases h
    case block id b =>
      have h0 : codeAt P cur (0 :: p) = b := by show child 0 (codeAt P cur p) = b; rw [hp]; rfl
      split at h
      · rename_i id' s' hs
        split at h
        · rename_i hb
          cases h
          have := beqN hb
          subst this
          exact (ih _ _ _ _ _ _ hs h0 hc).block
        · rename_i hb
          cases h
          refine (ih _ _ _ _ _ _ hs h0 hc).block_out ?_
          intro e
          cases e
          simp at hb
      · rename_i r hne
        refine (ih _ _ _ _ _ _ h h0 hc).block_out ?_
        rintro rfl
        exact hne _ _ h
    case scope b =>
      have h0 : codeAt P cur (0 :: p) = b := by show child 0 (codeAt P cur p) = b; rw [hp]; rfl
      exact (ih _ _ _ _ _ _ h h0 hc).scope
    case rangeFunc =>
      split at h
      · rename_i hh hl; exact knw hl h
      · cases h
    case exit id => cases h; exact Ex.refl (o := .exit id) (fun Own w0 ρ a w Q hq => wp_exit hq) s
    case ret => cases h; exact Ex.refl (o := .ret) (fun Own w0 ρ a w Q hq => wp_ret hq) s
    all_goals (cases h; done)
end
end Go.Proofs.Ytjhjockdkpgpeaa.En
