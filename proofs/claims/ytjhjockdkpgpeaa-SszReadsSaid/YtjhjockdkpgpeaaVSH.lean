/- DERIVED. Two operations that may change places. -/
import Derived.Test.YtjhjockdkpgpeaaVSG
set_option linter.all false
namespace Go.Proofs.Ytjhjockdkpgpeaa.En
open Go Go.RowKit

section
variable {A : Type} [Ab A] {P : Program}

/-! ## what an operation hangs on -/
theorem mapE_congr {E E' : Operand → Option (LV A)} : ∀ {l : List Operand}, (∀ x ∈ l, E x = E' x) → mapE E l = mapE E' l
  | [], _ => rfl
  | x :: l, h => by simp only [mapE]; rw [h x (by simp), mapE_congr (fun y hy => h y (by simp [hy]))]

theorem bld_congr {pl : Nat → Option (Nat × Nat)} {E E' : Operand → Option (LV A)} : ∀ (parts : List (Nat × Operand)) (us : List (LV A)), (∀ x ∈ parts, E x.2 = E' x.2) → pureR.bld pl E us parts = pureR.bld pl E' us parts
  | [], _, _ => rfl
  | (i, x) :: ps, us, h => by
    simp only [pureR.bld]
    have ih : ∀ us', pureR.bld pl E us' ps = pureR.bld pl E' us' ps := fun us' => bld_congr ps us' (fun y hy => h y (by simp [hy]))
    rw [h (i, x) (by simp)]
    simp only [ih]
theorem laid_congr {z : Nat} {E E' : Operand → Option (LV A)} : ∀ (parts : List (Nat × Operand)) (l : List (List (LV A))), (∀ x ∈ parts, E x.2 = E' x.2) → newR.laid E z l parts = newR.laid E' z l parts
  | [], _, _ => rfl
  | (i, x) :: ps, l, h => by
    simp only [newR.laid]
    have ih : ∀ l', newR.laid E z l' ps = newR.laid E' z l' ps := fun l' => laid_congr ps l' (fun y hy => h y (by simp [hy]))
    rw [h (i, x) (by simp)]
    simp only [ih]
theorem bnds_congr {E E' : Operand → Option (LV A)} {len cap : Nat} {low high max : Option Operand} (hl : ∀ x, low = some x → E x = E' x) (hh : ∀ x, high = some x → E x = E' x) (hm : ∀ x, max = some x → E x = E' x) : bnds E len cap low high max = bnds E' len cap low high max := by
  unfold bnds
  cases low <;> cases high <;> cases max <;> simp_all

theorem pureR_congr {S : Sig A} {rc : Bool} {d : Option Bool} {E E' : Operand → Option (LV A)} {o : Op} (h : ∀ x ∈ o.operands, E x = E' x) : pureR P S rc d E o = pureR P S rc d E' o := by
  cases o <;> simp only [Op.operands] at h <;> simp only [pureR] <;> try rfl
  case move x => rw [h x (by simp)]
  case assign x => rw [h x (by simp)]
  case pick c x y => rw [h c (by simp), h x (by simp), h y (by simp)]
  case binOp op t x y yt => rw [h x (by simp), h y (by simp)]
  case unOp op t x => rw [h x (by simp)]
  case convert s t x => rw [h x (by simp)]
  case nilCheck x => rw [h x (by simp)]
  case makeInterface t x => rw [h x (by simp)]
  case makeFunc f first caps => rw [mapE_congr (l := caps.toList) (fun x hx => h x (by simp at hx ⊢; exact .inr hx))]
  case build t parts =>
    have hb : ∀ x ∈ parts.toList, E x.2 = E' x.2 := fun x hx => h x.2 (by simp; exact ⟨x.1, by simpa using hx⟩)
    simp only [bld_congr _ _ hb]
  case fieldAddr s x f => rw [h x (by simp)]
  case field s x f => rw [h x (by simp)]
  case indexAddr t x i => rw [h x (by simp), h i (by simp)]
  case index t x i => rw [h x (by simp), h i (by simp)]
  case slice t x low high max =>
    rw [h x (by simp)]
    have hb : ∀ n, bnds E n n low high max = bnds E' n n low high max := fun n => bnds_congr (fun y hy => h y (by simp [hy])) (fun y hy => h y (by simp [hy])) (fun y hy => h y (by simp [hy]))
    simp only [hb]
  case extract x i => rw [h x (by simp)]
  case call c =>
    obtain ⟨callee, args, ats⟩ := c
    simp only [Call.operands] at h
    have ha : mapE E args.toList = mapE E' args.toList := mapE_congr (fun x hx => h x (by simp at hx ⊢; exact .inr hx))
    simp only [ha]
    cases callee with
    | value f => rfl
    | builtin b => rfl
    | invoke r m => simp only [h r (by simp)]
theorem lookR_congr {S : Sig A} {rc : Bool} {d : Option Bool} {E E' : Operand → Option (LV A)} {mem : Mem A} {o : Op} (h : ∀ x ∈ o.operands, E x = E' x) : lookR P S rc d E mem o = lookR P S rc d E' mem o := by
  cases o <;> simp only [Op.operands] at h <;> simp only [lookR] <;> try rfl
  case load t x => rw [h x (by simp)]
  case convert s t x => rw [h x (by simp)]
  case call c =>
    obtain ⟨callee, args, ats⟩ := c
    simp only [Call.operands] at h
    have ha : mapE E args.toList = mapE E' args.toList := mapE_congr (fun x hx => h x (by simp at hx ⊢; exact .inr hx))
    rw [ha]
theorem viewR_congr {S : Sig A} {rc : Bool} {E E' : Operand → Option (LV A)} {mem : Mem A} {key z : Nat} {b : Key} {len : Nat} {low high max : Option Operand} (hl : ∀ x, low = some x → E x = E' x) (hh : ∀ x, high = some x → E x = E' x) (hm : ∀ x, max = some x → E x = E' x) :
    viewR S rc E mem key z b len low high max = viewR S rc E' mem key z b len low high max := by
  unfold viewR
  rw [bnds_congr hl hh hm]
theorem newR_congr {S : Sig A} {rc : Bool} {E E' : Operand → Option (LV A)} {mem : Mem A} {key : Nat} {o : Op} (h : ∀ x ∈ o.operands, E x = E' x) : newR P S rc E mem key o = newR P S rc E' mem key o := by
  cases o <;> simp only [Op.operands] at h <;> simp only [newR] <;> try rfl
  case box t x => rw [h x (by simp)]
  case makeSlice t x y => rw [h x (by simp), h y (by simp)]
  case buildSlice t len parts =>
    have hb : ∀ x ∈ parts.toList, E x.2 = E' x.2 := fun x hx => h x.2 (by simp; exact ⟨x.1, by simpa using hx⟩)
    simp only [laid_congr _ _ hb]
  case slice t x low high max =>
    rw [h x (by simp)]
    have h1 : ∀ y, low = some y → E y = E' y := fun y hy => h y (by simp [hy])
    have h2 : ∀ y, high = some y → E y = E' y := fun y hy => h y (by simp [hy])
    have h3 : ∀ y, max = some y → E y = E' y := fun y hy => h y (by simp [hy])
    have hb : ∀ n m, bnds E n m low high max = bnds E' n m low high max := fun n m => bnds_congr h1 h2 h3
    have hv : ∀ z b len, viewR S rc E mem key z b len low high max = viewR S rc E' mem key z b len low high max := fun z b len => viewR_congr h1 h2 h3
    simp only [hb, hv]
theorem wrR_congr {S : Sig A} {cr : CallR A} {rc : Bool} {E E' : Operand → Option (LV A)} {mem : Mem A} {key r : Nat} {o : Op} (h : ∀ x ∈ o.operands, E x = E' x) : wrR P S cr rc E mem key r o = wrR P S cr rc E' mem key r o := by
  cases o <;> simp only [Op.operands] at h <;> simp only [wrR] <;> try rfl
  case store t x y => rw [h x (by simp), h y (by simp)]
  case slice t x low high max =>
    rw [h x (by simp)]
    have h1 : ∀ y, low = some y → E y = E' y := fun y hy => h y (by simp [hy])
    have h2 : ∀ y, high = some y → E y = E' y := fun y hy => h y (by simp [hy])
    have h3 : ∀ y, max = some y → E y = E' y := fun y hy => h y (by simp [hy])
    have hv : ∀ z b len, viewR S rc E mem key z b len low high max = viewR S rc E' mem key z b len low high max := fun z b len => viewR_congr h1 h2 h3
    simp only [hv]
  case call c =>
    obtain ⟨callee, args, ats⟩ := c
    simp only [Call.operands] at h
    have ha : mapE E args.toList = mapE E' args.toList := mapE_congr (fun x hx => h x (by simp at hx ⊢; exact .inr hx))
    simp only [ha]
    cases callee with
    | value f => simp only [h f (by simp)]
    | builtin b => cases b <;> rfl
    | invoke r m => rfl

/-! ## a step as what it does -/
inductive MemEff (A : Type) where
  | keep
  | put (k : Nat) (b : Blk A)
  | all (m : Mem A)
theorem pureL_congr {S : Sig A} {rc : Bool} {d : Option Bool} {E E' : Operand → Option (LV A)} {o : Op} (h : ∀ x ∈ o.operands, E x = E' x) : pureL P S rc d E o = pureL P S rc d E' o := by
  unfold pureL
  rw [pureR_congr h, lookR_congr h]
def MemEff.on (m : Mem A) : MemEff A → Mem A
  | .keep => m
  | .put k b => m.set k (some b)
  | .all m' => m'
def effB (key : Nat) : Option (Blk A) → MemEff A
  | none => .keep
  | some b => .put key b
theorem effB_on (m : Mem A) (key : Nat) (b : Option (Blk A)) : (effB key b).on m = putB m key b := by cases b <;> rfl
def setC (cs : List Cnd) (ck : Nat) : Option Cnd → List Cnd
  | none => cs
  | some c => cs.set ck c

def eff (P : Program) (S : Sig A) (cr : CallR A) (x : Ctl) (ops : List Oper) (o : Oper) (tmps : List (LV A)) (mem : Mem A) : Option (LV A × MemEff A × Option Cnd) :=
  match want ops tmps o with
  | some false => some (.undef, .keep, none)
  | none => none
  | some true => match kind P S.how x.fz o.op with
    | .pure => match pureL P S x.rc x.d (ev tmps) o.op with
      | some (v, c) => some (v, .keep, some c)
      | none => none
    | .look => match lookR P S x.rc x.d (ev tmps) (mem.take x.base) o.op with
      | some (v, c) => some (v, .keep, some c)
      | none => none
    | .new => match newR P S x.rc (ev tmps) (mem.take x.base) x.key o.op with
      | some (v, b, c) => match b.isSome && Nat.beq x.r 0 with
        | false => some (v, effB x.key b, some c)
        | true => none
      | none => none
    | .wr => match wrR P S cr x.rc (ev tmps) mem x.key x.r o.op with
      | some (v, m, c) => some (v, .all m, some c)
      | none => none

theorem stepG_eff {S : Sig A} {cr : CallR A} {x : Ctl} {ops : List Oper} {o : Oper} {s : LS A} :
    stepG P S cr x ops o s = match eff P S cr x ops o s.tmps s.mem with
      | some (v, me, c) => some ⟨putT s.tmps o.dst v, me.on s.mem, setC s.conds x.ck c⟩
      | none => none := by
  unfold stepG eff
  split
  · rename_i hw
    simp only [hw]
    unfold step
    simp only
    split
    · rename_i hk; simp only [hk]; split <;> rename_i hp <;> simp only [hp, MemEff.on, setC]
    · rename_i hk; simp only [hk]; split <;> rename_i hp <;> simp only [hp, MemEff.on, setC]
    · rename_i hk; simp only [hk]; split <;> rename_i hp <;> simp only [hp]
      split <;> rename_i hb <;> simp only [hb, effB_on, setC]
    · rename_i hk; simp only [hk]; split <;> rename_i hp <;> simp only [hp, MemEff.on, setC]
  · rename_i hw
    simp only [hw, MemEff.on, setC]
  · rename_i hw
    simp only [hw]

/-- The temporaries that an operation looks at stand alike. -/
def Alike (ops : Array Oper) (o : Oper) (l m : List (LV A)) : Prop := ∀ t ∈ o.looksAt ops, l[t]? = m[t]?

theorem ev_alike {ops : Array Oper} {o : Oper} {l m : List (LV A)} (h : Alike ops o l m) : ∀ x ∈ o.op.operands, ev l x = ev m x := by
  intro x hx
  cases x with
  | tmp t =>
    have : l[t]? = m[t]? := h t (by
      simp only [Oper.looksAt, List.mem_append, List.mem_filterMap]
      exact .inl ⟨.tmp t, by simpa using hx, rfl⟩)
    simp only [ev, getT, this]
  | const v => rfl
  | global g => rfl
  | func f => rfl
theorem want_alike {ops : Array Oper} {o : Oper} {l m : List (LV A)} (h : Alike ops o l m) : want ops.toList l o = want ops.toList m o := by
  unfold want
  split
  · rfl
  · rename_i j w hg
    split
    · rename_i oj hj
      split
      · rename_i t ht
        have : l[t]? = m[t]? := h t (by
          have hj' : ops[j]? = some oj := by simpa using hj
          simp only [Oper.looksAt, hg, List.mem_append]
          right
          simp [hj', ht])
        rw [this]
      · rfl
    · rfl

theorem eff_alike {S : Sig A} {cr : CallR A} {x : Ctl} {ops : Array Oper} {o : Oper} {l m : List (LV A)} {mem mem' : Mem A} (h : Alike ops o l m)
    (hp : kind P S.how x.fz o.op = .wr → mem = mem') (hq : kind P S.how x.fz o.op ≠ .pure → mem.take x.base = mem'.take x.base) :
    eff P S cr x ops.toList o l mem = eff P S cr x ops.toList o m mem' := by
  have he := ev_alike h
  unfold eff
  rw [want_alike h, pureL_congr he, newR_congr he, lookR_congr he, wrR_congr he]
  split
  · rfl
  · rfl
  · cases hk : kind P S.how x.fz o.op with
    | pure => rfl
    | look => simp only; rw [hq (by rw [hk]; simp)]
    | new => simp only; rw [hq (by rw [hk]; simp)]
    | wr => simp only; rw [hp hk]

theorem putT_comm (l : List (LV A)) {x y : Option Nat} (v u : LV A) (h : ∀ d, x = some d → y ≠ some d) : putT (putT l x v) y u = putT (putT l y u) x v := by
  cases x with
  | none => rfl
  | some d =>
    cases y with
    | none => rfl
    | some e =>
      have hne : d ≠ e := fun he => h d rfl (he ▸ rfl)
      simp only [putT]
      exact List.set_comm _ _ hne
theorem setC_comm (cs : List Cnd) {i j : Nat} (c e : Option Cnd) (h : i ≠ j) : setC (setC cs i c) j e = setC (setC cs j e) i c := by
  cases c <;> cases e <;> simp only [setC]
  exact List.set_comm _ _ h
theorem putT_alike {ops : Array Oper} {o : Oper} {l : List (LV A)} {x : Option Nat} {v : LV A} (h : ∀ d, x = some d → d ∉ o.looksAt ops) : Alike ops o (putT l x v) l := by
  intro t ht
  cases x with
  | none => rfl
  | some d =>
    have : d ≠ t := fun e => h d rfl (e ▸ ht)
    simp only [putT]
    exact List.getElem?_set_ne this

theorem eff_mem {S : Sig A} {cr : CallR A} {x : Ctl} {ops : List Oper} {o : Oper} {l : List (LV A)} {mem : Mem A} {v : LV A} {me : MemEff A} {c : Option Cnd} (h : eff P S cr x ops o l mem = some (v, me, c)) :
    (kind P S.how x.fz o.op ≠ .wr → me = .keep ∨ (0 < x.r ∧ ∃ b, me = .put x.key b)) ∧ (kind P S.how x.fz o.op = .pure → me = .keep) := by
  unfold eff at h
  split at h
  · cases h; exact ⟨fun _ => .inl rfl, fun _ => rfl⟩
  · cases h
  · split at h
    · split at h
      · cases h; exact ⟨fun _ => .inl rfl, fun _ => rfl⟩
      · cases h
    · split at h
      · cases h; exact ⟨fun _ => .inl rfl, fun _ => rfl⟩
      · cases h
    · rename_i hk
      split at h
      · rename_i v b c hp
        split at h
        · rename_i hb
          cases h
          refine ⟨fun _ => ?_, fun e => by rw [hk] at e; cases e⟩
          cases b with
          | none => exact .inl rfl
          | some b =>
            right
            refine ⟨?_, b, rfl⟩
            rcases Nat.eq_zero_or_pos x.r with h' | h'
            · rw [h'] at hb; simp [Nat.beq_refl] at hb
            · exact h'
        · cases h
      · cases h
    · rename_i hk
      split at h
      · cases h; exact ⟨fun e => absurd hk e, fun e => by rw [hk] at e; cases e⟩
      · cases h

/-- Two independent steps change places. -/
theorem stepG_comm {S : Sig A} {cr : CallR A} {xi xj : Ctl} {ops : Array Oper} {fz : Fm} {n0 : Nat} {x y : Oper} {s s1 t : LS A} (hi : indep P S.how fz ops x y = true) (hfi : xi.fz = fz) (hfj : xj.fz = fz) (hbi : xi.base = n0) (hbj : xj.base = n0) (hki : n0 ≤ xi.key) (hkj : n0 ≤ xj.key)
    (hk : 0 < xi.r → 0 < xj.r → xi.key ≠ xj.key) (hc : xi.ck ≠ xj.ck)
    (h1 : stepG P S cr xi ops.toList x s = some s1) (h2 : stepG P S cr xj ops.toList y s1 = some t) :
    ∃ s2, stepG P S cr xj ops.toList y s = some s2 ∧ stepG P S cr xi ops.toList x s2 = some t := by
  rw [stepG_eff] at h1 h2
  split at h1
  rotate_left
  · cases h1
  rename_i vi mi cni hei
  cases h1
  split at h2
  rotate_left
  · cases h2
  rename_i vj mj cnj hej
  cases h2
  simp only at hej
  simp only [indep, Bool.and_eq_true] at hi
  obtain ⟨hap, hkd⟩ := hi
  obtain ⟨a1, a2, a3⟩ := Oper.apart_spec hap
  have hmi := (eff_mem hei).1
  have hmj := (eff_mem hej).1
  have hpi := (eff_mem hei).2
  have hpj := (eff_mem hej).2
  rw [hfi] at hmi hpi
  rw [hfj] at hmj hpj
  -- the memory that the other leaves
  have tk : ∀ (m : Mem A) (k : Nat) (b : Blk A), n0 ≤ k → (m.set k (some b)).take n0 = m.take n0 := by
    intro m k b hk
    rw [List.take_set, List.set_eq_of_length_le (by simp; omega)]
  have hai : Alike ops y (putT s.tmps x.dst vi) s.tmps := putT_alike a1
  have haj : Alike ops x (putT s.tmps y.dst vj) s.tmps := putT_alike a3
  by_cases hwx : kind P S.how fz x.op = .wr
  · -- x writes, y touches no memory
    have hy : kind P S.how fz y.op = .pure := by
      rw [hwx] at hkd
      cases hk : kind P S.how fz y.op <;> rw [hk] at hkd <;> simp_all
    have ej : eff P S cr xj ops.toList y s.tmps s.mem = some (vj, mj, cnj) := by
      rw [← hej]
      exact (eff_alike hai (by rw [hfj, hy]; simp) (by rw [hfj, hy]; simp)).symm
    have hmj0 := hpj hy
    subst hmj0
    refine ⟨⟨putT s.tmps y.dst vj, s.mem, setC s.conds xj.ck cnj⟩, by rw [stepG_eff, ej]; rfl, ?_⟩
    have ei : eff P S cr xi ops.toList x (putT s.tmps y.dst vj) s.mem = some (vi, mi, cni) := by
      rw [← hei]; exact eff_alike haj (fun _ => rfl) (fun _ => rfl)
    rw [stepG_eff, ei]
    simp only [MemEff.on]
    rw [putT_comm s.tmps vj vi (fun d hd => fun e => a2 d e hd), setC_comm s.conds cnj cni (Ne.symm hc)]
  · by_cases hwy : kind P S.how fz y.op = .wr
    · -- y writes, x touches no memory
      have hx : kind P S.how fz x.op = .pure := by
        rw [hwy] at hkd
        cases hk : kind P S.how fz x.op <;> rw [hk] at hkd <;> simp_all
      have hmi0 := hpi hx
      subst hmi0
      simp only [MemEff.on] at hej ⊢
      have ej : eff P S cr xj ops.toList y s.tmps s.mem = some (vj, mj, cnj) := by
        rw [← hej]; exact (eff_alike hai (fun _ => rfl) (fun _ => rfl)).symm
      refine ⟨⟨putT s.tmps y.dst vj, mj.on s.mem, setC s.conds xj.ck cnj⟩, by rw [stepG_eff, ej], ?_⟩
      have ei : eff P S cr xi ops.toList x (putT s.tmps y.dst vj) (mj.on s.mem) = some (vi, .keep, cni) := by
        rw [← hei]; exact eff_alike haj (by rw [hfi, hx]; simp) (by rw [hfi, hx]; simp)
      rw [stepG_eff, ei]
      simp only [MemEff.on]
      rw [putT_comm s.tmps vj vi (fun d hd => fun e => a2 d e hd), setC_comm s.conds cnj cni (Ne.symm hc)]
    · -- neither writes
      have hmi' := hmi hwx
      have hmj' := hmj hwy
      have t1 : (mi.on s.mem).take n0 = s.mem.take n0 := by
        rcases hmi' with rfl | ⟨_, b, rfl⟩
        · rfl
        · exact tk _ _ _ hki
      have t2 : (mj.on s.mem).take n0 = s.mem.take n0 := by
        rcases hmj' with rfl | ⟨_, b, rfl⟩
        · rfl
        · exact tk _ _ _ hkj
      have ej : eff P S cr xj ops.toList y s.tmps s.mem = some (vj, mj, cnj) := by
        rw [← hej]; exact (eff_alike hai (fun e => absurd (hfj ▸ e) hwy) (fun _ => by rw [hbj]; exact t1)).symm
      refine ⟨⟨putT s.tmps y.dst vj, mj.on s.mem, setC s.conds xj.ck cnj⟩, by rw [stepG_eff, ej], ?_⟩
      have ei : eff P S cr xi ops.toList x (putT s.tmps y.dst vj) (mj.on s.mem) = some (vi, mi, cni) := by
        rw [← hei]; exact eff_alike haj (fun e => absurd (hfi ▸ e) hwx) (fun _ => by rw [hbi]; exact t2)
      rw [stepG_eff, ei]
      simp only
      rw [putT_comm s.tmps vj vi (fun d hd => fun e => a2 d e hd), setC_comm s.conds cnj cni (Ne.symm hc)]
      congr 2
      rcases hmi' with rfl | ⟨r1, b, rfl⟩ <;> rcases hmj' with rfl | ⟨r2, b', rfl⟩ <;> simp only [MemEff.on]
      exact List.set_comm _ _ (Ne.symm (hk r1 r2))
end
end Go.Proofs.Ytjhjockdkpgpeaa.En
