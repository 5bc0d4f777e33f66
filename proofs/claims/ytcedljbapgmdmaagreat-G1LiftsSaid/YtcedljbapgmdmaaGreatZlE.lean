/- DERIVED. Texts laid together: FY FZ HA HB HC HD HE HF HG HH HI HJ HK HL HM HN HO HR HU HP HQ HV HW JA JB JC HS HT JD JE JI JJ JM JN. -/
import Derived.Test.YtcedljbapgmdmaaGreatZlD
import Derived.IntWalk
/- DERIVED. The field's written numbers; the first group's points as contracts. -/
set_option linter.all false
namespace Go.Proofs.YtcedljbapgmdmaaGreat.En
open Go Go.RowKit

set_option maxRecDepth 100000 in
theorem entSquare : ∀ args w, (callFunc 121 args).run Tryz.prog w = .ok (.enter 121 args) w := ent_of (f := 121) (P := Tryz.prog) rfl rfl rfl
--@run sqrV := callF Tryz.prog (SGa noD []) 60 121 [] [] => vTwo
--@[
set_option maxRecDepth 100000 in
def sqrV_G  : Prop := true = true
set_option maxRecDepth 100000 in
theorem sqrV  : (callF Tryz.prog (SGa noD []) 60 121 [] []).map (fun r => (r.1, r.2.2)) = some (vTwo, some (sqrV_G )) := by kernel_rfl
set_option maxRecDepth 100000 in
theorem sqrV_ok  : condOk (some (sqrV_G )) := by unfold sqrV_G condOk; and_intros <;> rfl
--@]
noncomputable def conSqC : ConP Tryz.prog Fe := mk0 121 entSquare vTwo (.of (SGa_ok _ _) rfl sqrV sqrV_ok rfl rfl)
set_option maxRecDepth 100000 in
theorem entMade : ∀ args w, (callFunc 92 args).run Tryz.prog w = .ok (.enter 92 args) w := ent_of (f := 92) (P := Tryz.prog) rfl rfl rfl
--@run madV (a : Fe) := callF Tryz.prog (SGa noD [conSqC]) 60 92 [bF [a]] [] => .agg [.abs (fmul a ftwo)]
--@[
set_option maxRecDepth 100000 in
def madV_G (a : Fe) : Prop := true = true
set_option maxRecDepth 100000 in
theorem madV (a : Fe) : (callF Tryz.prog (SGa noD [conSqC]) 60 92 [bF [a]] []).map (fun r => (r.1, r.2.2)) = some (.agg [.abs (fmul a ftwo)], some (madV_G a)) := by kernel_rfl
set_option maxRecDepth 100000 in
theorem madV_ok (a : Fe) : condOk (some (madV_G a)) := by unfold madV_G condOk; and_intros <;> rfl
--@]
noncomputable def conMade : ConP Tryz.prog Fe := mkP 92 entMade [1] (fun a => .agg [.abs (fmul a ftwo)]) fun a => .of (SGa_ok _ _) rfl (madV a) (madV_ok a) rfl rfl
set_option maxRecDepth 100000 in
theorem entNumber : ∀ args w, (callFunc 127 args).run Tryz.prog w = .ok (.enter 127 args) w := ent_of (f := 127) (P := Tryz.prog) rfl rfl rfl
--@run nmbV (a : Fe) := callF Tryz.prog (SGa noD []) 60 127 [bF [a]] [] => .agg [.abs (fmul a frone)]
--@[
set_option maxRecDepth 100000 in
def nmbV_G (a : Fe) : Prop := true = true
set_option maxRecDepth 100000 in
theorem nmbV (a : Fe) : (callF Tryz.prog (SGa noD []) 60 127 [bF [a]] []).map (fun r => (r.1, r.2.2)) = some (.agg [.abs (fmul a frone)], some (nmbV_G a)) := by kernel_rfl
set_option maxRecDepth 100000 in
theorem nmbV_ok (a : Fe) : condOk (some (nmbV_G a)) := by unfold nmbV_G condOk; and_intros <;> rfl
--@]
noncomputable def conNumber : ConP Tryz.prog Fe := mkP 127 entNumber [1] (fun a => .agg [.abs (fmul a frone)]) fun a => .of (SGa_ok _ _) rfl (nmbV a) (nmbV_ok a) rfl rfl
/-! ## small numbers -/
def fOne : Fe := fmul frone ftwo
--@run of1V := callF Tryz.prog (SGa noD [conMade]) 60 79 [.int .u64 1] [] => .agg [.abs fOne]
--@[
set_option maxRecDepth 100000 in
def of1V_G  : Prop := true = true
set_option maxRecDepth 100000 in
theorem of1V  : (callF Tryz.prog (SGa noD [conMade]) 60 79 [.int .u64 1] []).map (fun r => (r.1, r.2.2)) = some (.agg [.abs fOne], some (of1V_G )) := by kernel_rfl
set_option maxRecDepth 100000 in
theorem of1V_ok  : condOk (some (of1V_G )) := by unfold of1V_G condOk; and_intros <;> rfl
--@]
--@run of4V := callF Tryz.prog (SGa noD [conMade]) 60 79 [.int .u64 4] [] => .agg [.abs four]
--@[
set_option maxRecDepth 100000 in
def of4V_G  : Prop := true = true
set_option maxRecDepth 100000 in
theorem of4V  : (callF Tryz.prog (SGa noD [conMade]) 60 79 [.int .u64 4] []).map (fun r => (r.1, r.2.2)) = some (.agg [.abs four], some (of4V_G )) := by kernel_rfl
set_option maxRecDepth 100000 in
theorem of4V_ok  : condOk (some (of4V_G )) := by unfold of4V_G condOk; and_intros <;> rfl
--@]
set_option maxRecDepth 100000 in
theorem entOf : ∀ args w, (callFunc 79 args).run Tryz.prog w = .ok (.enter 79 args) w := ent_of (f := 79) (P := Tryz.prog) rfl rfl rfl
def ofFn : List (LV Fe) → Option (LV Fe)
  | [.int .u64 n] => match decide (n = 1) with
    | true => some (.agg [.abs fOne])
    | false => match decide (n = 4) with
      | true => some (.agg [.abs four])
      | false => none
  | _ => none
theorem ofFn_runs {vs : List (LV Fe)} {v : LV Fe} (h : ofFn vs = some v) : Runs 79 vs v := by
  unfold ofFn at h
  split at h
  · split at h
    · rename_i hn
      cases h
      rw [of_decide_eq_true hn]
      exact .of (SGa_ok _ _) rfl of1V of1V_ok rfl rfl
    · split at h
      · rename_i hn
        cases h
        rw [of_decide_eq_true hn]
        exact .of (SGa_ok _ _) rfl of4V of4V_ok rfl rfl
      · cases h
  · cases h
noncomputable def mkFn (f : FuncId) (ent : ∀ args w, (callFunc f args).run Tryz.prog w = .ok (.enter f args) w) (fn : List (LV Fe) → Option (LV Fe)) (run : ∀ {vs v}, fn vs = some v → Runs f vs v) : ConP Tryz.prog Fe where
  f := f
  fn := fn
  ent := ent
  kin vs v h p := pv_kin p _ (run h).plain
  call vs v h ρ w := (run h).run ρ w
noncomputable def conOf : ConP Tryz.prog Fe := mkFn 79 entOf ofFn ofFn_runs
/-! ## written numbers -/
/-- What a call of one string tells. -/
structure Calls2 (f : FuncId) (args : List (LV Fe)) (v : LV Fe) : Prop where
  plain : plainB v = true
  run : ∀ (ρ : Key → Loc) (w : World), Calls Tryz.prog f (trs ρ args).toArray w fun e w' => e = .returned (LV.tr ρ v) ∧ Below w.heap.size w w'
theorem Calls2.of {f : FuncId} {n : Nat} {s : ByteArray} {S : Sig Fe} (hS : SigOk Tryz.prog S) (hI : S.inp = noIF) {a : Fe} {c : Cnd} (h : (callF Tryz.prog S n f [.str s] []).map (fun r => (r.1, r.2.2)) = some (.agg [.abs a], c)) (hc : condOk c) : Calls2 f [.str s] (.agg [.abs a]) :=
  ⟨rfl, fun ρ w => plain_callF hS hI h hc (fun _ _ => rfl) ⟨trivial, trivial⟩ (fun _ _ => rfl) ρ w⟩
def sGx : List UInt8 := [49, 55, 102, 49, 100, 51, 97, 55, 51, 49, 57, 55, 100, 55, 57, 52, 50, 54, 57, 53, 54, 51, 56, 99, 52, 102, 97, 57, 97, 99, 48, 102, 99, 51, 54, 56, 56, 99, 52, 102, 57, 55, 55, 52, 98, 57, 48, 53, 97, 49, 52, 101, 51, 97, 51, 102, 49, 55, 49, 98, 97, 99, 53, 56, 54, 99, 53, 53, 101, 56, 51, 102, 102, 57, 55, 97, 49, 97, 101, 102, 102, 98, 51, 97, 102, 48, 48, 97, 100, 98, 50, 50, 99, 54, 98, 98]
def sGy : List UInt8 := [56, 98, 51, 102, 52, 56, 49, 101, 51, 97, 97, 97, 48, 102, 49, 97, 48, 57, 101, 51, 48, 101, 100, 55, 52, 49, 100, 56, 97, 101, 52, 102, 99, 102, 53, 101, 48, 57, 53, 100, 53, 100, 48, 48, 97, 102, 54, 48, 48, 100, 98, 49, 56, 99, 98, 50, 99, 48, 52, 98, 51, 101, 100, 100, 48, 51, 99, 99, 55, 52, 52, 97, 50, 56, 56, 56, 97, 101, 52, 48, 99, 97, 97, 50, 51, 50, 57, 52, 54, 99, 53, 101, 55, 101, 49]
def sThird : List UInt8 := [53, 102, 49, 57, 54, 55, 50, 102, 100, 102, 55, 54, 99, 101, 53, 49, 98, 97, 54, 57, 99, 54, 48, 55, 54, 97, 48, 102, 55, 55, 101, 97, 100, 100, 98, 51, 97, 57, 51, 98, 101, 54, 102, 56, 57, 54, 56, 56, 100, 101, 49, 55, 100, 56, 49, 51, 54, 50, 48, 97, 48, 48, 48, 50, 50, 101, 48, 49, 102, 102, 102, 102, 102, 102, 102, 101, 102, 102, 102, 101]
def fGx : Fe := fmul (ofSix 18103045581585958587 7806400890582735599 11623291730934869080 14080658508445169925 2780237799254240271 1725392847304644500) ftwo
def fGy : Fe := fmul (ofSix 912580534683953121 15005087156090211044 61670280795567085 18227722000993880822 11573741888802228964 627113611842199793) ftwo
def fThird : Fe := fmul (ofSix 3315212275698040830 16003497378645147650 15975298377956497032 13432485098755684330 6852621763331149393 0) ftwo
--@run txxV := callF Tryz.prog (SGa noD [conMade]) 300 45 [.str ⟨⟨sGx⟩⟩] [] => .agg [.abs fGx]
--@[
set_option maxRecDepth 100000 in
def txxV_G  : Prop := (true = true ∧ true = true ∧ true = true ∧ true = true ∧ true = true ∧ true = true) ∧ (true = true ∧ true = true ∧ true = true ∧ true = true ∧ true = true ∧ true = true) ∧ (true = true ∧ true = true ∧ true = true ∧ true = true ∧ true = true ∧ true = true) ∧ (true = true ∧ true = true ∧ true = true ∧ true = true ∧ true = true ∧ true = true) ∧ (true = true ∧ true = true ∧ true = true ∧ true = true ∧ true = true ∧ true = true) ∧ (true = true ∧ true = true ∧ true = true ∧ true = true ∧ true = true ∧ true = true) ∧ (true = true ∧ true = true ∧ true = true ∧ true = true ∧ true = true ∧ true = true) ∧ (true = true ∧ true = true ∧ true = true ∧ true = true ∧ true = true ∧ true = true) ∧ (true = true ∧ true = true ∧ true = true ∧ true = true ∧ true = true ∧ true = true) ∧ (true = true ∧ true = true ∧ true = true ∧ true = true ∧ true = true ∧ true = true) ∧ (true = true ∧ true = true ∧ true = true ∧ true = true ∧ true = true ∧ true = true) ∧ (true = true ∧ true = true ∧ true = true ∧ true = true ∧ true = true ∧ true = true) ∧ (true = true ∧ true = true ∧ true = true ∧ true = true ∧ true = true ∧ true = true) ∧ (true = true ∧ true = true ∧ true = true ∧ true = true ∧ true = true ∧ true = true) ∧ (true = true ∧ true = true ∧ true = true ∧ true = true ∧ true = true ∧ true = true) ∧ (true = true ∧ true = true ∧ true = true ∧ true = true ∧ true = true ∧ true = true) ∧ (true = true ∧ true = true ∧ true = true ∧ true = true ∧ true = true ∧ true = true) ∧ (true = true ∧ true = true ∧ true = true ∧ true = true ∧ true = true ∧ true = true) ∧ (true = true ∧ true = true ∧ true = true ∧ true = true ∧ true = true ∧ true = true) ∧ (true = true ∧ true = true ∧ true = true ∧ true = true ∧ true = true ∧ true = true) ∧ (true = true ∧ true = true ∧ true = true ∧ true = true ∧ true = true ∧ true = true) ∧ (true = true ∧ true = true ∧ true = true ∧ true = true ∧ true = true ∧ true = true) ∧ (true = true ∧ true = true ∧ true = true ∧ true = true ∧ true = true ∧ true = true) ∧ (true = true ∧ true = true ∧ true = true ∧ true = true ∧ true = true ∧ true = true) ∧ (true = true ∧ true = true ∧ true = true ∧ true = true ∧ true = true ∧ true = true) ∧ (true = true ∧ true = true ∧ true = true ∧ true = true ∧ true = true ∧ true = true) ∧ (true = true ∧ true = true ∧ true = true ∧ true = true ∧ true = true ∧ true = true) ∧ (true = true ∧ true = true ∧ true = true ∧ true = true ∧ true = true ∧ true = true) ∧ (true = true ∧ true = true ∧ true = true ∧ true = true ∧ true = true ∧ true = true) ∧ (true = true ∧ true = true ∧ true = true ∧ true = true ∧ true = true ∧ true = true) ∧ (true = true ∧ true = true ∧ true = true ∧ true = true ∧ true = true ∧ true = true) ∧ (true = true ∧ true = true ∧ true = true ∧ true = true ∧ true = true ∧ true = true) ∧ (true = true ∧ true = true ∧ true = true ∧ true = true ∧ true = true ∧ true = true) ∧ (true = true ∧ true = true ∧ true = true ∧ true = true ∧ true = true ∧ true = true) ∧ (true = true ∧ true = true ∧ true = true ∧ true = true ∧ true = true ∧ true = true) ∧ (true = true ∧ true = true ∧ true = true ∧ true = true ∧ true = true ∧ true = true) ∧ (true = true ∧ true = true ∧ true = true ∧ true = true ∧ true = true ∧ true = true) ∧ (true = true ∧ true = true ∧ true = true ∧ true = true ∧ true = true ∧ true = true) ∧ (true = true ∧ true = true ∧ true = true ∧ true = true ∧ true = true ∧ true = true) ∧ (true = true ∧ true = true ∧ true = true ∧ true = true ∧ true = true ∧ true = true) ∧ (true = true ∧ true = true ∧ true = true ∧ true = true ∧ true = true ∧ true = true) ∧ (true = true ∧ true = true ∧ true = true ∧ true = true ∧ true = true ∧ true = true) ∧ (true = true ∧ true = true ∧ true = true ∧ true = true ∧ true = true ∧ true = true) ∧ (true = true ∧ true = true ∧ true = true ∧ true = true ∧ true = true ∧ true = true) ∧ (true = true ∧ true = true ∧ true = true ∧ true = true ∧ true = true ∧ true = true) ∧ (true = true ∧ true = true ∧ true = true ∧ true = true ∧ true = true ∧ true = true) ∧ (true = true ∧ true = true ∧ true = true ∧ true = true ∧ true = true ∧ true = true) ∧ (true = true ∧ true = true ∧ true = true ∧ true = true ∧ true = true ∧ true = true) ∧ (true = true ∧ true = true ∧ true = true ∧ true = true ∧ true = true ∧ true = true) ∧ (true = true ∧ true = true ∧ true = true ∧ true = true ∧ true = true ∧ true = true) ∧ (true = true ∧ true = true ∧ true = true ∧ true = true ∧ true = true ∧ true = true) ∧ (true = true ∧ true = true ∧ true = true ∧ true = true ∧ true = true ∧ true = true) ∧ (true = true ∧ true = true ∧ true = true ∧ true = true ∧ true = true ∧ true = true) ∧ (true = true ∧ true = true ∧ true = true ∧ true = true ∧ true = true ∧ true = true) ∧ (true = true ∧ true = true ∧ true = true ∧ true = true ∧ true = true ∧ true = true) ∧ (true = true ∧ true = true ∧ true = true ∧ true = true ∧ true = true ∧ true = true) ∧ (true = true ∧ true = true ∧ true = true ∧ true = true ∧ true = true ∧ true = true) ∧ (true = true ∧ true = true ∧ true = true ∧ true = true ∧ true = true ∧ true = true) ∧ (true = true ∧ true = true ∧ true = true ∧ true = true ∧ true = true ∧ true = true) ∧ (true = true ∧ true = true ∧ true = true ∧ true = true ∧ true = true ∧ true = true) ∧ (true = true ∧ true = true ∧ true = true ∧ true = true ∧ true = true ∧ true = true) ∧ (true = true ∧ true = true ∧ true = true ∧ true = true ∧ true = true ∧ true = true) ∧ (true = true ∧ true = true ∧ true = true ∧ true = true ∧ true = true ∧ true = true) ∧ (true = true ∧ true = true ∧ true = true ∧ true = true ∧ true = true ∧ true = true) ∧ (true = true ∧ true = true ∧ true = true ∧ true = true ∧ true = true ∧ true = true) ∧ (true = true ∧ true = true ∧ true = true ∧ true = true ∧ true = true ∧ true = true) ∧ (true = true ∧ true = true ∧ true = true ∧ true = true ∧ true = true ∧ true = true) ∧ (true = true ∧ true = true ∧ true = true ∧ true = true ∧ true = true ∧ true = true) ∧ (true = true ∧ true = true ∧ true = true ∧ true = true ∧ true = true ∧ true = true) ∧ (true = true ∧ true = true ∧ true = true ∧ true = true ∧ true = true ∧ true = true) ∧ (true = true ∧ true = true ∧ true = true ∧ true = true ∧ true = true ∧ true = true) ∧ (true = true ∧ true = true ∧ true = true ∧ true = true ∧ true = true ∧ true = true) ∧ (true = true ∧ true = true ∧ true = true ∧ true = true ∧ true = true ∧ true = true) ∧ (true = true ∧ true = true ∧ true = true ∧ true = true ∧ true = true ∧ true = true) ∧ (true = true ∧ true = true ∧ true = true ∧ true = true ∧ true = true ∧ true = true) ∧ (true = true ∧ true = true ∧ true = true ∧ true = true ∧ true = true ∧ true = true) ∧ (true = true ∧ true = true ∧ true = true ∧ true = true ∧ true = true ∧ true = true) ∧ (true = true ∧ true = true ∧ true = true ∧ true = true ∧ true = true ∧ true = true) ∧ (true = true ∧ true = true ∧ true = true ∧ true = true ∧ true = true ∧ true = true) ∧ (true = true ∧ true = true ∧ true = true ∧ true = true ∧ true = true ∧ true = true) ∧ (true = true ∧ true = true ∧ true = true ∧ true = true ∧ true = true ∧ true = true) ∧ (true = true ∧ true = true ∧ true = true ∧ true = true ∧ true = true ∧ true = true) ∧ (true = true ∧ true = true ∧ true = true ∧ true = true ∧ true = true ∧ true = true) ∧ (true = true ∧ true = true ∧ true = true ∧ true = true ∧ true = true ∧ true = true) ∧ (true = true ∧ true = true ∧ true = true ∧ true = true ∧ true = true ∧ true = true) ∧ (true = true ∧ true = true ∧ true = true ∧ true = true ∧ true = true ∧ true = true) ∧ (true = true ∧ true = true ∧ true = true ∧ true = true ∧ true = true ∧ true = true) ∧ (true = true ∧ true = true ∧ true = true ∧ true = true ∧ true = true ∧ true = true) ∧ (true = true ∧ true = true ∧ true = true ∧ true = true ∧ true = true ∧ true = true) ∧ (true = true ∧ true = true ∧ true = true ∧ true = true ∧ true = true ∧ true = true) ∧ (true = true ∧ true = true ∧ true = true ∧ true = true ∧ true = true ∧ true = true) ∧ (true = true ∧ true = true ∧ true = true ∧ true = true ∧ true = true ∧ true = true) ∧ (true = true ∧ true = true ∧ true = true ∧ true = true ∧ true = true ∧ true = true) ∧ (true = true ∧ true = true ∧ true = true ∧ true = true ∧ true = true ∧ true = true) ∧ (true = true ∧ true = true ∧ true = true ∧ true = true ∧ true = true ∧ true = true) ∧ (true = true ∧ true = true ∧ true = true ∧ true = true ∧ true = true ∧ true = true) ∧ true = true
set_option maxRecDepth 100000 in
theorem txxV  : (callF Tryz.prog (SGa noD [conMade]) 300 45 [.str ⟨⟨sGx⟩⟩] []).map (fun r => (r.1, r.2.2)) = some (.agg [.abs fGx], some (txxV_G )) := by kernel_rfl
set_option maxRecDepth 100000 in
theorem txxV_ok  : condOk (some (txxV_G )) := by unfold txxV_G condOk; and_intros <;> rfl
--@]
--@run txyV := callF Tryz.prog (SGa noD [conMade]) 300 45 [.str ⟨⟨sGy⟩⟩] [] => .agg [.abs fGy]
--@[
set_option maxRecDepth 100000 in
def txyV_G  : Prop := (true = true ∧ true = true ∧ true = true ∧ true = true ∧ true = true ∧ true = true) ∧ (true = true ∧ true = true ∧ true = true ∧ true = true ∧ true = true ∧ true = true) ∧ (true = true ∧ true = true ∧ true = true ∧ true = true ∧ true = true ∧ true = true) ∧ (true = true ∧ true = true ∧ true = true ∧ true = true ∧ true = true ∧ true = true) ∧ (true = true ∧ true = true ∧ true = true ∧ true = true ∧ true = true ∧ true = true) ∧ (true = true ∧ true = true ∧ true = true ∧ true = true ∧ true = true ∧ true = true) ∧ (true = true ∧ true = true ∧ true = true ∧ true = true ∧ true = true ∧ true = true) ∧ (true = true ∧ true = true ∧ true = true ∧ true = true ∧ true = true ∧ true = true) ∧ (true = true ∧ true = true ∧ true = true ∧ true = true ∧ true = true ∧ true = true) ∧ (true = true ∧ true = true ∧ true = true ∧ true = true ∧ true = true ∧ true = true) ∧ (true = true ∧ true = true ∧ true = true ∧ true = true ∧ true = true ∧ true = true) ∧ (true = true ∧ true = true ∧ true = true ∧ true = true ∧ true = true ∧ true = true) ∧ (true = true ∧ true = true ∧ true = true ∧ true = true ∧ true = true ∧ true = true) ∧ (true = true ∧ true = true ∧ true = true ∧ true = true ∧ true = true ∧ true = true) ∧ (true = true ∧ true = true ∧ true = true ∧ true = true ∧ true = true ∧ true = true) ∧ (true = true ∧ true = true ∧ true = true ∧ true = true ∧ true = true ∧ true = true) ∧ (true = true ∧ true = true ∧ true = true ∧ true = true ∧ true = true ∧ true = true) ∧ (true = true ∧ true = true ∧ true = true ∧ true = true ∧ true = true ∧ true = true) ∧ (true = true ∧ true = true ∧ true = true ∧ true = true ∧ true = true ∧ true = true) ∧ (true = true ∧ true = true ∧ true = true ∧ true = true ∧ true = true ∧ true = true) ∧ (true = true ∧ true = true ∧ true = true ∧ true = true ∧ true = true ∧ true = true) ∧ (true = true ∧ true = true ∧ true = true ∧ true = true ∧ true = true ∧ true = true) ∧ (true = true ∧ true = true ∧ true = true ∧ true = true ∧ true = true ∧ true = true) ∧ (true = true ∧ true = true ∧ true = true ∧ true = true ∧ true = true ∧ true = true) ∧ (true = true ∧ true = true ∧ true = true ∧ true = true ∧ true = true ∧ true = true) ∧ (true = true ∧ true = true ∧ true = true ∧ true = true ∧ true = true ∧ true = true) ∧ (true = true ∧ true = true ∧ true = true ∧ true = true ∧ true = true ∧ true = true) ∧ (true = true ∧ true = true ∧ true = true ∧ true = true ∧ true = true ∧ true = true) ∧ (true = true ∧ true = true ∧ true = true ∧ true = true ∧ true = true ∧ true = true) ∧ (true = true ∧ true = true ∧ true = true ∧ true = true ∧ true = true ∧ true = true) ∧ (true = true ∧ true = true ∧ true = true ∧ true = true ∧ true = true ∧ true = true) ∧ (true = true ∧ true = true ∧ true = true ∧ true = true ∧ true = true ∧ true = true) ∧ (true = true ∧ true = true ∧ true = true ∧ true = true ∧ true = true ∧ true = true) ∧ (true = true ∧ true = true ∧ true = true ∧ true = true ∧ true = true ∧ true = true) ∧ (true = true ∧ true = true ∧ true = true ∧ true = true ∧ true = true ∧ true = true) ∧ (true = true ∧ true = true ∧ true = true ∧ true = true ∧ true = true ∧ true = true) ∧ (true = true ∧ true = true ∧ true = true ∧ true = true ∧ true = true ∧ true = true) ∧ (true = true ∧ true = true ∧ true = true ∧ true = true ∧ true = true ∧ true = true) ∧ (true = true ∧ true = true ∧ true = true ∧ true = true ∧ true = true ∧ true = true) ∧ (true = true ∧ true = true ∧ true = true ∧ true = true ∧ true = true ∧ true = true) ∧ (true = true ∧ true = true ∧ true = true ∧ true = true ∧ true = true ∧ true = true) ∧ (true = true ∧ true = true ∧ true = true ∧ true = true ∧ true = true ∧ true = true) ∧ (true = true ∧ true = true ∧ true = true ∧ true = true ∧ true = true ∧ true = true) ∧ (true = true ∧ true = true ∧ true = true ∧ true = true ∧ true = true ∧ true = true) ∧ (true = true ∧ true = true ∧ true = true ∧ true = true ∧ true = true ∧ true = true) ∧ (true = true ∧ true = true ∧ true = true ∧ true = true ∧ true = true ∧ true = true) ∧ (true = true ∧ true = true ∧ true = true ∧ true = true ∧ true = true ∧ true = true) ∧ (true = true ∧ true = true ∧ true = true ∧ true = true ∧ true = true ∧ true = true) ∧ (true = true ∧ true = true ∧ true = true ∧ true = true ∧ true = true ∧ true = true) ∧ (true = true ∧ true = true ∧ true = true ∧ true = true ∧ true = true ∧ true = true) ∧ (true = true ∧ true = true ∧ true = true ∧ true = true ∧ true = true ∧ true = true) ∧ (true = true ∧ true = true ∧ true = true ∧ true = true ∧ true = true ∧ true = true) ∧ (true = true ∧ true = true ∧ true = true ∧ true = true ∧ true = true ∧ true = true) ∧ (true = true ∧ true = true ∧ true = true ∧ true = true ∧ true = true ∧ true = true) ∧ (true = true ∧ true = true ∧ true = true ∧ true = true ∧ true = true ∧ true = true) ∧ (true = true ∧ true = true ∧ true = true ∧ true = true ∧ true = true ∧ true = true) ∧ (true = true ∧ true = true ∧ true = true ∧ true = true ∧ true = true ∧ true = true) ∧ (true = true ∧ true = true ∧ true = true ∧ true = true ∧ true = true ∧ true = true) ∧ (true = true ∧ true = true ∧ true = true ∧ true = true ∧ true = true ∧ true = true) ∧ (true = true ∧ true = true ∧ true = true ∧ true = true ∧ true = true ∧ true = true) ∧ (true = true ∧ true = true ∧ true = true ∧ true = true ∧ true = true ∧ true = true) ∧ (true = true ∧ true = true ∧ true = true ∧ true = true ∧ true = true ∧ true = true) ∧ (true = true ∧ true = true ∧ true = true ∧ true = true ∧ true = true ∧ true = true) ∧ (true = true ∧ true = true ∧ true = true ∧ true = true ∧ true = true ∧ true = true) ∧ (true = true ∧ true = true ∧ true = true ∧ true = true ∧ true = true ∧ true = true) ∧ (true = true ∧ true = true ∧ true = true ∧ true = true ∧ true = true ∧ true = true) ∧ (true = true ∧ true = true ∧ true = true ∧ true = true ∧ true = true ∧ true = true) ∧ (true = true ∧ true = true ∧ true = true ∧ true = true ∧ true = true ∧ true = true) ∧ (true = true ∧ true = true ∧ true = true ∧ true = true ∧ true = true ∧ true = true) ∧ (true = true ∧ true = true ∧ true = true ∧ true = true ∧ true = true ∧ true = true) ∧ (true = true ∧ true = true ∧ true = true ∧ true = true ∧ true = true ∧ true = true) ∧ (true = true ∧ true = true ∧ true = true ∧ true = true ∧ true = true ∧ true = true) ∧ (true = true ∧ true = true ∧ true = true ∧ true = true ∧ true = true ∧ true = true) ∧ (true = true ∧ true = true ∧ true = true ∧ true = true ∧ true = true ∧ true = true) ∧ (true = true ∧ true = true ∧ true = true ∧ true = true ∧ true = true ∧ true = true) ∧ (true = true ∧ true = true ∧ true = true ∧ true = true ∧ true = true ∧ true = true) ∧ (true = true ∧ true = true ∧ true = true ∧ true = true ∧ true = true ∧ true = true) ∧ (true = true ∧ true = true ∧ true = true ∧ true = true ∧ true = true ∧ true = true) ∧ (true = true ∧ true = true ∧ true = true ∧ true = true ∧ true = true ∧ true = true) ∧ (true = true ∧ true = true ∧ true = true ∧ true = true ∧ true = true ∧ true = true) ∧ (true = true ∧ true = true ∧ true = true ∧ true = true ∧ true = true ∧ true = true) ∧ (true = true ∧ true = true ∧ true = true ∧ true = true ∧ true = true ∧ true = true) ∧ (true = true ∧ true = true ∧ true = true ∧ true = true ∧ true = true ∧ true = true) ∧ (true = true ∧ true = true ∧ true = true ∧ true = true ∧ true = true ∧ true = true) ∧ (true = true ∧ true = true ∧ true = true ∧ true = true ∧ true = true ∧ true = true) ∧ (true = true ∧ true = true ∧ true = true ∧ true = true ∧ true = true ∧ true = true) ∧ (true = true ∧ true = true ∧ true = true ∧ true = true ∧ true = true ∧ true = true) ∧ (true = true ∧ true = true ∧ true = true ∧ true = true ∧ true = true ∧ true = true) ∧ (true = true ∧ true = true ∧ true = true ∧ true = true ∧ true = true ∧ true = true) ∧ (true = true ∧ true = true ∧ true = true ∧ true = true ∧ true = true ∧ true = true) ∧ (true = true ∧ true = true ∧ true = true ∧ true = true ∧ true = true ∧ true = true) ∧ (true = true ∧ true = true ∧ true = true ∧ true = true ∧ true = true ∧ true = true) ∧ (true = true ∧ true = true ∧ true = true ∧ true = true ∧ true = true ∧ true = true) ∧ (true = true ∧ true = true ∧ true = true ∧ true = true ∧ true = true ∧ true = true) ∧ (true = true ∧ true = true ∧ true = true ∧ true = true ∧ true = true ∧ true = true) ∧ true = true
set_option maxRecDepth 100000 in
theorem txyV  : (callF Tryz.prog (SGa noD [conMade]) 300 45 [.str ⟨⟨sGy⟩⟩] []).map (fun r => (r.1, r.2.2)) = some (.agg [.abs fGy], some (txyV_G )) := by kernel_rfl
set_option maxRecDepth 100000 in
theorem txyV_ok  : condOk (some (txyV_G )) := by unfold txyV_G condOk; and_intros <;> rfl
--@]
--@run txtV := callF Tryz.prog (SGa noD [conMade]) 300 45 [.str ⟨⟨sThird⟩⟩] [] => .agg [.abs fThird]
--@[
set_option maxRecDepth 100000 in
def txtV_G  : Prop := (true = true ∧ true = true ∧ true = true ∧ true = true ∧ true = true ∧ true = true) ∧ (true = true ∧ true = true ∧ true = true ∧ true = true ∧ true = true ∧ true = true) ∧ (true = true ∧ true = true ∧ true = true ∧ true = true ∧ true = true ∧ true = true) ∧ (true = true ∧ true = true ∧ true = true ∧ true = true ∧ true = true ∧ true = true) ∧ (true = true ∧ true = true ∧ true = true ∧ true = true ∧ true = true ∧ true = true) ∧ (true = true ∧ true = true ∧ true = true ∧ true = true ∧ true = true ∧ true = true) ∧ (true = true ∧ true = true ∧ true = true ∧ true = true ∧ true = true ∧ true = true) ∧ (true = true ∧ true = true ∧ true = true ∧ true = true ∧ true = true ∧ true = true) ∧ (true = true ∧ true = true ∧ true = true ∧ true = true ∧ true = true ∧ true = true) ∧ (true = true ∧ true = true ∧ true = true ∧ true = true ∧ true = true ∧ true = true) ∧ (true = true ∧ true = true ∧ true = true ∧ true = true ∧ true = true ∧ true = true) ∧ (true = true ∧ true = true ∧ true = true ∧ true = true ∧ true = true ∧ true = true) ∧ (true = true ∧ true = true ∧ true = true ∧ true = true ∧ true = true ∧ true = true) ∧ (true = true ∧ true = true ∧ true = true ∧ true = true ∧ true = true ∧ true = true) ∧ (true = true ∧ true = true ∧ true = true ∧ true = true ∧ true = true ∧ true = true) ∧ (true = true ∧ true = true ∧ true = true ∧ true = true ∧ true = true ∧ true = true) ∧ (true = true ∧ true = true ∧ true = true ∧ true = true ∧ true = true ∧ true = true) ∧ (true = true ∧ true = true ∧ true = true ∧ true = true ∧ true = true ∧ true = true) ∧ (true = true ∧ true = true ∧ true = true ∧ true = true ∧ true = true ∧ true = true) ∧ (true = true ∧ true = true ∧ true = true ∧ true = true ∧ true = true ∧ true = true) ∧ (true = true ∧ true = true ∧ true = true ∧ true = true ∧ true = true ∧ true = true) ∧ (true = true ∧ true = true ∧ true = true ∧ true = true ∧ true = true ∧ true = true) ∧ (true = true ∧ true = true ∧ true = true ∧ true = true ∧ true = true ∧ true = true) ∧ (true = true ∧ true = true ∧ true = true ∧ true = true ∧ true = true ∧ true = true) ∧ (true = true ∧ true = true ∧ true = true ∧ true = true ∧ true = true ∧ true = true) ∧ (true = true ∧ true = true ∧ true = true ∧ true = true ∧ true = true ∧ true = true) ∧ (true = true ∧ true = true ∧ true = true ∧ true = true ∧ true = true ∧ true = true) ∧ (true = true ∧ true = true ∧ true = true ∧ true = true ∧ true = true ∧ true = true) ∧ (true = true ∧ true = true ∧ true = true ∧ true = true ∧ true = true ∧ true = true) ∧ (true = true ∧ true = true ∧ true = true ∧ true = true ∧ true = true ∧ true = true) ∧ (true = true ∧ true = true ∧ true = true ∧ true = true ∧ true = true ∧ true = true) ∧ (true = true ∧ true = true ∧ true = true ∧ true = true ∧ true = true ∧ true = true) ∧ (true = true ∧ true = true ∧ true = true ∧ true = true ∧ true = true ∧ true = true) ∧ (true = true ∧ true = true ∧ true = true ∧ true = true ∧ true = true ∧ true = true) ∧ (true = true ∧ true = true ∧ true = true ∧ true = true ∧ true = true ∧ true = true) ∧ (true = true ∧ true = true ∧ true = true ∧ true = true ∧ true = true ∧ true = true) ∧ (true = true ∧ true = true ∧ true = true ∧ true = true ∧ true = true ∧ true = true) ∧ (true = true ∧ true = true ∧ true = true ∧ true = true ∧ true = true ∧ true = true) ∧ (true = true ∧ true = true ∧ true = true ∧ true = true ∧ true = true ∧ true = true) ∧ (true = true ∧ true = true ∧ true = true ∧ true = true ∧ true = true ∧ true = true) ∧ (true = true ∧ true = true ∧ true = true ∧ true = true ∧ true = true ∧ true = true) ∧ (true = true ∧ true = true ∧ true = true ∧ true = true ∧ true = true ∧ true = true) ∧ (true = true ∧ true = true ∧ true = true ∧ true = true ∧ true = true ∧ true = true) ∧ (true = true ∧ true = true ∧ true = true ∧ true = true ∧ true = true ∧ true = true) ∧ (true = true ∧ true = true ∧ true = true ∧ true = true ∧ true = true ∧ true = true) ∧ (true = true ∧ true = true ∧ true = true ∧ true = true ∧ true = true ∧ true = true) ∧ (true = true ∧ true = true ∧ true = true ∧ true = true ∧ true = true ∧ true = true) ∧ (true = true ∧ true = true ∧ true = true ∧ true = true ∧ true = true ∧ true = true) ∧ (true = true ∧ true = true ∧ true = true ∧ true = true ∧ true = true ∧ true = true) ∧ (true = true ∧ true = true ∧ true = true ∧ true = true ∧ true = true ∧ true = true) ∧ (true = true ∧ true = true ∧ true = true ∧ true = true ∧ true = true ∧ true = true) ∧ (true = true ∧ true = true ∧ true = true ∧ true = true ∧ true = true ∧ true = true) ∧ (true = true ∧ true = true ∧ true = true ∧ true = true ∧ true = true ∧ true = true) ∧ (true = true ∧ true = true ∧ true = true ∧ true = true ∧ true = true ∧ true = true) ∧ (true = true ∧ true = true ∧ true = true ∧ true = true ∧ true = true ∧ true = true) ∧ (true = true ∧ true = true ∧ true = true ∧ true = true ∧ true = true ∧ true = true) ∧ (true = true ∧ true = true ∧ true = true ∧ true = true ∧ true = true ∧ true = true) ∧ (true = true ∧ true = true ∧ true = true ∧ true = true ∧ true = true ∧ true = true) ∧ (true = true ∧ true = true ∧ true = true ∧ true = true ∧ true = true ∧ true = true) ∧ (true = true ∧ true = true ∧ true = true ∧ true = true ∧ true = true ∧ true = true) ∧ (true = true ∧ true = true ∧ true = true ∧ true = true ∧ true = true ∧ true = true) ∧ (true = true ∧ true = true ∧ true = true ∧ true = true ∧ true = true ∧ true = true) ∧ (true = true ∧ true = true ∧ true = true ∧ true = true ∧ true = true ∧ true = true) ∧ (true = true ∧ true = true ∧ true = true ∧ true = true ∧ true = true ∧ true = true) ∧ (true = true ∧ true = true ∧ true = true ∧ true = true ∧ true = true ∧ true = true) ∧ (true = true ∧ true = true ∧ true = true ∧ true = true ∧ true = true ∧ true = true) ∧ (true = true ∧ true = true ∧ true = true ∧ true = true ∧ true = true ∧ true = true) ∧ (true = true ∧ true = true ∧ true = true ∧ true = true ∧ true = true ∧ true = true) ∧ (true = true ∧ true = true ∧ true = true ∧ true = true ∧ true = true ∧ true = true) ∧ (true = true ∧ true = true ∧ true = true ∧ true = true ∧ true = true ∧ true = true) ∧ (true = true ∧ true = true ∧ true = true ∧ true = true ∧ true = true ∧ true = true) ∧ (true = true ∧ true = true ∧ true = true ∧ true = true ∧ true = true ∧ true = true) ∧ (true = true ∧ true = true ∧ true = true ∧ true = true ∧ true = true ∧ true = true) ∧ (true = true ∧ true = true ∧ true = true ∧ true = true ∧ true = true ∧ true = true) ∧ (true = true ∧ true = true ∧ true = true ∧ true = true ∧ true = true ∧ true = true) ∧ (true = true ∧ true = true ∧ true = true ∧ true = true ∧ true = true ∧ true = true) ∧ (true = true ∧ true = true ∧ true = true ∧ true = true ∧ true = true ∧ true = true) ∧ (true = true ∧ true = true ∧ true = true ∧ true = true ∧ true = true ∧ true = true) ∧ (true = true ∧ true = true ∧ true = true ∧ true = true ∧ true = true ∧ true = true) ∧ (true = true ∧ true = true ∧ true = true ∧ true = true ∧ true = true ∧ true = true) ∧ true = true
set_option maxRecDepth 100000 in
theorem txtV  : (callF Tryz.prog (SGa noD [conMade]) 300 45 [.str ⟨⟨sThird⟩⟩] []).map (fun r => (r.1, r.2.2)) = some (.agg [.abs fThird], some (txtV_G )) := by kernel_rfl
set_option maxRecDepth 100000 in
theorem txtV_ok  : condOk (some (txtV_G )) := by unfold txtV_G condOk; and_intros <;> rfl
--@]
set_option maxRecDepth 100000 in
theorem entText : ∀ args w, (callFunc 45 args).run Tryz.prog w = .ok (.enter 45 args) w := ent_of (f := 45) (P := Tryz.prog) rfl rfl rfl
def textFn : List (LV Fe) → Option (LV Fe)
  | [.str s] => match eqBs s.data.toList sGx with
    | true => some (.agg [.abs fGx])
    | false => match eqBs s.data.toList sGy with
      | true => some (.agg [.abs fGy])
      | false => match eqBs s.data.toList sThird with
        | true => some (.agg [.abs fThird])
        | false => none
  | _ => none
theorem textFn_runs {vs : List (LV Fe)} {v : LV Fe} (h : textFn vs = some v) : Calls2 45 vs v := by
  unfold textFn at h
  split at h
  · rename_i s
    have es : ∀ l, s.data.toList = l → s = ⟨⟨l⟩⟩ := fun l e => by subst e; rfl
    split at h
    · rename_i e
      cases h
      rw [es _ (eqBs_list e)]
      exact .of (SGa_ok _ _) rfl txxV txxV_ok
    · split at h
      · rename_i e
        cases h
        rw [es _ (eqBs_list e)]
        exact .of (SGa_ok _ _) rfl txyV txyV_ok
      · split at h
        · rename_i e
          cases h
          rw [es _ (eqBs_list e)]
          exact .of (SGa_ok _ _) rfl txtV txtV_ok
        · cases h
  · cases h
noncomputable def conText : ConP Tryz.prog Fe where
  f := 45
  fn := textFn
  ent := entText
  kin vs v h p := pv_kin p _ (textFn_runs h).plain
  call vs v h ρ w := (textFn_runs h).run ρ w
end Go.Proofs.YtcedljbapgmdmaaGreat.En

/- DERIVED. The first group's points as contracts. -/
set_option linter.all false
namespace Go.Proofs.YtcedljbapgmdmaaGreat.En
open Go Go.RowKit

/-- Told beside the tests: which functions aren't walked in place, which regions' loads read what the region doesn't write. -/
def advP (d : FuncId → Nat → Nat → Option Bool) (ils : List FuncId) (pls : List (FuncId × Nat)) : Adv :=
  { advF d with il := fun f => !memK ils f, pl := fun f r => pls.any fun x => Nat.beq x.1 f && Nat.beq x.2 r }
noncomputable abbrev psH : List (ConP Tryz.prog Fe) := [conInv, conCXY, conMade, conSqC, conNumber, conOf, conText]
noncomputable abbrev SGb (d : FuncId → Nat → Nat → Option Bool) (ps : List (ConP Tryz.prog Fe)) : Sig Fe := SGa d (psH ++ ps)
noncomputable abbrev SGm (A : Adv) (ps : List (ConP Tryz.prog Fe)) : Sig Fe := sigOf (P := Tryz.prog) ([conFAdd, conFSub, conFMul, conFSquare, conFNeg, conFIsZero, conFEqual, conTwice] ++ (psG ++ (psH ++ ps))) [] [conCMul] (I := noIF) [] msF A
theorem SGm_ok (A : Adv) (ps : List (ConP Tryz.prog Fe)) : SigOk Tryz.prog (SGm A ps) := sigOf_ok _ [] [conCMul] [] msF_ok _ noIF_ok
def sideF (x : Fe) : Fe := fadd (fmul (fmul x x) x) four
set_option maxRecDepth 100000 in
theorem entSide : ∀ args w, (callFunc 63 args).run Tryz.prog w = .ok (.enter 63 args) w := ent_of (f := 63) (P := Tryz.prog) rfl rfl rfl
--@run sidV (a : Fe) := callF Tryz.prog (SGb noD []) 60 63 [bF [a]] [] => .agg [.abs (sideF a)]
--@[
set_option maxRecDepth 100000 in
def sidV_G (a : Fe) : Prop := true = true
set_option maxRecDepth 100000 in
theorem sidV (a : Fe) : (callF Tryz.prog (SGb noD []) 60 63 [bF [a]] []).map (fun r => (r.1, r.2.2)) = some (.agg [.abs (sideF a)], some (sidV_G a)) := by kernel_rfl
set_option maxRecDepth 100000 in
theorem sidV_ok (a : Fe) : condOk (some (sidV_G a)) := by unfold sidV_G condOk; and_intros <;> rfl
--@]
noncomputable def conSide : ConP Tryz.prog Fe := mkP 63 entSide [1] (fun a => .agg [.abs (sideF a)]) fun a => .of (SGa_ok _ _) rfl (sidV a) (sidV_ok a) rfl rfl
set_option maxRecDepth 100000 in
theorem entGOne : ∀ args w, (callFunc 66 args).run Tryz.prog w = .ok (.enter 66 args) w := ent_of (f := 66) (P := Tryz.prog) rfl rfl rfl
--@run gonV := callF Tryz.prog (SGb noD []) 60 66 [] [] => .agg [.abs fOne]
--@[
set_option maxRecDepth 100000 in
def gonV_G  : Prop := true = true
set_option maxRecDepth 100000 in
theorem gonV  : (callF Tryz.prog (SGb noD []) 60 66 [] []).map (fun r => (r.1, r.2.2)) = some (.agg [.abs fOne], some (gonV_G )) := by kernel_rfl
set_option maxRecDepth 100000 in
theorem gonV_ok  : condOk (some (gonV_G )) := by unfold gonV_G condOk; and_intros <;> rfl
--@]
noncomputable def conGOne : ConP Tryz.prog Fe := mk0 66 entGOne (.agg [.abs fOne]) (.of (SGa_ok _ _) rfl gonV gonV_ok rfl rfl)
/-! ## a point of its numbers -/
def affT (x y : Fe) : Bool := feq (fmul y y) (sideF x)
def affF (x y : Fe) : Pt := bif affT x y then (x, y, fOne) else zPt
set_option maxRecDepth 100000 in
theorem entAff : ∀ args w, (callFunc 44 args).run Tryz.prog w = .ok (.enter 44 args) w := ent_of (f := 44) (P := Tryz.prog) rfl rfl rfl
--@run af1V (a b : Fe) := callF Tryz.prog (SGb (dci 44 [(1, 4, true)]) [conSide, conGOne]) 60 44 [bF [a], bF [b]] [] => .tup [ptV (a, b, fOne), .bool true]
--@[
set_option maxRecDepth 100000 in
def af1V_G (a b : Fe) : Prop := feq (fmul b b) (sideF a) = true ∧ true = true
set_option maxRecDepth 100000 in
theorem af1V (a b : Fe) : (callF Tryz.prog (SGb (dci 44 [(1, 4, true)]) [conSide, conGOne]) 60 44 [bF [a], bF [b]] []).map (fun r => (r.1, r.2.2)) = some (.tup [ptV (a, b, fOne), .bool true], some (af1V_G a b)) := by kernel_rfl
--@]
--@run af2V (a b : Fe) := callF Tryz.prog (SGb (dci 44 [(1, 4, false)]) [conSide, conGOne]) 60 44 [bF [a], bF [b]] [] => .tup [.agg zB, .bool false]
--@[
set_option maxRecDepth 100000 in
def af2V_G (a b : Fe) : Prop := feq (fmul b b) (sideF a) = false ∧ true = true
set_option maxRecDepth 100000 in
theorem af2V (a b : Fe) : (callF Tryz.prog (SGb (dci 44 [(1, 4, false)]) [conSide, conGOne]) 60 44 [bF [a], bF [b]] []).map (fun r => (r.1, r.2.2)) = some (.tup [.agg zB, .bool false], some (af2V_G a b)) := by kernel_rfl
--@]
theorem aff_runs (a b : Fe) : Runs 44 [bF [a], bF [b]] (.tup [ptV (affF a b), .bool (affT a b)]) := by
  cases h : affT a b with
  | true =>
    rw [show affF a b = (a, b, fOne) by unfold affF; rw [h]; rfl]
    unfold affT at h
    exact .of (SGa_ok _ _) rfl (af1V a b) (by unfold condOk af1V_G; and_intros <;> first | with_reducible rfl | assumption) rfl rfl
  | false =>
    rw [show affF a b = zPt by unfold affF; rw [h]; rfl]
    unfold affT at h
    refine (Runs.of (SGa_ok _ _) rfl (af2V a b) (by unfold condOk af2V_G; and_intros <;> first | with_reducible rfl | assumption) rfl rfl).as rfl fun ρ => ?_
    exact congrArg (fun v : Value => Value.tuple #[v, .bool false]) (zPt_tr ρ)
noncomputable def conAff : ConP Tryz.prog Fe := mkP 44 entAff [1, 1] (fun a b => .tup [ptV (affF a b), .bool (affT a b)]) aff_runs
/-! ## its numbers -/
def gxyX (p : Pt) : Fe := bif isz p.2.2 then zE else xyX p
def gxyY (p : Pt) : Fe := bif isz p.2.2 then zE else xyY p
set_option maxRecDepth 100000 in
theorem entGXY : ∀ args w, (callFunc 80 args).run Tryz.prog w = .ok (.enter 80 args) w := ent_of (f := 80) (P := Tryz.prog) rfl rfl rfl
abbrev z6V : LV Fe := .agg [.int .u64 0, .int .u64 0, .int .u64 0, .int .u64 0, .int .u64 0, .int .u64 0]
theorem z6_tr (ρ : Key → Loc) : LV.tr ρ z6V = LV.tr ρ (.agg [.abs zE] : LV Fe) := by kernel_rfl
--@run gx1V (a b c : Fe) := callF Tryz.prog (SGb (dci 80 [(1, 1, true)]) []) 60 80 [bF [a, b, c]] [] => .tup [z6V, z6V, .bool false]
--@[
set_option maxRecDepth 100000 in
def gx1V_G (a b c : Fe) : Prop := isz c = true ∧ true = true ∧ true = true
set_option maxRecDepth 100000 in
theorem gx1V (a b c : Fe) : (callF Tryz.prog (SGb (dci 80 [(1, 1, true)]) []) 60 80 [bF [a, b, c]] []).map (fun r => (r.1, r.2.2)) = some (.tup [z6V, z6V, .bool false], some (gx1V_G a b c)) := by kernel_rfl
--@]
--@run gx2V (a b c : Fe) := callF Tryz.prog (SGm (advP (dci 80 [(1, 1, false)]) [46] [(80, 4)]) []) 60 80 [bF [a, b, c]] [] => .tup [.agg [.abs (xyX (a, b, c))], .agg [.abs (xyY (a, b, c))], .bool true]
--@[
set_option maxRecDepth 100000 in
def gx2V_G (a b c : Fe) : Prop := isz c = false ∧ (true = true ∧ true = true) ∧ true = true ∧ true = true
set_option maxRecDepth 100000 in
theorem gx2V (a b c : Fe) : (callF Tryz.prog (SGm (advP (dci 80 [(1, 1, false)]) [46] [(80, 4)]) []) 60 80 [bF [a, b, c]] []).map (fun r => (r.1, r.2.2)) = some (.tup [.agg [.abs (xyX (a, b, c))], .agg [.abs (xyY (a, b, c))], .bool true], some (gx2V_G a b c)) := by kernel_rfl
--@]
theorem gxy_runs (a b c : Fe) : Runs 80 [bF [a, b, c]] (.tup [.agg [.abs (gxyX (a, b, c))], .agg [.abs (gxyY (a, b, c))], .bool (!isz c)]) := by
  cases h : isz c with
  | true =>
    rw [show gxyX (a, b, c) = zE by unfold gxyX; rw [h]; rfl, show gxyY (a, b, c) = zE by unfold gxyY; rw [h]; rfl]
    refine (Runs.of (SGa_ok _ _) rfl (gx1V a b c) (by unfold condOk gx1V_G; and_intros <;> first | with_reducible rfl | assumption) rfl rfl).as rfl fun ρ => ?_
    show Value.tuple #[LV.tr ρ z6V, LV.tr ρ z6V, .bool false] = Value.tuple #[LV.tr ρ (.agg [.abs zE] : LV Fe), LV.tr ρ (.agg [.abs zE] : LV Fe), .bool false]
    rw [z6_tr]
  | false =>
    rw [show gxyX (a, b, c) = xyX (a, b, c) by unfold gxyX; rw [h]; rfl, show gxyY (a, b, c) = xyY (a, b, c) by unfold gxyY; rw [h]; rfl]
    exact .of (SGm_ok _ _) rfl (gx2V a b c) (by unfold condOk gx2V_G; and_intros <;> first | with_reducible rfl | assumption) rfl rfl
noncomputable def conGXY : ConP Tryz.prog Fe := mkP 80 entGXY [3] (fun a b c => .tup [.agg [.abs (gxyX (a, b, c))], .agg [.abs (gxyY (a, b, c))], .bool (!isz c)]) gxy_runs
/-! ## the generator; times u -/
set_option maxRecDepth 100000 in
theorem entGen : ∀ args w, (callFunc 11 args).run Tryz.prog w = .ok (.enter 11 args) w := ent_of (f := 11) (P := Tryz.prog) rfl rfl rfl
--@run genV := callF Tryz.prog (SGb noD [conAff]) 60 11 [] [] => ptV (affF fGx fGy)
--@[
set_option maxRecDepth 100000 in
def genV_G  : Prop := true = true ∧ true = true
set_option maxRecDepth 100000 in
theorem genV  : (callF Tryz.prog (SGb noD [conAff]) 60 11 [] []).map (fun r => (r.1, r.2.2)) = some (ptV (affF fGx fGy), some (genV_G )) := by kernel_rfl
set_option maxRecDepth 100000 in
theorem genV_ok  : condOk (some (genV_G )) := by unfold genV_G condOk; and_intros <;> rfl
--@]
def genF : Pt := affF fGx fGy
noncomputable def conGen : ConP Tryz.prog Fe := mk0 11 entGen (ptV genF) (.of (SGa_ok _ _) rfl genV genV_ok rfl rfl)
def uBytes (j : Nat) : Int := ([210, 1, 0, 0, 0, 1, 0, 0] : List Int).getD j 0
/-- u times; the kernel doesn't open it. -/
noncomputable def mlu (a b c : Fe) : Pt := Classical.choose (p := fun q => q = mulF (a, b, c) 8 uBytes) ⟨_, rfl⟩
theorem mlu_eq (a b c : Fe) : mlu a b c = mulF (a, b, c) 8 uBytes := Classical.choose_spec (p := fun q => q = mulF (a, b, c) 8 uBytes) ⟨_, rfl⟩
--@run mluV (a b c : Fe) := callF Tryz.prog (SGm (advP noD [46] []) []) 60 85 [bF [a, b, c]] [] => ptV (mulF (a, b, c) 8 uBytes)
--@[
set_option maxRecDepth 100000 in
def mluV_G (a b c : Fe) : Prop := (Bys.c { us := [LV.rows 8 1 fun (j : Nat) => [LV.int (A := Fe) IntKind.u8 (byteOf (A := Fe) (List.getD (List.set (List.set (List.set (List.set (List.set (List.set (List.set (List.set (List.replicate 8 (units (A := Fe) (LV.int IntKind.u8 ((0 : Int))))) 0 (units (A := Fe) (LV.int IntKind.u8 ((210 : Int))))) 1 (units (A := Fe) (LV.int IntKind.u8 ((1 : Int))))) 2 (units (A := Fe) (LV.int IntKind.u8 ((0 : Int))))) 3 (units (A := Fe) (LV.int IntKind.u8 ((0 : Int))))) 4 (units (A := Fe) (LV.int IntKind.u8 ((0 : Int))))) 5 (units (A := Fe) (LV.int IntKind.u8 ((1 : Int))))) 6 (units (A := Fe) (LV.int IntKind.u8 ((0 : Int))))) 7 (units (A := Fe) (LV.int IntKind.u8 ((0 : Int))))) j []))]], n := 8, f := fun (j : Nat) => byteOf (A := Fe) (List.getD (List.set (List.set (List.set (List.set (List.set (List.set (List.set (List.set (List.replicate 8 (units (A := Fe) (LV.int IntKind.u8 ((0 : Int))))) 0 (units (A := Fe) (LV.int IntKind.u8 ((210 : Int))))) 1 (units (A := Fe) (LV.int IntKind.u8 ((1 : Int))))) 2 (units (A := Fe) (LV.int IntKind.u8 ((0 : Int))))) 3 (units (A := Fe) (LV.int IntKind.u8 ((0 : Int))))) 4 (units (A := Fe) (LV.int IntKind.u8 ((0 : Int))))) 5 (units (A := Fe) (LV.int IntKind.u8 ((1 : Int))))) 6 (units (A := Fe) (LV.int IntKind.u8 ((0 : Int))))) 7 (units (A := Fe) (LV.int IntKind.u8 ((0 : Int))))) j []), c := ∀ (j : Nat), j < 8 → Like (A := Fe) (List.getD (List.set (List.set (List.set (List.set (List.set (List.set (List.set (List.set (List.replicate 8 (units (A := Fe) (LV.int IntKind.u8 ((0 : Int))))) 0 (units (A := Fe) (LV.int IntKind.u8 ((210 : Int))))) 1 (units (A := Fe) (LV.int IntKind.u8 ((1 : Int))))) 2 (units (A := Fe) (LV.int IntKind.u8 ((0 : Int))))) 3 (units (A := Fe) (LV.int IntKind.u8 ((0 : Int))))) 4 (units (A := Fe) (LV.int IntKind.u8 ((0 : Int))))) 5 (units (A := Fe) (LV.int IntKind.u8 ((1 : Int))))) 6 (units (A := Fe) (LV.int IntKind.u8 ((0 : Int))))) 7 (units (A := Fe) (LV.int IntKind.u8 ((0 : Int))))) j []) [LV.int IntKind.u8 (byteOf (A := Fe) (List.getD (List.set (List.set (List.set (List.set (List.set (List.set (List.set (List.set (List.replicate 8 (units (A := Fe) (LV.int IntKind.u8 ((0 : Int))))) 0 (units (A := Fe) (LV.int IntKind.u8 ((210 : Int))))) 1 (units (A := Fe) (LV.int IntKind.u8 ((1 : Int))))) 2 (units (A := Fe) (LV.int IntKind.u8 ((0 : Int))))) 3 (units (A := Fe) (LV.int IntKind.u8 ((0 : Int))))) 4 (units (A := Fe) (LV.int IntKind.u8 ((0 : Int))))) 5 (units (A := Fe) (LV.int IntKind.u8 ((1 : Int))))) 6 (units (A := Fe) (LV.int IntKind.u8 ((0 : Int))))) 7 (units (A := Fe) (LV.int IntKind.u8 ((0 : Int))))) j []))] } ∧ 8 = 8 ∧ rngB (Bys.f { us := [LV.rows 8 1 fun (j : Nat) => [LV.int (A := Fe) IntKind.u8 (byteOf (A := Fe) (List.getD (List.set (List.set (List.set (List.set (List.set (List.set (List.set (List.set (List.replicate 8 (units (A := Fe) (LV.int IntKind.u8 ((0 : Int))))) 0 (units (A := Fe) (LV.int IntKind.u8 ((210 : Int))))) 1 (units (A := Fe) (LV.int IntKind.u8 ((1 : Int))))) 2 (units (A := Fe) (LV.int IntKind.u8 ((0 : Int))))) 3 (units (A := Fe) (LV.int IntKind.u8 ((0 : Int))))) 4 (units (A := Fe) (LV.int IntKind.u8 ((0 : Int))))) 5 (units (A := Fe) (LV.int IntKind.u8 ((1 : Int))))) 6 (units (A := Fe) (LV.int IntKind.u8 ((0 : Int))))) 7 (units (A := Fe) (LV.int IntKind.u8 ((0 : Int))))) j []))]], n := 8, f := fun (j : Nat) => byteOf (A := Fe) (List.getD (List.set (List.set (List.set (List.set (List.set (List.set (List.set (List.set (List.replicate 8 (units (A := Fe) (LV.int IntKind.u8 ((0 : Int))))) 0 (units (A := Fe) (LV.int IntKind.u8 ((210 : Int))))) 1 (units (A := Fe) (LV.int IntKind.u8 ((1 : Int))))) 2 (units (A := Fe) (LV.int IntKind.u8 ((0 : Int))))) 3 (units (A := Fe) (LV.int IntKind.u8 ((0 : Int))))) 4 (units (A := Fe) (LV.int IntKind.u8 ((0 : Int))))) 5 (units (A := Fe) (LV.int IntKind.u8 ((1 : Int))))) 6 (units (A := Fe) (LV.int IntKind.u8 ((0 : Int))))) 7 (units (A := Fe) (LV.int IntKind.u8 ((0 : Int))))) j []), c := ∀ (j : Nat), j < 8 → Like (A := Fe) (List.getD (List.set (List.set (List.set (List.set (List.set (List.set (List.set (List.set (List.replicate 8 (units (A := Fe) (LV.int IntKind.u8 ((0 : Int))))) 0 (units (A := Fe) (LV.int IntKind.u8 ((210 : Int))))) 1 (units (A := Fe) (LV.int IntKind.u8 ((1 : Int))))) 2 (units (A := Fe) (LV.int IntKind.u8 ((0 : Int))))) 3 (units (A := Fe) (LV.int IntKind.u8 ((0 : Int))))) 4 (units (A := Fe) (LV.int IntKind.u8 ((0 : Int))))) 5 (units (A := Fe) (LV.int IntKind.u8 ((1 : Int))))) 6 (units (A := Fe) (LV.int IntKind.u8 ((0 : Int))))) 7 (units (A := Fe) (LV.int IntKind.u8 ((0 : Int))))) j []) [LV.int IntKind.u8 (byteOf (A := Fe) (List.getD (List.set (List.set (List.set (List.set (List.set (List.set (List.set (List.set (List.replicate 8 (units (A := Fe) (LV.int IntKind.u8 ((0 : Int))))) 0 (units (A := Fe) (LV.int IntKind.u8 ((210 : Int))))) 1 (units (A := Fe) (LV.int IntKind.u8 ((1 : Int))))) 2 (units (A := Fe) (LV.int IntKind.u8 ((0 : Int))))) 3 (units (A := Fe) (LV.int IntKind.u8 ((0 : Int))))) 4 (units (A := Fe) (LV.int IntKind.u8 ((0 : Int))))) 5 (units (A := Fe) (LV.int IntKind.u8 ((1 : Int))))) 6 (units (A := Fe) (LV.int IntKind.u8 ((0 : Int))))) 7 (units (A := Fe) (LV.int IntKind.u8 ((0 : Int))))) j []))] }) 0 8 ∧ 64 ≤ 140737488351232) ∧ true = true
set_option maxRecDepth 100000 in
theorem mluV (a b c : Fe) : (callF Tryz.prog (SGm (advP noD [46] []) []) 60 85 [bF [a, b, c]] []).map (fun r => (r.1, r.2.2)) = some (ptV (mulF (a, b, c) 8 uBytes), some (mluV_G a b c)) := by kernel_rfl
--@]
end Go.Proofs.YtcedljbapgmdmaaGreat.En

/- DERIVED. Times u; is a point one of the group. -/
set_option linter.all false
namespace Go.Proofs.YtcedljbapgmdmaaGreat.En
open Go Go.RowKit

theorem mluG_ok (a b c : Fe) : condOk (some (mluV_G a b c)) := by
  unfold condOk mluV_G
  refine ⟨⟨?_, rfl, ?_, by decide⟩, rfl⟩
  · intro j hj
    match j, hj with
    | 0, _ => exact Like.refl _
    | 1, _ => exact Like.refl _
    | 2, _ => exact Like.refl _
    | 3, _ => exact Like.refl _
    | 4, _ => exact Like.refl _
    | 5, _ => exact Like.refl _
    | 6, _ => exact Like.refl _
    | 7, _ => exact Like.refl _
    | j + 8, h => exact absurd (show j + 8 < 8 from h) (by omega)
  · intro j hj
    match j, hj with
    | 0, _ => exact (by decide : (0 : Int) ≤ 210 ∧ (210 : Int) < 256)
    | 1, _ => exact (by decide : (0 : Int) ≤ 1 ∧ (1 : Int) < 256)
    | 2, _ => exact (by decide : (0 : Int) ≤ 0 ∧ (0 : Int) < 256)
    | 3, _ => exact (by decide : (0 : Int) ≤ 0 ∧ (0 : Int) < 256)
    | 4, _ => exact (by decide : (0 : Int) ≤ 0 ∧ (0 : Int) < 256)
    | 5, _ => exact (by decide : (0 : Int) ≤ 1 ∧ (1 : Int) < 256)
    | 6, _ => exact (by decide : (0 : Int) ≤ 0 ∧ (0 : Int) < 256)
    | 7, _ => exact (by decide : (0 : Int) ≤ 0 ∧ (0 : Int) < 256)
    | j + 8, h => exact absurd (show j + 8 < 8 from h) (by omega)
set_option maxRecDepth 100000 in
theorem entMulU : ∀ args w, (callFunc 85 args).run Tryz.prog w = .ok (.enter 85 args) w := ent_of (f := 85) (P := Tryz.prog) rfl rfl rfl
noncomputable def conMulU : ConP Tryz.prog Fe := mkP 85 entMulU [3] (fun a b c => ptV (mlu a b c)) fun a b c => (Runs.of (SGm_ok _ _) rfl (mluV a b c) (mluG_ok a b c) rfl rfl).as rfl fun ρ => by show LV.tr ρ (ptV (mulF (a, b, c) 8 uBytes)) = LV.tr ρ (ptV (mlu a b c)); rw [mlu_eq]
noncomputable def muu (a b c : Fe) : Pt := mlu (mlu a b c).1 (mlu a b c).2.1 (mlu a b c).2.2
noncomputable def igF (a b c : Fe) : Bool := ceqF (fmul a fThird, b, c) ((negF ((muu a b c).1, (muu a b c).2.1, (muu a b c).2.2)).1, (negF ((muu a b c).1, (muu a b c).2.1, (muu a b c).2.2)).2.1, (negF ((muu a b c).1, (muu a b c).2.1, (muu a b c).2.2)).2.2)
noncomputable def inGrpF (p : Pt) : Bool := bif isz p.2.2 then true else igF p.1 p.2.1 p.2.2
set_option maxRecDepth 100000 in
theorem entInGrp : ∀ args w, (callFunc 39 args).run Tryz.prog w = .ok (.enter 39 args) w := ent_of (f := 39) (P := Tryz.prog) rfl rfl rfl
--@run ig1V (a b c : Fe) := callF Tryz.prog (SGm (advP (dci 39 [(1, 1, true)]) [46] []) [conMulU]) 60 39 [bF [a, b, c]] [] => .bool true
--@[
set_option maxRecDepth 100000 in
def ig1V_G (a b c : Fe) : Prop := isz c = true
set_option maxRecDepth 100000 in
theorem ig1V (a b c : Fe) : (callF Tryz.prog (SGm (advP (dci 39 [(1, 1, true)]) [46] []) [conMulU]) 60 39 [bF [a, b, c]] []).map (fun r => (r.1, r.2.2)) = some (.bool true, some (ig1V_G a b c)) := by kernel_rfl
--@]
--@run ig2V (a b c : Fe) := callF Tryz.prog (SGm (advP (dci 39 [(1, 1, false)]) [46] []) [conMulU]) 60 39 [bF [a, b, c]] [] => .bool (igF a b c)
--@[
set_option maxRecDepth 100000 in
def ig2V_G (a b c : Fe) : Prop := isz c = false ∧ true = true ∧ true = true
set_option maxRecDepth 100000 in
theorem ig2V (a b c : Fe) : (callF Tryz.prog (SGm (advP (dci 39 [(1, 1, false)]) [46] []) [conMulU]) 60 39 [bF [a, b, c]] []).map (fun r => (r.1, r.2.2)) = some (.bool (igF a b c), some (ig2V_G a b c)) := by kernel_rfl
--@]
theorem inGrp_t {p : Pt} (h : isz p.2.2 = true) : inGrpF p = true := by unfold inGrpF; rw [h, cond_true]
theorem inGrp_f {p : Pt} (h : isz p.2.2 = false) : inGrpF p = igF p.1 p.2.1 p.2.2 := by unfold inGrpF; rw [h, cond_false]
theorem ig_runs (a b c : Fe) : Runs 39 [bF [a, b, c]] (.bool (inGrpF (a, b, c))) := by
  cases h : isz c with
  | true =>
    rw [inGrp_t (p := (a, b, c)) h]
    exact .of (SGm_ok _ _) rfl (ig1V a b c) (by unfold condOk ig1V_G; and_intros <;> first | with_reducible rfl | assumption) rfl rfl
  | false =>
    rw [inGrp_f (p := (a, b, c)) h]
    exact .of (SGm_ok _ _) rfl (ig2V a b c) (by unfold condOk ig2V_G; and_intros <;> first | with_reducible rfl | assumption) rfl rfl
noncomputable def conInGrp : ConP Tryz.prog Fe := mkP 39 entInGrp [3] (fun a b c => .bool (inGrpF (a, b, c))) ig_runs
end Go.Proofs.YtcedljbapgmdmaaGreat.En

/- DERIVED. A number's bytes. -/
set_option linter.all false
namespace Go.Proofs.YtcedljbapgmdmaaGreat.En
open Go Go.RowKit

def lbF (t : Nat → Int) (i : Nat) : Int := IntKind.u8.wrap ((t ((47 - i) / 8)).fdiv (2 ^ (8 * ((47 - i) % 8))))
def bytL {A : Type} (f : Nat → Int) : List (LV A) := (List.range 48).map fun i => .int .u8 (f i)
--@pre set_option maxRecDepth 100000
--@gen lbG (t : Nat → Int) := (callF Tryz.prog (SF fun _ _ _ => none) 300 49 [.agg (lim t)] []).map (fun r => r.2.2)
--@[
set_option maxRecDepth 100000 in
def lbG_G (t : Nat → Int) : Prop := (true = true ∧ true = true ∧ true = true ∧ true = true ∧ true = true ∧ true = true) ∧ (true = true ∧ true = true ∧ true = true ∧ true = true ∧ true = true ∧ true = true) ∧ (true = true ∧ true = true ∧ true = true ∧ true = true ∧ true = true ∧ true = true) ∧ (true = true ∧ true = true ∧ true = true ∧ true = true ∧ true = true ∧ true = true) ∧ (true = true ∧ true = true ∧ true = true ∧ true = true ∧ true = true ∧ true = true) ∧ (true = true ∧ true = true ∧ true = true ∧ true = true ∧ true = true ∧ true = true) ∧ (true = true ∧ true = true ∧ true = true ∧ true = true ∧ true = true ∧ true = true) ∧ (true = true ∧ true = true ∧ true = true ∧ true = true ∧ true = true ∧ true = true) ∧ (true = true ∧ true = true ∧ true = true ∧ true = true ∧ true = true ∧ true = true) ∧ (true = true ∧ true = true ∧ true = true ∧ true = true ∧ true = true ∧ true = true) ∧ (true = true ∧ true = true ∧ true = true ∧ true = true ∧ true = true ∧ true = true) ∧ (true = true ∧ true = true ∧ true = true ∧ true = true ∧ true = true ∧ true = true) ∧ (true = true ∧ true = true ∧ true = true ∧ true = true ∧ true = true ∧ true = true) ∧ (true = true ∧ true = true ∧ true = true ∧ true = true ∧ true = true ∧ true = true) ∧ (true = true ∧ true = true ∧ true = true ∧ true = true ∧ true = true ∧ true = true) ∧ (true = true ∧ true = true ∧ true = true ∧ true = true ∧ true = true ∧ true = true) ∧ (true = true ∧ true = true ∧ true = true ∧ true = true ∧ true = true ∧ true = true) ∧ (true = true ∧ true = true ∧ true = true ∧ true = true ∧ true = true ∧ true = true) ∧ (true = true ∧ true = true ∧ true = true ∧ true = true ∧ true = true ∧ true = true) ∧ (true = true ∧ true = true ∧ true = true ∧ true = true ∧ true = true ∧ true = true) ∧ (true = true ∧ true = true ∧ true = true ∧ true = true ∧ true = true ∧ true = true) ∧ (true = true ∧ true = true ∧ true = true ∧ true = true ∧ true = true ∧ true = true) ∧ (true = true ∧ true = true ∧ true = true ∧ true = true ∧ true = true ∧ true = true) ∧ (true = true ∧ true = true ∧ true = true ∧ true = true ∧ true = true ∧ true = true) ∧ (true = true ∧ true = true ∧ true = true ∧ true = true ∧ true = true ∧ true = true) ∧ (true = true ∧ true = true ∧ true = true ∧ true = true ∧ true = true ∧ true = true) ∧ (true = true ∧ true = true ∧ true = true ∧ true = true ∧ true = true ∧ true = true) ∧ (true = true ∧ true = true ∧ true = true ∧ true = true ∧ true = true ∧ true = true) ∧ (true = true ∧ true = true ∧ true = true ∧ true = true ∧ true = true ∧ true = true) ∧ (true = true ∧ true = true ∧ true = true ∧ true = true ∧ true = true ∧ true = true) ∧ (true = true ∧ true = true ∧ true = true ∧ true = true ∧ true = true ∧ true = true) ∧ (true = true ∧ true = true ∧ true = true ∧ true = true ∧ true = true ∧ true = true) ∧ (true = true ∧ true = true ∧ true = true ∧ true = true ∧ true = true ∧ true = true) ∧ (true = true ∧ true = true ∧ true = true ∧ true = true ∧ true = true ∧ true = true) ∧ (true = true ∧ true = true ∧ true = true ∧ true = true ∧ true = true ∧ true = true) ∧ (true = true ∧ true = true ∧ true = true ∧ true = true ∧ true = true ∧ true = true) ∧ (true = true ∧ true = true ∧ true = true ∧ true = true ∧ true = true ∧ true = true) ∧ (true = true ∧ true = true ∧ true = true ∧ true = true ∧ true = true ∧ true = true) ∧ (true = true ∧ true = true ∧ true = true ∧ true = true ∧ true = true ∧ true = true) ∧ (true = true ∧ true = true ∧ true = true ∧ true = true ∧ true = true ∧ true = true) ∧ (true = true ∧ true = true ∧ true = true ∧ true = true ∧ true = true ∧ true = true) ∧ (true = true ∧ true = true ∧ true = true ∧ true = true ∧ true = true ∧ true = true) ∧ (true = true ∧ true = true ∧ true = true ∧ true = true ∧ true = true ∧ true = true) ∧ (true = true ∧ true = true ∧ true = true ∧ true = true ∧ true = true ∧ true = true) ∧ (true = true ∧ true = true ∧ true = true ∧ true = true ∧ true = true ∧ true = true) ∧ (true = true ∧ true = true ∧ true = true ∧ true = true ∧ true = true ∧ true = true) ∧ (true = true ∧ true = true ∧ true = true ∧ true = true ∧ true = true ∧ true = true) ∧ (true = true ∧ true = true ∧ true = true ∧ true = true ∧ true = true ∧ true = true) ∧ true = true
set_option maxRecDepth 100000 in
theorem lbG (t : Nat → Int) : (callF Tryz.prog (SF fun _ _ _ => none) 300 49 [.agg (lim t)] []).map (fun r => r.2.2) = some (some ((lbG_G t))) := by kernel_rfl
--@]
set_option maxRecDepth 100000 in
theorem lbV (t : Nat → Int) : (callF Tryz.prog (SF fun _ _ _ => none) 300 49 [.agg (lim t)] []).map (fun r => (r.1, r.2.2)) = some (.agg (bytL (lbF t)), some (lbG_G t)) := by kernel_rfl
end Go.Proofs.YtcedljbapgmdmaaGreat.En

/- DERIVED. A number's bytes: the contract. -/
set_option linter.all false
namespace Go.Proofs.YtcedljbapgmdmaaGreat.En
open Go Go.RowKit

theorem mid_byte (X s : Nat) (hs : s + 8 ≤ 64) : X % 18446744073709551616 / 2 ^ s % 256 = X / 2 ^ s % 256 := by
  have h : (18446744073709551616 : Nat) = 2 ^ s * 2 ^ (64 - s) := by
    rw [← Nat.pow_add, show s + (64 - s) = 64 by omega]
  rw [h, Nat.mod_mul_right_div_self]
  exact Nat.mod_mod_of_dvd _ ⟨2 ^ (64 - s - 8), by rw [show (256 : Nat) = 2 ^ 8 from rfl, ← Nat.pow_add]; congr 1; omega⟩
theorem lbF_lm (m i : Nat) (hi : i < 48) : lbF (lm m) i = ((m / 256 ^ (47 - i) % 256 : Nat) : Int) := by
  unfold lbF lm lmN
  have h1 := Nat.mod_lt (47 - i) (show 0 < 8 by omega)
  have h2 := Nat.div_add_mod (47 - i) 8
  generalize (47 - i) / 8 = q at *
  generalize hr : (47 - i) % 8 = r at *
  have e : (256 : Nat) ^ (47 - i) = BB ^ q * 2 ^ (8 * r) := by
    rw [← h2, show (256 : Nat) = 2 ^ 8 from rfl, show BB = 2 ^ 64 from rfl, ← Nat.pow_mul, ← Nat.pow_mul, ← Nat.pow_add]
    congr 1
    omega
  have e2 : (((m / BB ^ q % BB : Nat) : Int)).fdiv (2 ^ (8 * r)) = ((m / BB ^ q % BB / 2 ^ (8 * r) : Nat) : Int) := by
    rw [show ((2 : Int) ^ (8 * r)) = (((2 : Nat) ^ (8 * r) : Nat) : Int) by rw [Int.natCast_pow]; rfl]
    exact Int.ofNat_fdiv _ _ ▸ rfl
  rw [e2, IntKind.wrap_u8]
  rw [e, ← Nat.div_div_eq_div_mul]
  have := mid_byte (m / BB ^ q) (8 * r) (by omega)
  have e3 : m / BB ^ q % BB = m / BB ^ q % 18446744073709551616 := rfl
  rw [e3]
  generalize m / BB ^ q % 18446744073709551616 / 2 ^ (8 * r) = u at *
  omega
theorem cells_bytL {A : Type} [Ab A] (ρ : Key → Loc) (f : Nat → Int) : cellsL ρ (bytL f : List (LV A)) = (List.range 48).map fun i => Value.int .u8 (f i) := by
  unfold bytL
  generalize List.range 48 = l
  induction l with
  | nil => rfl
  | cons i l ih => simp [cellsL, LV.cells, ih]
theorem plain_bytL {A : Type} [Ab A] (f : Nat → Int) : plainL (bytL f : List (LV A)) := by
  unfold bytL
  generalize List.range 48 = l
  induction l with
  | nil => trivial
  | cons i l ih => exact ⟨trivial, ih⟩
/-- The bytes of the number that an element is kept as, the highest first. -/
def byt (x : Fe) (i : Nat) : Int := ((mo (fv x) / 256 ^ (47 - i) % 256 : Nat) : Int)
theorem lbG_ok (t : Nat → Int) : condOk (some (lbG_G t)) := by unfold condOk lbG_G; and_intros <;> rfl
theorem lb_call (t : Nat → Int) (ρ : Key → Loc) (w : World) : Calls Tryz.prog 49 (trs ρ [(.agg (lim t) : LV Empty)]).toArray w fun e w' => e = .returned (LV.tr ρ (.agg (bytL (lbF t)) : LV Empty)) ∧ Below w.heap.size w w' :=
  plain_call (SF_ok _) rfl (lbV t) (lbG_ok t) (fun _ _ => rfl) ⟨⟨trivial, trivial, trivial, trivial, trivial, trivial, trivial⟩, trivial⟩ (fun ρ ρ' => by simp only [LV.tr, cells_bytL]) ρ w
set_option maxRecDepth 100000 in
theorem entLBytes : ∀ args w, (callFunc 49 args).run Tryz.prog w = .ok (.enter 49 args) w := ent_of (f := 49) (P := Tryz.prog) rfl rfl rfl
theorem lb_runs (a : Fe) : Runs 49 [bF [a]] (.agg (bytL (byt a))) := by
  refine ⟨rfl, fun ρ w => ?_⟩
  have := lb_call (lm (mo (fv a))) ρ w
  have e2 : trs ρ [bF [a]] = trs ρ [(.agg (lim (lm (mo (fv a)))) : LV Empty)] := by simp only [trs, bF, absL, tr_fe]
  rw [e2]
  have e3 : LV.tr ρ (.agg (bytL (lbF (lm (mo (fv a))))) : LV Empty) = LV.tr ρ (.agg (bytL (byt a)) : LV Fe) := by
    simp only [LV.tr, cells_bytL]
    rw [List.map_congr_left fun i hi => by rw [lbF_lm _ i (List.mem_range.1 hi)]]
    rfl
  rw [e3] at this
  exact this
noncomputable def conLBytes : ConP Tryz.prog Fe := mkP 49 entLBytes [1] (fun a => .agg (bytL (byt a))) lb_runs
set_option maxRecDepth 100000 in
theorem entFBytes : ∀ args w, (callFunc 113 args).run Tryz.prog w = .ok (.enter 113 args) w := ent_of (f := 113) (P := Tryz.prog) rfl rfl rfl
--@run fbyV (a : Fe) := callF Tryz.prog (SGb noD [conLBytes]) 60 113 [bF [a]] [] => .agg (bytL (byt (fmul a frone)))
--@[
set_option maxRecDepth 100000 in
def fbyV_G (a : Fe) : Prop := true = true
set_option maxRecDepth 100000 in
theorem fbyV (a : Fe) : (callF Tryz.prog (SGb noD [conLBytes]) 60 113 [bF [a]] []).map (fun r => (r.1, r.2.2)) = some (.agg (bytL (byt (fmul a frone))), some (fbyV_G a)) := by kernel_rfl
set_option maxRecDepth 100000 in
theorem fbyV_ok (a : Fe) : condOk (some (fbyV_G a)) := by unfold fbyV_G condOk; and_intros <;> rfl
--@]
noncomputable def conFBytes : ConP Tryz.prog Fe := mkP 113 entFBytes [1] (fun a => .agg (bytL (byt (fmul a frone)))) fun a => .of (SGa_ok _ _) rfl (fbyV a) (fbyV_ok a) rfl rfl
end Go.Proofs.YtcedljbapgmdmaaGreat.En

/- DERIVED. The document's number of 48 bytes. -/
set_option linter.all false
namespace Go.Proofs.YtcedljbapgmdmaaGreat.En
open Go Go.RowKit

noncomputable abbrev SFr (g : Nat → Int) : Sig Empty := sigOf (P := Tryz.prog) [] [] [] (I := inOf [bytL g]) [] noMs (advF noD)
/-- Bytes put together, one after the other. -/
def orG (g : Nat → Int) (q : Nat) : Nat → Int
  | 0 => 0
  | r + 1 => bits .or .u64 (orG g q r) (IntKind.u64.wrap (IntKind.u64.wrap (g (40 - 8 * q + r)) * 2 ^ (8 * (7 - r))))
def frK (g : Nat → Int) (q : Nat) : Int := orG g q 8
--@pre set_option maxRecDepth 100000
--@gen frG (g : Nat → Int) := (callF Tryz.prog (SFr g) 300 114 [.slice (.inp 0 0) 0 [] 48 48] []).map (fun r => r.2.2)
--@[
set_option maxRecDepth 100000 in
def frG_G (g : Nat → Int) : Prop := (true = true ∧ true = true ∧ true = true ∧ true = true ∧ true = true ∧ true = true ∧ true = true) ∧ (true = true ∧ true = true ∧ true = true ∧ true = true ∧ true = true ∧ true = true ∧ true = true) ∧ (true = true ∧ true = true ∧ true = true ∧ true = true ∧ true = true ∧ true = true ∧ true = true) ∧ (true = true ∧ true = true ∧ true = true ∧ true = true ∧ true = true ∧ true = true ∧ true = true) ∧ (true = true ∧ true = true ∧ true = true ∧ true = true ∧ true = true ∧ true = true ∧ true = true) ∧ (true = true ∧ true = true ∧ true = true ∧ true = true ∧ true = true ∧ true = true ∧ true = true) ∧ (true = true ∧ true = true ∧ true = true ∧ true = true ∧ true = true ∧ true = true ∧ true = true) ∧ (true = true ∧ true = true ∧ true = true ∧ true = true ∧ true = true ∧ true = true ∧ true = true) ∧ (true = true ∧ true = true ∧ true = true ∧ true = true ∧ true = true ∧ true = true ∧ true = true) ∧ (true = true ∧ true = true ∧ true = true ∧ true = true ∧ true = true ∧ true = true ∧ true = true) ∧ (true = true ∧ true = true ∧ true = true ∧ true = true ∧ true = true ∧ true = true ∧ true = true) ∧ (true = true ∧ true = true ∧ true = true ∧ true = true ∧ true = true ∧ true = true ∧ true = true) ∧ (true = true ∧ true = true ∧ true = true ∧ true = true ∧ true = true ∧ true = true ∧ true = true) ∧ (true = true ∧ true = true ∧ true = true ∧ true = true ∧ true = true ∧ true = true ∧ true = true) ∧ (true = true ∧ true = true ∧ true = true ∧ true = true ∧ true = true ∧ true = true ∧ true = true) ∧ (true = true ∧ true = true ∧ true = true ∧ true = true ∧ true = true ∧ true = true ∧ true = true) ∧ (true = true ∧ true = true ∧ true = true ∧ true = true ∧ true = true ∧ true = true ∧ true = true) ∧ (true = true ∧ true = true ∧ true = true ∧ true = true ∧ true = true ∧ true = true ∧ true = true) ∧ (true = true ∧ true = true ∧ true = true ∧ true = true ∧ true = true ∧ true = true ∧ true = true) ∧ (true = true ∧ true = true ∧ true = true ∧ true = true ∧ true = true ∧ true = true ∧ true = true) ∧ (true = true ∧ true = true ∧ true = true ∧ true = true ∧ true = true ∧ true = true ∧ true = true) ∧ (true = true ∧ true = true ∧ true = true ∧ true = true ∧ true = true ∧ true = true ∧ true = true) ∧ (true = true ∧ true = true ∧ true = true ∧ true = true ∧ true = true ∧ true = true ∧ true = true) ∧ (true = true ∧ true = true ∧ true = true ∧ true = true ∧ true = true ∧ true = true ∧ true = true) ∧ (true = true ∧ true = true ∧ true = true ∧ true = true ∧ true = true ∧ true = true ∧ true = true) ∧ (true = true ∧ true = true ∧ true = true ∧ true = true ∧ true = true ∧ true = true ∧ true = true) ∧ (true = true ∧ true = true ∧ true = true ∧ true = true ∧ true = true ∧ true = true ∧ true = true) ∧ (true = true ∧ true = true ∧ true = true ∧ true = true ∧ true = true ∧ true = true ∧ true = true) ∧ (true = true ∧ true = true ∧ true = true ∧ true = true ∧ true = true ∧ true = true ∧ true = true) ∧ (true = true ∧ true = true ∧ true = true ∧ true = true ∧ true = true ∧ true = true ∧ true = true) ∧ (true = true ∧ true = true ∧ true = true ∧ true = true ∧ true = true ∧ true = true ∧ true = true) ∧ (true = true ∧ true = true ∧ true = true ∧ true = true ∧ true = true ∧ true = true ∧ true = true) ∧ (true = true ∧ true = true ∧ true = true ∧ true = true ∧ true = true ∧ true = true ∧ true = true) ∧ (true = true ∧ true = true ∧ true = true ∧ true = true ∧ true = true ∧ true = true ∧ true = true) ∧ (true = true ∧ true = true ∧ true = true ∧ true = true ∧ true = true ∧ true = true ∧ true = true) ∧ (true = true ∧ true = true ∧ true = true ∧ true = true ∧ true = true ∧ true = true ∧ true = true) ∧ (true = true ∧ true = true ∧ true = true ∧ true = true ∧ true = true ∧ true = true ∧ true = true) ∧ (true = true ∧ true = true ∧ true = true ∧ true = true ∧ true = true ∧ true = true ∧ true = true) ∧ (true = true ∧ true = true ∧ true = true ∧ true = true ∧ true = true ∧ true = true ∧ true = true) ∧ (true = true ∧ true = true ∧ true = true ∧ true = true ∧ true = true ∧ true = true ∧ true = true) ∧ (true = true ∧ true = true ∧ true = true ∧ true = true ∧ true = true ∧ true = true ∧ true = true) ∧ (true = true ∧ true = true ∧ true = true ∧ true = true ∧ true = true ∧ true = true ∧ true = true) ∧ (true = true ∧ true = true ∧ true = true ∧ true = true ∧ true = true ∧ true = true ∧ true = true) ∧ (true = true ∧ true = true ∧ true = true ∧ true = true ∧ true = true ∧ true = true ∧ true = true) ∧ (true = true ∧ true = true ∧ true = true ∧ true = true ∧ true = true ∧ true = true ∧ true = true) ∧ (true = true ∧ true = true ∧ true = true ∧ true = true ∧ true = true ∧ true = true ∧ true = true) ∧ (true = true ∧ true = true ∧ true = true ∧ true = true ∧ true = true ∧ true = true ∧ true = true) ∧ (true = true ∧ true = true ∧ true = true ∧ true = true ∧ true = true ∧ true = true ∧ true = true) ∧ true = true
set_option maxRecDepth 100000 in
theorem frG (g : Nat → Int) : (callF Tryz.prog (SFr g) 300 114 [.slice (.inp 0 0) 0 [] 48 48] []).map (fun r => r.2.2) = some (some ((frG_G g))) := by kernel_rfl
--@]
set_option maxRecDepth 100000 in
theorem frV (g : Nat → Int) : (callF Tryz.prog (SFr g) 300 114 [.slice (.inp 0 0) 0 [] 48 48] []).map (fun r => (r.1, r.2.2)) = some (.tup [.agg (lim (frK g)), .bool true], some (frG_G g)) := by kernel_rfl
end Go.Proofs.YtcedljbapgmdmaaGreat.En

/- DERIVED. The document's number of 48 bytes: on numbers. -/
set_option linter.all false
namespace Go.Proofs.YtcedljbapgmdmaaGreat.En
open Go Go.RowKit

/-- So many bytes from a place on, as a number, the highest first. -/
def nB (b : Nat → Nat) (s : Nat) : Nat → Nat
  | 0 => 0
  | r + 1 => nB b s r * 256 + b (s + r)
theorem nB_lt {b : Nat → Nat} (s : Nat) : ∀ r, (∀ j, s ≤ j → j < s + r → b j < 256) → nB b s r < 256 ^ r
  | 0, _ => by simp [nB]
  | r + 1, h => by
    have h1 := nB_lt s r fun j h1 h2 => h j h1 (by omega)
    have h2 := h (s + r) (by omega) (by omega)
    rw [nB, Nat.pow_succ]
    have : (nB b s r + 1) * 256 ≤ 256 ^ r * 256 := Nat.mul_le_mul_right _ h1
    omega
theorem nB_split (b : Nat → Nat) (s m : Nat) : ∀ n, nB b s (m + n) = nB b s m * 256 ^ n + nB b (s + m) n
  | 0 => by simp [nB]
  | n + 1 => by
    rw [← Nat.add_assoc, nB, nB_split b s m n, nB, Nat.pow_succ, Nat.add_mul, Nat.mul_assoc, Nat.add_assoc, Nat.add_assoc]
theorem orG_val {g : Nat → Int} {b : Nat → Nat} (hg : ∀ j, j < 48 → g j = (b j : Int)) (hb : ∀ j, j < 48 → b j < 256) {q : Nat} (hq : q < 6) : ∀ r, r ≤ 8 → orG g q r = ((nB b (40 - 8 * q) r * 2 ^ (8 * (8 - r)) : Nat) : Int)
  | 0, _ => by simp [orG, nB]
  | r + 1, hr => by
    have ih := orG_val hg hb hq r (by omega)
    have hlt := nB_lt (b := b) (40 - 8 * q) r fun j h1 h2 => hb j (by omega)
    have hbj := hb (40 - 8 * q + r) (by omega)
    have hY : b (40 - 8 * q + r) * 2 ^ (8 * (7 - r)) < 2 ^ (8 * (8 - r)) := by
      have : (2 : Nat) ^ (8 * (8 - r)) = 256 * 2 ^ (8 * (7 - r)) := by
        rw [show (256 : Nat) = 2 ^ 8 from rfl, ← Nat.pow_add]; congr 1; omega
      rw [this]
      exact Nat.mul_lt_mul_of_pos_right hbj (Nat.two_pow_pos _)
    have hX : nB b (40 - 8 * q) r * 2 ^ (8 * (8 - r)) < 18446744073709551616 := by
      have e : (18446744073709551616 : Nat) = 256 ^ r * 2 ^ (8 * (8 - r)) := by
        rw [show (256 : Nat) = 2 ^ 8 from rfl, ← Nat.pow_mul, ← Nat.pow_add, show 8 * r + 8 * (8 - r) = 64 by omega]
      rw [e]
      exact Nat.mul_lt_mul_of_pos_right hlt (Nat.two_pow_pos _)
    have hY2 : (2 : Nat) ^ (8 * (8 - r)) ≤ 18446744073709551616 := by
      rw [show (18446744073709551616 : Nat) = 2 ^ 64 from rfl]
      exact Nat.pow_le_pow_right (by omega) (by omega)
    rw [orG, ih, hg _ (by omega)]
    have w1 : IntKind.u64.wrap ((b (40 - 8 * q + r) : Nat) : Int) = ((b (40 - 8 * q + r) : Nat) : Int) := wuN _ (by omega)
    have w2 : IntKind.u64.wrap (((b (40 - 8 * q + r) : Nat) : Int) * 2 ^ (8 * (7 - r))) = ((b (40 - 8 * q + r) * 2 ^ (8 * (7 - r)) : Nat) : Int) := by
      rw [show ((2 : Int) ^ (8 * (7 - r))) = (((2 : Nat) ^ (8 * (7 - r)) : Nat) : Int) by rw [Int.natCast_pow]; rfl, ← Int.natCast_mul]
      exact wuN _ (by omega)
    rw [w1, w2, bits_or_u64_nat _ _ hX (by omega), Nat.mul_comm (nB b (40 - 8 * q) r), ← Nat.two_pow_add_eq_or_of_lt hY]
    congr 1
    have e : (2 : Nat) ^ (8 * (8 - r)) = 256 * 2 ^ (8 * (7 - r)) := by
      rw [show (256 : Nat) = 2 ^ 8 from rfl, ← Nat.pow_add]; congr 1; omega
    rw [e, nB, show 8 * (8 - (r + 1)) = 8 * (7 - r) by omega, Nat.add_mul, Nat.mul_comm (256 * 2 ^ (8 * (7 - r))), Nat.mul_assoc]
theorem frK_lm {g : Nat → Int} {b : Nat → Nat} (hg : ∀ j, j < 48 → g j = (b j : Int)) (hb : ∀ j, j < 48 → b j < 256) (q : Nat) (hq : q < 6) : frK g q = lm (nB b 0 48) q := by
  unfold frK
  rw [orG_val hg hb hq 8 (Nat.le_refl _)]
  simp only [Nat.sub_self, Nat.mul_zero, Nat.pow_zero, Nat.mul_one]
  unfold lm lmN
  congr 1
  have h1 := nB_split b 0 (40 - 8 * q) (8 + 8 * q)
  have h2 := nB_split b (0 + (40 - 8 * q)) 8 (8 * q)
  rw [show 40 - 8 * q + (8 + 8 * q) = 48 by omega] at h1
  rw [h1, h2, Nat.zero_add]
  have l1 := nB_lt (b := b) (40 - 8 * q) 8 fun j h1 h2 => hb j (by omega)
  have l2 := nB_lt (b := b) (40 - 8 * q + 8) (8 * q) fun j h1 h2 => hb j (by omega)
  have e : BB ^ q = 256 ^ (8 * q) := by
    rw [show BB = 256 ^ 8 by decide, ← Nat.pow_mul]
  have e2 : (256 : Nat) ^ (8 + 8 * q) = 256 ^ (8 * q) * BB := by
    rw [Nat.add_comm, Nat.pow_add, show BB = 256 ^ 8 by decide]
  rw [e, e2]
  generalize nB b (40 - 8 * q) 8 = u at *
  generalize nB b (40 - 8 * q + 8) (8 * q) = v at *
  generalize nB b 0 (40 - 8 * q) = t at *
  generalize (256 : Nat) ^ (8 * q) = D at *
  have hD : 0 < D := by omega
  rw [show t * (D * BB) + (u * D + v) = D * (t * BB + u) + v by rw [Nat.mul_add, ← Nat.mul_assoc D, Nat.mul_comm D t, Nat.mul_assoc t, Nat.mul_comm D u]; omega]
  rw [Nat.mul_add_div hD, Nat.div_eq_of_lt l2, Nat.add_zero, Nat.mul_add_mod_self_right, Nat.mod_eq_of_lt]
  have : (256 : Nat) ^ 8 = BB := by decide
  omega
/-- The digits of a number are its bytes. -/
theorem nB_digits (m : Nat) : ∀ r, r ≤ 48 → nB (fun i => m / 256 ^ (47 - i) % 256) 0 r = m / 256 ^ (48 - r) % 256 ^ r
  | 0, _ => by simp [nB, Nat.mod_one]
  | r + 1, hr => by
    rw [nB, nB_digits m r (by omega), Nat.zero_add]
    have e : m / 256 ^ (48 - r) = m / 256 ^ (47 - r) / 256 := by
      rw [Nat.div_div_eq_div_mul, ← Nat.pow_succ]; congr 2; omega
    rw [e, show 48 - (r + 1) = 47 - r by omega, Nat.pow_succ]
    generalize m / 256 ^ (47 - r) = X
    rw [Nat.mul_comm (256 ^ r) 256, Nat.mod_mul, Nat.mul_comm 256]
    omega
theorem mo_raw {N : Nat} (h : N < pN) : mo (N * rI % pN) = N := by
  have h1 : mo (N * rI % pN) % pN = N % pN := by
    rw [mo_red, mo_cg, Nat.mul_assoc, Nat.mul_comm rI, cg_mul (rfl : N % pN = N % pN) rI_cg, Nat.mul_one]
  rwa [mo_mod, Nat.mod_eq_of_lt h] at h1
end Go.Proofs.YtcedljbapgmdmaaGreat.En

/- DERIVED. The document's number of 48 bytes: the contract. -/
set_option linter.all false
namespace Go.Proofs.YtcedljbapgmdmaaGreat.En
open Go Go.RowKit

noncomputable abbrev SFf (g : Nat → Int) : Sig Fe := sigOf (P := Tryz.prog) [] [] [] (I := inOf [bytL g]) [] noMs (advF noD)
theorem SFf_ok (g : Nat → Int) : SigOk Tryz.prog (SFf g) := sigOf_ok [] [] [] [] (noMs_ok _) _ (inOf1_ok (plain_bytL g))
set_option maxRecDepth 100000 in
theorem frVF (g : Nat → Int) : (callF Tryz.prog (SFf g) 300 114 [.slice (.inp 0 0) 0 [] 48 48] []).map (fun r => (r.1, r.2.2)) = some (.tup [limA (frK g), .bool true], some (frG_G g)) := by kernel_rfl
theorem frG_ok (g : Nat → Int) : condOk (some (frG_G g)) := by unfold condOk frG_G; and_intros <;> rfl
end Go.Proofs.YtcedljbapgmdmaaGreat.En

/- DERIVED. The document's number of 48 bytes: the contract. -/
set_option linter.all false
namespace Go.Proofs.YtcedljbapgmdmaaGreat.En
open Go Go.RowKit

/-- The number of 48 bytes. -/
def beN (g : Nat → Int) : Nat := nB (fun j => (g j).toNat) 0 48
theorem frK_be {g : Nat → Int} (hg : rngB g 0 48) (q : Nat) (hq : q < 6) : frK g q = lm (beN g) q :=
  frK_lm (b := fun j => (g j).toNat) (fun j hj => by have := hg j hj; rw [Nat.zero_add] at this; show g j = (((g j).toNat : Nat) : Int); omega) (fun j hj => by have := hg j hj; rw [Nat.zero_add] at this; show (g j).toNat < 256; omega) q hq
/-- The element that is kept as this number. -/
def rawF (n : Nat) : Fe := mkF (n * rI % pN)
theorem fv_rawF (n : Nat) : fv (rawF n) = n * rI % pN := by unfold rawF; rw [fv_mk]
theorem mo_rawF {n : Nat} (h : n < pN) : mo (fv (rawF n)) = n := by rw [fv_rawF, mo_raw h]
theorem tup_fe {f : Nat → Int} {x : Fe} (ρ : Key → Loc) (h : ∀ q, q < 6 → f q = lm (mo (fv x)) q) : LV.tr ρ (.tup [limA f, .bool true] : LV Fe) = LV.tr ρ (.tup [.agg [.abs x], .bool true] : LV Fe) := by
  have e : LV.tr ρ (limA f : LV Fe) = LV.tr ρ (.agg [.abs x] : LV Fe) := by
    rw [tr_fe, ← lim_congr h]
    rfl
  show Value.tuple #[LV.tr ρ (limA f : LV Fe), .bool true] = Value.tuple #[LV.tr ρ (.agg [.abs x] : LV Fe), .bool true]
  rw [e]
theorem from_told {g : Nat → Int} (hg : rngB g 0 48) (hn : beN g < pN) : Told Tryz.prog 114 [bytL g] [.slice (.inp 0 0) 0 [] 48 48] (.tup [.agg [.abs (rawF (beN g))], .bool true]) [] := by
  refine told_below rfl fun ρ w ha => ?_
  have hk : ∀ t i, kinL (okKey ([] : Mem Fe) ρ) ((SFf g).inp t i) := fun t i => by
    show kinL _ (inOf [bytL g] t i)
    cases t with
    | succ t => trivial
    | zero => cases i with
      | zero => exact plainL_kin _ _ (plain_bytL g)
      | succ i => trivial
  have := calls_top (SFf_ok g) mixed (frVF g) (frG_ok g) ha.mem ha.kinV hk fun ρ ρ' => rfl
  have e2 := tup_fe (ρ := ρ) (f := frK g) (x := rawF (beN g)) fun q hq => by rw [mo_rawF hn]; exact frK_be hg q hq
  rw [e2] at this
  exact this
end Go.Proofs.YtcedljbapgmdmaaGreat.En

/- DERIVED. The document's number of 48 bytes: the contract. -/
set_option linter.all false
namespace Go.Proofs.YtcedljbapgmdmaaGreat.En
open Go Go.RowKit

def fromFn (I : Inp Fe) (vs : List (LV Fe)) (mem : Mem Fe) : Option (RdC Fe) := match vs with
  | [.slice k o q len cap] => match o, q with
    | 0, [] => match Nat.beq len 48, Nat.beq cap 48, at? I mem k with
      | true, true, some bl => match isDead bl.kd, flatI .u8 bl.us with
        | false, some l => match Nat.beq l.length 48 with
          | true => some ⟨[bytL fun j => l.getD j 0], [k], [.slice (.inp 0 0) 0 [] 48 48], .tup [.agg [.abs (rawF (beN fun j => l.getD j 0))], .bool true], [], rngB (fun j => l.getD j 0) 0 48 ∧ (beN fun j => l.getD j 0) < pN⟩
          | false => none
        | _, _ => none
      | _, _, _ => none
    | _, _ => none
  | _ => none
theorem bytL_list {l : List Int} (h : l.length = 48) : bytL (A := Fe) (fun j => l.getD j 0) = l.map fun x => .int .u8 x := by
  unfold bytL
  apply List.ext_getElem
  · simp [h]
  · intro i h1 h2
    have : i < l.length := by simpa using h2
    simp [this]
theorem from_ok : ∀ I vs mem r, fromFn I vs mem = some r → r.c → RdOk Tryz.prog 114 I vs mem r := by
  intro I vs mem r h hc
  unfold fromFn at h
  split at h
  · rename_i k o q len cap
    split at h
    · split at h
      · rename_i bl hl hcp hb
        split at h
        · rename_i l hd hf
          split at h
          · rename_i hlen
            cases h
            have hl := beqN hl
            have hcp := beqN hcp
            have hlen := beqN hlen
            subst hl; subst hcp
            obtain ⟨h1, h2⟩ := hc
            exact {
              args := rfl
              fit := ⟨⟨by simp [keyMap, ιOf], trivial⟩, trivial⟩
              len := rfl
              blk := fun j k' us hk hus => by
                match j with
                | 0 =>
                  cases hk; cases hus
                  exact ⟨bl, hb, hd, plain_bytL _, by rw [bytL_list hlen, ← flatI_some hf]; exact Like.refl _⟩
                | j + 1 => simp at hk
              told := from_told h1 h2
              fitv := (plain_ren _ _ _ (show LV.plain (.tup [.agg [.abs (rawF (beN fun j => l.getD j 0))], .bool true] : LV Fe) from ⟨⟨trivial, trivial⟩, trivial, trivial⟩)).2
              fitb := fun b hb => absurd hb List.not_mem_nil }
          · cases h
        · cases h
      · cases h
    · cases h
  · cases h
set_option maxRecDepth 100000 in
theorem entRFrom : ∀ args w, (callFunc 114 args).run Tryz.prog w = .ok (.enter 114 args) w := ent_of (f := 114) (P := Tryz.prog) rfl rfl rfl
noncomputable def conRFrom : ConC Tryz.prog Fe := conRd 114 entRFrom fromFn from_ok
end Go.Proofs.YtcedljbapgmdmaaGreat.En

/- DERIVED. An element as the document's. -/
set_option linter.all false
namespace Go.Proofs.YtcedljbapgmdmaaGreat.En
open Go Go.RowKit

noncomputable abbrev SPa (A : Adv) (ps : List (ConP Tryz.prog Fe)) : Sig Fe := sigOf (P := Tryz.prog) ([conFBytes, conROf] ++ ps) [] [conRFrom] (I := noIF) [] msF A
theorem SPa_ok (A : Adv) (ps : List (ConP Tryz.prog Fe)) : SigOk Tryz.prog (SPa A ps) := sigOf_ok _ [] [conRFrom] [] msF_ok _ noIF_ok
def bytI (x : Fe) (j : Nat) : Int := ((List.range 48).map (byt x)).getD j 0
def partRaw (a : Fe) : Fe := fmul (rawF (beN (bytI (fmul a frone)))) ftwo
def partC (a : Fe) : Prop := rngB (bytI (fmul a frone)) 0 48 ∧ beN (bytI (fmul a frone)) < pN
set_option maxRecDepth 100000 in
theorem paV (a : Fe) : (callF Tryz.prog (SPa (advP noD [114] []) []) 60 75 [bF [a]] []).map (fun r => (r.1, r.2.2)) = some (.agg [.abs (partRaw a)], some (true = true ∧ (true = true ∧ partC a ∧ true = true) ∧ true = true)) := by kernel_rfl
end Go.Proofs.YtcedljbapgmdmaaGreat.En

/- DERIVED. An element as the document's: the contract. -/
set_option linter.all false
namespace Go.Proofs.YtcedljbapgmdmaaGreat.En
open Go Go.RowKit

theorem nB_cg {b b' : Nat → Nat} (s : Nat) : ∀ r, (∀ j, s ≤ j → j < s + r → b j = b' j) → nB b s r = nB b' s r
  | 0, _ => rfl
  | r + 1, h => by rw [nB, nB, nB_cg s r fun j h1 h2 => h j h1 (by omega), h (s + r) (by omega) (by omega)]
theorem bytI_eq (x : Fe) (j : Nat) (hj : j < 48) : bytI x j = ((mo (fv x) / 256 ^ (47 - j) % 256 : Nat) : Int) := by
  unfold bytI
  rw [List.getD_eq_getElem?_getD, List.getElem?_map, List.getElem?_range hj]
  rfl
theorem p_lt : pN < 256 ^ 48 := by decide +kernel
theorem byt_digits (x : Fe) (r : Nat) (hr : r ≤ 48) : nB (fun j => (bytI x j).toNat) 0 r = mo (fv x) / 256 ^ (48 - r) % 256 ^ r := by
  rw [← nB_digits _ r hr]
  exact nB_cg 0 r fun j _ hj => by rw [bytI_eq x j (by omega), Int.toNat_natCast]
theorem mod48 {m n : Nat} (h : m < 256 ^ n) : m / 256 ^ (n - n) % 256 ^ n = m := by
  rw [Nat.sub_self, Nat.pow_zero, Nat.div_one, Nat.mod_eq_of_lt h]
theorem mo_lt48 (x : Fe) : mo (fv x) < 256 ^ 48 := Nat.lt_trans (mo_lt _) p_lt
theorem beN_byt (x : Fe) : beN (bytI x) = mo (fv x) := (byt_digits x 48 (Nat.le_refl _)).trans (mod48 (mo_lt48 x))
theorem partC_ok (a : Fe) : partC a := by
  refine ⟨fun j hj => ?_, by rw [beN_byt]; exact mo_lt _⟩
  rw [Nat.zero_add, bytI_eq _ j hj]
  have := Nat.mod_lt (mo (fv (fmul a frone)) / 256 ^ (47 - j)) (show 0 < 256 by omega)
  generalize mo (fv (fmul a frone)) / 256 ^ (47 - j) % 256 = u at *
  omega
theorem one_two : fv frone * fv ftwo % pN = 1 % pN := by decide +kernel
theorem partRaw_mo (a : Fe) : mo (fv (partRaw a)) = mo (fv a) := by
  have h1 : fv (rawF (beN (bytI (fmul a frone)))) % pN = fv (fmul a frone) % pN := mo_inj (by rw [mo_rawF (partC_ok a).2, beN_byt])
  unfold partRaw
  rw [fv_mul, mo_red, ← mo_red (_ * _), cg_mul h1 (rfl : fv ftwo % pN = fv ftwo % pN), fv_mul, Nat.mod_mul_mod, Nat.mul_assoc, cg_mul (rfl : fv a % pN = fv a % pN) one_two, Nat.mul_one, mo_red]
set_option maxRecDepth 100000 in
theorem entPart : ∀ args w, (callFunc 75 args).run Tryz.prog w = .ok (.enter 75 args) w := ent_of (f := 75) (P := Tryz.prog) rfl rfl rfl
theorem part_runs (a : Fe) : Runs 75 [bF [a]] (.agg [.abs a]) :=
  (Runs.of (SPa_ok _ _) rfl (paV a) ⟨rfl, ⟨rfl, partC_ok a, rfl⟩, rfl⟩ rfl rfl).as rfl fun ρ => by rw [tr_fe, tr_fe, partRaw_mo]
noncomputable def conPart : ConP Tryz.prog Fe := mkP 75 entPart [1] (fun a => .agg [.abs a]) part_runs
end Go.Proofs.YtcedljbapgmdmaaGreat.En

/- DERIVED. An element of the document's extension. -/
set_option linter.all false
namespace Go.Proofs.YtcedljbapgmdmaaGreat.En
open Go Go.RowKit

set_option maxRecDepth 100000 in
theorem entRef : ∀ args w, (callFunc 27 args).run Tryz.prog w = .ok (.enter 27 args) w := ent_of (f := 27) (P := Tryz.prog) rfl rfl rfl
--@run refV (a : Fe) := callF Tryz.prog (SGb noD [conPart]) 60 27 [bF [a]] [] => .agg [.abs a, .int .u64 0, .int .u64 0, .int .u64 0, .int .u64 0, .int .u64 0, .int .u64 0]
--@[
set_option maxRecDepth 100000 in
def refV_G (a : Fe) : Prop := true = true
set_option maxRecDepth 100000 in
theorem refV (a : Fe) : (callF Tryz.prog (SGb noD [conPart]) 60 27 [bF [a]] []).map (fun r => (r.1, r.2.2)) = some (.agg [.abs a, .int .u64 0, .int .u64 0, .int .u64 0, .int .u64 0, .int .u64 0, .int .u64 0], some (refV_G a)) := by kernel_rfl
set_option maxRecDepth 100000 in
theorem refV_ok (a : Fe) : condOk (some (refV_G a)) := by unfold refV_G condOk; and_intros <;> rfl
--@]
noncomputable def conRef : ConP Tryz.prog Fe := mkP 27 entRef [1] (fun a => eV (a, zE)) fun a => (Runs.of (SGa_ok _ _) rfl (refV a) (refV_ok a) rfl rfl).as rfl (pad0_tr a)
end Go.Proofs.YtcedljbapgmdmaaGreat.En

/- DERIVED. A point as the document's. -/
set_option linter.all false
namespace Go.Proofs.YtcedljbapgmdmaaGreat.En
open Go Go.RowKit

noncomputable abbrev psL : List (ConP Tryz.prog Fe) := [conGXY, conRef, conRAt, conROn, conAff, conGen, conInGrp]
def refsN (a b c : Fe) : C3 := ((gxyX (a, b, c), zE), (gxyY (a, b, c), zE), eOne)
set_option maxRecDepth 100000 in
theorem entRefs : ∀ args w, (callFunc 31 args).run Tryz.prog w = .ok (.enter 31 args) w := ent_of (f := 31) (P := Tryz.prog) rfl rfl rfl
--@run rf1V (a b c : Fe) := callF Tryz.prog (SGb (dci 31 [(2, 1, true)]) psL) 60 31 [bF [a, b, c]] [] => z36
--@[
set_option maxRecDepth 100000 in
def rf1V_G (a b c : Fe) : Prop := (true = true ∧ true = true) ∧ (!!isz c) = true ∧ true = true
set_option maxRecDepth 100000 in
theorem rf1V (a b c : Fe) : (callF Tryz.prog (SGb (dci 31 [(2, 1, true)]) psL) 60 31 [bF [a, b, c]] []).map (fun r => (r.1, r.2.2)) = some (z36, some (rf1V_G a b c)) := by kernel_rfl
--@]
--@run rf2V (a b c : Fe) := callF Tryz.prog (SGb (dci 31 [(2, 1, false)]) psL) 60 31 [bF [a, b, c]] [] => cV (refsN a b c)
--@[
set_option maxRecDepth 100000 in
def rf2V_G (a b c : Fe) : Prop := (true = true ∧ true = true) ∧ (!!isz c) = false ∧ true = true
set_option maxRecDepth 100000 in
theorem rf2V (a b c : Fe) : (callF Tryz.prog (SGb (dci 31 [(2, 1, false)]) psL) 60 31 [bF [a, b, c]] []).map (fun r => (r.1, r.2.2)) = some (cV (refsN a b c), some (rf2V_G a b c)) := by kernel_rfl
--@]
def refsF (p : Pt) : C3 := bif isz p.2.2 then cz else refsN p.1 p.2.1 p.2.2
theorem refs_t {p : Pt} (h : isz p.2.2 = true) : refsF p = cz := by unfold refsF; rw [h, cond_true]
theorem refs_f {p : Pt} (h : isz p.2.2 = false) : refsF p = refsN p.1 p.2.1 p.2.2 := by unfold refsF; rw [h, cond_false]
theorem refs_runs (a b c : Fe) : Runs 31 [bF [a, b, c]] (cV (refsF (a, b, c))) := by
  cases h : isz c with
  | true =>
    rw [refs_t (p := (a, b, c)) h]
    exact (Runs.of (SGa_ok _ _) rfl (rf1V a b c) (by unfold condOk rf1V_G; simp [h]) rfl rfl).as rfl z36_tr
  | false =>
    rw [refs_f (p := (a, b, c)) h]
    exact .of (SGa_ok _ _) rfl (rf2V a b c) (by unfold condOk rf2V_G; simp [h]) rfl rfl
noncomputable def conRefs : ConP Tryz.prog Fe := mkP 31 entRefs [3] (fun a b c => cV (refsF (a, b, c))) refs_runs
end Go.Proofs.YtcedljbapgmdmaaGreat.En

/- DERIVED. Is a point on the curve. -/
set_option linter.all false
namespace Go.Proofs.YtcedljbapgmdmaaGreat.En
open Go Go.RowKit

set_option maxRecDepth 100000 in
theorem entOn : ∀ args w, (callFunc 76 args).run Tryz.prog w = .ok (.enter 76 args) w := ent_of (f := 76) (P := Tryz.prog) rfl rfl rfl
--@run on1V (a b c : Fe) := callF Tryz.prog (SGb (dci 76 [(2, 3, true), (2, 6, true)]) psL) 60 76 [bF [a, b, c]] [] => .bool true
--@[
set_option maxRecDepth 100000 in
def on1V_G (a b c : Fe) : Prop := (true = true ∧ true = true) ∧ (!(!isz c) == isz c) = true ∧ (!!isz c) = true
set_option maxRecDepth 100000 in
theorem on1V (a b c : Fe) : (callF Tryz.prog (SGb (dci 76 [(2, 3, true), (2, 6, true)]) psL) 60 76 [bF [a, b, c]] []).map (fun r => (r.1, r.2.2)) = some (.bool true, some (on1V_G a b c)) := by kernel_rfl
--@]
--@run on2V (a b c : Fe) := callF Tryz.prog (SGb (dci 76 [(2, 3, true), (2, 6, false)]) psL) 60 76 [bF [a, b, c]] [] => .bool (ronF (gxyX (a, b, c), zE) (gxyY (a, b, c), zE) false)
--@[
set_option maxRecDepth 100000 in
def on2V_G (a b c : Fe) : Prop := (true = true ∧ true = true) ∧ (!(!isz c) == isz c) = true ∧ (!!isz c) = false
set_option maxRecDepth 100000 in
theorem on2V (a b c : Fe) : (callF Tryz.prog (SGb (dci 76 [(2, 3, true), (2, 6, false)]) psL) 60 76 [bF [a, b, c]] []).map (fun r => (r.1, r.2.2)) = some (.bool (ronF (gxyX (a, b, c), zE) (gxyY (a, b, c), zE) false), some (on2V_G a b c)) := by kernel_rfl
--@]
def onF (p : Pt) : Bool := bif isz p.2.2 then true else ronF (gxyX p, zE) (gxyY p, zE) false
theorem on_t {p : Pt} (h : isz p.2.2 = true) : onF p = true := by unfold onF; rw [h, cond_true]
theorem on_f {p : Pt} (h : isz p.2.2 = false) : onF p = ronF (gxyX p, zE) (gxyY p, zE) false := by unfold onF; rw [h, cond_false]
theorem on_runs (a b c : Fe) : Runs 76 [bF [a, b, c]] (.bool (onF (a, b, c))) := by
  cases h : isz c with
  | true =>
    rw [on_t (p := (a, b, c)) h]
    exact .of (SGa_ok _ _) rfl (on1V a b c) (by unfold condOk on1V_G; simp [h]) rfl rfl
  | false =>
    rw [on_f (p := (a, b, c)) h]
    exact .of (SGa_ok _ _) rfl (on2V a b c) (by unfold condOk on2V_G; simp [h]) rfl rfl
noncomputable def conOn : ConP Tryz.prog Fe := mkP 76 entOn [3] (fun a b c => .bool (onF (a, b, c))) on_runs
end Go.Proofs.YtcedljbapgmdmaaGreat.En

/- DERIVED. Is a point the document's. -/
set_option linter.all false
namespace Go.Proofs.YtcedljbapgmdmaaGreat.En
open Go Go.RowKit

def eqR (r q : C3) : Bool := eisz (cadd ((r.1.1, r.1.2), (r.2.1.1, r.2.1.2), (r.2.2.1, r.2.2.2)) (cnegF q)).2.2
set_option maxRecDepth 100000 in
theorem entSame : ∀ args w, (callFunc 28 args).run Tryz.prog w = .ok (.enter 28 args) w := ent_of (f := 28) (P := Tryz.prog) rfl rfl rfl
--@run sm1V (a b c d e f g h i : Fe) := callF Tryz.prog (SGb (dci 28 [(1, 1, true)]) ([conOn, conRefs, conRCEqual] ++ psL)) 60 28 [bF [a, b, c], bF [d, e, f, g, h, i]] [] => .bool (eqR (refsF (a, b, c)) ((d, e), (f, g), (h, i)))
--@[
set_option maxRecDepth 100000 in
def sm1V_G (a b c d e f g h i : Fe) : Prop := onF (a, b, c) = true
set_option maxRecDepth 100000 in
theorem sm1V (a b c d e f g h i : Fe) : (callF Tryz.prog (SGb (dci 28 [(1, 1, true)]) ([conOn, conRefs, conRCEqual] ++ psL)) 60 28 [bF [a, b, c], bF [d, e, f, g, h, i]] []).map (fun r => (r.1, r.2.2)) = some (.bool (eqR (refsF (a, b, c)) ((d, e), (f, g), (h, i))), some (sm1V_G a b c d e f g h i)) := by kernel_rfl
--@]
--@run sm2V (a b c d e f g h i : Fe) := callF Tryz.prog (SGb (dci 28 [(1, 1, false)]) ([conOn, conRefs, conRCEqual] ++ psL)) 60 28 [bF [a, b, c], bF [d, e, f, g, h, i]] [] => .bool false
--@[
set_option maxRecDepth 100000 in
def sm2V_G (a b c d e f g h i : Fe) : Prop := onF (a, b, c) = false
set_option maxRecDepth 100000 in
theorem sm2V (a b c d e f g h i : Fe) : (callF Tryz.prog (SGb (dci 28 [(1, 1, false)]) ([conOn, conRefs, conRCEqual] ++ psL)) 60 28 [bF [a, b, c], bF [d, e, f, g, h, i]] []).map (fun r => (r.1, r.2.2)) = some (.bool false, some (sm2V_G a b c d e f g h i)) := by kernel_rfl
--@]
def sameF (p : Pt) (q : C3) : Bool := bif onF p then eqR (refsF p) q else false
theorem same_t {p : Pt} {q : C3} (h : onF p = true) : sameF p q = eqR (refsF p) q := by unfold sameF; rw [h, cond_true]
theorem same_f {p : Pt} {q : C3} (h : onF p = false) : sameF p q = false := by unfold sameF; rw [h, cond_false]
theorem same_runs (a b c d e f g h i : Fe) : Runs 28 [bF [a, b, c], bF [d, e, f, g, h, i]] (.bool (sameF (a, b, c) ((d, e), (f, g), (h, i)))) := by
  cases h0 : onF (a, b, c) with
  | true =>
    rw [same_t h0]
    exact .of (SGa_ok _ _) rfl (sm1V a b c d e f g h i) (by unfold condOk sm1V_G; and_intros <;> first | with_reducible rfl | assumption) rfl rfl
  | false =>
    rw [same_f h0]
    exact .of (SGa_ok _ _) rfl (sm2V a b c d e f g h i) (by unfold condOk sm2V_G; and_intros <;> first | with_reducible rfl | assumption) rfl rfl
noncomputable def conSame : ConP Tryz.prog Fe := mkP 28 entSame [3, 6] (fun a b c d e f g h i => .bool (sameF (a, b, c) ((d, e), (f, g), (h, i)))) same_runs
end Go.Proofs.YtcedljbapgmdmaaGreat.En

/- DERIVED. The document's generator of the first group. -/
set_option linter.all false
namespace Go.Proofs.YtcedljbapgmdmaaGreat.En
open Go Go.RowKit

def rgenF : C3 := ((fGx, fmul zE ftwo), (fGy, fmul zE ftwo), eOne)
set_option maxRecDepth 100000 in
theorem entRGen : ∀ args w, (callFunc 42 args).run Tryz.prog w = .ok (.enter 42 args) w := ent_of (f := 42) (P := Tryz.prog) rfl rfl rfl
--@run rgnV := callF Tryz.prog (SRC noD [conREOne]) 90 42 [.bool false] [] => cV rgenF
--@[
set_option maxRecDepth 100000 in
def rgnV_G  : Prop := (true = true ∧ true = true) ∧ (true = true ∧ true = true) ∧ true = true
set_option maxRecDepth 100000 in
theorem rgnV  : (callF Tryz.prog (SRC noD [conREOne]) 90 42 [.bool false] []).map (fun r => (r.1, r.2.2)) = some (cV rgenF, some (rgnV_G )) := by kernel_rfl
set_option maxRecDepth 100000 in
theorem rgnV_ok  : condOk (some (rgnV_G )) := by unfold rgnV_G condOk; and_intros <;> rfl
--@]
def rgnFn : List (LV Fe) → Option (LV Fe)
  | [.bool false] => some (cV rgenF)
  | _ => none
theorem rgnFn_runs {vs : List (LV Fe)} {v : LV Fe} (h : rgnFn vs = some v) : Runs 42 vs v := by
  unfold rgnFn at h
  split at h
  · cases h; exact .of (SRE_ok _ _) rfl rgnV rgnV_ok rfl rfl
  · cases h
noncomputable def conRGen : ConP Tryz.prog Fe := mkFn 42 entRGen rgnFn rgnFn_runs
end Go.Proofs.YtcedljbapgmdmaaGreat.En

/- DERIVED. The group's order in bytes, as a contract. -/
set_option linter.all false
namespace Go.Proofs.YtcedljbapgmdmaaGreat.En
open Go Go.RowKit

def ordL : List Int := [0, 0, 0, 0, 0, 0, 0, 0, 0, 0, 0, 0, 0, 0, 0, 0, 115, 237, 167, 83, 41, 157, 125, 72, 51, 57, 216, 8, 9, 161, 216, 5, 83, 189, 164, 2, 255, 254, 91, 254, 255, 255, 255, 255, 0, 0, 0, 1]
def ordU : List (LV Fe) := ordL.map fun x => .int .u8 x
abbrev rNV : LV Fe := .agg [.int .u64 18446744069414584321, .int .u64 6034159408538082302, .int .u64 3691218898639771653, .int .u64 8353516859464449352, .int .u64 0, .int .u64 0]
set_option maxRecDepth 100000 in
theorem entRR : ∀ args w, (callFunc 89 args).run Tryz.prog w = .ok (.enter 89 args) w := ent_of (f := 89) (P := Tryz.prog) rfl rfl rfl
set_option maxRecDepth 100000 in
theorem entRBy : ∀ args w, (callFunc 88 args).run Tryz.prog w = .ok (.enter 88 args) w := ent_of (f := 88) (P := Tryz.prog) rfl rfl rfl
set_option maxRecDepth 100000 in
theorem entOrd : ∀ args w, (callFunc 43 args).run Tryz.prog w = .ok (.enter 43 args) w := ent_of (f := 43) (P := Tryz.prog) rfl rfl rfl
--@run rrV := callF Tryz.prog (SGa noD []) 300 89 [] [] => rNV
--@[
set_option maxRecDepth 100000 in
def rrV_G  : Prop := true = true
set_option maxRecDepth 100000 in
theorem rrV  : (callF Tryz.prog (SGa noD []) 300 89 [] []).map (fun r => (r.1, r.2.2)) = some (rNV, some (rrV_G )) := by kernel_rfl
set_option maxRecDepth 100000 in
theorem rrV_ok  : condOk (some (rrV_G )) := by unfold rrV_G condOk; and_intros <;> rfl
--@]
noncomputable def conRR : ConP Tryz.prog Fe := mk0 89 entRR rNV (.of (SGa_ok _ _) rfl rrV rrV_ok rfl rfl)
--@run rbV := callF Tryz.prog (SGa noD []) 300 88 [rNV] [] => .agg ordU
--@[
set_option maxRecDepth 100000 in
def rbV_G  : Prop := (true = true ∧ true = true ∧ true = true ∧ true = true ∧ true = true ∧ true = true) ∧ (true = true ∧ true = true ∧ true = true ∧ true = true ∧ true = true ∧ true = true) ∧ (true = true ∧ true = true ∧ true = true ∧ true = true ∧ true = true ∧ true = true) ∧ (true = true ∧ true = true ∧ true = true ∧ true = true ∧ true = true ∧ true = true) ∧ (true = true ∧ true = true ∧ true = true ∧ true = true ∧ true = true ∧ true = true) ∧ (true = true ∧ true = true ∧ true = true ∧ true = true ∧ true = true ∧ true = true) ∧ (true = true ∧ true = true ∧ true = true ∧ true = true ∧ true = true ∧ true = true) ∧ (true = true ∧ true = true ∧ true = true ∧ true = true ∧ true = true ∧ true = true) ∧ (true = true ∧ true = true ∧ true = true ∧ true = true ∧ true = true ∧ true = true) ∧ (true = true ∧ true = true ∧ true = true ∧ true = true ∧ true = true ∧ true = true) ∧ (true = true ∧ true = true ∧ true = true ∧ true = true ∧ true = true ∧ true = true) ∧ (true = true ∧ true = true ∧ true = true ∧ true = true ∧ true = true ∧ true = true) ∧ (true = true ∧ true = true ∧ true = true ∧ true = true ∧ true = true ∧ true = true) ∧ (true = true ∧ true = true ∧ true = true ∧ true = true ∧ true = true ∧ true = true) ∧ (true = true ∧ true = true ∧ true = true ∧ true = true ∧ true = true ∧ true = true) ∧ (true = true ∧ true = true ∧ true = true ∧ true = true ∧ true = true ∧ true = true) ∧ (true = true ∧ true = true ∧ true = true ∧ true = true ∧ true = true ∧ true = true) ∧ (true = true ∧ true = true ∧ true = true ∧ true = true ∧ true = true ∧ true = true) ∧ (true = true ∧ true = true ∧ true = true ∧ true = true ∧ true = true ∧ true = true) ∧ (true = true ∧ true = true ∧ true = true ∧ true = true ∧ true = true ∧ true = true) ∧ (true = true ∧ true = true ∧ true = true ∧ true = true ∧ true = true ∧ true = true) ∧ (true = true ∧ true = true ∧ true = true ∧ true = true ∧ true = true ∧ true = true) ∧ (true = true ∧ true = true ∧ true = true ∧ true = true ∧ true = true ∧ true = true) ∧ (true = true ∧ true = true ∧ true = true ∧ true = true ∧ true = true ∧ true = true) ∧ (true = true ∧ true = true ∧ true = true ∧ true = true ∧ true = true ∧ true = true) ∧ (true = true ∧ true = true ∧ true = true ∧ true = true ∧ true = true ∧ true = true) ∧ (true = true ∧ true = true ∧ true = true ∧ true = true ∧ true = true ∧ true = true) ∧ (true = true ∧ true = true ∧ true = true ∧ true = true ∧ true = true ∧ true = true) ∧ (true = true ∧ true = true ∧ true = true ∧ true = true ∧ true = true ∧ true = true) ∧ (true = true ∧ true = true ∧ true = true ∧ true = true ∧ true = true ∧ true = true) ∧ (true = true ∧ true = true ∧ true = true ∧ true = true ∧ true = true ∧ true = true) ∧ (true = true ∧ true = true ∧ true = true ∧ true = true ∧ true = true ∧ true = true) ∧ (true = true ∧ true = true ∧ true = true ∧ true = true ∧ true = true ∧ true = true) ∧ (true = true ∧ true = true ∧ true = true ∧ true = true ∧ true = true ∧ true = true) ∧ (true = true ∧ true = true ∧ true = true ∧ true = true ∧ true = true ∧ true = true) ∧ (true = true ∧ true = true ∧ true = true ∧ true = true ∧ true = true ∧ true = true) ∧ (true = true ∧ true = true ∧ true = true ∧ true = true ∧ true = true ∧ true = true) ∧ (true = true ∧ true = true ∧ true = true ∧ true = true ∧ true = true ∧ true = true) ∧ (true = true ∧ true = true ∧ true = true ∧ true = true ∧ true = true ∧ true = true) ∧ (true = true ∧ true = true ∧ true = true ∧ true = true ∧ true = true ∧ true = true) ∧ (true = true ∧ true = true ∧ true = true ∧ true = true ∧ true = true ∧ true = true) ∧ (true = true ∧ true = true ∧ true = true ∧ true = true ∧ true = true ∧ true = true) ∧ (true = true ∧ true = true ∧ true = true ∧ true = true ∧ true = true ∧ true = true) ∧ (true = true ∧ true = true ∧ true = true ∧ true = true ∧ true = true ∧ true = true) ∧ (true = true ∧ true = true ∧ true = true ∧ true = true ∧ true = true ∧ true = true) ∧ (true = true ∧ true = true ∧ true = true ∧ true = true ∧ true = true ∧ true = true) ∧ (true = true ∧ true = true ∧ true = true ∧ true = true ∧ true = true ∧ true = true) ∧ (true = true ∧ true = true ∧ true = true ∧ true = true ∧ true = true ∧ true = true) ∧ true = true
set_option maxRecDepth 100000 in
theorem rbV  : (callF Tryz.prog (SGa noD []) 300 88 [rNV] []).map (fun r => (r.1, r.2.2)) = some (.agg ordU, some (rbV_G )) := by kernel_rfl
set_option maxRecDepth 100000 in
theorem rbV_ok  : condOk (some (rbV_G )) := by unfold rbV_G condOk; and_intros <;> rfl
--@]
def rbFn : List (LV Fe) → Option (LV Fe)
  | [.agg [.int .u64 18446744069414584321, .int .u64 6034159408538082302, .int .u64 3691218898639771653, .int .u64 8353516859464449352, .int .u64 0, .int .u64 0]] => some (.agg ordU)
  | _ => none
theorem rbFn_runs {vs : List (LV Fe)} {v : LV Fe} (h : rbFn vs = some v) : Runs 88 vs v := by
  unfold rbFn at h
  split at h
  · cases h; exact .of (SGa_ok _ _) rfl rbV rbV_ok rfl rfl
  · cases h
noncomputable def conRBy : ConP Tryz.prog Fe := mkFn 88 entRBy rbFn rbFn_runs
--@pre set_option maxRecDepth 100000
--@gen ordG := (callF Tryz.prog (SGa noD [conRR, conRBy]) 300 43 [] []).map (fun r => r.2.2)
--@[
set_option maxRecDepth 100000 in
def ordG_G  : Prop := true = true ∧ true = true
set_option maxRecDepth 100000 in
theorem ordG  : (callF Tryz.prog (SGa noD [conRR, conRBy]) 300 43 [] []).map (fun r => r.2.2) = some (some ((ordG_G ))) := by kernel_rfl
--@]
set_option maxRecDepth 100000 in
theorem ordV : callF Tryz.prog (SGa noD [conRR, conRBy]) 300 43 [] [] = some (.slice (.own 0) 0 [⟨16, 1, 0⟩] 32 32, [(⟨.rw, ordU⟩ : Blk Fe)].map some, some ordG_G) := by kernel_rfl
def ordC (I : Inp Fe) (vs : List (LV Fe)) (mem : Mem Fe) : Option (RdC Fe) := match vs with
  | [] => some ⟨[], [], [], .slice (.own 0) 0 [⟨16, 1, 0⟩] 32 32, [⟨.rw, ordU⟩], true = true⟩
  | _ => none
theorem inOf_nil : (inOf [] : Inp Fe) = noIF := by
  funext t i
  cases t with
  | zero => cases i <;> rfl
  | succ t => rfl
theorem ord_ok : ∀ I vs mem r, ordC I vs mem = some r → r.c → RdOk Tryz.prog 43 I vs mem r := by
  intro I vs mem r h hc
  unfold ordC at h
  split at h
  · cases h
    exact {
      args := rfl
      fit := trivial
      len := rfl
      blk := fun j k us hk hus => by simp at hk
      told := told_of (SGa_ok _ _) mixed inOf_nil.symm ordV (by unfold ordG_G condOk; and_intros <;> rfl)
      fitv := ownly_fit _ _ _ _ ⟨0, rfl⟩
      fitb := fun b hb => by
        rw [List.mem_singleton] at hb
        subst hb
        exact ⟨(plainL_ren _ _ _ (plain_ints .u8 ordL)).2, rfl⟩ }
  · cases h
noncomputable def conOrd : ConC Tryz.prog Fe := conRd 43 entOrd ordC ord_ok
end Go.Proofs.YtcedljbapgmdmaaGreat.En

/- DERIVED. Calls of a group and a slice, walked when they are met. -/
set_option linter.all false
namespace Go.Proofs.YtcedljbapgmdmaaGreat.En
open Go Go.RowKit

/-- A contract of a call that reads, in regions whose loads hang on no order too. -/
noncomputable def conRdT (f : FuncId) (ent : ∀ args w, (callFunc f args).run Tryz.prog w = .ok (.enter f args) w) (fn : Inp Fe → List (LV Fe) → Mem Fe → Option (RdC Fe))
    (ok : ∀ I vs mem r, fn I vs mem = some r → r.c → RdOk Tryz.prog f I vs mem r) : ConC Tryz.prog Fe :=
  { conRd f ent fn ok with
    tc := fun _ _ _ => some []
    keep := fun I vs mem v mem' c l h _ k hk _ => by
      simp only [conRd] at h
      split at h
      · cases h
        rw [List.getElem?_append_left hk]
      · cases h }
theorem told_walk {S : Sig Fe} {us0 : List (LV Fe)} (hS : SigOk Tryz.prog S) (hI : S.inp = inOf [us0]) (hp : plainL us0) {n : Nat} {f : FuncId} {args : List (LV Fe)} {v : LV Fe} {c : Cnd}
    (h : (callF Tryz.prog S n f args []).map (fun r => (r.1, r.2.2)) = some (v, c)) (hc : condOk c) (hv : plainB v = true) : Told Tryz.prog f [us0] args v [] := by
  refine told_below hv fun ρ w ha => ?_
  have hk : ∀ t i, kinL (okKey ([] : Mem Fe) ρ) (S.inp t i) := fun t i => by
    rw [hI]
    cases t with
    | succ t => trivial
    | zero => cases i with
      | zero => exact plainL_kin _ _ hp
      | succ i => trivial
  exact calls_top hS mixed h hc (by rw [hI]; exact ha.mem) ha.kinV hk fun ρ ρ' => pv_tr v hv ρ' ρ
/-- What such a call comes to. -/
noncomputable def walkC (mk : Inp Fe → Sig Fe) (f : FuncId) (us : List (LV Fe)) (args : List (LV Fe)) : Option (LV Fe × Cnd) := match callF Tryz.prog (mk (inOf [us])) 60 f args [] with
  | some (v, _, c) => match plainB v with
    | true => some (v, c)
    | false => none
  | none => none
theorem walk_told {mk : Inp Fe → Sig Fe} (hm : ∀ I, InpOk I → SigOk Tryz.prog (mk I)) (hi : ∀ I, (mk I).inp = I) {f : FuncId} {us args : List (LV Fe)} {v : LV Fe} {c : Cnd} (h : walkC mk f us args = some (v, c)) (hc : condOk c) (hp : plainL us) : plainB v = true ∧ Told Tryz.prog f [us] args v [] := by
  unfold walkC at h
  split at h
  · rename_i v' m c' hr
    split at h
    · rename_i hv
      cases h
      exact ⟨hv, told_walk (hm _ (inOf1_ok hp)) (hi _) hp (by rw [hr]; rfl) hc hv⟩
    · cases h
  · cases h
noncomputable def gsW (mk : Inp Fe → Sig Fe) (f : FuncId) (I : Inp Fe) (vs : List (LV Fe)) (mem : Mem Fe) : Option (RdC Fe) := match vs with
  | [u, x] => match pA [3] [u] with
    | some [[_, _, _]] => match x with
      | .nils => match walkC mk f [] [u, .nils] with
        | some (v, c) => some ⟨[], [], [u, .nils], v, [], condOk c⟩
        | none => none
      | .vec k n => match bysOf I mem k with
        | some y => match walkC mk f y.us [u, .vec (.inp 0 0) n] with
          | some (v, c) => some ⟨[y.us], [k], [u, .vec (.inp 0 0) n], v, [], y.c ∧ condOk c⟩
          | none => none
        | none => none
      | .slice k o q len cap => match bysOf I mem k with
        | some y => match walkC mk f y.us [u, .slice (.inp 0 0) o q len cap] with
          | some (v, c) => some ⟨[y.us], [k], [u, .slice (.inp 0 0) o q len cap], v, [], y.c ∧ condOk c⟩
          | none => none
        | none => none
      | _ => none
    | _ => none
  | _ => none
theorem gsW_ok {mk : Inp Fe → Sig Fe} (hm : ∀ I, InpOk I → SigOk Tryz.prog (mk I)) (hi : ∀ I, (mk I).inp = I) {f : FuncId} : ∀ I vs mem r, gsW mk f I vs mem = some r → r.c → RdOk Tryz.prog f I vs mem r := by
  intro I vs mem r h hc
  unfold gsW at h
  split at h
  · rename_i u x
    split at h
    · rename_i hu
      have hpu := pA_plain _ _ _ hu
      split at h
      · split at h
        · rename_i v c hw
          cases h
          obtain ⟨hv, ht⟩ := walk_told hm hi hw hc (show plainL ([] : List (LV Fe)) from trivial)
          have e : inOf (A := Fe) [[]] = inOf [] := by
            funext t i
            cases t with
            | zero => cases i <;> rfl
            | succ t => rfl
          unfold Told at ht
          rw [e] at ht
          exact {
            args := by
              show [u.ren _, _] = [u, _]
              rw [(plain_ren _ (fun _ => True) u hpu.1).1]; rfl
            fit := ⟨(plain_ren _ _ u hpu.1).2, trivial, trivial⟩
            len := rfl
            blk := fun j k us hk hus => by simp at hk
            told := ht
            fitv := (plain_ren _ _ _ (pv_plain _ hv)).2
            fitb := fun b hb => absurd hb List.not_mem_nil }
        · cases h
      · rename_i k n
        split at h
        · rename_i y hy
          split at h
          · rename_i v c hw
            cases h
            obtain ⟨_, _, _, hpl, _, _⟩ := bysOf_ok hy hc.1
            obtain ⟨hv, ht⟩ := walk_told hm hi hw hc.2 hpl
            exact rdOk_gs hpu (pv_plain _ hv) ⟨rfl, ⟨fun e => by simp [keyMap, ιOf] at e, trivial⟩⟩ hy hc.1 ht
          · cases h
        · cases h
      · rename_i k o q len cap
        split at h
        · rename_i y hy
          split at h
          · rename_i v c hw
            cases h
            obtain ⟨_, _, _, hpl, _, _⟩ := bysOf_ok hy hc.1
            obtain ⟨hv, ht⟩ := walk_told hm hi hw hc.2 hpl
            exact rdOk_gs hpu (pv_plain _ hv) ⟨rfl, ⟨by simp [keyMap, ιOf], trivial⟩⟩ hy hc.1 ht
          · cases h
        · cases h
      · cases h
    · cases h
  · cases h
noncomputable abbrev SGw (I : Inp Fe) : Sig Fe := sigOf (P := Tryz.prog) ([conFAdd, conFSub, conFMul, conFSquare, conFNeg, conFIsZero, conFEqual, conTwice] ++ (psG ++ psH)) [] [conCMul] (I := I) [] msF (advP noD [46] [])
theorem SGw_ok (I : Inp Fe) (h : InpOk I) : SigOk Tryz.prog (SGw I) := sigOf_ok _ [] [conCMul] [] msF_ok _ h
set_option maxRecDepth 100000 in
theorem entGMul : ∀ args w, (callFunc 12 args).run Tryz.prog w = .ok (.enter 12 args) w := ent_of (f := 12) (P := Tryz.prog) rfl rfl rfl
noncomputable def conGMul : ConC Tryz.prog Fe := conRdT 12 entGMul (gsW SGw 12) (gsW_ok SGw_ok fun _ => rfl)
noncomputable def conOrdT : ConC Tryz.prog Fe := conRdT 43 entOrd ordC ord_ok
end Go.Proofs.YtcedljbapgmdmaaGreat.En

/- DERIVED. A number of few bytes. -/
set_option linter.all false
namespace Go.Proofs.YtcedljbapgmdmaaGreat.En
open Go Go.RowKit

noncomputable abbrev SFm (m : Nat) (g : Nat → Int) : Sig Fe := sigOf (P := Tryz.prog) [] [] [] (I := inOf [[.rows m 1 fun j => [.int .u8 (g j)]]]) [] noMs (advF noD)
def fwS (m : Nat) (g : Nat → Int) : Nat → Nat → Int
  | 0, _ => 0
  | i + 1, q => match Nat.beq ((m - 1 - i) / 8) q with
    | true => bits .or .u64 (fwS m g i q) (IntKind.u64.wrap (IntKind.u64.wrap (g i) * 2 ^ (8 * ((m - 1 - i) % 8))))
    | false => fwS m g i q
def fwC : Nat → Prop
  | 0 => true = true
  | m + 1 => (true = true ∧ true = true ∧ true = true ∧ true = true ∧ true = true ∧ true = true ∧ true = true ∧ true = true) ∧ fwC m
theorem fwC_ok : ∀ m, fwC m
  | 0 => rfl
  | m + 1 => ⟨⟨rfl, rfl, rfl, rfl, rfl, rfl, rfl, rfl⟩, fwC_ok m⟩
set_option maxRecDepth 100000 in
theorem fw0 (g : Nat → Int) : (callF Tryz.prog (SFm 0 g) 300 48 [.vec (.inp 0 0) 0] []).map (fun r => (r.1, r.2.2)) = some (.tup [limA (fwS 0 g 0), .bool true], some (fwC 0)) := by kernel_rfl
set_option maxRecDepth 100000 in
theorem fw1 (g : Nat → Int) : (callF Tryz.prog (SFm 1 g) 300 48 [.vec (.inp 0 0) 1] []).map (fun r => (r.1, r.2.2)) = some (.tup [limA (fwS 1 g 1), .bool true], some (fwC 1)) := by kernel_rfl
set_option maxRecDepth 100000 in
theorem fw2 (g : Nat → Int) : (callF Tryz.prog (SFm 2 g) 300 48 [.vec (.inp 0 0) 2] []).map (fun r => (r.1, r.2.2)) = some (.tup [limA (fwS 2 g 2), .bool true], some (fwC 2)) := by kernel_rfl
set_option maxRecDepth 100000 in
theorem fw3 (g : Nat → Int) : (callF Tryz.prog (SFm 3 g) 300 48 [.vec (.inp 0 0) 3] []).map (fun r => (r.1, r.2.2)) = some (.tup [limA (fwS 3 g 3), .bool true], some (fwC 3)) := by kernel_rfl
set_option maxRecDepth 100000 in
theorem fw4 (g : Nat → Int) : (callF Tryz.prog (SFm 4 g) 300 48 [.vec (.inp 0 0) 4] []).map (fun r => (r.1, r.2.2)) = some (.tup [limA (fwS 4 g 4), .bool true], some (fwC 4)) := by kernel_rfl
set_option maxRecDepth 100000 in
theorem fw5 (g : Nat → Int) : (callF Tryz.prog (SFm 5 g) 300 48 [.vec (.inp 0 0) 5] []).map (fun r => (r.1, r.2.2)) = some (.tup [limA (fwS 5 g 5), .bool true], some (fwC 5)) := by kernel_rfl
set_option maxRecDepth 100000 in
theorem fw6 (g : Nat → Int) : (callF Tryz.prog (SFm 6 g) 300 48 [.vec (.inp 0 0) 6] []).map (fun r => (r.1, r.2.2)) = some (.tup [limA (fwS 6 g 6), .bool true], some (fwC 6)) := by kernel_rfl
set_option maxRecDepth 100000 in
theorem fw7 (g : Nat → Int) : (callF Tryz.prog (SFm 7 g) 300 48 [.vec (.inp 0 0) 7] []).map (fun r => (r.1, r.2.2)) = some (.tup [limA (fwS 7 g 7), .bool true], some (fwC 7)) := by kernel_rfl
set_option maxRecDepth 100000 in
theorem fw8 (g : Nat → Int) : (callF Tryz.prog (SFm 8 g) 300 48 [.vec (.inp 0 0) 8] []).map (fun r => (r.1, r.2.2)) = some (.tup [limA (fwS 8 g 8), .bool true], some (fwC 8)) := by kernel_rfl
set_option maxRecDepth 100000 in
theorem fw9 (g : Nat → Int) : (callF Tryz.prog (SFm 9 g) 300 48 [.vec (.inp 0 0) 9] []).map (fun r => (r.1, r.2.2)) = some (.tup [limA (fwS 9 g 9), .bool true], some (fwC 9)) := by kernel_rfl
set_option maxRecDepth 100000 in
theorem fw10 (g : Nat → Int) : (callF Tryz.prog (SFm 10 g) 300 48 [.vec (.inp 0 0) 10] []).map (fun r => (r.1, r.2.2)) = some (.tup [limA (fwS 10 g 10), .bool true], some (fwC 10)) := by kernel_rfl
set_option maxRecDepth 100000 in
theorem fw11 (g : Nat → Int) : (callF Tryz.prog (SFm 11 g) 300 48 [.vec (.inp 0 0) 11] []).map (fun r => (r.1, r.2.2)) = some (.tup [limA (fwS 11 g 11), .bool true], some (fwC 11)) := by kernel_rfl
set_option maxRecDepth 100000 in
theorem fw12 (g : Nat → Int) : (callF Tryz.prog (SFm 12 g) 300 48 [.vec (.inp 0 0) 12] []).map (fun r => (r.1, r.2.2)) = some (.tup [limA (fwS 12 g 12), .bool true], some (fwC 12)) := by kernel_rfl
set_option maxRecDepth 100000 in
theorem fw13 (g : Nat → Int) : (callF Tryz.prog (SFm 13 g) 300 48 [.vec (.inp 0 0) 13] []).map (fun r => (r.1, r.2.2)) = some (.tup [limA (fwS 13 g 13), .bool true], some (fwC 13)) := by kernel_rfl
set_option maxRecDepth 100000 in
theorem fw14 (g : Nat → Int) : (callF Tryz.prog (SFm 14 g) 300 48 [.vec (.inp 0 0) 14] []).map (fun r => (r.1, r.2.2)) = some (.tup [limA (fwS 14 g 14), .bool true], some (fwC 14)) := by kernel_rfl
set_option maxRecDepth 100000 in
theorem fw15 (g : Nat → Int) : (callF Tryz.prog (SFm 15 g) 300 48 [.vec (.inp 0 0) 15] []).map (fun r => (r.1, r.2.2)) = some (.tup [limA (fwS 15 g 15), .bool true], some (fwC 15)) := by kernel_rfl
set_option maxRecDepth 100000 in
theorem fw16 (g : Nat → Int) : (callF Tryz.prog (SFm 16 g) 300 48 [.vec (.inp 0 0) 16] []).map (fun r => (r.1, r.2.2)) = some (.tup [limA (fwS 16 g 16), .bool true], some (fwC 16)) := by kernel_rfl
set_option maxRecDepth 100000 in
theorem fw17 (g : Nat → Int) : (callF Tryz.prog (SFm 17 g) 300 48 [.vec (.inp 0 0) 17] []).map (fun r => (r.1, r.2.2)) = some (.tup [limA (fwS 17 g 17), .bool true], some (fwC 17)) := by kernel_rfl
set_option maxRecDepth 100000 in
theorem fw18 (g : Nat → Int) : (callF Tryz.prog (SFm 18 g) 300 48 [.vec (.inp 0 0) 18] []).map (fun r => (r.1, r.2.2)) = some (.tup [limA (fwS 18 g 18), .bool true], some (fwC 18)) := by kernel_rfl
set_option maxRecDepth 100000 in
theorem fw19 (g : Nat → Int) : (callF Tryz.prog (SFm 19 g) 300 48 [.vec (.inp 0 0) 19] []).map (fun r => (r.1, r.2.2)) = some (.tup [limA (fwS 19 g 19), .bool true], some (fwC 19)) := by kernel_rfl
set_option maxRecDepth 100000 in
theorem fw20 (g : Nat → Int) : (callF Tryz.prog (SFm 20 g) 300 48 [.vec (.inp 0 0) 20] []).map (fun r => (r.1, r.2.2)) = some (.tup [limA (fwS 20 g 20), .bool true], some (fwC 20)) := by kernel_rfl
set_option maxRecDepth 100000 in
theorem fw21 (g : Nat → Int) : (callF Tryz.prog (SFm 21 g) 300 48 [.vec (.inp 0 0) 21] []).map (fun r => (r.1, r.2.2)) = some (.tup [limA (fwS 21 g 21), .bool true], some (fwC 21)) := by kernel_rfl
set_option maxRecDepth 100000 in
theorem fw22 (g : Nat → Int) : (callF Tryz.prog (SFm 22 g) 300 48 [.vec (.inp 0 0) 22] []).map (fun r => (r.1, r.2.2)) = some (.tup [limA (fwS 22 g 22), .bool true], some (fwC 22)) := by kernel_rfl
set_option maxRecDepth 100000 in
theorem fw23 (g : Nat → Int) : (callF Tryz.prog (SFm 23 g) 300 48 [.vec (.inp 0 0) 23] []).map (fun r => (r.1, r.2.2)) = some (.tup [limA (fwS 23 g 23), .bool true], some (fwC 23)) := by kernel_rfl
set_option maxRecDepth 100000 in
theorem fw24 (g : Nat → Int) : (callF Tryz.prog (SFm 24 g) 300 48 [.vec (.inp 0 0) 24] []).map (fun r => (r.1, r.2.2)) = some (.tup [limA (fwS 24 g 24), .bool true], some (fwC 24)) := by kernel_rfl
set_option maxRecDepth 100000 in
theorem fw25 (g : Nat → Int) : (callF Tryz.prog (SFm 25 g) 300 48 [.vec (.inp 0 0) 25] []).map (fun r => (r.1, r.2.2)) = some (.tup [limA (fwS 25 g 25), .bool true], some (fwC 25)) := by kernel_rfl
set_option maxRecDepth 100000 in
theorem fw26 (g : Nat → Int) : (callF Tryz.prog (SFm 26 g) 300 48 [.vec (.inp 0 0) 26] []).map (fun r => (r.1, r.2.2)) = some (.tup [limA (fwS 26 g 26), .bool true], some (fwC 26)) := by kernel_rfl
set_option maxRecDepth 100000 in
theorem fw27 (g : Nat → Int) : (callF Tryz.prog (SFm 27 g) 300 48 [.vec (.inp 0 0) 27] []).map (fun r => (r.1, r.2.2)) = some (.tup [limA (fwS 27 g 27), .bool true], some (fwC 27)) := by kernel_rfl
set_option maxRecDepth 100000 in
theorem fw28 (g : Nat → Int) : (callF Tryz.prog (SFm 28 g) 300 48 [.vec (.inp 0 0) 28] []).map (fun r => (r.1, r.2.2)) = some (.tup [limA (fwS 28 g 28), .bool true], some (fwC 28)) := by kernel_rfl
set_option maxRecDepth 100000 in
theorem fw29 (g : Nat → Int) : (callF Tryz.prog (SFm 29 g) 300 48 [.vec (.inp 0 0) 29] []).map (fun r => (r.1, r.2.2)) = some (.tup [limA (fwS 29 g 29), .bool true], some (fwC 29)) := by kernel_rfl
set_option maxRecDepth 100000 in
theorem fw30 (g : Nat → Int) : (callF Tryz.prog (SFm 30 g) 300 48 [.vec (.inp 0 0) 30] []).map (fun r => (r.1, r.2.2)) = some (.tup [limA (fwS 30 g 30), .bool true], some (fwC 30)) := by kernel_rfl
set_option maxRecDepth 100000 in
theorem fw31 (g : Nat → Int) : (callF Tryz.prog (SFm 31 g) 300 48 [.vec (.inp 0 0) 31] []).map (fun r => (r.1, r.2.2)) = some (.tup [limA (fwS 31 g 31), .bool true], some (fwC 31)) := by kernel_rfl
set_option maxRecDepth 100000 in
theorem fw32 (g : Nat → Int) : (callF Tryz.prog (SFm 32 g) 300 48 [.vec (.inp 0 0) 32] []).map (fun r => (r.1, r.2.2)) = some (.tup [limA (fwS 32 g 32), .bool true], some (fwC 32)) := by kernel_rfl
theorem fwV (g : Nat → Int) : ∀ m, m ≤ 32 → (callF Tryz.prog (SFm m g) 300 48 [.vec (.inp 0 0) m] []).map (fun r => (r.1, r.2.2)) = some (.tup [limA (fwS m g m), .bool true], some (fwC m))
  | 0, _ => fw0 g
  | 1, _ => fw1 g
  | 2, _ => fw2 g
  | 3, _ => fw3 g
  | 4, _ => fw4 g
  | 5, _ => fw5 g
  | 6, _ => fw6 g
  | 7, _ => fw7 g
  | 8, _ => fw8 g
  | 9, _ => fw9 g
  | 10, _ => fw10 g
  | 11, _ => fw11 g
  | 12, _ => fw12 g
  | 13, _ => fw13 g
  | 14, _ => fw14 g
  | 15, _ => fw15 g
  | 16, _ => fw16 g
  | 17, _ => fw17 g
  | 18, _ => fw18 g
  | 19, _ => fw19 g
  | 20, _ => fw20 g
  | 21, _ => fw21 g
  | 22, _ => fw22 g
  | 23, _ => fw23 g
  | 24, _ => fw24 g
  | 25, _ => fw25 g
  | 26, _ => fw26 g
  | 27, _ => fw27 g
  | 28, _ => fw28 g
  | 29, _ => fw29 g
  | 30, _ => fw30 g
  | 31, _ => fw31 g
  | 32, _ => fw32 g
  | m + 33, h => absurd h (by omega)
end Go.Proofs.YtcedljbapgmdmaaGreat.En

/- DERIVED. A number of few bytes: the contract. -/
set_option linter.all false
namespace Go.Proofs.YtcedljbapgmdmaaGreat.En
open Go Go.RowKit

theorem fwS_rng (m : Nat) (g : Nat → Int) (q : Nat) : ∀ i, 0 ≤ fwS m g i q ∧ fwS m g i q < 18446744073709551616
  | 0 => ⟨Int.le_refl _, show (0 : Int) < 18446744073709551616 by decide⟩
  | i + 1 => by
    have ih := fwS_rng m g q i
    unfold fwS
    split
    · obtain ⟨a, ha⟩ := Int.eq_ofNat_of_zero_le ih.1
      rw [ha, IntKind.wrap_u64 (IntKind.u64.wrap (g i) * 2 ^ (8 * ((m - 1 - i) % 8)))]
      have h1 := Int.emod_nonneg (IntKind.u64.wrap (g i) * 2 ^ (8 * ((m - 1 - i) % 8))) (show (18446744073709551616 : Int) ≠ 0 by decide)
      have h2 := Int.emod_lt_of_pos (IntKind.u64.wrap (g i) * 2 ^ (8 * ((m - 1 - i) % 8))) (show (0 : Int) < 18446744073709551616 by decide)
      obtain ⟨b, hb⟩ := Int.eq_ofNat_of_zero_le h1
      rw [hb] at h2 ⊢
      have ha2 : a < 2 ^ 64 := by have := ih.2; omega
      have hb2 : b < 2 ^ 64 := by omega
      rw [bits_or_u64_nat _ _ (by omega) (by omega)]
      have := Nat.or_lt_two_pow ha2 hb2
      omega
    · exact ih
theorem fwS_hi {m : Nat} (hm : m ≤ 32) (g : Nat → Int) {q : Nat} (hq : 4 ≤ q) : ∀ i, i ≤ m → fwS m g i q = 0
  | 0, _ => rfl
  | i + 1, hi => by
    have ih := fwS_hi hm g hq i (by omega)
    unfold fwS
    split
    · rename_i h
      have := Nat.eq_of_beq_eq_true h
      omega
    · exact ih
/-- The number of so few bytes. -/
def fwN (m : Nat) (g : Nat → Int) : Nat := (fwS m g m 0).toNat + BB * ((fwS m g m 1).toNat + BB * ((fwS m g m 2).toNat + BB * (fwS m g m 3).toNat))
theorem fwN_lt (m : Nat) (g : Nat → Int) : fwN m g < pN := by
  have h0 := fwS_rng m g 0 m
  have h1 := fwS_rng m g 1 m
  have h2 := fwS_rng m g 2 m
  have h3 := fwS_rng m g 3 m
  unfold fwN
  have e : BB ^ 4 < pN := by decide +kernel
  have eb : BB = 18446744073709551616 := rfl
  rw [eb] at e ⊢
  generalize pN = X at *
  omega
theorem fwN_lm {m : Nat} (hm : m ≤ 32) (g : Nat → Int) : ∀ q, q < 6 → fwS m g m q = lm (fwN m g) q := by
  have h0 := fwS_rng m g 0 m
  have h1 := fwS_rng m g 1 m
  have h2 := fwS_rng m g 2 m
  have h3 := fwS_rng m g 3 m
  have h4 := fwS_hi hm g (Nat.le_refl 4) m (Nat.le_refl m)
  have h5 := fwS_hi hm g (show 4 ≤ 5 by omega) m (Nat.le_refl m)
  intro q hq
  unfold lm lmN fwN
  have eb : BB = 18446744073709551616 := rfl
  match q, hq with
  | 0, _ => rw [eb]; simp only [Nat.pow_zero]; omega
  | 1, _ => rw [eb]; simp only [Nat.pow_one]; omega
  | 2, _ => rw [eb, show (18446744073709551616 : Nat) ^ 2 = 340282366920938463463374607431768211456 by decide]; omega
  | 3, _ => rw [eb, show (18446744073709551616 : Nat) ^ 3 = 6277101735386680763835789423207666416102355444464034512896 by decide]; omega
  | 4, _ => rw [eb, h4, show (18446744073709551616 : Nat) ^ 4 = 115792089237316195423570985008687907853269984665640564039457584007913129639936 by decide]; omega
  | 5, _ => rw [eb, h5, show (18446744073709551616 : Nat) ^ 5 = 2135987035920910082395021706169552114602704522356652769947041607822219725780640550022962086936576 by decide]; omega
def fwF (m : Nat) (g : Nat → Int) : Fe := rawF (fwN m g)
theorem SFm_ok (m : Nat) (g : Nat → Int) : SigOk Tryz.prog (SFm m g) := sigOf_ok [] [] [] [] (noMs_ok _) _ (inOf1_ok ⟨fun _ => ⟨trivial, trivial⟩, trivial⟩)
theorem fw_told {m : Nat} (hm : m ≤ 32) (g : Nat → Int) : Told Tryz.prog 48 [[.rows m 1 fun j => [.int .u8 (g j)]]] [.vec (.inp 0 0) m] (.tup [.agg [.abs (fwF m g)], .bool true]) [] := by
  refine told_below rfl fun ρ w ha => ?_
  have hk : ∀ t i, kinL (okKey ([] : Mem Fe) ρ) ((SFm m g).inp t i) := fun t i => by
    show kinL _ (inOf [[.rows m 1 fun j => [.int .u8 (g j)]]] t i)
    cases t with
    | succ t => trivial
    | zero => cases i with
      | zero => exact plainL_kin _ _ ⟨fun _ => ⟨trivial, trivial⟩, trivial⟩
      | succ i => trivial
  have := calls_top (SFm_ok m g) mixed (fwV g m hm) (fwC_ok m) ha.mem ha.kinV hk fun ρ ρ' => rfl
  have e2 := tup_fe (ρ := ρ) (f := fwS m g m) (x := fwF m g) fun q hq => by unfold fwF; rw [mo_rawF (fwN_lt m g)]; exact fwN_lm hm g q hq
  rw [e2] at this
  exact this
/-- Bytes in a block of open rows. -/
def rowsB (us : List (LV Fe)) : Option (Nat × (Nat → Int) × Prop) := match us with
  | [.rows n z f] => match Nat.beq z 1 with
    | true => some (n, fun j => byteOf (f j), ∀ j, j < n → Like (f j) [.int .u8 (byteOf (f j))])
    | false => none
  | _ => none
theorem rowsB_some {us : List (LV Fe)} {n : Nat} {g : Nat → Int} {c : Prop} (h : rowsB us = some (n, g, c)) (hc : c) : Like us [.rows n 1 fun j => [.int .u8 (g j)]] := by
  unfold rowsB at h
  split at h
  · split at h
    · rename_i hz
      cases h
      have := beqN hz
      subst this
      exact Like.rows hc fun i _ p _ => ⟨trivial, trivial⟩
    · cases h
  · cases h
noncomputable def fwFn (I : Inp Fe) (vs : List (LV Fe)) (mem : Mem Fe) : Option (RdC Fe) := match vs with
  | [.vec k m] => match at? I mem k with
    | some bl => match isDead bl.kd, rowsB bl.us with
      | false, some (n, g, c) => some ⟨[[.rows m 1 fun j => [.int .u8 (g j)]]], [k], [.vec (.inp 0 0) m], .tup [.agg [.abs (fwF m g)], .bool true], [], c ∧ n = m ∧ m ≤ 32⟩
      | _, _ => none
    | none => none
  | _ => none
theorem fw_ok : ∀ I vs mem r, fwFn I vs mem = some r → r.c → RdOk Tryz.prog 48 I vs mem r := by
  intro I vs mem r h hc
  unfold fwFn at h
  split at h
  · rename_i k m
    split at h
    · rename_i bl hb
      split at h
      · rename_i n g c hd hr
        cases h
        obtain ⟨h1, h2, h3⟩ := hc
        subst h2
        exact {
          args := rfl
          fit := ⟨⟨fun e => by simp [keyMap, ιOf] at e, trivial⟩, trivial⟩
          len := rfl
          blk := fun j k' us hk hus => by
            match j with
            | 0 =>
              cases hk; cases hus
              exact ⟨bl, hb, hd, ⟨fun _ => ⟨trivial, trivial⟩, trivial⟩, rowsB_some hr h1⟩
            | j + 1 => simp at hk
          told := fw_told h3 g
          fitv := (plain_ren _ _ _ (show LV.plain (.tup [.agg [.abs (fwF n g)], .bool true] : LV Fe) from ⟨⟨trivial, trivial⟩, trivial, trivial⟩)).2
          fitb := fun b hb => absurd hb List.not_mem_nil }
      · cases h
    · cases h
  · cases h
set_option maxRecDepth 100000 in
theorem entFrom : ∀ args w, (callFunc 48 args).run Tryz.prog w = .ok (.enter 48 args) w := ent_of (f := 48) (P := Tryz.prog) rfl rfl rfl
noncomputable def conFrom : ConC Tryz.prog Fe := conRd 48 entFrom fwFn fw_ok
end Go.Proofs.YtcedljbapgmdmaaGreat.En

/- DERIVED. The element of any bytes: all runs. -/
set_option linter.all false
namespace Go.Proofs.YtcedljbapgmdmaaGreat.En
open Go Go.RowKit

noncomputable abbrev SWd (n : Nat) (g : Nat → Int) : Sig Fe := sigOf (P := Tryz.prog) ([conFAdd, conFSub, conFMul, conFSquare, conFNeg, conFIsZero, conFEqual, conTwice] ++ (psG ++ psH)) [] [conFrom] (I := inOf [[.rows n 1 fun j => [.int .u8 (g j)]]]) [] msF (advP noD [48] [])
theorem SWd_ok (n : Nat) (g : Nat → Int) : SigOk Tryz.prog (SWd n g) := sigOf_ok _ [] [conFrom] [] msF_ok _ (inOf1_ok ⟨fun _ => ⟨trivial, trivial⟩, trivial⟩)
def wSh : Fe := fmul (ofSix 0 0 0 0 1 0) ftwo
def wdR : Nat → Nat → (Nat → Int) → Fe → Fe
  | 0, _, _, x => x
  | k + 1, f, g, x => wdR k 32 (fun j => g (f + j)) (fadd (fmul x wSh) (fmul (fwF f g) ftwo))
def wdC : Nat → Nat → (Nat → Int) → Prop
  | 0, _, _ => true = true
  | k + 1, f, g => ((true = true ∧ true = true) ∧ ((∀ j, j < f → Like (A := Fe) [.int .u8 (g j)] [.int .u8 (g j)]) ∧ f = f ∧ f ≤ 32) ∧ true = true) ∧ true = true ∧ (true = true ∧ true = true) ∧ wdC k 32 fun j => g (f + j)
theorem wdC_ok : ∀ k f g, f ≤ 32 → wdC k f g
  | 0, _, _, _ => rfl
  | k + 1, f, g, h => ⟨⟨⟨rfl, rfl⟩, ⟨fun _ _ => Like.refl _, rfl, h⟩, rfl⟩, rfl, ⟨rfl, rfl⟩, wdC_ok k 32 _ (Nat.le_refl _)⟩
def wd1 (n : Nat) : Nat := match n % 32 with
  | 0 => 32
  | r + 1 => r + 1
def wdF (n : Nat) (g : Nat → Int) : Fe := wdR ((n + 31) / 32) (wd1 n) g (ofSix 0 0 0 0 0 0)
def wdP (n : Nat) (g : Nat → Int) : Prop := true = true ∧ true = true ∧ wdC ((n + 31) / 32) (wd1 n) g
theorem wdP_ok (n : Nat) (g : Nat → Int) : wdP n g := ⟨rfl, rfl, wdC_ok _ _ g (by unfold wd1; split <;> omega)⟩
set_option maxRecDepth 100000 in
theorem wd_1 (g : Nat → Int) : (callF Tryz.prog (SWd 1 g) 300 62 [.vec (.inp 0 0) 1] []).map (fun r => (r.1, r.2.2)) = some (.agg [.abs (wdF 1 g)], some (wdP 1 g)) := by kernel_rfl
set_option maxRecDepth 100000 in
theorem wd_2 (g : Nat → Int) : (callF Tryz.prog (SWd 2 g) 300 62 [.vec (.inp 0 0) 2] []).map (fun r => (r.1, r.2.2)) = some (.agg [.abs (wdF 2 g)], some (wdP 2 g)) := by kernel_rfl
set_option maxRecDepth 100000 in
theorem wd_3 (g : Nat → Int) : (callF Tryz.prog (SWd 3 g) 300 62 [.vec (.inp 0 0) 3] []).map (fun r => (r.1, r.2.2)) = some (.agg [.abs (wdF 3 g)], some (wdP 3 g)) := by kernel_rfl
set_option maxRecDepth 100000 in
theorem wd_4 (g : Nat → Int) : (callF Tryz.prog (SWd 4 g) 300 62 [.vec (.inp 0 0) 4] []).map (fun r => (r.1, r.2.2)) = some (.agg [.abs (wdF 4 g)], some (wdP 4 g)) := by kernel_rfl
set_option maxRecDepth 100000 in
theorem wd_5 (g : Nat → Int) : (callF Tryz.prog (SWd 5 g) 300 62 [.vec (.inp 0 0) 5] []).map (fun r => (r.1, r.2.2)) = some (.agg [.abs (wdF 5 g)], some (wdP 5 g)) := by kernel_rfl
set_option maxRecDepth 100000 in
theorem wd_6 (g : Nat → Int) : (callF Tryz.prog (SWd 6 g) 300 62 [.vec (.inp 0 0) 6] []).map (fun r => (r.1, r.2.2)) = some (.agg [.abs (wdF 6 g)], some (wdP 6 g)) := by kernel_rfl
set_option maxRecDepth 100000 in
theorem wd_7 (g : Nat → Int) : (callF Tryz.prog (SWd 7 g) 300 62 [.vec (.inp 0 0) 7] []).map (fun r => (r.1, r.2.2)) = some (.agg [.abs (wdF 7 g)], some (wdP 7 g)) := by kernel_rfl
set_option maxRecDepth 100000 in
theorem wd_8 (g : Nat → Int) : (callF Tryz.prog (SWd 8 g) 300 62 [.vec (.inp 0 0) 8] []).map (fun r => (r.1, r.2.2)) = some (.agg [.abs (wdF 8 g)], some (wdP 8 g)) := by kernel_rfl
set_option maxRecDepth 100000 in
theorem wd_9 (g : Nat → Int) : (callF Tryz.prog (SWd 9 g) 300 62 [.vec (.inp 0 0) 9] []).map (fun r => (r.1, r.2.2)) = some (.agg [.abs (wdF 9 g)], some (wdP 9 g)) := by kernel_rfl
set_option maxRecDepth 100000 in
theorem wd_10 (g : Nat → Int) : (callF Tryz.prog (SWd 10 g) 300 62 [.vec (.inp 0 0) 10] []).map (fun r => (r.1, r.2.2)) = some (.agg [.abs (wdF 10 g)], some (wdP 10 g)) := by kernel_rfl
set_option maxRecDepth 100000 in
theorem wd_11 (g : Nat → Int) : (callF Tryz.prog (SWd 11 g) 300 62 [.vec (.inp 0 0) 11] []).map (fun r => (r.1, r.2.2)) = some (.agg [.abs (wdF 11 g)], some (wdP 11 g)) := by kernel_rfl
set_option maxRecDepth 100000 in
theorem wd_12 (g : Nat → Int) : (callF Tryz.prog (SWd 12 g) 300 62 [.vec (.inp 0 0) 12] []).map (fun r => (r.1, r.2.2)) = some (.agg [.abs (wdF 12 g)], some (wdP 12 g)) := by kernel_rfl
set_option maxRecDepth 100000 in
theorem wd_13 (g : Nat → Int) : (callF Tryz.prog (SWd 13 g) 300 62 [.vec (.inp 0 0) 13] []).map (fun r => (r.1, r.2.2)) = some (.agg [.abs (wdF 13 g)], some (wdP 13 g)) := by kernel_rfl
set_option maxRecDepth 100000 in
theorem wd_14 (g : Nat → Int) : (callF Tryz.prog (SWd 14 g) 300 62 [.vec (.inp 0 0) 14] []).map (fun r => (r.1, r.2.2)) = some (.agg [.abs (wdF 14 g)], some (wdP 14 g)) := by kernel_rfl
set_option maxRecDepth 100000 in
theorem wd_15 (g : Nat → Int) : (callF Tryz.prog (SWd 15 g) 300 62 [.vec (.inp 0 0) 15] []).map (fun r => (r.1, r.2.2)) = some (.agg [.abs (wdF 15 g)], some (wdP 15 g)) := by kernel_rfl
set_option maxRecDepth 100000 in
theorem wd_16 (g : Nat → Int) : (callF Tryz.prog (SWd 16 g) 300 62 [.vec (.inp 0 0) 16] []).map (fun r => (r.1, r.2.2)) = some (.agg [.abs (wdF 16 g)], some (wdP 16 g)) := by kernel_rfl
set_option maxRecDepth 100000 in
theorem wd_17 (g : Nat → Int) : (callF Tryz.prog (SWd 17 g) 300 62 [.vec (.inp 0 0) 17] []).map (fun r => (r.1, r.2.2)) = some (.agg [.abs (wdF 17 g)], some (wdP 17 g)) := by kernel_rfl
set_option maxRecDepth 100000 in
theorem wd_18 (g : Nat → Int) : (callF Tryz.prog (SWd 18 g) 300 62 [.vec (.inp 0 0) 18] []).map (fun r => (r.1, r.2.2)) = some (.agg [.abs (wdF 18 g)], some (wdP 18 g)) := by kernel_rfl
set_option maxRecDepth 100000 in
theorem wd_19 (g : Nat → Int) : (callF Tryz.prog (SWd 19 g) 300 62 [.vec (.inp 0 0) 19] []).map (fun r => (r.1, r.2.2)) = some (.agg [.abs (wdF 19 g)], some (wdP 19 g)) := by kernel_rfl
set_option maxRecDepth 100000 in
theorem wd_20 (g : Nat → Int) : (callF Tryz.prog (SWd 20 g) 300 62 [.vec (.inp 0 0) 20] []).map (fun r => (r.1, r.2.2)) = some (.agg [.abs (wdF 20 g)], some (wdP 20 g)) := by kernel_rfl
set_option maxRecDepth 100000 in
theorem wd_21 (g : Nat → Int) : (callF Tryz.prog (SWd 21 g) 300 62 [.vec (.inp 0 0) 21] []).map (fun r => (r.1, r.2.2)) = some (.agg [.abs (wdF 21 g)], some (wdP 21 g)) := by kernel_rfl
set_option maxRecDepth 100000 in
theorem wd_22 (g : Nat → Int) : (callF Tryz.prog (SWd 22 g) 300 62 [.vec (.inp 0 0) 22] []).map (fun r => (r.1, r.2.2)) = some (.agg [.abs (wdF 22 g)], some (wdP 22 g)) := by kernel_rfl
set_option maxRecDepth 100000 in
theorem wd_23 (g : Nat → Int) : (callF Tryz.prog (SWd 23 g) 300 62 [.vec (.inp 0 0) 23] []).map (fun r => (r.1, r.2.2)) = some (.agg [.abs (wdF 23 g)], some (wdP 23 g)) := by kernel_rfl
set_option maxRecDepth 100000 in
theorem wd_24 (g : Nat → Int) : (callF Tryz.prog (SWd 24 g) 300 62 [.vec (.inp 0 0) 24] []).map (fun r => (r.1, r.2.2)) = some (.agg [.abs (wdF 24 g)], some (wdP 24 g)) := by kernel_rfl
set_option maxRecDepth 100000 in
theorem wd_25 (g : Nat → Int) : (callF Tryz.prog (SWd 25 g) 300 62 [.vec (.inp 0 0) 25] []).map (fun r => (r.1, r.2.2)) = some (.agg [.abs (wdF 25 g)], some (wdP 25 g)) := by kernel_rfl
set_option maxRecDepth 100000 in
theorem wd_26 (g : Nat → Int) : (callF Tryz.prog (SWd 26 g) 300 62 [.vec (.inp 0 0) 26] []).map (fun r => (r.1, r.2.2)) = some (.agg [.abs (wdF 26 g)], some (wdP 26 g)) := by kernel_rfl
set_option maxRecDepth 100000 in
theorem wd_27 (g : Nat → Int) : (callF Tryz.prog (SWd 27 g) 300 62 [.vec (.inp 0 0) 27] []).map (fun r => (r.1, r.2.2)) = some (.agg [.abs (wdF 27 g)], some (wdP 27 g)) := by kernel_rfl
set_option maxRecDepth 100000 in
theorem wd_28 (g : Nat → Int) : (callF Tryz.prog (SWd 28 g) 300 62 [.vec (.inp 0 0) 28] []).map (fun r => (r.1, r.2.2)) = some (.agg [.abs (wdF 28 g)], some (wdP 28 g)) := by kernel_rfl
set_option maxRecDepth 100000 in
theorem wd_29 (g : Nat → Int) : (callF Tryz.prog (SWd 29 g) 300 62 [.vec (.inp 0 0) 29] []).map (fun r => (r.1, r.2.2)) = some (.agg [.abs (wdF 29 g)], some (wdP 29 g)) := by kernel_rfl
set_option maxRecDepth 100000 in
theorem wd_30 (g : Nat → Int) : (callF Tryz.prog (SWd 30 g) 300 62 [.vec (.inp 0 0) 30] []).map (fun r => (r.1, r.2.2)) = some (.agg [.abs (wdF 30 g)], some (wdP 30 g)) := by kernel_rfl
set_option maxRecDepth 100000 in
theorem wd_31 (g : Nat → Int) : (callF Tryz.prog (SWd 31 g) 300 62 [.vec (.inp 0 0) 31] []).map (fun r => (r.1, r.2.2)) = some (.agg [.abs (wdF 31 g)], some (wdP 31 g)) := by kernel_rfl
set_option maxRecDepth 100000 in
theorem wd_32 (g : Nat → Int) : (callF Tryz.prog (SWd 32 g) 300 62 [.vec (.inp 0 0) 32] []).map (fun r => (r.1, r.2.2)) = some (.agg [.abs (wdF 32 g)], some (wdP 32 g)) := by kernel_rfl
set_option maxRecDepth 100000 in
theorem wd_33 (g : Nat → Int) : (callF Tryz.prog (SWd 33 g) 300 62 [.vec (.inp 0 0) 33] []).map (fun r => (r.1, r.2.2)) = some (.agg [.abs (wdF 33 g)], some (wdP 33 g)) := by kernel_rfl
set_option maxRecDepth 100000 in
theorem wd_34 (g : Nat → Int) : (callF Tryz.prog (SWd 34 g) 300 62 [.vec (.inp 0 0) 34] []).map (fun r => (r.1, r.2.2)) = some (.agg [.abs (wdF 34 g)], some (wdP 34 g)) := by kernel_rfl
set_option maxRecDepth 100000 in
theorem wd_35 (g : Nat → Int) : (callF Tryz.prog (SWd 35 g) 300 62 [.vec (.inp 0 0) 35] []).map (fun r => (r.1, r.2.2)) = some (.agg [.abs (wdF 35 g)], some (wdP 35 g)) := by kernel_rfl
set_option maxRecDepth 100000 in
theorem wd_36 (g : Nat → Int) : (callF Tryz.prog (SWd 36 g) 300 62 [.vec (.inp 0 0) 36] []).map (fun r => (r.1, r.2.2)) = some (.agg [.abs (wdF 36 g)], some (wdP 36 g)) := by kernel_rfl
set_option maxRecDepth 100000 in
theorem wd_37 (g : Nat → Int) : (callF Tryz.prog (SWd 37 g) 300 62 [.vec (.inp 0 0) 37] []).map (fun r => (r.1, r.2.2)) = some (.agg [.abs (wdF 37 g)], some (wdP 37 g)) := by kernel_rfl
set_option maxRecDepth 100000 in
theorem wd_38 (g : Nat → Int) : (callF Tryz.prog (SWd 38 g) 300 62 [.vec (.inp 0 0) 38] []).map (fun r => (r.1, r.2.2)) = some (.agg [.abs (wdF 38 g)], some (wdP 38 g)) := by kernel_rfl
set_option maxRecDepth 100000 in
theorem wd_39 (g : Nat → Int) : (callF Tryz.prog (SWd 39 g) 300 62 [.vec (.inp 0 0) 39] []).map (fun r => (r.1, r.2.2)) = some (.agg [.abs (wdF 39 g)], some (wdP 39 g)) := by kernel_rfl
set_option maxRecDepth 100000 in
theorem wd_40 (g : Nat → Int) : (callF Tryz.prog (SWd 40 g) 300 62 [.vec (.inp 0 0) 40] []).map (fun r => (r.1, r.2.2)) = some (.agg [.abs (wdF 40 g)], some (wdP 40 g)) := by kernel_rfl
set_option maxRecDepth 100000 in
theorem wd_41 (g : Nat → Int) : (callF Tryz.prog (SWd 41 g) 300 62 [.vec (.inp 0 0) 41] []).map (fun r => (r.1, r.2.2)) = some (.agg [.abs (wdF 41 g)], some (wdP 41 g)) := by kernel_rfl
set_option maxRecDepth 100000 in
theorem wd_42 (g : Nat → Int) : (callF Tryz.prog (SWd 42 g) 300 62 [.vec (.inp 0 0) 42] []).map (fun r => (r.1, r.2.2)) = some (.agg [.abs (wdF 42 g)], some (wdP 42 g)) := by kernel_rfl
set_option maxRecDepth 100000 in
theorem wd_43 (g : Nat → Int) : (callF Tryz.prog (SWd 43 g) 300 62 [.vec (.inp 0 0) 43] []).map (fun r => (r.1, r.2.2)) = some (.agg [.abs (wdF 43 g)], some (wdP 43 g)) := by kernel_rfl
set_option maxRecDepth 100000 in
theorem wd_44 (g : Nat → Int) : (callF Tryz.prog (SWd 44 g) 300 62 [.vec (.inp 0 0) 44] []).map (fun r => (r.1, r.2.2)) = some (.agg [.abs (wdF 44 g)], some (wdP 44 g)) := by kernel_rfl
set_option maxRecDepth 100000 in
theorem wd_45 (g : Nat → Int) : (callF Tryz.prog (SWd 45 g) 300 62 [.vec (.inp 0 0) 45] []).map (fun r => (r.1, r.2.2)) = some (.agg [.abs (wdF 45 g)], some (wdP 45 g)) := by kernel_rfl
set_option maxRecDepth 100000 in
theorem wd_46 (g : Nat → Int) : (callF Tryz.prog (SWd 46 g) 300 62 [.vec (.inp 0 0) 46] []).map (fun r => (r.1, r.2.2)) = some (.agg [.abs (wdF 46 g)], some (wdP 46 g)) := by kernel_rfl
set_option maxRecDepth 100000 in
theorem wd_47 (g : Nat → Int) : (callF Tryz.prog (SWd 47 g) 300 62 [.vec (.inp 0 0) 47] []).map (fun r => (r.1, r.2.2)) = some (.agg [.abs (wdF 47 g)], some (wdP 47 g)) := by kernel_rfl
set_option maxRecDepth 100000 in
theorem wd_48 (g : Nat → Int) : (callF Tryz.prog (SWd 48 g) 300 62 [.vec (.inp 0 0) 48] []).map (fun r => (r.1, r.2.2)) = some (.agg [.abs (wdF 48 g)], some (wdP 48 g)) := by kernel_rfl
set_option maxRecDepth 100000 in
theorem wd_49 (g : Nat → Int) : (callF Tryz.prog (SWd 49 g) 300 62 [.vec (.inp 0 0) 49] []).map (fun r => (r.1, r.2.2)) = some (.agg [.abs (wdF 49 g)], some (wdP 49 g)) := by kernel_rfl
set_option maxRecDepth 100000 in
theorem wd_50 (g : Nat → Int) : (callF Tryz.prog (SWd 50 g) 300 62 [.vec (.inp 0 0) 50] []).map (fun r => (r.1, r.2.2)) = some (.agg [.abs (wdF 50 g)], some (wdP 50 g)) := by kernel_rfl
set_option maxRecDepth 100000 in
theorem wd_51 (g : Nat → Int) : (callF Tryz.prog (SWd 51 g) 300 62 [.vec (.inp 0 0) 51] []).map (fun r => (r.1, r.2.2)) = some (.agg [.abs (wdF 51 g)], some (wdP 51 g)) := by kernel_rfl
set_option maxRecDepth 100000 in
theorem wd_52 (g : Nat → Int) : (callF Tryz.prog (SWd 52 g) 300 62 [.vec (.inp 0 0) 52] []).map (fun r => (r.1, r.2.2)) = some (.agg [.abs (wdF 52 g)], some (wdP 52 g)) := by kernel_rfl
set_option maxRecDepth 100000 in
theorem wd_53 (g : Nat → Int) : (callF Tryz.prog (SWd 53 g) 300 62 [.vec (.inp 0 0) 53] []).map (fun r => (r.1, r.2.2)) = some (.agg [.abs (wdF 53 g)], some (wdP 53 g)) := by kernel_rfl
set_option maxRecDepth 100000 in
theorem wd_54 (g : Nat → Int) : (callF Tryz.prog (SWd 54 g) 300 62 [.vec (.inp 0 0) 54] []).map (fun r => (r.1, r.2.2)) = some (.agg [.abs (wdF 54 g)], some (wdP 54 g)) := by kernel_rfl
set_option maxRecDepth 100000 in
theorem wd_55 (g : Nat → Int) : (callF Tryz.prog (SWd 55 g) 300 62 [.vec (.inp 0 0) 55] []).map (fun r => (r.1, r.2.2)) = some (.agg [.abs (wdF 55 g)], some (wdP 55 g)) := by kernel_rfl
set_option maxRecDepth 100000 in
theorem wd_56 (g : Nat → Int) : (callF Tryz.prog (SWd 56 g) 300 62 [.vec (.inp 0 0) 56] []).map (fun r => (r.1, r.2.2)) = some (.agg [.abs (wdF 56 g)], some (wdP 56 g)) := by kernel_rfl
set_option maxRecDepth 100000 in
theorem wd_57 (g : Nat → Int) : (callF Tryz.prog (SWd 57 g) 300 62 [.vec (.inp 0 0) 57] []).map (fun r => (r.1, r.2.2)) = some (.agg [.abs (wdF 57 g)], some (wdP 57 g)) := by kernel_rfl
set_option maxRecDepth 100000 in
theorem wd_58 (g : Nat → Int) : (callF Tryz.prog (SWd 58 g) 300 62 [.vec (.inp 0 0) 58] []).map (fun r => (r.1, r.2.2)) = some (.agg [.abs (wdF 58 g)], some (wdP 58 g)) := by kernel_rfl
set_option maxRecDepth 100000 in
theorem wd_59 (g : Nat → Int) : (callF Tryz.prog (SWd 59 g) 300 62 [.vec (.inp 0 0) 59] []).map (fun r => (r.1, r.2.2)) = some (.agg [.abs (wdF 59 g)], some (wdP 59 g)) := by kernel_rfl
set_option maxRecDepth 100000 in
theorem wd_60 (g : Nat → Int) : (callF Tryz.prog (SWd 60 g) 300 62 [.vec (.inp 0 0) 60] []).map (fun r => (r.1, r.2.2)) = some (.agg [.abs (wdF 60 g)], some (wdP 60 g)) := by kernel_rfl
set_option maxRecDepth 100000 in
theorem wd_61 (g : Nat → Int) : (callF Tryz.prog (SWd 61 g) 300 62 [.vec (.inp 0 0) 61] []).map (fun r => (r.1, r.2.2)) = some (.agg [.abs (wdF 61 g)], some (wdP 61 g)) := by kernel_rfl
set_option maxRecDepth 100000 in
theorem wd_62 (g : Nat → Int) : (callF Tryz.prog (SWd 62 g) 300 62 [.vec (.inp 0 0) 62] []).map (fun r => (r.1, r.2.2)) = some (.agg [.abs (wdF 62 g)], some (wdP 62 g)) := by kernel_rfl
set_option maxRecDepth 100000 in
theorem wd_63 (g : Nat → Int) : (callF Tryz.prog (SWd 63 g) 300 62 [.vec (.inp 0 0) 63] []).map (fun r => (r.1, r.2.2)) = some (.agg [.abs (wdF 63 g)], some (wdP 63 g)) := by kernel_rfl
set_option maxRecDepth 100000 in
theorem wd_64 (g : Nat → Int) : (callF Tryz.prog (SWd 64 g) 300 62 [.vec (.inp 0 0) 64] []).map (fun r => (r.1, r.2.2)) = some (.agg [.abs (wdF 64 g)], some (wdP 64 g)) := by kernel_rfl
set_option maxRecDepth 100000 in
theorem wd_65 (g : Nat → Int) : (callF Tryz.prog (SWd 65 g) 300 62 [.vec (.inp 0 0) 65] []).map (fun r => (r.1, r.2.2)) = some (.agg [.abs (wdF 65 g)], some (wdP 65 g)) := by kernel_rfl
set_option maxRecDepth 100000 in
theorem wd_66 (g : Nat → Int) : (callF Tryz.prog (SWd 66 g) 300 62 [.vec (.inp 0 0) 66] []).map (fun r => (r.1, r.2.2)) = some (.agg [.abs (wdF 66 g)], some (wdP 66 g)) := by kernel_rfl
set_option maxRecDepth 100000 in
theorem wd_67 (g : Nat → Int) : (callF Tryz.prog (SWd 67 g) 300 62 [.vec (.inp 0 0) 67] []).map (fun r => (r.1, r.2.2)) = some (.agg [.abs (wdF 67 g)], some (wdP 67 g)) := by kernel_rfl
set_option maxRecDepth 100000 in
theorem wd_68 (g : Nat → Int) : (callF Tryz.prog (SWd 68 g) 300 62 [.vec (.inp 0 0) 68] []).map (fun r => (r.1, r.2.2)) = some (.agg [.abs (wdF 68 g)], some (wdP 68 g)) := by kernel_rfl
set_option maxRecDepth 100000 in
theorem wd_69 (g : Nat → Int) : (callF Tryz.prog (SWd 69 g) 300 62 [.vec (.inp 0 0) 69] []).map (fun r => (r.1, r.2.2)) = some (.agg [.abs (wdF 69 g)], some (wdP 69 g)) := by kernel_rfl
set_option maxRecDepth 100000 in
theorem wd_70 (g : Nat → Int) : (callF Tryz.prog (SWd 70 g) 300 62 [.vec (.inp 0 0) 70] []).map (fun r => (r.1, r.2.2)) = some (.agg [.abs (wdF 70 g)], some (wdP 70 g)) := by kernel_rfl
set_option maxRecDepth 100000 in
theorem wd_71 (g : Nat → Int) : (callF Tryz.prog (SWd 71 g) 300 62 [.vec (.inp 0 0) 71] []).map (fun r => (r.1, r.2.2)) = some (.agg [.abs (wdF 71 g)], some (wdP 71 g)) := by kernel_rfl
set_option maxRecDepth 100000 in
theorem wd_72 (g : Nat → Int) : (callF Tryz.prog (SWd 72 g) 300 62 [.vec (.inp 0 0) 72] []).map (fun r => (r.1, r.2.2)) = some (.agg [.abs (wdF 72 g)], some (wdP 72 g)) := by kernel_rfl
set_option maxRecDepth 100000 in
theorem wd_73 (g : Nat → Int) : (callF Tryz.prog (SWd 73 g) 300 62 [.vec (.inp 0 0) 73] []).map (fun r => (r.1, r.2.2)) = some (.agg [.abs (wdF 73 g)], some (wdP 73 g)) := by kernel_rfl
set_option maxRecDepth 100000 in
theorem wd_74 (g : Nat → Int) : (callF Tryz.prog (SWd 74 g) 300 62 [.vec (.inp 0 0) 74] []).map (fun r => (r.1, r.2.2)) = some (.agg [.abs (wdF 74 g)], some (wdP 74 g)) := by kernel_rfl
set_option maxRecDepth 100000 in
theorem wd_75 (g : Nat → Int) : (callF Tryz.prog (SWd 75 g) 300 62 [.vec (.inp 0 0) 75] []).map (fun r => (r.1, r.2.2)) = some (.agg [.abs (wdF 75 g)], some (wdP 75 g)) := by kernel_rfl
set_option maxRecDepth 100000 in
theorem wd_76 (g : Nat → Int) : (callF Tryz.prog (SWd 76 g) 300 62 [.vec (.inp 0 0) 76] []).map (fun r => (r.1, r.2.2)) = some (.agg [.abs (wdF 76 g)], some (wdP 76 g)) := by kernel_rfl
set_option maxRecDepth 100000 in
theorem wd_77 (g : Nat → Int) : (callF Tryz.prog (SWd 77 g) 300 62 [.vec (.inp 0 0) 77] []).map (fun r => (r.1, r.2.2)) = some (.agg [.abs (wdF 77 g)], some (wdP 77 g)) := by kernel_rfl
set_option maxRecDepth 100000 in
theorem wd_78 (g : Nat → Int) : (callF Tryz.prog (SWd 78 g) 300 62 [.vec (.inp 0 0) 78] []).map (fun r => (r.1, r.2.2)) = some (.agg [.abs (wdF 78 g)], some (wdP 78 g)) := by kernel_rfl
set_option maxRecDepth 100000 in
theorem wd_79 (g : Nat → Int) : (callF Tryz.prog (SWd 79 g) 300 62 [.vec (.inp 0 0) 79] []).map (fun r => (r.1, r.2.2)) = some (.agg [.abs (wdF 79 g)], some (wdP 79 g)) := by kernel_rfl
set_option maxRecDepth 100000 in
theorem wd_80 (g : Nat → Int) : (callF Tryz.prog (SWd 80 g) 300 62 [.vec (.inp 0 0) 80] []).map (fun r => (r.1, r.2.2)) = some (.agg [.abs (wdF 80 g)], some (wdP 80 g)) := by kernel_rfl
set_option maxRecDepth 100000 in
theorem wd_81 (g : Nat → Int) : (callF Tryz.prog (SWd 81 g) 300 62 [.vec (.inp 0 0) 81] []).map (fun r => (r.1, r.2.2)) = some (.agg [.abs (wdF 81 g)], some (wdP 81 g)) := by kernel_rfl
set_option maxRecDepth 100000 in
theorem wd_82 (g : Nat → Int) : (callF Tryz.prog (SWd 82 g) 300 62 [.vec (.inp 0 0) 82] []).map (fun r => (r.1, r.2.2)) = some (.agg [.abs (wdF 82 g)], some (wdP 82 g)) := by kernel_rfl
set_option maxRecDepth 100000 in
theorem wd_83 (g : Nat → Int) : (callF Tryz.prog (SWd 83 g) 300 62 [.vec (.inp 0 0) 83] []).map (fun r => (r.1, r.2.2)) = some (.agg [.abs (wdF 83 g)], some (wdP 83 g)) := by kernel_rfl
set_option maxRecDepth 100000 in
theorem wd_84 (g : Nat → Int) : (callF Tryz.prog (SWd 84 g) 300 62 [.vec (.inp 0 0) 84] []).map (fun r => (r.1, r.2.2)) = some (.agg [.abs (wdF 84 g)], some (wdP 84 g)) := by kernel_rfl
set_option maxRecDepth 100000 in
theorem wd_85 (g : Nat → Int) : (callF Tryz.prog (SWd 85 g) 300 62 [.vec (.inp 0 0) 85] []).map (fun r => (r.1, r.2.2)) = some (.agg [.abs (wdF 85 g)], some (wdP 85 g)) := by kernel_rfl
set_option maxRecDepth 100000 in
theorem wd_86 (g : Nat → Int) : (callF Tryz.prog (SWd 86 g) 300 62 [.vec (.inp 0 0) 86] []).map (fun r => (r.1, r.2.2)) = some (.agg [.abs (wdF 86 g)], some (wdP 86 g)) := by kernel_rfl
set_option maxRecDepth 100000 in
theorem wd_87 (g : Nat → Int) : (callF Tryz.prog (SWd 87 g) 300 62 [.vec (.inp 0 0) 87] []).map (fun r => (r.1, r.2.2)) = some (.agg [.abs (wdF 87 g)], some (wdP 87 g)) := by kernel_rfl
set_option maxRecDepth 100000 in
theorem wd_88 (g : Nat → Int) : (callF Tryz.prog (SWd 88 g) 300 62 [.vec (.inp 0 0) 88] []).map (fun r => (r.1, r.2.2)) = some (.agg [.abs (wdF 88 g)], some (wdP 88 g)) := by kernel_rfl
set_option maxRecDepth 100000 in
theorem wd_89 (g : Nat → Int) : (callF Tryz.prog (SWd 89 g) 300 62 [.vec (.inp 0 0) 89] []).map (fun r => (r.1, r.2.2)) = some (.agg [.abs (wdF 89 g)], some (wdP 89 g)) := by kernel_rfl
set_option maxRecDepth 100000 in
theorem wd_90 (g : Nat → Int) : (callF Tryz.prog (SWd 90 g) 300 62 [.vec (.inp 0 0) 90] []).map (fun r => (r.1, r.2.2)) = some (.agg [.abs (wdF 90 g)], some (wdP 90 g)) := by kernel_rfl
set_option maxRecDepth 100000 in
theorem wd_91 (g : Nat → Int) : (callF Tryz.prog (SWd 91 g) 300 62 [.vec (.inp 0 0) 91] []).map (fun r => (r.1, r.2.2)) = some (.agg [.abs (wdF 91 g)], some (wdP 91 g)) := by kernel_rfl
set_option maxRecDepth 100000 in
theorem wd_92 (g : Nat → Int) : (callF Tryz.prog (SWd 92 g) 300 62 [.vec (.inp 0 0) 92] []).map (fun r => (r.1, r.2.2)) = some (.agg [.abs (wdF 92 g)], some (wdP 92 g)) := by kernel_rfl
set_option maxRecDepth 100000 in
theorem wd_93 (g : Nat → Int) : (callF Tryz.prog (SWd 93 g) 300 62 [.vec (.inp 0 0) 93] []).map (fun r => (r.1, r.2.2)) = some (.agg [.abs (wdF 93 g)], some (wdP 93 g)) := by kernel_rfl
set_option maxRecDepth 100000 in
theorem wd_94 (g : Nat → Int) : (callF Tryz.prog (SWd 94 g) 300 62 [.vec (.inp 0 0) 94] []).map (fun r => (r.1, r.2.2)) = some (.agg [.abs (wdF 94 g)], some (wdP 94 g)) := by kernel_rfl
set_option maxRecDepth 100000 in
theorem wd_95 (g : Nat → Int) : (callF Tryz.prog (SWd 95 g) 300 62 [.vec (.inp 0 0) 95] []).map (fun r => (r.1, r.2.2)) = some (.agg [.abs (wdF 95 g)], some (wdP 95 g)) := by kernel_rfl
set_option maxRecDepth 100000 in
theorem wd_96 (g : Nat → Int) : (callF Tryz.prog (SWd 96 g) 300 62 [.vec (.inp 0 0) 96] []).map (fun r => (r.1, r.2.2)) = some (.agg [.abs (wdF 96 g)], some (wdP 96 g)) := by kernel_rfl
set_option maxRecDepth 100000 in
theorem wd_97 (g : Nat → Int) : (callF Tryz.prog (SWd 97 g) 300 62 [.vec (.inp 0 0) 97] []).map (fun r => (r.1, r.2.2)) = some (.agg [.abs (wdF 97 g)], some (wdP 97 g)) := by kernel_rfl
set_option maxRecDepth 100000 in
theorem wd_98 (g : Nat → Int) : (callF Tryz.prog (SWd 98 g) 300 62 [.vec (.inp 0 0) 98] []).map (fun r => (r.1, r.2.2)) = some (.agg [.abs (wdF 98 g)], some (wdP 98 g)) := by kernel_rfl
set_option maxRecDepth 100000 in
theorem wd_99 (g : Nat → Int) : (callF Tryz.prog (SWd 99 g) 300 62 [.vec (.inp 0 0) 99] []).map (fun r => (r.1, r.2.2)) = some (.agg [.abs (wdF 99 g)], some (wdP 99 g)) := by kernel_rfl
set_option maxRecDepth 100000 in
theorem wd_100 (g : Nat → Int) : (callF Tryz.prog (SWd 100 g) 300 62 [.vec (.inp 0 0) 100] []).map (fun r => (r.1, r.2.2)) = some (.agg [.abs (wdF 100 g)], some (wdP 100 g)) := by kernel_rfl
theorem wdV (g : Nat → Int) : ∀ n, 1 ≤ n → n ≤ 100 → (callF Tryz.prog (SWd n g) 300 62 [.vec (.inp 0 0) n] []).map (fun r => (r.1, r.2.2)) = some (.agg [.abs (wdF n g)], some (wdP n g))
  | 0, h, _ => absurd h (by omega)
  | 1, _, _ => wd_1 g
  | 2, _, _ => wd_2 g
  | 3, _, _ => wd_3 g
  | 4, _, _ => wd_4 g
  | 5, _, _ => wd_5 g
  | 6, _, _ => wd_6 g
  | 7, _, _ => wd_7 g
  | 8, _, _ => wd_8 g
  | 9, _, _ => wd_9 g
  | 10, _, _ => wd_10 g
  | 11, _, _ => wd_11 g
  | 12, _, _ => wd_12 g
  | 13, _, _ => wd_13 g
  | 14, _, _ => wd_14 g
  | 15, _, _ => wd_15 g
  | 16, _, _ => wd_16 g
  | 17, _, _ => wd_17 g
  | 18, _, _ => wd_18 g
  | 19, _, _ => wd_19 g
  | 20, _, _ => wd_20 g
  | 21, _, _ => wd_21 g
  | 22, _, _ => wd_22 g
  | 23, _, _ => wd_23 g
  | 24, _, _ => wd_24 g
  | 25, _, _ => wd_25 g
  | 26, _, _ => wd_26 g
  | 27, _, _ => wd_27 g
  | 28, _, _ => wd_28 g
  | 29, _, _ => wd_29 g
  | 30, _, _ => wd_30 g
  | 31, _, _ => wd_31 g
  | 32, _, _ => wd_32 g
  | 33, _, _ => wd_33 g
  | 34, _, _ => wd_34 g
  | 35, _, _ => wd_35 g
  | 36, _, _ => wd_36 g
  | 37, _, _ => wd_37 g
  | 38, _, _ => wd_38 g
  | 39, _, _ => wd_39 g
  | 40, _, _ => wd_40 g
  | 41, _, _ => wd_41 g
  | 42, _, _ => wd_42 g
  | 43, _, _ => wd_43 g
  | 44, _, _ => wd_44 g
  | 45, _, _ => wd_45 g
  | 46, _, _ => wd_46 g
  | 47, _, _ => wd_47 g
  | 48, _, _ => wd_48 g
  | 49, _, _ => wd_49 g
  | 50, _, _ => wd_50 g
  | 51, _, _ => wd_51 g
  | 52, _, _ => wd_52 g
  | 53, _, _ => wd_53 g
  | 54, _, _ => wd_54 g
  | 55, _, _ => wd_55 g
  | 56, _, _ => wd_56 g
  | 57, _, _ => wd_57 g
  | 58, _, _ => wd_58 g
  | 59, _, _ => wd_59 g
  | 60, _, _ => wd_60 g
  | 61, _, _ => wd_61 g
  | 62, _, _ => wd_62 g
  | 63, _, _ => wd_63 g
  | 64, _, _ => wd_64 g
  | 65, _, _ => wd_65 g
  | 66, _, _ => wd_66 g
  | 67, _, _ => wd_67 g
  | 68, _, _ => wd_68 g
  | 69, _, _ => wd_69 g
  | 70, _, _ => wd_70 g
  | 71, _, _ => wd_71 g
  | 72, _, _ => wd_72 g
  | 73, _, _ => wd_73 g
  | 74, _, _ => wd_74 g
  | 75, _, _ => wd_75 g
  | 76, _, _ => wd_76 g
  | 77, _, _ => wd_77 g
  | 78, _, _ => wd_78 g
  | 79, _, _ => wd_79 g
  | 80, _, _ => wd_80 g
  | 81, _, _ => wd_81 g
  | 82, _, _ => wd_82 g
  | 83, _, _ => wd_83 g
  | 84, _, _ => wd_84 g
  | 85, _, _ => wd_85 g
  | 86, _, _ => wd_86 g
  | 87, _, _ => wd_87 g
  | 88, _, _ => wd_88 g
  | 89, _, _ => wd_89 g
  | 90, _, _ => wd_90 g
  | 91, _, _ => wd_91 g
  | 92, _, _ => wd_92 g
  | 93, _, _ => wd_93 g
  | 94, _, _ => wd_94 g
  | 95, _, _ => wd_95 g
  | 96, _, _ => wd_96 g
  | 97, _, _ => wd_97 g
  | 98, _, _ => wd_98 g
  | 99, _, _ => wd_99 g
  | 100, _, _ => wd_100 g
  | m + 101, _, h => absurd h (by omega)
end Go.Proofs.YtcedljbapgmdmaaGreat.En

/- DERIVED. The element of any bytes: the contract. -/
set_option linter.all false
namespace Go.Proofs.YtcedljbapgmdmaaGreat.En
open Go Go.RowKit

theorem Told.as {f : FuncId} {us : List (List (LV Fe))} {args : List (LV Fe)} {v v' : LV Fe} (h : Told Tryz.prog f us args v []) (hv : plainB v' = true) (e : ∀ ρ : Key → Loc, LV.tr ρ v = LV.tr ρ v') : Told Tryz.prog f us args v' [] := by
  intro D ρ w ha
  refine (h D ρ w ha).mono ?_
  rintro e' w' ⟨ρ1, rfl, h1, h2, h3, h4, h5, h6⟩
  exact ⟨ρ1, by rw [e ρ1], h1, h2, h3, h4, pv_kin _ v' hv, h6⟩
set_option maxRecDepth 100000 in
theorem wd_0 (g : Nat → Int) : (callF Tryz.prog (SWd 0 g) 300 62 [.vec (.inp 0 0) 0] []).map (fun r => (r.1, r.2.2)) = some (z6V, some (true = true ∧ true = true ∧ true = true)) := by kernel_rfl
theorem wd0_tr (g : Nat → Int) (ρ : Key → Loc) : LV.tr ρ z6V = LV.tr ρ (.agg [.abs (wdF 0 g)] : LV Fe) := by kernel_rfl
theorem wd_told {n : Nat} (hn : n ≤ 100) (g : Nat → Int) : Told Tryz.prog 62 [[.rows n 1 fun j => [.int .u8 (g j)]]] [.vec (.inp 0 0) n] (.agg [.abs (wdF n g)]) [] := by
  have hp : plainL [(.rows n 1 fun j => [.int .u8 (g j)] : LV Fe)] := ⟨fun _ => ⟨trivial, trivial⟩, trivial⟩
  rcases Nat.eq_zero_or_pos n with rfl | h
  · exact Told.as (told_walk (SWd_ok 0 g) rfl hp (wd_0 g) ⟨rfl, rfl, rfl⟩ rfl) rfl (wd0_tr g)
  · exact told_walk (SWd_ok n g) rfl hp (wdV g n h hn) (wdP_ok n g) rfl
noncomputable def wdFn (I : Inp Fe) (vs : List (LV Fe)) (mem : Mem Fe) : Option (RdC Fe) := match vs with
  | [.vec k m] => match at? I mem k with
    | some bl => match isDead bl.kd, rowsB bl.us with
      | false, some (n, g, c) => some ⟨[[.rows m 1 fun j => [.int .u8 (g j)]]], [k], [.vec (.inp 0 0) m], .agg [.abs (wdF m g)], [], c ∧ n = m ∧ m ≤ 100⟩
      | _, _ => none
    | none => none
  | _ => none
theorem wdFn_ok : ∀ I vs mem r, wdFn I vs mem = some r → r.c → RdOk Tryz.prog 62 I vs mem r := by
  intro I vs mem r h hc
  unfold wdFn at h
  split at h
  · rename_i k m
    split at h
    · rename_i bl hb
      split at h
      · rename_i n g c hd hr
        cases h
        obtain ⟨h1, h2, h3⟩ := hc
        subst h2
        exact {
          args := rfl
          fit := ⟨⟨fun e => by simp [keyMap, ιOf] at e, trivial⟩, trivial⟩
          len := rfl
          blk := fun j k' us hk hus => by
            match j with
            | 0 =>
              cases hk; cases hus
              exact ⟨bl, hb, hd, ⟨fun _ => ⟨trivial, trivial⟩, trivial⟩, rowsB_some hr h1⟩
            | j + 1 => simp at hk
          told := wd_told h3 g
          fitv := (plain_ren _ _ _ (show LV.plain (.agg [.abs (wdF n g)] : LV Fe) from ⟨trivial, trivial⟩)).2
          fitb := fun b hb => absurd hb List.not_mem_nil }
      · cases h
    · cases h
  · cases h
set_option maxRecDepth 100000 in
theorem entWide : ∀ args w, (callFunc 62 args).run Tryz.prog w = .ok (.enter 62 args) w := ent_of (f := 62) (P := Tryz.prog) rfl rfl rfl
noncomputable def conWide : ConC Tryz.prog Fe := conRdT 62 entWide wdFn wdFn_ok
end Go.Proofs.YtcedljbapgmdmaaGreat.En

/- DERIVED. Numbers held against one another; large elements; roots. -/
set_option linter.all false
namespace Go.Proofs.YtcedljbapgmdmaaGreat.En
open Go Go.RowKit

def lessC (a b : Nat → Int) : Prop := ((true = true ∧ true = true ∧ 0 ≤ 1 ∧ true = true ∧ true = true) ∧ (true = true ∧ true = true ∧ (cB a b 1).toNat ≤ 1 ∧ true = true ∧ true = true) ∧ (true = true ∧ true = true ∧ (cB a b 2).toNat ≤ 1 ∧ true = true ∧ true = true) ∧ (true = true ∧ true = true ∧ (cB a b 3).toNat ≤ 1 ∧ true = true ∧ true = true) ∧ (true = true ∧ true = true ∧ (cB a b 4).toNat ≤ 1 ∧ true = true ∧ true = true) ∧ (true = true ∧ true = true ∧ (cB a b 5).toNat ≤ 1 ∧ true = true ∧ true = true) ∧ true = true) ∧ true = true
set_option maxRecDepth 100000 in
theorem lessV (a b : Nat → Int) : (callF Tryz.prog (SF fun _ _ _ => none) 60 126 [.agg (lim a), .agg (lim b)] []).map (fun r => (r.1, r.2.2)) = some (.bool (cB a b 6 == 1), some (lessC a b)) := by kernel_rfl
theorem less_call (m n : Nat) (hm : m < pN) (hn : n < pN) (ρ : Key → Loc) (w : World) :
    Calls Tryz.prog 126 (trs ρ [(.agg (lim (lm m)) : LV Empty), .agg (lim (lm n))]).toArray w fun e w' => e = .returned (.bool (decide (m < n))) ∧ Below w.heap.size w w' := by
  have hp := pN_lt
  have c1 : ∀ k, (cB (lm m) (lm n) k).toNat ≤ 1 := fun k => by rw [cB_lm]; exact bw_le m n k
  have e6 : (cB (lm m) (lm n) 6 == 1) = decide (m < n) := by
    rw [cB_lm, bw_six (by omega) (by omega)]
    by_cases h : m < n
    · rw [if_pos h, decide_eq_true h]; rfl
    · rw [if_neg h, decide_eq_false h]; rfl
  have h : Calls Tryz.prog 126 (trs ρ [(.agg (lim (lm m)) : LV Empty), .agg (lim (lm n))]).toArray w fun e w' => e = .returned (LV.tr ρ (.bool (cB (lm m) (lm n) 6 == 1) : LV Empty)) ∧ Below w.heap.size w w' := plain_call (SF_ok _) rfl (lessV (lm m) (lm n)) ⟨⟨⟨rfl, rfl, Nat.zero_le _, rfl, rfl⟩, ⟨rfl, rfl, c1 1, rfl, rfl⟩, ⟨rfl, rfl, c1 2, rfl, rfl⟩, ⟨rfl, rfl, c1 3, rfl, rfl⟩, ⟨rfl, rfl, c1 4, rfl, rfl⟩, ⟨rfl, rfl, c1 5, rfl, rfl⟩, rfl⟩, rfl⟩
    (fun _ _ => rfl) ⟨⟨trivial, trivial, trivial, trivial, trivial, trivial, trivial⟩, ⟨trivial, trivial, trivial, trivial, trivial, trivial, trivial⟩, trivial⟩ (fun _ _ => rfl) ρ w
  rw [e6] at h
  exact h
def lessF (a b : Fe) : Bool := decide (mo (fv a) < mo (fv b))
set_option maxRecDepth 100000 in
theorem entLess : ∀ args w, (callFunc 126 args).run Tryz.prog w = .ok (.enter 126 args) w := ent_of (f := 126) (P := Tryz.prog) rfl rfl rfl
theorem less_runs (a b : Fe) : Runs 126 [bF [a], bF [b]] (.bool (lessF a b)) := by
  refine ⟨rfl, fun ρ w => ?_⟩
  have := less_call (mo (fv a)) (mo (fv b)) (mo_lt _) (mo_lt _) ρ w
  have e2 : trs ρ [bF [a], bF [b]] = trs ρ [(.agg (lim (lm (mo (fv a)))) : LV Empty), .agg (lim (lm (mo (fv b))))] := trs_fe a b ρ
  rw [e2]
  exact this
noncomputable def conLess : ConP Tryz.prog Fe := mkP 126 entLess [1, 1] (fun a b => .bool (lessF a b)) less_runs
/-! ## large ones -/
def halfE : Fe := ofSix 0xdcff7fffffffd555 0x0f55ffff58a9ffff 0xb39869507b587b12 0xb23ba5c279c2895f 0x258dd3db21a5d66b 0x0d0088f51cbff34d
def lgF (a : Fe) : Bool := lessF halfE (fmul a frone)
set_option maxRecDepth 100000 in
theorem entLarge : ∀ args w, (callFunc 101 args).run Tryz.prog w = .ok (.enter 101 args) w := ent_of (f := 101) (P := Tryz.prog) rfl rfl rfl
--@run lrgV (a : Fe) := callF Tryz.prog (SGb noD [conLess]) 60 101 [bF [a]] [] => .bool (lgF a)
--@[
set_option maxRecDepth 100000 in
def lrgV_G (a : Fe) : Prop := true = true
set_option maxRecDepth 100000 in
theorem lrgV (a : Fe) : (callF Tryz.prog (SGb noD [conLess]) 60 101 [bF [a]] []).map (fun r => (r.1, r.2.2)) = some (.bool (lgF a), some (lrgV_G a)) := by kernel_rfl
set_option maxRecDepth 100000 in
theorem lrgV_ok (a : Fe) : condOk (some (lrgV_G a)) := by unfold lrgV_G condOk; and_intros <;> rfl
--@]
noncomputable def conLarge : ConP Tryz.prog Fe := mkP 101 entLarge [1] (fun a => .bool (lgF a)) fun a => .of (SGa_ok _ _) rfl (lrgV a) (lrgV_ok a) rfl rfl
/-! ## roots -/
def rtF (a : Fe) : Fe := powF a (hexD sQuarter)
def rtT (a : Fe) : Bool := feq (fmul (rtF a) (rtF a)) a
/-- The root that isn't large. -/
def sqF (a : Fe) : Fe := bif rtT a then (bif lgF (rtF a) then fneg (rtF a) else rtF a) else zE
set_option maxRecDepth 100000 in
theorem entSqrt : ∀ args w, (callFunc 64 args).run Tryz.prog w = .ok (.enter 64 args) w := ent_of (f := 64) (P := Tryz.prog) rfl rfl rfl
--@run sq1V (a : Fe) := callF Tryz.prog (SGb (dci 64 [(2, 3, false)]) [conLarge]) 60 64 [bF [a]] [] => .tup [z6V, .bool false]
--@[
set_option maxRecDepth 100000 in
def sq1V_G (a : Fe) : Prop := true = true ∧ feq (fmul (powF a (hexD sQuarter)) (powF a (hexD sQuarter))) a = false ∧ true = true
set_option maxRecDepth 100000 in
theorem sq1V (a : Fe) : (callF Tryz.prog (SGb (dci 64 [(2, 3, false)]) [conLarge]) 60 64 [bF [a]] []).map (fun r => (r.1, r.2.2)) = some (.tup [z6V, .bool false], some (sq1V_G a)) := by kernel_rfl
--@]
--@run sq2V (a : Fe) := callF Tryz.prog (SGb (dci 64 [(2, 3, true), (4, 1, false)]) [conLarge]) 60 64 [bF [a]] [] => .tup [.agg [.abs (rtF a)], .bool true]
--@[
set_option maxRecDepth 100000 in
def sq2V_G (a : Fe) : Prop := true = true ∧ feq (fmul (powF a (hexD sQuarter)) (powF a (hexD sQuarter))) a = true ∧ lgF (powF a (hexD sQuarter)) = false ∧ true = true
set_option maxRecDepth 100000 in
theorem sq2V (a : Fe) : (callF Tryz.prog (SGb (dci 64 [(2, 3, true), (4, 1, false)]) [conLarge]) 60 64 [bF [a]] []).map (fun r => (r.1, r.2.2)) = some (.tup [.agg [.abs (rtF a)], .bool true], some (sq2V_G a)) := by kernel_rfl
--@]
--@run sq3V (a : Fe) := callF Tryz.prog (SGb (dci 64 [(2, 3, true), (4, 1, true)]) [conLarge]) 60 64 [bF [a]] [] => .tup [.agg [.abs (fneg (rtF a))], .bool true]
--@[
set_option maxRecDepth 100000 in
def sq3V_G (a : Fe) : Prop := true = true ∧ feq (fmul (powF a (hexD sQuarter)) (powF a (hexD sQuarter))) a = true ∧ lgF (powF a (hexD sQuarter)) = true ∧ true = true ∧ true = true
set_option maxRecDepth 100000 in
theorem sq3V (a : Fe) : (callF Tryz.prog (SGb (dci 64 [(2, 3, true), (4, 1, true)]) [conLarge]) 60 64 [bF [a]] []).map (fun r => (r.1, r.2.2)) = some (.tup [.agg [.abs (fneg (rtF a))], .bool true], some (sq3V_G a)) := by kernel_rfl
--@]
theorem sq_runs (a : Fe) : Runs 64 [bF [a]] (.tup [.agg [.abs (sqF a)], .bool (rtT a)]) := by
  cases h : rtT a with
  | false =>
    rw [show sqF a = zE by unfold sqF; rw [h]; rfl]
    unfold rtT rtF at h
    refine (Runs.of (SGa_ok _ _) rfl (sq1V a) (by unfold condOk sq1V_G; and_intros <;> first | with_reducible rfl | assumption) rfl rfl).as rfl fun ρ => ?_
    show Value.tuple #[LV.tr ρ z6V, .bool false] = Value.tuple #[LV.tr ρ (.agg [.abs zE] : LV Fe), .bool false]
    rw [z6_tr]
  | true => cases h2 : lgF (rtF a) with
    | false =>
      rw [show sqF a = rtF a by unfold sqF; rw [h, h2]; rfl]
      unfold rtT rtF at h
      unfold rtF at h2
      exact .of (SGa_ok _ _) rfl (sq2V a) (by unfold condOk sq2V_G; and_intros <;> first | with_reducible rfl | assumption) rfl rfl
    | true =>
      rw [show sqF a = fneg (rtF a) by unfold sqF; rw [h, h2]; rfl]
      unfold rtT rtF at h
      unfold rtF at h2
      exact .of (SGa_ok _ _) rfl (sq3V a) (by unfold condOk sq3V_G; and_intros <;> first | with_reducible rfl | assumption) rfl rfl
noncomputable def conSqrt : ConP Tryz.prog Fe := mkP 64 entSqrt [1] (fun a => .tup [.agg [.abs (sqF a)], .bool (rtT a)]) sq_runs
end Go.Proofs.YtcedljbapgmdmaaGreat.En

/- DERIVED. A point of its x. -/
set_option linter.all false
namespace Go.Proofs.YtcedljbapgmdmaaGreat.En
open Go Go.RowKit

def liftT (a : Fe) : Bool := rtT (sideF a)
def liftF (s : Bool) (a : Fe) : Pt := bif liftT a then (a, (bif s then fneg (sqF (sideF a)) else sqF (sideF a)), fOne) else zPt
set_option maxRecDepth 100000 in
theorem entLift : ∀ args w, (callFunc 25 args).run Tryz.prog w = .ok (.enter 25 args) w := ent_of (f := 25) (P := Tryz.prog) rfl rfl rfl
--@run lf1V (a : Fe) (s : Bool) := callF Tryz.prog (SGb (dci 25 [(1, 5, false)]) [conSide, conGOne, conSqrt]) 60 25 [bF [a], .bool s] [] => .tup [.agg zB, .bool false]
--@[
set_option maxRecDepth 100000 in
def lf1V_G (a : Fe) (s : Bool) : Prop := (rtT (sideF a) = false ∧ true = true) ∧ true = true
set_option maxRecDepth 100000 in
theorem lf1V (a : Fe) (s : Bool) : (callF Tryz.prog (SGb (dci 25 [(1, 5, false)]) [conSide, conGOne, conSqrt]) 60 25 [bF [a], .bool s] []).map (fun r => (r.1, r.2.2)) = some (.tup [.agg zB, .bool false], some (lf1V_G a s)) := by kernel_rfl
--@]
--@run lf2V (a : Fe) := callF Tryz.prog (SGb (dci 25 [(1, 5, true)]) [conSide, conGOne, conSqrt]) 60 25 [bF [a], .bool false] [] => .tup [ptV (a, sqF (sideF a), fOne), .bool true]
--@[
set_option maxRecDepth 100000 in
def lf2V_G (a : Fe) : Prop := (rtT (sideF a) = true ∧ true = true) ∧ true = true
set_option maxRecDepth 100000 in
theorem lf2V (a : Fe) : (callF Tryz.prog (SGb (dci 25 [(1, 5, true)]) [conSide, conGOne, conSqrt]) 60 25 [bF [a], .bool false] []).map (fun r => (r.1, r.2.2)) = some (.tup [ptV (a, sqF (sideF a), fOne), .bool true], some (lf2V_G a)) := by kernel_rfl
--@]
--@run lf3V (a : Fe) := callF Tryz.prog (SGb (dci 25 [(1, 5, true)]) [conSide, conGOne, conSqrt]) 60 25 [bF [a], .bool true] [] => .tup [ptV (a, fneg (sqF (sideF a)), fOne), .bool true]
--@[
set_option maxRecDepth 100000 in
def lf3V_G (a : Fe) : Prop := (rtT (sideF a) = true ∧ true = true) ∧ true = true ∧ true = true
set_option maxRecDepth 100000 in
theorem lf3V (a : Fe) : (callF Tryz.prog (SGb (dci 25 [(1, 5, true)]) [conSide, conGOne, conSqrt]) 60 25 [bF [a], .bool true] []).map (fun r => (r.1, r.2.2)) = some (.tup [ptV (a, fneg (sqF (sideF a)), fOne), .bool true], some (lf3V_G a)) := by kernel_rfl
--@]
theorem lf_runs (s : Bool) (a : Fe) : Runs 25 [bF [a], .bool s] (.tup [ptV (liftF s a), .bool (liftT a)]) := by
  cases h : liftT a with
  | false =>
    rw [show liftF s a = zPt by unfold liftF; rw [h]; rfl]
    unfold liftT at h
    refine (Runs.of (SGa_ok _ _) rfl (lf1V a s) (by unfold condOk lf1V_G; and_intros <;> first | with_reducible rfl | assumption) rfl rfl).as rfl fun ρ => ?_
    exact congrArg (fun v : Value => Value.tuple #[v, .bool false]) (zPt_tr ρ)
  | true => cases s with
    | false =>
      rw [show liftF false a = (a, sqF (sideF a), fOne) by unfold liftF; rw [h]; rfl]
      unfold liftT at h
      exact .of (SGa_ok _ _) rfl (lf2V a) (by unfold condOk lf2V_G; and_intros <;> first | with_reducible rfl | assumption) rfl rfl
    | true =>
      rw [show liftF true a = (a, fneg (sqF (sideF a)), fOne) by unfold liftF; rw [h]; rfl]
      unfold liftT at h
      exact .of (SGa_ok _ _) rfl (lf3V a) (by unfold condOk lf3V_G; and_intros <;> first | with_reducible rfl | assumption) rfl rfl
noncomputable def conLift : ConP Tryz.prog Fe := mkPB 25 entLift [1] (fun s a => .tup [ptV (liftF s a), .bool (liftT a)]) lf_runs
/-! ## a place of four -/
def plcF (z : Int) : Int := bif decide (z.tmod 4 < 0) then IntKind.i64.wrap (z.tmod 4 + 4) else z.tmod 4
set_option maxRecDepth 100000 in
theorem entPlace : ∀ args w, (callFunc 77 args).run Tryz.prog w = .ok (.enter 77 args) w := ent_of (f := 77) (P := Tryz.prog) rfl rfl rfl
--@run pl1V (z : Int) := callF Tryz.prog (SGb (dci 77 [(2, 1, true)]) []) 60 77 [.int .i64 z, .int .i64 4] [] => .int .i64 (IntKind.i64.wrap (z.tmod 4 + 4))
--@[
set_option maxRecDepth 100000 in
def pl1V_G (z : Int) : Prop := true = true ∧ decide (Int.tmod z ((4 : Int)) < (0 : Int)) = true
set_option maxRecDepth 100000 in
theorem pl1V (z : Int) : (callF Tryz.prog (SGb (dci 77 [(2, 1, true)]) []) 60 77 [.int .i64 z, .int .i64 4] []).map (fun r => (r.1, r.2.2)) = some (.int .i64 (IntKind.i64.wrap (z.tmod 4 + 4)), some (pl1V_G z)) := by kernel_rfl
--@]
--@run pl2V (z : Int) := callF Tryz.prog (SGb (dci 77 [(2, 1, false)]) []) 60 77 [.int .i64 z, .int .i64 4] [] => .int .i64 (z.tmod 4)
--@[
set_option maxRecDepth 100000 in
def pl2V_G (z : Int) : Prop := true = true ∧ decide (Int.tmod z ((4 : Int)) < (0 : Int)) = false
set_option maxRecDepth 100000 in
theorem pl2V (z : Int) : (callF Tryz.prog (SGb (dci 77 [(2, 1, false)]) []) 60 77 [.int .i64 z, .int .i64 4] []).map (fun r => (r.1, r.2.2)) = some (.int .i64 (z.tmod 4), some (pl2V_G z)) := by kernel_rfl
--@]
def plcFn : List (LV Fe) → Option (LV Fe)
  | [.int .i64 z, .int .i64 4] => some (.int .i64 (plcF z))
  | _ => none
theorem plcFn_runs {vs : List (LV Fe)} {v : LV Fe} (h : plcFn vs = some v) : Runs 77 vs v := by
  unfold plcFn at h
  split at h
  · rename_i z
    cases h
    cases h : decide (z.tmod 4 < 0) with
    | true =>
      rw [show plcF z = IntKind.i64.wrap (z.tmod 4 + 4) by unfold plcF; rw [h]; rfl]
      exact .of (SGa_ok _ _) rfl (pl1V z) (by unfold condOk pl1V_G; exact ⟨rfl, h⟩) rfl rfl
    | false =>
      rw [show plcF z = z.tmod 4 by unfold plcF; rw [h]; rfl]
      exact .of (SGa_ok _ _) rfl (pl2V z) (by unfold condOk pl2V_G; exact ⟨rfl, h⟩) rfl rfl
  · cases h
noncomputable def conPlace : ConP Tryz.prog Fe := mkFn 77 entPlace plcFn plcFn_runs
end Go.Proofs.YtcedljbapgmdmaaGreat.En

/- DERIVED. A point of a scalar and a place: the loop. -/
set_option linter.all false
namespace Go.Proofs.YtcedljbapgmdmaaGreat.En
open Go Go.RowKit

abbrev in2 (n : Nat) (f : Nat → Int) (m : Nat) (g : Nat → Int) : Inp Fe := inOf [[.rows n 1 fun j => [.int .u8 (f j)]], [.rows m 1 fun j => [.int .u8 (g j)]]]
theorem in2_ok (n : Nat) (f : Nat → Int) (m : Nat) (g : Nat → Int) : InpOk (in2 n f m g) := inOf_ok fun l hl => by
  rcases List.mem_cons.1 hl with rfl | hl
  · exact ⟨fun _ => ⟨trivial, trivial⟩, trivial⟩
  · rw [List.mem_singleton] at hl
    subst hl
    exact ⟨fun _ => ⟨trivial, trivial⟩, trivial⟩
noncomputable abbrev psP : List (ConP Tryz.prog Fe) := [conGen, conGNeg, conPlace, conLift, conSide, conGOne, conSqrt]
noncomputable abbrev SPt (l : List (Nat × Nat × Bool)) (I : Inp Fe) (ls : List (LoopF Tryz.prog I)) : Sig Fe := sigOf (P := Tryz.prog) ([conFAdd, conFSub, conFMul, conFSquare, conFNeg, conFIsZero, conFEqual, conTwice] ++ (psG ++ (psH ++ psP))) [] [conWide, conGMul] (I := I) ls msF (advP (dci 29 l) [62, 12] [])
theorem SPt_ok (l : List (Nat × Nat × Bool)) {I : Inp Fe} (h : InpOk I) (ls : List (LoopF Tryz.prog I)) : SigOk Tryz.prog (SPt l I ls) := sigOf_ok _ [] [conWide, conGMul] ls msF_ok _ h
/-- So many times 1 more. -/
def itA : Nat → Fe → Fe
  | 0, a => a
  | i + 1, a => fadd (itA i a) fOne
abbrev ptT (z : Int) (i : Nat) : List (Nat × LV Fe) := [(2, .int .i64 z), (6, .ptr (.own 0) 0 []), (7, .ptr (.own 2) 0 []), (8, .int .i64 (i : Int))]
abbrev ptM (b a : Fe) (p : List (LV Fe)) : Mem Fe := [some ⟨.rw, p⟩, some ⟨.rw, [.abs b]⟩, some ⟨.rw, [.abs a]⟩]
noncomputable abbrev ptJ (z : Int) (a : Fe) (i : Nat) : LS Fe := ⟨tm 54 (ptT z i), ptM a (itA i a) zB, []⟩
noncomputable def ptS (n : Nat) (f : Nat → Int) (m : Nat) (g : Nat → Int) (z : Int) : LS Fe := entry Tryz.prog (SPt [(2, 0, false), (4, 0, false)] (in2 n f m g) []) 60 29 [0, 1, 0, 1, 1, 1] [.vec (.inp 0 0) n, .vec (.inp 0 1) m, .int .i64 z] []
--@gen ptE (n : Nat) (f : Nat → Int) (m : Nat) (g : Nat → Int) (z : Int) := mS (in2 n f m g) [some (.own 0), some (.own 1), some (.own 2)] (ptS n f m g z) 54 (ptT z 0) (ptM (wdF m g) (wdF m g) zB)
--@[
set_option maxRecDepth 100000 in
def ptE_G (n : Nat) (f : Nat → Int) (m : Nat) (g : Nat → Int) (z : Int) : Prop := (z = z ∧ (0 : Int) = (↑0 : Int)) ∧ ((0 : Int) = (0 : Int) ∧ (0 : Int) = (0 : Int) ∧ (0 : Int) = (0 : Int) ∧ (0 : Int) = (0 : Int) ∧ (0 : Int) = (0 : Int) ∧ (0 : Int) = (0 : Int) ∧ (0 : Int) = (0 : Int) ∧ (0 : Int) = (0 : Int) ∧ (0 : Int) = (0 : Int) ∧ (0 : Int) = (0 : Int) ∧ (0 : Int) = (0 : Int) ∧ (0 : Int) = (0 : Int) ∧ (0 : Int) = (0 : Int) ∧ (0 : Int) = (0 : Int) ∧ (0 : Int) = (0 : Int) ∧ (0 : Int) = (0 : Int) ∧ (0 : Int) = (0 : Int) ∧ (0 : Int) = (0 : Int)) ∧ wdF m g = wdF m g ∧ wdF m g = wdF m g
set_option maxRecDepth 100000 in
theorem ptE (n : Nat) (f : Nat → Int) (m : Nat) (g : Nat → Int) (z : Int) : mS (in2 n f m g) [some (.own 0), some (.own 1), some (.own 2)] (ptS n f m g z) 54 (ptT z 0) (ptM (wdF m g) (wdF m g) zB) = some (some ((ptE_G n f m g z))) := by kernel_rfl
--@]
--@gen pt0 (n : Nat) (f : Nat → Int) (m : Nat) (g : Nat → Int) (z : Int) (a : Fe) (i : Nat) := runG Tryz.prog (SPt [(10, 1, true), (12, 7, false)] (in2 n f m g) []) 60 29 [0, 0, 1, 0, 1, 1, 1] (ptJ z a i) .normal 3 [some (.own 0), some (.own 1), some (.own 2)] 54 (ptT z (i + 1)) (ptM a (itA (i + 1) a) zB)
--@[
set_option maxRecDepth 100000 in
def pt0_G (n : Nat) (f : Nat → Int) (m : Nat) (g : Nat → Int) (z : Int) (a : Fe) (i : Nat) : Prop := (decide ((↑i : Int) < (20 : Int)) = true ∧ (true = true ∧ liftT (itA i a) = false ∧ true = true) ∧ true = true) ∧ (z = z ∧ IntKind.wrap IntKind.i64 ((↑i : Int) + (1 : Int)) = (↑(i + 1) : Int)) ∧ ((0 : Int) = (0 : Int) ∧ (0 : Int) = (0 : Int) ∧ (0 : Int) = (0 : Int) ∧ (0 : Int) = (0 : Int) ∧ (0 : Int) = (0 : Int) ∧ (0 : Int) = (0 : Int) ∧ (0 : Int) = (0 : Int) ∧ (0 : Int) = (0 : Int) ∧ (0 : Int) = (0 : Int) ∧ (0 : Int) = (0 : Int) ∧ (0 : Int) = (0 : Int) ∧ (0 : Int) = (0 : Int) ∧ (0 : Int) = (0 : Int) ∧ (0 : Int) = (0 : Int) ∧ (0 : Int) = (0 : Int) ∧ (0 : Int) = (0 : Int) ∧ (0 : Int) = (0 : Int) ∧ (0 : Int) = (0 : Int)) ∧ a = a ∧ itA (i + (1 : Nat)) a = itA (i + (1 : Nat)) a
set_option maxRecDepth 100000 in
theorem pt0 (n : Nat) (f : Nat → Int) (m : Nat) (g : Nat → Int) (z : Int) (a : Fe) (i : Nat) : runG Tryz.prog (SPt [(10, 1, true), (12, 7, false)] (in2 n f m g) []) 60 29 [0, 0, 1, 0, 1, 1, 1] (ptJ z a i) .normal 3 [some (.own 0), some (.own 1), some (.own 2)] 54 (ptT z (i + 1)) (ptM a (itA (i + 1) a) zB) = some (some ((pt0_G n f m g z a i))) := by kernel_rfl
--@]
--@gen pt1 (n : Nat) (f : Nat → Int) (m : Nat) (g : Nat → Int) (z : Int) (a : Fe) (i : Nat) := runG Tryz.prog (SPt [(10, 1, true), (12, 7, true)] (in2 n f m g) []) 60 29 [0, 0, 1, 0, 1, 1, 1] (ptJ z a i) .ret 3 [some (.own 0), some (.own 1), some (.own 2)] 54 [(6, .ptr (.own 0) 0 [])] (ptM a (itA i a) [.abs (liftF (decide (z.tmod 3 = 0)) (itA i a)).1, .abs (liftF (decide (z.tmod 3 = 0)) (itA i a)).2.1, .abs (liftF (decide (z.tmod 3 = 0)) (itA i a)).2.2])
--@[
set_option maxRecDepth 100000 in
def pt1_G (n : Nat) (f : Nat → Int) (m : Nat) (g : Nat → Int) (z : Int) (a : Fe) (i : Nat) : Prop := (decide ((↑i : Int) < (20 : Int)) = true ∧ (true = true ∧ liftT (itA i a) = true ∧ true = true) ∧ true = true) ∧ (Prod.fst (liftF (decide (Int.tmod z (3 : Int) = (0 : Int))) (itA i a)) = Prod.fst (liftF (decide (Int.tmod z (3 : Int) = (0 : Int))) (itA i a)) ∧ Prod.fst (Prod.snd (liftF (decide (Int.tmod z (3 : Int) = (0 : Int))) (itA i a))) = Prod.fst (Prod.snd (liftF (decide (Int.tmod z (3 : Int) = (0 : Int))) (itA i a))) ∧ Prod.snd (Prod.snd (liftF (decide (Int.tmod z (3 : Int) = (0 : Int))) (itA i a))) = Prod.snd (Prod.snd (liftF (decide (Int.tmod z (3 : Int) = (0 : Int))) (itA i a)))) ∧ a = a ∧ itA i a = itA i a
set_option maxRecDepth 100000 in
theorem pt1 (n : Nat) (f : Nat → Int) (m : Nat) (g : Nat → Int) (z : Int) (a : Fe) (i : Nat) : runG Tryz.prog (SPt [(10, 1, true), (12, 7, true)] (in2 n f m g) []) 60 29 [0, 0, 1, 0, 1, 1, 1] (ptJ z a i) .ret 3 [some (.own 0), some (.own 1), some (.own 2)] 54 [(6, .ptr (.own 0) 0 [])] (ptM a (itA i a) [.abs (liftF (decide (z.tmod 3 = 0)) (itA i a)).1, .abs (liftF (decide (z.tmod 3 = 0)) (itA i a)).2.1, .abs (liftF (decide (z.tmod 3 = 0)) (itA i a)).2.2]) = some (some ((pt1_G n f m g z a i))) := by kernel_rfl
--@]
--@gen pt2 (n : Nat) (f : Nat → Int) (m : Nat) (g : Nat → Int) (z : Int) (a : Fe) := runG Tryz.prog (SPt [(10, 1, false)] (in2 n f m g) []) 60 29 [0, 0, 1, 0, 1, 1, 1] (ptJ z a 20) (.exit 1) 3 [some (.own 0), some (.own 1), some (.own 2)] 54 [(6, .ptr (.own 0) 0 [])] (ptM a (itA 20 a) zB)
--@[
set_option maxRecDepth 100000 in
def pt2_G (n : Nat) (f : Nat → Int) (m : Nat) (g : Nat → Int) (z : Int) (a : Fe) : Prop := false = false ∧ ((0 : Int) = (0 : Int) ∧ (0 : Int) = (0 : Int) ∧ (0 : Int) = (0 : Int) ∧ (0 : Int) = (0 : Int) ∧ (0 : Int) = (0 : Int) ∧ (0 : Int) = (0 : Int) ∧ (0 : Int) = (0 : Int) ∧ (0 : Int) = (0 : Int) ∧ (0 : Int) = (0 : Int) ∧ (0 : Int) = (0 : Int) ∧ (0 : Int) = (0 : Int) ∧ (0 : Int) = (0 : Int) ∧ (0 : Int) = (0 : Int) ∧ (0 : Int) = (0 : Int) ∧ (0 : Int) = (0 : Int) ∧ (0 : Int) = (0 : Int) ∧ (0 : Int) = (0 : Int) ∧ (0 : Int) = (0 : Int)) ∧ a = a ∧ itA (20 : Nat) a = itA (20 : Nat) a
set_option maxRecDepth 100000 in
theorem pt2 (n : Nat) (f : Nat → Int) (m : Nat) (g : Nat → Int) (z : Int) (a : Fe) : runG Tryz.prog (SPt [(10, 1, false)] (in2 n f m g) []) 60 29 [0, 0, 1, 0, 1, 1, 1] (ptJ z a 20) (.exit 1) 3 [some (.own 0), some (.own 1), some (.own 2)] 54 [(6, .ptr (.own 0) 0 [])] (ptM a (itA 20 a) zB) = some (some ((pt2_G n f m g z a))) := by kernel_rfl
--@]
theorem pt_code : codeAt Tryz.prog 29 [0, 1, 0, 1, 1, 1] = .loop (codeAt Tryz.prog 29 [0, 0, 1, 0, 1, 1, 1]) := by kernel_rfl
theorem pt_step (n : Nat) (f : Nat → Int) (m : Nat) (g : Nat → Int) (z : Int) {a : Fe} {i : Nat} (hi : i < 20) (h : liftT (itA i a) = false) : ExB 3 Tryz.prog (in2 n f m g) (codeAt Tryz.prog 29 [0, 0, 1, 0, 1, 1, 1]) (ptJ z a i) .normal (ptJ z a (i + 1)) :=
  ExB.auto (SPt_ok _ (in2_ok n f m g) _) (in2_ok n f m g) rfl mixed 60 _ (pt0 n f m g z a i) (by
    unfold condOk pt0_G
    refine ⟨⟨decide_eq_true (by omega), ⟨rfl, h, rfl⟩, rfl⟩, ⟨rfl, ?_⟩, ⟨rfl, rfl, rfl, rfl, rfl, rfl, rfl, rfl, rfl, rfl, rfl, rfl, rfl, rfl, rfl, rfl, rfl, rfl⟩, rfl, rfl⟩
    rw [IntKind.wrap_i64]; omega)
theorem pt_in (n : Nat) (f : Nat → Int) (m : Nat) (g : Nat → Int) (z : Int) : condOk (some (ptE_G n f m g z)) := by
  unfold condOk ptE_G
  exact ⟨⟨rfl, rfl⟩, ⟨rfl, rfl, rfl, rfl, rfl, rfl, rfl, rfl, rfl, rfl, rfl, rfl, rfl, rfl, rfl, rfl, rfl, rfl⟩, rfl, rfl⟩
/-- The first that lifts. -/
structure Fir (a : Fe) (i : Nat) : Prop where
  lt : i < 20
  no : ∀ j, j < i → liftT (itA j a) = false
  yes : liftT (itA i a) = true
theorem fst_or (a : Fe) : ∀ k, k ≤ 20 → (∀ j, j < k → liftT (itA j a) = false) ∨ ∃ i, Fir a i
  | 0, _ => .inl fun j hj => absurd hj (Nat.not_lt_zero j)
  | k + 1, hk => by
    rcases fst_or a k (by omega) with h | h
    · cases hl : liftT (itA k a) with
      | true => exact .inr ⟨k, ⟨by omega, h, hl⟩⟩
      | false =>
        refine .inl fun j hj => ?_
        by_cases e : j = k
        · rw [e]; exact hl
        · exact h j (by omega)
    · exact .inr h
theorem pt_found (n : Nat) (f : Nat → Int) (m : Nat) (g : Nat → Int) (z : Int) {i : Nat} (h : Fir (wdF m g) i) : ExB 3 Tryz.prog (in2 n f m g) (codeAt Tryz.prog 29 [0, 1, 0, 1, 1, 1]) (ptS n f m g z) .ret ⟨tm 54 [(6, .ptr (.own 0) 0 [])], ptM (wdF m g) (itA i (wdF m g)) [.abs (liftF (decide (z.tmod 3 = 0)) (itA i (wdF m g))).1, .abs (liftF (decide (z.tmod 3 = 0)) (itA i (wdF m g))).2.1, .abs (liftF (decide (z.tmod 3 = 0)) (itA i (wdF m g))).2.2], []⟩ := by
  refine ExB.enter (cs := []) (in2_ok n f m g) _ ?_ (ptE n f m g z) (pt_in n f m g z) rfl
  rw [pt_code]
  refine ExB.loop (by simp) (ptJ z (wdF m g)) i (fun j hj => pt_step n f m g z (by have := h.lt; omega) (h.no j hj)) ?_
  refine ExB.auto (SPt_ok _ (in2_ok n f m g) _) (in2_ok n f m g) rfl mixed 60 _ (pt1 n f m g z (wdF m g) i) ?_
  unfold condOk pt1_G
  exact ⟨⟨decide_eq_true (by have := h.lt; omega), ⟨rfl, h.yes, rfl⟩, rfl⟩, ⟨rfl, rfl, rfl⟩, rfl, rfl⟩
theorem pt_none (n : Nat) (f : Nat → Int) (m : Nat) (g : Nat → Int) (z : Int) (h : ∀ j, j < 20 → liftT (itA j (wdF m g)) = false) : ExB 3 Tryz.prog (in2 n f m g) (codeAt Tryz.prog 29 [0, 1, 0, 1, 1, 1]) (ptS n f m g z) (.exit 1) ⟨tm 54 [(6, .ptr (.own 0) 0 [])], ptM (wdF m g) (itA 20 (wdF m g)) zB, []⟩ := by
  refine ExB.enter (cs := []) (in2_ok n f m g) _ ?_ (ptE n f m g z) (pt_in n f m g z) rfl
  rw [pt_code]
  refine ExB.loop (by simp) (ptJ z (wdF m g)) 20 (fun j hj => pt_step n f m g z hj (h j hj)) ?_
  refine ExB.auto (SPt_ok _ (in2_ok n f m g) _) (in2_ok n f m g) rfl mixed 60 _ (pt2 n f m g z (wdF m g)) ?_
  unfold condOk pt2_G
  exact ⟨rfl, ⟨rfl, rfl, rfl, rfl, rfl, rfl, rfl, rfl, rfl, rfl, rfl, rfl, rfl, rfl, rfl, rfl, rfl, rfl⟩, rfl, rfl⟩
set_option maxRecDepth 100000 in
theorem pt_grow (n : Nat) (f : Nat → Int) (m : Nat) (g : Nat → Int) (z : Int) (b a : Fe) (l : List (LV Fe)) : growB (ptS n f m g z) ⟨tm 54 [(6, .ptr (.own 0) 0 [])], ptM b a l, []⟩ = true := by kernel_rfl
end Go.Proofs.YtcedljbapgmdmaaGreat.En

/- DERIVED. What becomes of the generator, on numbers. -/
set_option linter.all false
namespace Go.Proofs.YtcedljbapgmdmaaGreat.En
open Go Go.RowKit

theorem kn_same : sameF genF rgenF = true := by decide +kernel
theorem kn_ord : isz (mulF genF 32 fun j => ordL.getD (16 + j) 0).2.2 = true := by decide +kernel
theorem kn_nine : isz (mulF genF 1 fun j => ([9] : List Int).getD j 0).2.2 = false := by decide +kernel
theorem kn_dbl : ceqF (paddF genF genF) (dblF genF) = true := by decide +kernel
theorem kn_neg : isz (paddF genF (negF genF)).2.2 = true := by decide +kernel
theorem kn_ig : inGrpF genF = true := by
  unfold inGrpF igF muu
  simp only [mlu_eq]
  decide +kernel
end Go.Proofs.YtcedljbapgmdmaaGreat.En

/- DERIVED. What becomes of the generator: the program's own test of it. -/
set_option linter.all false
namespace Go.Proofs.YtcedljbapgmdmaaGreat.En
open Go Go.RowKit

noncomputable abbrev SGk (A : Adv) (ps : List (ConP Tryz.prog Fe)) : Sig Fe := sigOf (P := Tryz.prog) ([conFAdd, conFSub, conFMul, conFSquare, conFNeg, conFIsZero, conFEqual, conTwice] ++ (psG ++ (psH ++ ps))) [] [conGMul, conOrdT] (I := noIF) [] msF A
theorem SGk_ok (A : Adv) (ps : List (ConP Tryz.prog Fe)) : SigOk Tryz.prog (SGk A ps) := sigOf_ok _ [] [conGMul, conOrdT] [] msF_ok _ noIF_ok
set_option maxRecDepth 100000 in
theorem entInfty : ∀ args w, (callFunc 30 args).run Tryz.prog w = .ok (.enter 30 args) w := ent_of (f := 30) (P := Tryz.prog) rfl rfl rfl
--@run iftV := callF Tryz.prog (SGa noD []) 60 30 [] [] => .agg zB
--@[
set_option maxRecDepth 100000 in
def iftV_G  : Prop := true = true
set_option maxRecDepth 100000 in
theorem iftV  : (callF Tryz.prog (SGa noD []) 60 30 [] []).map (fun r => (r.1, r.2.2)) = some (.agg zB, some (iftV_G )) := by kernel_rfl
set_option maxRecDepth 100000 in
theorem iftV_ok  : condOk (some (iftV_G )) := by unfold iftV_G condOk; and_intros <;> rfl
--@]
noncomputable def conInfty : ConP Tryz.prog Fe := mk0 30 entInfty (.agg zB) (.of (SGa_ok _ _) rfl iftV iftV_ok rfl rfl)
/-- The generators, not opened. -/
noncomputable def conGenV (p : Pt) (h : p = genF) : ConP Tryz.prog Fe := mk0 11 entGen (ptV p) (by subst h; exact .of (SGa_ok _ _) rfl genV genV_ok rfl rfl)
def rgnW (r : C3) : List (LV Fe) → Option (LV Fe)
  | [.bool false] => some (cV r)
  | _ => none
theorem rgnW_runs {r : C3} (hr : r = rgenF) {vs : List (LV Fe)} {v : LV Fe} (h : rgnW r vs = some v) : Runs 42 vs v := by
  unfold rgnW at h
  split at h
  · cases h; subst hr; exact .of (SRE_ok _ _) rfl rgnV rgnV_ok rfl rfl
  · cases h
noncomputable def conRGenV (r : C3) (h : r = rgenF) : ConP Tryz.prog Fe := mkFn 42 entRGen (rgnW r) (rgnW_runs h)
noncomputable abbrev psK {a b c d e f g h i : Fe} (h1 : (a, b, c) = genF) (h2 : ((d, e), (f, g), (h, i)) = rgenF) : List (ConP Tryz.prog Fe) := [conGenV _ h1, conRGenV _ h2, conSame, conInGrp, conGEqual, conGAdd, conGNeg, conGInf, conGDouble, conInfty]
noncomputable abbrev advK : Adv := advP (dci 9 [(3, 2, true), (3, 5, true), (3, 11, true), (3, 17, false), (3, 22, true), (3, 27, true), (3, 35, true), (3, 42, true)]) [12, 43] [(9, 3)]
set_option maxRecDepth 100000 in
theorem entKnown : ∀ args w, (callFunc 9 args).run Tryz.prog w = .ok (.enter 9 args) w := ent_of (f := 9) (P := Tryz.prog) rfl rfl rfl

/-- The one byte 9, as the slice's block has it. -/
def g9 (j : Nat) : List (LV Fe) := List.getD (List.set (List.replicate 1 (units (LV.int .u8 0))) 0 (units (LV.int .u8 9))) j []
def n9 (j : Nat) : Int := byteOf (g9 j)
def knP (a b c d e f g h i : Fe) : Prop := true = true ∧ sameF (a, b, c) ((d, e), (f, g), h, i) = true ∧ inGrpF (a, b, c) = true ∧ true = true ∧
  (true = true ∧ ((true = true ∧ 48 ≤ 48 ∧ rngB (fun j => ordL.getD j 0) 16 32 ∧ 256 ≤ 140737488351232) ∧ true = true)) ∧ isz (mulF (a, b, c) 32 fun j => ordL.getD (16 + j) 0).2.2 = true ∧
  ((∀ j, j < 1 → Like (g9 j) [.int .u8 (n9 j)]) ∧ (((∀ j, j < 1 → Like (A := Fe) [.int .u8 (n9 j)] [.int .u8 (n9 j)]) ∧ 1 = 1 ∧ rngB n9 0 1 ∧ 8 ≤ 140737488351232) ∧ true = true)) ∧ isz (mulF (a, b, c) 1 n9).2.2 = false ∧
  true = true ∧ true = true ∧ ceqF ((paddF (a, b, c) (a, b, c)).1, (paddF (a, b, c) (a, b, c)).2.1, (paddF (a, b, c) (a, b, c)).2.2) ((dblF (a, b, c)).1, (dblF (a, b, c)).2.1, (dblF (a, b, c)).2.2) = true ∧
  isz (paddF (a, b, c) ((negF (a, b, c)).1, (negF (a, b, c)).2.1, (negF (a, b, c)).2.2)).2.2 = true
set_option maxRecDepth 100000 in
theorem knV (a b c d e f g h i : Fe) (h1 : (a, b, c) = genF) (h2 : ((d, e), (f, g), (h, i)) = rgenF) : (callF Tryz.prog (SGk advK (psK h1 h2)) 60 9 [] []).map (fun r => (r.1, r.2.2)) = some (.bool true, some (knP a b c d e f g h i)) := by kernel_rfl
theorem knP_ok {a b c d e f g h i : Fe} (h1 : (a, b, c) = genF) (h2 : ((d, e), (f, g), (h, i)) = rgenF) : knP a b c d e f g h i := by
  unfold knP
  refine ⟨rfl, ?_, ?_, rfl, ⟨rfl, ⟨rfl, Nat.le_refl _, ?_, by decide⟩, rfl⟩, ?_, ⟨fun j hj => ?_, ⟨fun _ _ => Like.refl _, rfl, ?_, by decide⟩, rfl⟩, ?_, rfl, rfl, ?_, ?_⟩
  · rw [h1, h2]; exact kn_same
  · rw [h1]; exact kn_ig
  · intro j hj; revert j; unfold ordL; decide +kernel
  · rw [h1]; exact kn_ord
  · have : j = 0 := by omega
    subst this
    exact Like.refl _
  · intro j hj
    have : j = 0 := by omega
    subst this
    exact ⟨by decide, by decide⟩
  · rw [h1]; decide +kernel
  · have e := kn_dbl
    rw [← h1] at e
    exact e
  · have e := kn_neg
    rw [← h1] at e
    exact e
noncomputable def conKnown : ConP Tryz.prog Fe := mk0 9 entKnown (.bool true) (.of (SGk_ok _ _) rfl (knV genF.1 genF.2.1 genF.2.2 rgenF.1.1 rgenF.1.2 rgenF.2.1.1 rgenF.2.1.2 rgenF.2.2.1 rgenF.2.2.2 rfl rfl) (knP_ok rfl rfl) rfl rfl)
end Go.Proofs.YtcedljbapgmdmaaGreat.En

/- DERIVED. A point of a scalar and a place: the contract. -/
set_option linter.all false
namespace Go.Proofs.YtcedljbapgmdmaaGreat.En
open Go Go.RowKit

noncomputable def ptLf (n : Nat) (f : Nat → Int) (m : Nat) (g : Nat → Int) (z : Int) {i : Nat} (h : Fir (wdF m g) i) : LoopF Tryz.prog (in2 n f m g) := LoopF.of (pt_found n f m g z h) (pt_grow ..) (by kernel_rfl)
noncomputable def ptLn (n : Nat) (f : Nat → Int) (m : Nat) (g : Nat → Int) (z : Int) (h : ∀ j, j < 20 → liftT (itA j (wdF m g)) = false) : LoopF Tryz.prog (in2 n f m g) := LoopF.of (pt_none n f m g z h) (pt_grow ..) (by kernel_rfl)
--@run pr0 (n : Nat) (f : Nat → Int) (m : Nat) (g : Nat → Int) (z : Int) := callF Tryz.prog (SPt [(2, 0, true)] (in2 n f m g) []) 60 29 [.vec (.inp 0 0) n, .vec (.inp 0 1) m, .int .i64 z] [] => ptV (mulF (genF.1, genF.2.1, genF.2.2) n f)
--@[
set_option maxRecDepth 100000 in
def pr0_G (n : Nat) (f : Nat → Int) (m : Nat) (g : Nat → Int) (z : Int) : Prop := (plcF z == (0 : Int)) = true ∧ (Bys.c { us := [LV.rows n 1 fun (j : Nat) => [LV.int (A := Fe) IntKind.u8 (f j)]], n := n, f := f, c := ∀ (j : Nat), j < n → Like (A := Fe) [LV.int IntKind.u8 (f j)] [LV.int IntKind.u8 (f j)] } ∧ condOk (andC (andC none none) (allC ([] ++ [some ((Bys.c { us := [LV.rows n 1 fun (j : Nat) => [LV.int (A := Fe) IntKind.u8 (f j)]], n := n, f := f, c := ∀ (j : Nat), j < n → Like (A := Fe) [LV.int IntKind.u8 (f j)] [LV.int IntKind.u8 (f j)] } ∧ Bys.n { us := [LV.rows n 1 fun (j : Nat) => [LV.int (A := Fe) IntKind.u8 (f j)]], n := n, f := f, c := ∀ (j : Nat), j < n → Like (A := Fe) [LV.int IntKind.u8 (f j)] [LV.int IntKind.u8 (f j)] } = n ∧ rngB (Bys.f { us := [LV.rows n 1 fun (j : Nat) => [LV.int (A := Fe) IntKind.u8 (f j)]], n := n, f := f, c := ∀ (j : Nat), j < n → Like (A := Fe) [LV.int IntKind.u8 (f j)] [LV.int IntKind.u8 (f j)] }) 0 n ∧ n * 8 ≤ 140737488351232) ∧ true = true)])))) ∧ true = true
set_option maxRecDepth 100000 in
theorem pr0 (n : Nat) (f : Nat → Int) (m : Nat) (g : Nat → Int) (z : Int) : (callF Tryz.prog (SPt [(2, 0, true)] (in2 n f m g) []) 60 29 [.vec (.inp 0 0) n, .vec (.inp 0 1) m, .int .i64 z] []).map (fun r => (r.1, r.2.2)) = some (ptV (mulF (genF.1, genF.2.1, genF.2.2) n f), some (pr0_G n f m g z)) := by kernel_rfl
--@]
--@run pr1 (n : Nat) (f : Nat → Int) (m : Nat) (g : Nat → Int) (z : Int) := callF Tryz.prog (SPt [(2, 0, false), (4, 0, true), (5, 2, true), (5, 7, true)] (in2 n f m g) []) 60 29 [.vec (.inp 0 0) n, .vec (.inp 0 1) m, .int .i64 z] [] => .agg zB
--@[
set_option maxRecDepth 100000 in
def pr1_G (n : Nat) (f : Nat → Int) (m : Nat) (g : Nat → Int) (z : Int) : Prop := (plcF z == (0 : Int)) = false ∧ (plcF z == (1 : Int)) = true ∧ (decide ((0 : Int) < (↑n : Int)) = true ∧ decide ((0 : Int) ≤ (0 : Int) ∧ (0 : Int) < (↑n : Int)) = true ∧ Nat.blt 0 n = true ∧ (f 0 == (0 : Int)) = true) ∧ true = true ∧ true = true
set_option maxRecDepth 100000 in
theorem pr1 (n : Nat) (f : Nat → Int) (m : Nat) (g : Nat → Int) (z : Int) : (callF Tryz.prog (SPt [(2, 0, false), (4, 0, true), (5, 2, true), (5, 7, true)] (in2 n f m g) []) 60 29 [.vec (.inp 0 0) n, .vec (.inp 0 1) m, .int .i64 z] []).map (fun r => (r.1, r.2.2)) = some (.agg zB, some (pr1_G n f m g z)) := by kernel_rfl
--@]
--@run pr2 (n : Nat) (f : Nat → Int) (m : Nat) (g : Nat → Int) (z : Int) := callF Tryz.prog (SPt [(2, 0, false), (4, 0, true), (5, 2, true), (5, 7, false)] (in2 n f m g) []) 60 29 [.vec (.inp 0 0) n, .vec (.inp 0 1) m, .int .i64 z] [] => ptV (negF (mulF (genF.1, genF.2.1, genF.2.2) n f))
--@[
set_option maxRecDepth 100000 in
def pr2_G (n : Nat) (f : Nat → Int) (m : Nat) (g : Nat → Int) (z : Int) : Prop := (plcF z == (0 : Int)) = false ∧ (plcF z == (1 : Int)) = true ∧ (decide ((0 : Int) < (↑n : Int)) = true ∧ decide ((0 : Int) ≤ (0 : Int) ∧ (0 : Int) < (↑n : Int)) = true ∧ Nat.blt 0 n = true ∧ (f 0 == (0 : Int)) = false) ∧ (Bys.c { us := [LV.rows n 1 fun (j : Nat) => [LV.int (A := Fe) IntKind.u8 (f j)]], n := n, f := f, c := ∀ (j : Nat), j < n → Like (A := Fe) [LV.int IntKind.u8 (f j)] [LV.int IntKind.u8 (f j)] } ∧ condOk (andC (andC none none) (allC ([] ++ [some ((Bys.c { us := [LV.rows n 1 fun (j : Nat) => [LV.int (A := Fe) IntKind.u8 (f j)]], n := n, f := f, c := ∀ (j : Nat), j < n → Like (A := Fe) [LV.int IntKind.u8 (f j)] [LV.int IntKind.u8 (f j)] } ∧ Bys.n { us := [LV.rows n 1 fun (j : Nat) => [LV.int (A := Fe) IntKind.u8 (f j)]], n := n, f := f, c := ∀ (j : Nat), j < n → Like (A := Fe) [LV.int IntKind.u8 (f j)] [LV.int IntKind.u8 (f j)] } = n ∧ rngB (Bys.f { us := [LV.rows n 1 fun (j : Nat) => [LV.int (A := Fe) IntKind.u8 (f j)]], n := n, f := f, c := ∀ (j : Nat), j < n → Like (A := Fe) [LV.int IntKind.u8 (f j)] [LV.int IntKind.u8 (f j)] }) 0 n ∧ n * 8 ≤ 140737488351232) ∧ true = true)])))) ∧ true = true
set_option maxRecDepth 100000 in
theorem pr2 (n : Nat) (f : Nat → Int) (m : Nat) (g : Nat → Int) (z : Int) : (callF Tryz.prog (SPt [(2, 0, false), (4, 0, true), (5, 2, true), (5, 7, false)] (in2 n f m g) []) 60 29 [.vec (.inp 0 0) n, .vec (.inp 0 1) m, .int .i64 z] []).map (fun r => (r.1, r.2.2)) = some (ptV (negF (mulF (genF.1, genF.2.1, genF.2.2) n f)), some (pr2_G n f m g z)) := by kernel_rfl
--@]
--@run pr3 (n : Nat) (f : Nat → Int) (m : Nat) (g : Nat → Int) (z : Int) := callF Tryz.prog (SPt [(2, 0, false), (4, 0, true), (5, 2, false)] (in2 n f m g) []) 60 29 [.vec (.inp 0 0) n, .vec (.inp 0 1) m, .int .i64 z] [] => ptV (negF (mulF (genF.1, genF.2.1, genF.2.2) n f))
--@[
set_option maxRecDepth 100000 in
def pr3_G (n : Nat) (f : Nat → Int) (m : Nat) (g : Nat → Int) (z : Int) : Prop := (plcF z == (0 : Int)) = false ∧ (plcF z == (1 : Int)) = true ∧ decide ((0 : Int) < (↑n : Int)) = false ∧ (Bys.c { us := [LV.rows n 1 fun (j : Nat) => [LV.int (A := Fe) IntKind.u8 (f j)]], n := n, f := f, c := ∀ (j : Nat), j < n → Like (A := Fe) [LV.int IntKind.u8 (f j)] [LV.int IntKind.u8 (f j)] } ∧ condOk (andC (andC none none) (allC ([] ++ [some ((Bys.c { us := [LV.rows n 1 fun (j : Nat) => [LV.int (A := Fe) IntKind.u8 (f j)]], n := n, f := f, c := ∀ (j : Nat), j < n → Like (A := Fe) [LV.int IntKind.u8 (f j)] [LV.int IntKind.u8 (f j)] } ∧ Bys.n { us := [LV.rows n 1 fun (j : Nat) => [LV.int (A := Fe) IntKind.u8 (f j)]], n := n, f := f, c := ∀ (j : Nat), j < n → Like (A := Fe) [LV.int IntKind.u8 (f j)] [LV.int IntKind.u8 (f j)] } = n ∧ rngB (Bys.f { us := [LV.rows n 1 fun (j : Nat) => [LV.int (A := Fe) IntKind.u8 (f j)]], n := n, f := f, c := ∀ (j : Nat), j < n → Like (A := Fe) [LV.int IntKind.u8 (f j)] [LV.int IntKind.u8 (f j)] }) 0 n ∧ n * 8 ≤ 140737488351232) ∧ true = true)])))) ∧ true = true
set_option maxRecDepth 100000 in
theorem pr3 (n : Nat) (f : Nat → Int) (m : Nat) (g : Nat → Int) (z : Int) : (callF Tryz.prog (SPt [(2, 0, false), (4, 0, true), (5, 2, false)] (in2 n f m g) []) 60 29 [.vec (.inp 0 0) n, .vec (.inp 0 1) m, .int .i64 z] []).map (fun r => (r.1, r.2.2)) = some (ptV (negF (mulF (genF.1, genF.2.1, genF.2.2) n f)), some (pr3_G n f m g z)) := by kernel_rfl
--@]
--@run pr4 (n : Nat) (f : Nat → Int) (m : Nat) (g : Nat → Int) (z : Int) (i : Nat) (h : Fir (wdF m g) i) := callF Tryz.prog (SPt [(2, 0, false), (4, 0, false)] (in2 n f m g) [ptLf n f m g z h]) 60 29 [.vec (.inp 0 0) n, .vec (.inp 0 1) m, .int .i64 z] [] => ptV (liftF (decide (z.tmod 3 = 0)) (itA i (wdF m g)))
--@[
set_option maxRecDepth 100000 in
def pr4_G (n : Nat) (f : Nat → Int) (m : Nat) (g : Nat → Int) (z : Int) (i : Nat) (h : Fir (wdF m g) i) : Prop := (plcF z == (0 : Int)) = false ∧ (plcF z == (1 : Int)) = false ∧ ((((∀ (j : Nat), j < m → Like (A := Fe) [LV.int IntKind.u8 (g j)] [LV.int IntKind.u8 (g j)]) ∧ m = m ∧ m ≤ 100) ∧ true = true) ∧ true = true) ∧ LS.tmps (LoopF.s (ptLf n f m g z h)) = LS.tmps (LoopF.s (ptLf n f m g z h)) ∧ LS.mem (LoopF.s (ptLf n f m g z h)) = LS.mem (LoopF.s (ptLf n f m g z h))
set_option maxRecDepth 100000 in
theorem pr4 (n : Nat) (f : Nat → Int) (m : Nat) (g : Nat → Int) (z : Int) (i : Nat) (h : Fir (wdF m g) i) : (callF Tryz.prog (SPt [(2, 0, false), (4, 0, false)] (in2 n f m g) [ptLf n f m g z h]) 60 29 [.vec (.inp 0 0) n, .vec (.inp 0 1) m, .int .i64 z] []).map (fun r => (r.1, r.2.2)) = some (ptV (liftF (decide (z.tmod 3 = 0)) (itA i (wdF m g))), some (pr4_G n f m g z i h)) := by kernel_rfl
--@]
--@run pr5 (n : Nat) (f : Nat → Int) (m : Nat) (g : Nat → Int) (z : Int) (h : ∀ j, j < 20 → liftT (itA j (wdF m g)) = false) := callF Tryz.prog (SPt [(2, 0, false), (4, 0, false)] (in2 n f m g) [ptLn n f m g z h]) 60 29 [.vec (.inp 0 0) n, .vec (.inp 0 1) m, .int .i64 z] [] => ptV genF
--@[
set_option maxRecDepth 100000 in
def pr5_G (n : Nat) (f : Nat → Int) (m : Nat) (g : Nat → Int) (z : Int) (h : ∀ j, j < 20 → liftT (itA j (wdF m g)) = false) : Prop := (plcF z == (0 : Int)) = false ∧ (plcF z == (1 : Int)) = false ∧ ((((∀ (j : Nat), j < m → Like (A := Fe) [LV.int IntKind.u8 (g j)] [LV.int IntKind.u8 (g j)]) ∧ m = m ∧ m ≤ 100) ∧ true = true) ∧ true = true) ∧ (LS.tmps (LoopF.s (ptLn n f m g z h)) = LS.tmps (LoopF.s (ptLn n f m g z h)) ∧ LS.mem (LoopF.s (ptLn n f m g z h)) = LS.mem (LoopF.s (ptLn n f m g z h))) ∧ true = true
set_option maxRecDepth 100000 in
theorem pr5 (n : Nat) (f : Nat → Int) (m : Nat) (g : Nat → Int) (z : Int) (h : ∀ j, j < 20 → liftT (itA j (wdF m g)) = false) : (callF Tryz.prog (SPt [(2, 0, false), (4, 0, false)] (in2 n f m g) [ptLn n f m g z h]) 60 29 [.vec (.inp 0 0) n, .vec (.inp 0 1) m, .int .i64 z] []).map (fun r => (r.1, r.2.2)) = some (ptV genF, some (pr5_G n f m g z h)) := by kernel_rfl
--@]
def scnF (s : Bool) (a : Fe) : Nat → Nat → Pt
  | 0, _ => genF
  | k + 1, i => bif liftT (itA i a) then liftF s (itA i a) else scnF s a k (i + 1)
theorem scn_found {a : Fe} {i : Nat} (s : Bool) (h : Fir a i) : ∀ k j, j + k = 20 → j ≤ i → scnF s a k j = liftF s (itA i a)
  | 0, j, h1, h2 => absurd h.lt (by omega)
  | k + 1, j, h1, h2 => by
    rw [scnF]
    by_cases e : j = i
    · rw [e, h.yes, cond_true]
    · rw [h.no j (by omega), cond_false]
      exact scn_found s h k (j + 1) (by omega) (by omega)
theorem scn_none {a : Fe} (s : Bool) (h : ∀ j, j < 20 → liftT (itA j a) = false) : ∀ k j, j + k = 20 → scnF s a k j = genF
  | 0, j, h1 => rfl
  | k + 1, j, h1 => by
    rw [scnF, h j (by omega), cond_false]
    exact scn_none s h k (j + 1) (by omega)
/-- The law's point. -/
def pointF (n : Nat) (f : Nat → Int) (m : Nat) (g : Nat → Int) (z : Int) : Pt :=
  bif plcF z == 0 then mulF (genF.1, genF.2.1, genF.2.2) n f
  else bif plcF z == 1 then (bif decide ((0 : Int) < (n : Int)) && (f 0 == 0) then zPt else negF (mulF (genF.1, genF.2.1, genF.2.2) n f))
  else scnF (decide (z.tmod 3 = 0)) (wdF m g) 20 0
theorem told_walk2 {S : Sig Fe} {us : List (List (LV Fe))} (hS : SigOk Tryz.prog S) (hI : S.inp = inOf us) (hp : ∀ l ∈ us, plainL l) {n : Nat} {f : FuncId} {args : List (LV Fe)} {v : LV Fe} {c : Cnd}
    (h : (callF Tryz.prog S n f args []).map (fun r => (r.1, r.2.2)) = some (v, c)) (hc : condOk c) (hv : plainB v = true) : Told Tryz.prog f us args v [] := by
  refine told_below hv fun ρ w ha => ?_
  have hk : ∀ t i, kinL (okKey ([] : Mem Fe) ρ) (S.inp t i) := fun t i => by
    rw [hI]
    cases t with
    | succ t => trivial
    | zero =>
      show kinL _ (us.getD i [])
      rw [List.getD_eq_getElem?_getD]
      cases he : us[i]? with
      | none => trivial
      | some l => exact plainL_kin _ _ (hp l (List.mem_of_getElem? he))
  exact calls_top hS mixed h hc (by rw [hI]; exact ha.mem) ha.kinV hk fun ρ ρ' => pv_tr v hv ρ' ρ
theorem in2_plain (n : Nat) (f : Nat → Int) (m : Nat) (g : Nat → Int) : ∀ l ∈ [[(.rows n 1 fun j => [.int .u8 (f j)] : LV Fe)], [.rows m 1 fun j => [.int .u8 (g j)]]], plainL l := fun l hl => by
  rcases List.mem_cons.1 hl with rfl | hl
  · exact ⟨fun _ => ⟨trivial, trivial⟩, trivial⟩
  · rw [List.mem_singleton] at hl
    subst hl
    exact ⟨fun _ => ⟨trivial, trivial⟩, trivial⟩
theorem pt_told {n : Nat} {f : Nat → Int} {m : Nat} {g : Nat → Int} (z : Int) (hf : rngB f 0 n) (hn : n ≤ 1000) (hm : m ≤ 100) :
    Told Tryz.prog 29 [[.rows n 1 fun j => [.int .u8 (f j)]], [.rows m 1 fun j => [.int .u8 (g j)]]] [.vec (.inp 0 0) n, .vec (.inp 0 1) m, .int .i64 z] (ptV (pointF n f m g z)) [] := by
  have hI := in2_ok n f m g
  have hpl := in2_plain n f m g
  have hg : ((∀ j, j < n → Like (A := Fe) [.int .u8 (f j)] [.int .u8 (f j)]) ∧ (((∀ j, j < n → Like (A := Fe) [.int .u8 (f j)] [.int .u8 (f j)]) ∧ n = n ∧ rngB f 0 n ∧ n * 8 ≤ 140737488351232) ∧ true = true)) := ⟨fun _ _ => Like.refl _, ⟨fun _ _ => Like.refl _, rfl, hf, by omega⟩, rfl⟩
  have hw : ((((∀ j, j < m → Like (A := Fe) [.int .u8 (g j)] [.int .u8 (g j)]) ∧ m = m ∧ m ≤ 100) ∧ true = true) ∧ true = true) := ⟨⟨⟨fun _ _ => Like.refl _, rfl, hm⟩, rfl⟩, rfl⟩
  cases h0 : (plcF z == 0) with
  | true =>
    rw [show pointF n f m g z = mulF (genF.1, genF.2.1, genF.2.2) n f by unfold pointF; rw [h0, cond_true]]
    exact told_walk2 (SPt_ok _ hI []) rfl hpl (pr0 n f m g z) ⟨h0, hg, rfl⟩ rfl
  | false => cases h1 : (plcF z == 1) with
    | true => cases h2 : decide ((0 : Int) < (n : Int)) with
      | true =>
        have h2' : 0 < n := by have := of_decide_eq_true h2; omega
        have h3 : decide ((0 : Int) ≤ 0 ∧ (0 : Int) < (n : Int)) = true := decide_eq_true ⟨Int.le_refl _, of_decide_eq_true h2⟩
        cases h4 : (f 0 == 0) with
        | true =>
          rw [show pointF n f m g z = zPt by unfold pointF; rw [h0, h1, h2, h4, cond_false, cond_true]; first | rw [Bool.and_self, cond_true] | rw [Bool.and_false, cond_false]]
          exact Told.as (told_walk2 (SPt_ok _ hI []) rfl hpl (pr1 n f m g z) ⟨h0, h1, ⟨h2, h3, ltB h2', h4⟩, rfl, rfl⟩ rfl) rfl zPt_tr
        | false =>
          rw [show pointF n f m g z = negF (mulF (genF.1, genF.2.1, genF.2.2) n f) by unfold pointF; rw [h0, h1, h2, h4, cond_false, cond_true]; first | rw [Bool.and_self, cond_true] | rw [Bool.and_false, cond_false]]
          exact told_walk2 (SPt_ok _ hI []) rfl hpl (pr2 n f m g z) ⟨h0, h1, ⟨h2, h3, ltB h2', h4⟩, hg, rfl⟩ rfl
      | false =>
        rw [show pointF n f m g z = negF (mulF (genF.1, genF.2.1, genF.2.2) n f) by unfold pointF; rw [h0, h1, h2, cond_false, cond_true, Bool.false_and, cond_false]]
        exact told_walk2 (SPt_ok _ hI []) rfl hpl (pr3 n f m g z) ⟨h0, h1, h2, hg, rfl⟩ rfl
    | false =>
      have e : pointF n f m g z = scnF (decide (z.tmod 3 = 0)) (wdF m g) 20 0 := by unfold pointF; rw [h0, h1, cond_false, cond_false]
      rw [e]
      rcases fst_or (wdF m g) 20 (Nat.le_refl _) with h | ⟨i, h⟩
      · rw [scn_none _ h 20 0 rfl]
        exact told_walk2 (SPt_ok _ hI _) rfl hpl (pr5 n f m g z h) ⟨h0, h1, hw, ⟨rfl, rfl⟩, rfl⟩ rfl
      · rw [scn_found _ h 20 0 rfl (Nat.zero_le _)]
        exact told_walk2 (SPt_ok _ hI _) rfl hpl (pr4 n f m g z i h) ⟨h0, h1, hw, rfl, rfl⟩ rfl
noncomputable def ptFn (I : Inp Fe) (vs : List (LV Fe)) (mem : Mem Fe) : Option (RdC Fe) := match vs with
  | [.vec k n, .vec j m, .int .i64 z] => match at? I mem k, at? I mem j with
    | some b1, some b2 => match isDead b1.kd, isDead b2.kd, rowsB b1.us, rowsB b2.us with
      | false, false, some (n', f, c1), some (m', g, c2) => some ⟨[[.rows n 1 fun j => [.int .u8 (f j)]], [.rows m 1 fun j => [.int .u8 (g j)]]], [k, j], [.vec (.inp 0 0) n, .vec (.inp 0 1) m, .int .i64 z], ptV (pointF n f m g z), [], c1 ∧ c2 ∧ n' = n ∧ m' = m ∧ rngB f 0 n ∧ n ≤ 1000 ∧ m ≤ 100⟩
      | _, _, _, _ => none
    | _, _ => none
  | _ => none
theorem ptFn_ok : ∀ I vs mem r, ptFn I vs mem = some r → r.c → RdOk Tryz.prog 29 I vs mem r := by
  intro I vs mem r h hc
  unfold ptFn at h
  split at h
  · rename_i k n j m z
    split at h
    · rename_i b1 b2 hb1 hb2
      split at h
      · rename_i n' f c1 m' g c2 hd1 hd2 hr1 hr2
        cases h
        obtain ⟨h1, h2, h3, h4, h5, h6, h7⟩ := hc
        subst h3; subst h4
        exact {
          args := rfl
          fit := ⟨⟨fun e => by simp [keyMap, ιOf] at e, trivial⟩, ⟨fun e => by simp [keyMap, ιOf] at e, trivial⟩, trivial, trivial⟩
          len := rfl
          blk := fun i k' us hk hus => by
            match i with
            | 0 =>
              cases hk; cases hus
              exact ⟨b1, hb1, hd1, ⟨fun _ => ⟨trivial, trivial⟩, trivial⟩, rowsB_some hr1 h1⟩
            | 1 =>
              cases hk; cases hus
              exact ⟨b2, hb2, hd2, ⟨fun _ => ⟨trivial, trivial⟩, trivial⟩, rowsB_some hr2 h2⟩
            | i + 2 => simp at hk
          told := pt_told z h5 h6 h7
          fitv := (plain_ren _ _ _ (show LV.plain (ptV _) from ⟨trivial, trivial, trivial, trivial⟩)).2
          fitb := fun b hb => absurd hb List.not_mem_nil }
      · cases h
    · cases h
  · cases h
set_option maxRecDepth 100000 in
theorem entPoint : ∀ args w, (callFunc 29 args).run Tryz.prog w = .ok (.enter 29 args) w := ent_of (f := 29) (P := Tryz.prog) rfl rfl rfl
noncomputable def conPoint : ConC Tryz.prog Fe := conRdT 29 entPoint ptFn ptFn_ok
end Go.Proofs.YtcedljbapgmdmaaGreat.En

/- DERIVED. Sums, doubles, opposites: the law's own run. -/
set_option linter.all false
namespace Go.Proofs.YtcedljbapgmdmaaGreat.En
open Go Go.RowKit

abbrev rwsB (n : Nat) (f : Nat → Int) : List (LV Fe) := [.rows n 1 fun j => [.int .u8 (f j)]]
theorem rwsB_plain (n : Nat) (f : Nat → Int) : plainL (rwsB n f) := ⟨fun _ => ⟨trivial, trivial⟩, trivial⟩
/-- Four inputs of bytes. -/
structure In4 where
  n0 : Nat
  f0 : Nat → Int
  n1 : Nat
  f1 : Nat → Int
  n2 : Nat
  f2 : Nat → Int
  n3 : Nat
  f3 : Nat → Int
abbrev In4.inp (i : In4) : Inp Fe := inOf [rwsB i.n0 i.f0, rwsB i.n1 i.f1, rwsB i.n2 i.f2, rwsB i.n3 i.f3]
theorem In4.ok (i : In4) : InpOk i.inp := inOf_ok fun l hl => by
  simp only [List.mem_cons, List.not_mem_nil, or_false] at hl
  rcases hl with rfl | rfl | rfl | rfl <;> exact rwsB_plain _ _
/-- Decisions of several functions. -/
def dcf (l : List (FuncId × Nat × Nat × Bool)) : FuncId → Nat → Nat → Option Bool := fun f r i => look l f r i
where look : List (FuncId × Nat × Nat × Bool) → FuncId → Nat → Nat → Option Bool
  | [], _, _, _ => none
  | (g, k, j, b) :: l, f, r, i => match Nat.beq g f, Nat.beq k r, Nat.beq j i with
    | true, true, true => some b
    | _, _, _ => look l f r i
noncomputable abbrev psA : List (ConP Tryz.prog Fe) := [conKnown, conInfty, conGAdd, conGNeg, conGDouble, conGEqual, conGInf, conRefs, conSame, conRCAdd, conRCDouble, conRCNeg, conRCEqual, conRCNone]
noncomputable abbrev SAd (l : List (FuncId × Nat × Nat × Bool)) (I : Inp Fe) (ls : List (LoopF Tryz.prog I)) : Sig Fe := sigOf (P := Tryz.prog) ([conFAdd, conFSub, conFMul, conFSquare, conFNeg, conFIsZero, conFEqual, conTwice] ++ (psG ++ (psH ++ psA))) [] [conPoint] (I := I) ls msF (advP (dcf l) [29] [])
theorem SAd_ok (l : List (FuncId × Nat × Nat × Bool)) {I : Inp Fe} (h : InpOk I) (ls : List (LoopF Tryz.prog I)) : SigOk Tryz.prog (SAd l I ls) := sigOf_ok _ [] [conPoint] ls msF_ok _ h
abbrev adArgs (i : In4) (z w : Int) (e o : Bool) : List (LV Fe) := [.vec (.inp 0 0) i.n0, .vec (.inp 0 1) i.n1, .vec (.inp 0 2) i.n2, .vec (.inp 0 3) i.n3, .int .i64 z, .int .i64 w, .bool e, .bool o]
--@run adBig (i : In4) (z w : Int) (e o : Bool) := callF Tryz.prog (SAd [(10, 4, 5, true)] i.inp []) 60 5 (adArgs i z w e o) [] => .bool true
--@[
set_option maxRecDepth 100000 in
def adBig_G (i : In4) (z w : Int) (e o : Bool) : Prop := true = true ∧ true = true ∧ decide ((100 : Int) < (↑(In4.n2 i) : Int)) = true
set_option maxRecDepth 100000 in
theorem adBig (i : In4) (z w : Int) (e o : Bool) : (callF Tryz.prog (SAd [(10, 4, 5, true)] i.inp []) 60 5 (adArgs i z w e o) []).map (fun r => (r.1, r.2.2)) = some (.bool true, some (adBig_G i z w e o)) := by kernel_rfl
--@]
--@run adN0 (i : In4) (z w : Int) (e o : Bool) := callF Tryz.prog (SAd [(10, 4, 5, false), (5, 3, 8, true)] i.inp []) 60 5 (adArgs i z w e o) [] => .bool true
--@[
set_option maxRecDepth 100000 in
def adN0_G (i : In4) (z w : Int) (e o : Bool) : Prop := ((true = true ∧ true = true ∧ decide ((100 : Int) < (↑(In4.n2 i) : Int)) = false) ∧ true = true ∧ true = true ∧ decide ((100 : Int) < (↑(In4.n3 i) : Int)) = false) ∧ decide ((8 : Int) < (↑(In4.n0 i) : Int)) = true
set_option maxRecDepth 100000 in
theorem adN0 (i : In4) (z w : Int) (e o : Bool) : (callF Tryz.prog (SAd [(10, 4, 5, false), (5, 3, 8, true)] i.inp []) 60 5 (adArgs i z w e o) []).map (fun r => (r.1, r.2.2)) = some (.bool true, some (adN0_G i z w e o)) := by kernel_rfl
--@]
--@run adN1 (i : In4) (z w : Int) (e o : Bool) := callF Tryz.prog (SAd [(10, 4, 5, false), (5, 3, 8, false), (5, 3, 13, true)] i.inp []) 60 5 (adArgs i z w e o) [] => .bool true
--@[
set_option maxRecDepth 100000 in
def adN1_G (i : In4) (z w : Int) (e o : Bool) : Prop := ((true = true ∧ true = true ∧ decide ((100 : Int) < (↑(In4.n2 i) : Int)) = false) ∧ true = true ∧ true = true ∧ decide ((100 : Int) < (↑(In4.n3 i) : Int)) = false) ∧ decide ((8 : Int) < (↑(In4.n0 i) : Int)) = false ∧ decide ((8 : Int) < (↑(In4.n1 i) : Int)) = true
set_option maxRecDepth 100000 in
theorem adN1 (i : In4) (z w : Int) (e o : Bool) : (callF Tryz.prog (SAd [(10, 4, 5, false), (5, 3, 8, false), (5, 3, 13, true)] i.inp []) 60 5 (adArgs i z w e o) []).map (fun r => (r.1, r.2.2)) = some (.bool true, some (adN1_G i z w e o)) := by kernel_rfl
--@]
noncomputable abbrev adDs : List (FuncId × Nat × Nat × Bool) := [(10, 4, 5, false), (5, 3, 8, false), (5, 3, 13, false), (5, 11, 6, true), (5, 11, 14, true), (5, 11, 21, true), (5, 11, 28, true), (5, 11, 37, true), (5, 11, 44, true)]
abbrev p3 (P : Pt) : Pt := (P.1, P.2.1, P.2.2)
abbrev c6 (C : C3) : C3 := ((C.1.1, C.1.2), (C.2.1.1, C.2.1.2), (C.2.2.1, C.2.2.2))
/-- What the law asks of two points. -/
def adQ (P Q : Pt) : Prop :=
  sameF (p3 (paddF (p3 P) (p3 Q))) (c6 (cadd (c6 (refsF (p3 P))) (c6 (refsF (p3 Q))))) = true ∧
  sameF (p3 (paddF (p3 Q) (p3 P))) (c6 (cadd (c6 (refsF (p3 P))) (c6 (refsF (p3 Q))))) = true ∧
  sameF (p3 (dblF (p3 P))) (c6 (cdbl (c6 (refsF (p3 P))))) = true ∧
  sameF (p3 (negF (p3 P))) (c6 (cnegF (c6 (refsF (p3 P))))) = true ∧
  (ceqF (p3 P) (p3 Q) == eisz (cadd (c6 (refsF (p3 P))) (cnegF (c6 (refsF (p3 Q))))).2.2) = true ∧
  (isz P.2.2 == eisz ((refsF (p3 P)).2.2.1, (refsF (p3 P)).2.2.2)) = true
def lkB (n : Nat) (f : Nat → Int) : Prop := ∀ j, j < n → Like (A := Fe) [.int .u8 (f j)] [.int .u8 (f j)]
def ptP (n : Nat) (f : Nat → Int) (m : Nat) (g : Nat → Int) : Prop := lkB n f ∧ lkB m g ∧ n = n ∧ m = m ∧ rngB f 0 n ∧ n ≤ 1000 ∧ m ≤ 100
def adP (i : In4) : Prop := ((true = true ∧ true = true ∧ decide ((100 : Int) < (i.n2 : Int)) = false) ∧ true = true ∧ true = true ∧ decide ((100 : Int) < (i.n3 : Int)) = false) ∧ decide ((8 : Int) < (i.n0 : Int)) = false ∧ decide ((8 : Int) < (i.n1 : Int)) = false
def adO (i : In4) : Prop := ptP i.n0 i.f0 i.n2 i.f2 ∧ ptP i.n1 i.f1 i.n3 i.f3 ∧ true = true ∧ true = true
set_option maxRecDepth 100000 in
theorem adff (i : In4) (z w : Int) : (callF Tryz.prog (SAd adDs i.inp []) 60 5 (adArgs i z w false false) []).map (fun r => (r.1, r.2.2)) = some (.bool true, some (adP i ∧ adO i ∧ (true = true ∧ true = true) ∧ adQ (pointF i.n0 i.f0 i.n2 i.f2 z) (pointF i.n1 i.f1 i.n3 i.f3 w))) := by kernel_rfl
set_option maxRecDepth 100000 in
theorem adft (i : In4) (z w : Int) : (callF Tryz.prog (SAd adDs i.inp []) 60 5 (adArgs i z w false true) []).map (fun r => (r.1, r.2.2)) = some (.bool true, some (adP i ∧ adO i ∧ true = true ∧ (true = true ∧ true = true) ∧ adQ (pointF i.n0 i.f0 i.n2 i.f2 z) (negF (p3 (pointF i.n1 i.f1 i.n3 i.f3 w))))) := by kernel_rfl
set_option maxRecDepth 100000 in
theorem adtf (i : In4) (z w : Int) : (callF Tryz.prog (SAd adDs i.inp []) 60 5 (adArgs i z w true false) []).map (fun r => (r.1, r.2.2)) = some (.bool true, some (adP i ∧ adO i ∧ true = true ∧ (true = true ∧ true = true) ∧ adQ (pointF i.n0 i.f0 i.n2 i.f2 z) (paddF (p3 (pointF i.n0 i.f0 i.n2 i.f2 z)) (zE, zE, zE)))) := by kernel_rfl
set_option maxRecDepth 100000 in
theorem adtt (i : In4) (z w : Int) : (callF Tryz.prog (SAd adDs i.inp []) 60 5 (adArgs i z w true true) []).map (fun r => (r.1, r.2.2)) = some (.bool true, some (adP i ∧ adO i ∧ true = true ∧ true = true ∧ (true = true ∧ true = true) ∧ adQ (pointF i.n0 i.f0 i.n2 i.f2 z) (negF (p3 (paddF (p3 (pointF i.n0 i.f0 i.n2 i.f2 z)) (zE, zE, zE)))))) := by kernel_rfl
end Go.Proofs.YtcedljbapgmdmaaGreat.En

/- DERIVED. The sum of three points, and of none, as a contract. -/
set_option linter.all false
namespace Go.Proofs.YtcedljbapgmdmaaGreat.En
open Go Go.RowKit

abbrev pts3 (a b c d e f g h i : Fe) : List (LV Fe) := [.rows 3 18 fun j => absL (List.getD [[a, b, c], [d, e, f], [g, h, i]] j [])]
theorem absL_plain : ∀ l : List Fe, plainL (absL l)
  | [] => trivial
  | a :: l => ⟨trivial, absL_plain l⟩
theorem pts3_plain (a b c d e f g h i : Fe) : plainL (pts3 a b c d e f g h i) := ⟨fun j => absL_plain _, trivial⟩
noncomputable abbrev SSm (I : Inp Fe) : Sig Fe := sigOf (P := Tryz.prog) ([conFAdd, conFSub, conFMul, conFSquare, conFNeg, conFIsZero, conFEqual, conTwice] ++ (psG ++ (psH ++ [conGAdd]))) [] [] (I := I) [] msF (advP noD [] [])
theorem SSm_ok {I : Inp Fe} (h : InpOk I) : SigOk Tryz.prog (SSm I) := sigOf_ok _ [] [] [] msF_ok _ h
def sum3 (P Q R : Pt) : Pt := paddF (paddF (paddF zPt P) Q) R
abbrev p3' (P : Pt) : Pt := (P.1, P.2.1, P.2.2)
abbrev sum3' (P Q R : Pt) : Pt := paddF (p3' (paddF (p3' (paddF (zE, zE, zE) P)) Q)) R
--@run sm3V (a b c d e f g h i : Fe) := callF Tryz.prog (SSm (inOf [pts3 a b c d e f g h i])) 60 41 [.vec (.inp 0 0) 3] [] => ptV (sum3' (a, b, c) (d, e, f) (g, h, i))
--@[
set_option maxRecDepth 100000 in
def sm3V_G (a b c d e f g h i : Fe) : Prop := (true = true ∧ true = true ∧ true = true) ∧ true = true ∧ (true = true ∧ true = true ∧ true = true) ∧ true = true ∧ (true = true ∧ true = true ∧ true = true) ∧ true = true ∧ true = true
set_option maxRecDepth 100000 in
theorem sm3V (a b c d e f g h i : Fe) : (callF Tryz.prog (SSm (inOf [pts3 a b c d e f g h i])) 60 41 [.vec (.inp 0 0) 3] []).map (fun r => (r.1, r.2.2)) = some (ptV (sum3' (a, b, c) (d, e, f) (g, h, i)), some (sm3V_G a b c d e f g h i)) := by kernel_rfl
set_option maxRecDepth 100000 in
theorem sm3V_ok (a b c d e f g h i : Fe) : condOk (some (sm3V_G a b c d e f g h i)) := by unfold sm3V_G condOk; and_intros <;> rfl
--@]
--@run sm0V := callF Tryz.prog (SSm (inOf [[]])) 60 41 [.nils] [] => .agg zB
--@[
set_option maxRecDepth 100000 in
def sm0V_G  : Prop := true = true
set_option maxRecDepth 100000 in
theorem sm0V  : (callF Tryz.prog (SSm (inOf [[]])) 60 41 [.nils] []).map (fun r => (r.1, r.2.2)) = some (.agg zB, some (sm0V_G )) := by kernel_rfl
set_option maxRecDepth 100000 in
theorem sm0V_ok  : condOk (some (sm0V_G )) := by unfold sm0V_G condOk; and_intros <;> rfl
--@]
theorem sum_told (a b c d e f g h i : Fe) : Told Tryz.prog 41 [pts3 a b c d e f g h i] [.vec (.inp 0 0) 3] (ptV (sum3' (a, b, c) (d, e, f) (g, h, i))) [] :=
  told_walk (SSm_ok (inOf1_ok (pts3_plain ..))) rfl (pts3_plain ..) (sm3V a b c d e f g h i) (sm3V_ok a b c d e f g h i) rfl
theorem sum0_told : Told Tryz.prog 41 [] [.nils] (ptV zPt) [] := by
  have h := Told.as (told_walk (us0 := []) (SSm_ok (inOf1_ok (show plainL ([] : List (LV Fe)) from trivial))) rfl trivial sm0V sm0V_ok rfl) (v' := ptV zPt) rfl zPt_tr
  have e : inOf (A := Fe) [[]] = inOf [] := by
    funext t i
    cases t with
    | zero => cases i <;> rfl
    | succ t => rfl
  unfold Told at h
  rw [e] at h
  exact h
/-- Three points in a block of rows. -/
def three (us : List (LV Fe)) : Option (List Fe × List Fe × List Fe × Prop) := match us with
  | [.rows n z f] => match Nat.beq n 3, Nat.beq z 18, pFs 3 (f 0), pFs 3 (f 1), pFs 3 (f 2) with
    | true, true, some p, some q, some r => some (p, q, r, ∀ j, j < 3 → Like (f j) (absL (List.getD [p, q, r] j [])))
    | _, _, _, _, _ => none
  | _ => none
theorem three_some {us : List (LV Fe)} {p q r : List Fe} {c : Prop} (h : three us = some (p, q, r, c)) (hc : c) : Like us [.rows 3 18 fun j => absL (List.getD [p, q, r] j [])] := by
  unfold three at h
  split at h
  · split at h
    · rename_i hn hz _ _ _
      cases h
      have hn := beqN hn
      have hz := beqN hz
      subst hn; subst hz
      exact Like.rows hc fun i _ p _ => plainL_kin _ _ (absL_plain _)
    · cases h
  · cases h
noncomputable def sumFn (I : Inp Fe) (vs : List (LV Fe)) (mem : Mem Fe) : Option (RdC Fe) := match vs with
  | [.nils] => some ⟨[], [], [.nils], ptV zPt, [], true = true⟩
  | [.vec k n] => match Nat.beq n 3, at? I mem k with
    | true, some bl => match isDead bl.kd, three bl.us with
      | false, some ([a, b, c], [d, e, f], [g, h, i], q) => some ⟨[pts3 a b c d e f g h i], [k], [.vec (.inp 0 0) 3], ptV (sum3' (a, b, c) (d, e, f) (g, h, i)), [], q⟩
      | _, _ => none
    | _, _ => none
  | _ => none
theorem sumFn_ok : ∀ I vs mem r, sumFn I vs mem = some r → r.c → RdOk Tryz.prog 41 I vs mem r := by
  intro I vs mem r h hc
  unfold sumFn at h
  split at h
  · cases h
    exact {
      args := rfl
      fit := ⟨trivial, trivial⟩
      len := rfl
      blk := fun j k us hk hus => by simp at hk
      told := sum0_told
      fitv := (plain_ren _ _ _ (show LV.plain (ptV _) from ⟨trivial, trivial, trivial, trivial⟩)).2
      fitb := fun b hb => absurd hb List.not_mem_nil }
  · rename_i k n
    split at h
    · rename_i bl hn hb
      split at h
      · rename_i a b c d e f g i j q hd ht
        cases h
        have hn := beqN hn
        subst hn
        exact {
          args := rfl
          fit := ⟨⟨fun e => by simp [keyMap, ιOf] at e, trivial⟩, trivial⟩
          len := rfl
          blk := fun m k' us hk hus => by
            match m with
            | 0 =>
              cases hk; cases hus
              exact ⟨bl, hb, hd, pts3_plain .., three_some ht hc⟩
            | m + 1 => simp at hk
          told := sum_told a b c d e f g i j
          fitv := (plain_ren _ _ _ (show LV.plain (ptV _) from ⟨trivial, trivial, trivial, trivial⟩)).2
          fitb := fun b hb => absurd hb List.not_mem_nil }
      · cases h
    · cases h
  · cases h
set_option maxRecDepth 100000 in
theorem entSum : ∀ args w, (callFunc 41 args).run Tryz.prog w = .ok (.enter 41 args) w := ent_of (f := 41) (P := Tryz.prog) rfl rfl rfl
noncomputable def conSum : ConC Tryz.prog Fe := conRdT 41 entSum sumFn sumFn_ok
end Go.Proofs.YtcedljbapgmdmaaGreat.En

/- DERIVED. The group's laws: the law's own run. -/
set_option linter.all false
namespace Go.Proofs.YtcedljbapgmdmaaGreat.En
open Go Go.RowKit

noncomputable abbrev SLw (l : List (FuncId × Nat × Nat × Bool)) (I : Inp Fe) : Sig Fe := sigOf (P := Tryz.prog) ([conFAdd, conFSub, conFMul, conFSquare, conFNeg, conFIsZero, conFEqual, conTwice] ++ (psG ++ (psH ++ psA))) [] [conPoint, conSum] (I := I) [] msF (advP (dcf l) [29, 41] [(8, 6)])
theorem SLw_ok (l : List (FuncId × Nat × Nat × Bool)) {I : Inp Fe} (h : InpOk I) : SigOk Tryz.prog (SLw l I) := sigOf_ok _ [] [conPoint, conSum] [] msF_ok _ h
abbrev lwArgs (i : In4) (z : Int) : List (LV Fe) := [.vec (.inp 0 0) i.n0, .vec (.inp 0 1) i.n1, .vec (.inp 0 2) i.n2, .vec (.inp 0 3) i.n3, .int .i64 z]
--@run lwBig (i : In4) (z : Int) := callF Tryz.prog (SLw [(10, 4, 5, true)] i.inp) 60 8 (lwArgs i z) [] => .bool true
--@[
set_option maxRecDepth 100000 in
def lwBig_G (i : In4) (z : Int) : Prop := true = true ∧ true = true ∧ decide ((100 : Int) < (↑(In4.n3 i) : Int)) = true
set_option maxRecDepth 100000 in
theorem lwBig (i : In4) (z : Int) : (callF Tryz.prog (SLw [(10, 4, 5, true)] i.inp) 60 8 (lwArgs i z) []).map (fun r => (r.1, r.2.2)) = some (.bool true, some (lwBig_G i z)) := by kernel_rfl
--@]
--@run lwN0 (i : In4) (z : Int) := callF Tryz.prog (SLw [(10, 4, 5, false), (8, 3, 7, true)] i.inp) 60 8 (lwArgs i z) [] => .bool true
--@[
set_option maxRecDepth 100000 in
def lwN0_G (i : In4) (z : Int) : Prop := (true = true ∧ true = true ∧ decide ((100 : Int) < (↑(In4.n3 i) : Int)) = false) ∧ decide ((8 : Int) < (↑(In4.n0 i) : Int)) = true
set_option maxRecDepth 100000 in
theorem lwN0 (i : In4) (z : Int) : (callF Tryz.prog (SLw [(10, 4, 5, false), (8, 3, 7, true)] i.inp) 60 8 (lwArgs i z) []).map (fun r => (r.1, r.2.2)) = some (.bool true, some (lwN0_G i z)) := by kernel_rfl
--@]
--@run lwN1 (i : In4) (z : Int) := callF Tryz.prog (SLw [(10, 4, 5, false), (8, 3, 7, false), (8, 3, 12, true)] i.inp) 60 8 (lwArgs i z) [] => .bool true
--@[
set_option maxRecDepth 100000 in
def lwN1_G (i : In4) (z : Int) : Prop := (true = true ∧ true = true ∧ decide ((100 : Int) < (↑(In4.n3 i) : Int)) = false) ∧ decide ((8 : Int) < (↑(In4.n0 i) : Int)) = false ∧ decide ((8 : Int) < (↑(In4.n1 i) : Int)) = true
set_option maxRecDepth 100000 in
theorem lwN1 (i : In4) (z : Int) : (callF Tryz.prog (SLw [(10, 4, 5, false), (8, 3, 7, false), (8, 3, 12, true)] i.inp) 60 8 (lwArgs i z) []).map (fun r => (r.1, r.2.2)) = some (.bool true, some (lwN1_G i z)) := by kernel_rfl
--@]
--@run lwN2 (i : In4) (z : Int) := callF Tryz.prog (SLw [(10, 4, 5, false), (8, 3, 7, false), (8, 3, 12, false), (8, 3, 17, true)] i.inp) 60 8 (lwArgs i z) [] => .bool true
--@[
set_option maxRecDepth 100000 in
def lwN2_G (i : In4) (z : Int) : Prop := (true = true ∧ true = true ∧ decide ((100 : Int) < (↑(In4.n3 i) : Int)) = false) ∧ decide ((8 : Int) < (↑(In4.n0 i) : Int)) = false ∧ decide ((8 : Int) < (↑(In4.n1 i) : Int)) = false ∧ decide ((8 : Int) < (↑(In4.n2 i) : Int)) = true
set_option maxRecDepth 100000 in
theorem lwN2 (i : In4) (z : Int) : (callF Tryz.prog (SLw [(10, 4, 5, false), (8, 3, 7, false), (8, 3, 12, false), (8, 3, 17, true)] i.inp) 60 8 (lwArgs i z) []).map (fun r => (r.1, r.2.2)) = some (.bool true, some (lwN2_G i z)) := by kernel_rfl
--@]
noncomputable abbrev lwDs : List (FuncId × Nat × Nat × Bool) := [(10, 4, 5, false), (8, 3, 7, false), (8, 3, 12, false), (8, 3, 17, false), (8, 6, 6, true), (8, 6, 18, true), (8, 6, 25, true), (8, 6, 32, true), (8, 6, 42, true), (8, 6, 49, true), (8, 6, 62, true), (8, 6, 66, true)]
def g3 (P Q R : Pt) (j : Nat) : List (LV Fe) := List.getD (List.set (List.set (List.set (List.replicate 3 (units (.agg zB))) 0 (units (ptV P))) 1 (units (ptV Q))) 2 (units (ptV R))) j []
/-- What the law asks of three points. -/
def lwQ (P Q R : Pt) : Prop :=
  ceqF (p3 (paddF (p3 P) (p3 Q))) (p3 (paddF (p3 Q) (p3 P))) = true ∧
  ceqF (p3 (paddF (p3 P) (p3 (paddF (p3 Q) (p3 R))))) (p3 (paddF (p3 (paddF (p3 P) (p3 Q))) (p3 R))) = true ∧
  ceqF (p3 (paddF (p3 P) (zE, zE, zE))) (p3 P) = true ∧
  isz (paddF (p3 P) (p3 (negF (p3 P)))).2.2 = true ∧
  ceqF (p3 (paddF (p3 (paddF (p3 P) (p3 Q))) (p3 (negF (p3 Q))))) (p3 P) = true ∧
  ceqF (p3 (negF (p3 (negF (p3 P))))) (p3 P) = true ∧
  (∀ j, j < 3 → Like (g3 P Q R j) (absL (List.getD [[P.1, P.2.1, P.2.2], [Q.1, Q.2.1, Q.2.2], [R.1, R.2.1, R.2.2]] j []))) ∧
  ceqF (p3 (sum3' (p3 P) (p3 Q) (p3 R))) (p3 (paddF (p3 (paddF (p3 R) (p3 Q))) (p3 P))) = true ∧ true = true ∧ true = true
def lwP (i : In4) : Prop := (true = true ∧ true = true ∧ decide ((100 : Int) < (i.n3 : Int)) = false) ∧ decide ((8 : Int) < (i.n0 : Int)) = false ∧ decide ((8 : Int) < (i.n1 : Int)) = false ∧ decide ((8 : Int) < (i.n2 : Int)) = false
def lwO (i : In4) : Prop := ptP i.n0 i.f0 i.n3 i.f3 ∧ ptP i.n1 i.f1 i.n3 i.f3 ∧ ptP i.n2 i.f2 i.n3 i.f3 ∧ true = true ∧ true = true ∧ true = true
set_option maxRecDepth 100000 in
theorem lwAll (i : In4) (z : Int) : (callF Tryz.prog (SLw lwDs i.inp) 60 8 (lwArgs i z) []).map (fun r => (r.1, r.2.2)) = some (.bool true, some (lwP i ∧ lwO i ∧ lwQ (pointF i.n0 i.f0 i.n3 i.f3 z) (pointF i.n1 i.f1 i.n3 i.f3 (IntKind.i64.wrap (z + 1))) (pointF i.n2 i.f2 i.n3 i.f3 (IntKind.i64.wrap (z + 2))))) := by kernel_rfl
end Go.Proofs.YtcedljbapgmdmaaGreat.En

/- DERIVED. So many times the document's point: the loop. -/
set_option linter.all false
namespace Go.Proofs.YtcedljbapgmdmaaGreat.En
open Go Go.RowKit

def cbl (p : C3) : List (LV Fe) := [.abs p.1.1, .abs p.1.2, .abs p.2.1.1, .abs p.2.1.2, .abs p.2.2.1, .abs p.2.2.2]
def cstp (p r : C3) (t : Bool) : C3 := bif t then cadd (c6 (cdbl (c6 r))) (c6 p) else cdbl (c6 r)
abbrev cz36 : List (LV Fe) := List.replicate 36 (.int .u64 0)
noncomputable abbrev SCm (l : List (Nat × Nat × Bool)) (I : Inp Fe) (ls : List (LoopF Tryz.prog I)) : Sig Fe := sigOf (P := Tryz.prog) ([conFAdd, conFSub, conFMul, conFSquare, conFNeg, conFIsZero, conFEqual, conTwice] ++ (psG ++ (psH ++ psA))) [] [] (I := I) ls msF (advP (dci 38 l) [] [])
theorem SCm_ok (l : List (Nat × Nat × Bool)) {I : Inp Fe} (h : InpOk I) (ls : List (LoopF Tryz.prog I)) : SigOk Tryz.prog (SCm l I ls) := sigOf_ok _ [] [] ls msF_ok _ h
abbrev cmT (n i : Nat) : List (Nat × LV Fe) := [(1, .vec (.inp 0 0) n), (2, .ptr (.own 0) 0 []), (4, .ptr (.own 1) 0 []), (5, .ptr (.own 2) 0 []), (6, .int .i64 (i : Int))]
abbrev cmM (p : C3) (r : List (LV Fe)) : Mem Fe := [some ⟨.rw, cbl p⟩, some ⟨.rw, cz36⟩, some ⟨.rw, r⟩]
noncomputable abbrev cmJ (p : C3) (n i : Nat) (r : List (LV Fe)) : LS Fe := ⟨tm 31 (cmT n i), cmM p r, []⟩
noncomputable def cmS (n : Nat) (f : Nat → Int) (p : C3) : LS Fe := entry Tryz.prog (SCm [] (inOf [rwsB n f]) []) 60 38 [0, 1, 0, 1, 1] [.agg (cbl p), .vec (.inp 0 0) n] []
--@gen cmE (n : Nat) (f : Nat → Int) (p : C3) := mS (inOf [rwsB n f]) [some (.own 0), some (.own 1), some (.own 2)] (cmS n f p) 31 (cmT n 0) (cmM p cz36)
--@[
set_option maxRecDepth 100000 in
def cmE_G (n : Nat) (f : Nat → Int) (p : C3) : Prop := ((0 = 0 ∧ n = n) ∧ (0 : Int) = (↑0 : Int)) ∧ (Prod.fst (Prod.fst p) = Prod.fst (Prod.fst p) ∧ Prod.snd (Prod.fst p) = Prod.snd (Prod.fst p) ∧ Prod.fst (Prod.fst (Prod.snd p)) = Prod.fst (Prod.fst (Prod.snd p)) ∧ Prod.snd (Prod.fst (Prod.snd p)) = Prod.snd (Prod.fst (Prod.snd p)) ∧ Prod.fst (Prod.snd (Prod.snd p)) = Prod.fst (Prod.snd (Prod.snd p)) ∧ Prod.snd (Prod.snd (Prod.snd p)) = Prod.snd (Prod.snd (Prod.snd p))) ∧ ((0 : Int) = (0 : Int) ∧ (0 : Int) = (0 : Int) ∧ (0 : Int) = (0 : Int) ∧ (0 : Int) = (0 : Int) ∧ (0 : Int) = (0 : Int) ∧ (0 : Int) = (0 : Int) ∧ (0 : Int) = (0 : Int) ∧ (0 : Int) = (0 : Int) ∧ (0 : Int) = (0 : Int) ∧ (0 : Int) = (0 : Int) ∧ (0 : Int) = (0 : Int) ∧ (0 : Int) = (0 : Int) ∧ (0 : Int) = (0 : Int) ∧ (0 : Int) = (0 : Int) ∧ (0 : Int) = (0 : Int) ∧ (0 : Int) = (0 : Int) ∧ (0 : Int) = (0 : Int) ∧ (0 : Int) = (0 : Int) ∧ (0 : Int) = (0 : Int) ∧ (0 : Int) = (0 : Int) ∧ (0 : Int) = (0 : Int) ∧ (0 : Int) = (0 : Int) ∧ (0 : Int) = (0 : Int) ∧ (0 : Int) = (0 : Int) ∧ (0 : Int) = (0 : Int) ∧ (0 : Int) = (0 : Int) ∧ (0 : Int) = (0 : Int) ∧ (0 : Int) = (0 : Int) ∧ (0 : Int) = (0 : Int) ∧ (0 : Int) = (0 : Int) ∧ (0 : Int) = (0 : Int) ∧ (0 : Int) = (0 : Int) ∧ (0 : Int) = (0 : Int) ∧ (0 : Int) = (0 : Int) ∧ (0 : Int) = (0 : Int) ∧ (0 : Int) = (0 : Int)) ∧ (0 : Int) = (0 : Int) ∧ (0 : Int) = (0 : Int) ∧ (0 : Int) = (0 : Int) ∧ (0 : Int) = (0 : Int) ∧ (0 : Int) = (0 : Int) ∧ (0 : Int) = (0 : Int) ∧ (0 : Int) = (0 : Int) ∧ (0 : Int) = (0 : Int) ∧ (0 : Int) = (0 : Int) ∧ (0 : Int) = (0 : Int) ∧ (0 : Int) = (0 : Int) ∧ (0 : Int) = (0 : Int) ∧ (0 : Int) = (0 : Int) ∧ (0 : Int) = (0 : Int) ∧ (0 : Int) = (0 : Int) ∧ (0 : Int) = (0 : Int) ∧ (0 : Int) = (0 : Int) ∧ (0 : Int) = (0 : Int) ∧ (0 : Int) = (0 : Int) ∧ (0 : Int) = (0 : Int) ∧ (0 : Int) = (0 : Int) ∧ (0 : Int) = (0 : Int) ∧ (0 : Int) = (0 : Int) ∧ (0 : Int) = (0 : Int) ∧ (0 : Int) = (0 : Int) ∧ (0 : Int) = (0 : Int) ∧ (0 : Int) = (0 : Int) ∧ (0 : Int) = (0 : Int) ∧ (0 : Int) = (0 : Int) ∧ (0 : Int) = (0 : Int) ∧ (0 : Int) = (0 : Int) ∧ (0 : Int) = (0 : Int) ∧ (0 : Int) = (0 : Int) ∧ (0 : Int) = (0 : Int) ∧ (0 : Int) = (0 : Int) ∧ (0 : Int) = (0 : Int)
set_option maxRecDepth 100000 in
theorem cmE (n : Nat) (f : Nat → Int) (p : C3) : mS (inOf [rwsB n f]) [some (.own 0), some (.own 1), some (.own 2)] (cmS n f p) 31 (cmT n 0) (cmM p cz36) = some (some ((cmE_G n f p))) := by kernel_rfl
--@]
def eqN : Nat → Prop
  | 0 => True
  | 1 => (0 : Int) = 0
  | k + 2 => (0 : Int) = 0 ∧ eqN (k + 1)
theorem eqN_ok : ∀ k, eqN k
  | 0 => trivial
  | 1 => rfl
  | k + 2 => ⟨rfl, eqN_ok (k + 1)⟩
def eq6 (p : C3) : Prop := p.1.1 = p.1.1 ∧ p.1.2 = p.1.2 ∧ p.2.1.1 = p.2.1.1 ∧ p.2.1.2 = p.2.1.2 ∧ p.2.2.1 = p.2.2.1 ∧ p.2.2.2 = p.2.2.2
theorem eq6_ok (p : C3) : eq6 p := ⟨rfl, rfl, rfl, rfl, rfl, rfl⟩
def cmBit (f : Nat → Int) (i : Nat) : Bool := bits .and .u8 ((f (Int.toNat (IntKind.i64.wrap (Int.tdiv (i : Int) 8)))).fdiv (2 ^ min (Int.toNat (IntKind.i64.wrap (7 - Int.tmod (i : Int) 8))) 8)) 1 == 1
def cmA (n i : Nat) (q : Prop) : Prop := decide ((i : Int) < IntKind.i64.wrap (8 * (n : Int))) = true ∧ true = true ∧ true = true ∧ decide ((0 : Int) ≤ IntKind.i64.wrap (Int.tdiv (i : Int) 8) ∧ IntKind.i64.wrap (Int.tdiv (i : Int) 8) < (n : Int)) = true ∧ Nat.blt (Int.toNat (IntKind.i64.wrap (Int.tdiv (i : Int) 8))) n = true ∧ true = true ∧ decide ((0 : Int) ≤ IntKind.i64.wrap (7 - Int.tmod (i : Int) 8)) = true ∧ q
def cmA' (n i : Nat) (q : Prop) : Prop := decide ((i : Int) < IntKind.i64.wrap (8 * (n : Int))) = true ∧ true = true ∧ (true = true ∧ decide ((0 : Int) ≤ IntKind.i64.wrap (Int.tdiv (i : Int) 8) ∧ IntKind.i64.wrap (Int.tdiv (i : Int) 8) < (n : Int)) = true ∧ Nat.blt (Int.toNat (IntKind.i64.wrap (Int.tdiv (i : Int) 8))) n = true ∧ true = true ∧ decide ((0 : Int) ≤ IntKind.i64.wrap (7 - Int.tmod (i : Int) 8)) = true ∧ q) ∧ true = true
def cmN (n i : Nat) : Prop := (0 = 0 ∧ n = n) ∧ IntKind.i64.wrap ((i : Int) + 1) = ((i + 1 : Nat) : Int)
set_option maxRecDepth 100000 in
theorem cmZf (n : Nat) (f : Nat → Int) (p : C3) (i : Nat) : runG Tryz.prog (SCm [(3, 4, true), (6, 10, false)] (inOf [rwsB n f]) []) 60 38 [0, 0, 1, 0, 1, 1] (cmJ p n i cz36) .normal 3 [some (.own 0), some (.own 1), some (.own 2)] 31 (cmT n (i + 1)) (cmM p (cbl (cstp p cz false))) = some (some (cmA n i (cmBit f i = false) ∧ cmN n i ∧ eq6 p ∧ eqN 36 ∧ eq6 (cstp p cz false))) := by kernel_rfl
set_option maxRecDepth 100000 in
theorem cmZt (n : Nat) (f : Nat → Int) (p : C3) (i : Nat) : runG Tryz.prog (SCm [(3, 4, true), (6, 10, true)] (inOf [rwsB n f]) []) 60 38 [0, 0, 1, 0, 1, 1] (cmJ p n i cz36) .normal 3 [some (.own 0), some (.own 1), some (.own 2)] 31 (cmT n (i + 1)) (cmM p (cbl (cadd (((cdbl ((ofSix 0 0 0 0 0 0, ofSix 0 0 0 0 0 0), (ofSix 0 0 0 0 0 0, ofSix 0 0 0 0 0 0), (ofSix 0 0 0 0 0 0, ofSix 0 0 0 0 0 0))).1.1, (cdbl ((ofSix 0 0 0 0 0 0, ofSix 0 0 0 0 0 0), (ofSix 0 0 0 0 0 0, ofSix 0 0 0 0 0 0), (ofSix 0 0 0 0 0 0, ofSix 0 0 0 0 0 0))).1.2), ((cdbl ((ofSix 0 0 0 0 0 0, ofSix 0 0 0 0 0 0), (ofSix 0 0 0 0 0 0, ofSix 0 0 0 0 0 0), (ofSix 0 0 0 0 0 0, ofSix 0 0 0 0 0 0))).2.1.1, (cdbl ((ofSix 0 0 0 0 0 0, ofSix 0 0 0 0 0 0), (ofSix 0 0 0 0 0 0, ofSix 0 0 0 0 0 0), (ofSix 0 0 0 0 0 0, ofSix 0 0 0 0 0 0))).2.1.2), ((cdbl ((ofSix 0 0 0 0 0 0, ofSix 0 0 0 0 0 0), (ofSix 0 0 0 0 0 0, ofSix 0 0 0 0 0 0), (ofSix 0 0 0 0 0 0, ofSix 0 0 0 0 0 0))).2.2.1, (cdbl ((ofSix 0 0 0 0 0 0, ofSix 0 0 0 0 0 0), (ofSix 0 0 0 0 0 0, ofSix 0 0 0 0 0 0), (ofSix 0 0 0 0 0 0, ofSix 0 0 0 0 0 0))).2.2.2)) ((p.1.1, p.1.2), (p.2.1.1, p.2.1.2), (p.2.2.1, p.2.2.2))))) = some (some (cmA' n i (cmBit f i = true) ∧ cmN n i ∧ eq6 p ∧ eqN 36 ∧ eq6 (cadd (((cdbl ((ofSix 0 0 0 0 0 0, ofSix 0 0 0 0 0 0), (ofSix 0 0 0 0 0 0, ofSix 0 0 0 0 0 0), (ofSix 0 0 0 0 0 0, ofSix 0 0 0 0 0 0))).1.1, (cdbl ((ofSix 0 0 0 0 0 0, ofSix 0 0 0 0 0 0), (ofSix 0 0 0 0 0 0, ofSix 0 0 0 0 0 0), (ofSix 0 0 0 0 0 0, ofSix 0 0 0 0 0 0))).1.2), ((cdbl ((ofSix 0 0 0 0 0 0, ofSix 0 0 0 0 0 0), (ofSix 0 0 0 0 0 0, ofSix 0 0 0 0 0 0), (ofSix 0 0 0 0 0 0, ofSix 0 0 0 0 0 0))).2.1.1, (cdbl ((ofSix 0 0 0 0 0 0, ofSix 0 0 0 0 0 0), (ofSix 0 0 0 0 0 0, ofSix 0 0 0 0 0 0), (ofSix 0 0 0 0 0 0, ofSix 0 0 0 0 0 0))).2.1.2), ((cdbl ((ofSix 0 0 0 0 0 0, ofSix 0 0 0 0 0 0), (ofSix 0 0 0 0 0 0, ofSix 0 0 0 0 0 0), (ofSix 0 0 0 0 0 0, ofSix 0 0 0 0 0 0))).2.2.1, (cdbl ((ofSix 0 0 0 0 0 0, ofSix 0 0 0 0 0 0), (ofSix 0 0 0 0 0 0, ofSix 0 0 0 0 0 0), (ofSix 0 0 0 0 0 0, ofSix 0 0 0 0 0 0))).2.2.2)) ((p.1.1, p.1.2), (p.2.1.1, p.2.1.2), (p.2.2.1, p.2.2.2))))) := by kernel_rfl
set_option maxRecDepth 100000 in
theorem cmPf (n : Nat) (f : Nat → Int) (p r : C3) (i : Nat) : runG Tryz.prog (SCm [(3, 4, true), (6, 10, false)] (inOf [rwsB n f]) []) 60 38 [0, 0, 1, 0, 1, 1] (cmJ p n i (cbl r)) .normal 3 [some (.own 0), some (.own 1), some (.own 2)] 31 (cmT n (i + 1)) (cmM p (cbl (cstp p r false))) = some (some (cmA n i (cmBit f i = false) ∧ cmN n i ∧ eq6 p ∧ eqN 36 ∧ eq6 (cstp p r false))) := by kernel_rfl
set_option maxRecDepth 100000 in
theorem cmPt (n : Nat) (f : Nat → Int) (p r : C3) (i : Nat) : runG Tryz.prog (SCm [(3, 4, true), (6, 10, true)] (inOf [rwsB n f]) []) 60 38 [0, 0, 1, 0, 1, 1] (cmJ p n i (cbl r)) .normal 3 [some (.own 0), some (.own 1), some (.own 2)] 31 (cmT n (i + 1)) (cmM p (cbl (cstp p r true))) = some (some (cmA' n i (cmBit f i = true) ∧ cmN n i ∧ eq6 p ∧ eqN 36 ∧ eq6 (cstp p r true))) := by kernel_rfl
set_option maxRecDepth 100000 in
theorem cmEz (n : Nat) (f : Nat → Int) (p : C3) (i : Nat) : runG Tryz.prog (SCm [(3, 4, false)] (inOf [rwsB n f]) []) 60 38 [0, 0, 1, 0, 1, 1] (cmJ p n i cz36) (.exit 0) 3 [some (.own 0), some (.own 1), some (.own 2)] 31 [(4, .ptr (.own 1) 0 []), (5, .ptr (.own 2) 0 [])] (cmM p cz36) = some (some (decide ((i : Int) < IntKind.i64.wrap (8 * (n : Int))) = false ∧ eq6 p ∧ eqN 36 ∧ eqN 36)) := by kernel_rfl
set_option maxRecDepth 100000 in
theorem cmEp (n : Nat) (f : Nat → Int) (p r : C3) (i : Nat) : runG Tryz.prog (SCm [(3, 4, false)] (inOf [rwsB n f]) []) 60 38 [0, 0, 1, 0, 1, 1] (cmJ p n i (cbl r)) (.exit 0) 3 [some (.own 0), some (.own 1), some (.own 2)] 31 [(4, .ptr (.own 1) 0 []), (5, .ptr (.own 2) 0 [])] (cmM p (cbl r)) = some (some (decide ((i : Int) < IntKind.i64.wrap (8 * (n : Int))) = false ∧ eq6 p ∧ eqN 36 ∧ eq6 r)) := by kernel_rfl
end Go.Proofs.YtcedljbapgmdmaaGreat.En

/- DERIVED. So many times the document's point: the contract. -/
set_option linter.all false
namespace Go.Proofs.YtcedljbapgmdmaaGreat.En
open Go Go.RowKit

theorem cmBit_eq (f : Nat → Int) {i : Nat} (hi : i < 100000) : cmBit f i = bitAt f i := by
  have e1 : Int.tdiv (i : Int) 8 = ((i / 8 : Nat) : Int) := by rw [Int.tdiv_eq_ediv_of_nonneg (by omega)]; omega
  have e2 : Int.tmod (i : Int) 8 = ((i % 8 : Nat) : Int) := by rw [Int.tmod_eq_emod_of_nonneg (by omega)]; omega
  have e3 : IntKind.i64.wrap (Int.tdiv (i : Int) 8) = ((i / 8 : Nat) : Int) := by rw [e1]; exact IntWalk.i64_in _ (by omega)
  have e4 : IntKind.i64.wrap (7 - Int.tmod (i : Int) 8) = ((7 - i % 8 : Nat) : Int) := by rw [e2, IntWalk.i64_in _ (by omega)]; omega
  unfold cmBit bitAt
  rw [e3, e4, Int.toNat_natCast, Int.toNat_natCast, Nat.min_eq_left (by omega)]
  rw [Int.fdiv_eq_ediv_of_nonneg _ (Int.le_of_lt (Int.pow_pos (by decide)))]
theorem cmA_ok {n i : Nat} (hi : i < 8 * n) (hn : n ≤ 1000) {q : Prop} (hq : q) : cmA n i q ∧ cmA' n i q := by
  have e0 : IntKind.i64.wrap (8 * (n : Int)) = 8 * (n : Int) := IntWalk.i64_in _ (by omega)
  have e1 : Int.tdiv (i : Int) 8 = ((i / 8 : Nat) : Int) := by rw [Int.tdiv_eq_ediv_of_nonneg (by omega)]; omega
  have e2 : Int.tmod (i : Int) 8 = ((i % 8 : Nat) : Int) := by rw [Int.tmod_eq_emod_of_nonneg (by omega)]; omega
  have e3 : IntKind.i64.wrap (Int.tdiv (i : Int) 8) = ((i / 8 : Nat) : Int) := by rw [e1]; exact IntWalk.i64_in _ (by omega)
  have e4 : IntKind.i64.wrap (7 - Int.tmod (i : Int) 8) = ((7 - i % 8 : Nat) : Int) := by rw [e2, IntWalk.i64_in _ (by omega)]; omega
  have h1 : decide ((i : Int) < IntKind.i64.wrap (8 * (n : Int))) = true := decide_eq_true (by rw [e0]; omega)
  have h2 : decide ((0 : Int) ≤ IntKind.i64.wrap (Int.tdiv (i : Int) 8) ∧ IntKind.i64.wrap (Int.tdiv (i : Int) 8) < (n : Int)) = true := decide_eq_true (by rw [e3]; omega)
  have h3 : Nat.blt (Int.toNat (IntKind.i64.wrap (Int.tdiv (i : Int) 8))) n = true := by rw [e3, Int.toNat_natCast]; exact ltB (by omega)
  have h4 : decide ((0 : Int) ≤ IntKind.i64.wrap (7 - Int.tmod (i : Int) 8)) = true := decide_eq_true (by rw [e4]; omega)
  exact ⟨⟨h1, rfl, rfl, h2, h3, rfl, h4, hq⟩, ⟨h1, rfl, ⟨rfl, h2, h3, rfl, h4, hq⟩, rfl⟩⟩
theorem cmN_ok {n i : Nat} (hi : i < 100000) : cmN n i := ⟨⟨rfl, rfl⟩, IntWalk.i64_in _ (by omega)⟩
/-- So many bits of it. -/
def cmL (p : C3) (f : Nat → Int) : Nat → C3
  | 0 => cz
  | k + 1 => cstp p (cmL p f k) (bitAt f k)
def cmK (p : C3) (f : Nat → Int) : Nat → List (LV Fe)
  | 0 => cz36
  | k + 1 => cbl (cmL p f (k + 1))
theorem cst_var (p : C3) (o : Fe) : cstp p ((o, o), (o, o), (o, o)) true = cadd (((cdbl ((o, o), (o, o), (o, o))).1.1, (cdbl ((o, o), (o, o), (o, o))).1.2), ((cdbl ((o, o), (o, o), (o, o))).2.1.1, (cdbl ((o, o), (o, o), (o, o))).2.1.2), ((cdbl ((o, o), (o, o), (o, o))).2.2.1, (cdbl ((o, o), (o, o), (o, o))).2.2.2)) ((p.1.1, p.1.2), (p.2.1.1, p.2.1.2), (p.2.2.1, p.2.2.2)) := by
  unfold cstp
  rw [cond_true]
theorem cst_zero (p : C3) : cstp p cz true = cadd (((cdbl (((ofSix 0 0 0 0 0 0), (ofSix 0 0 0 0 0 0)), ((ofSix 0 0 0 0 0 0), (ofSix 0 0 0 0 0 0)), ((ofSix 0 0 0 0 0 0), (ofSix 0 0 0 0 0 0)))).1.1, (cdbl (((ofSix 0 0 0 0 0 0), (ofSix 0 0 0 0 0 0)), ((ofSix 0 0 0 0 0 0), (ofSix 0 0 0 0 0 0)), ((ofSix 0 0 0 0 0 0), (ofSix 0 0 0 0 0 0)))).1.2), ((cdbl (((ofSix 0 0 0 0 0 0), (ofSix 0 0 0 0 0 0)), ((ofSix 0 0 0 0 0 0), (ofSix 0 0 0 0 0 0)), ((ofSix 0 0 0 0 0 0), (ofSix 0 0 0 0 0 0)))).2.1.1, (cdbl (((ofSix 0 0 0 0 0 0), (ofSix 0 0 0 0 0 0)), ((ofSix 0 0 0 0 0 0), (ofSix 0 0 0 0 0 0)), ((ofSix 0 0 0 0 0 0), (ofSix 0 0 0 0 0 0)))).2.1.2), ((cdbl (((ofSix 0 0 0 0 0 0), (ofSix 0 0 0 0 0 0)), ((ofSix 0 0 0 0 0 0), (ofSix 0 0 0 0 0 0)), ((ofSix 0 0 0 0 0 0), (ofSix 0 0 0 0 0 0)))).2.2.1, (cdbl (((ofSix 0 0 0 0 0 0), (ofSix 0 0 0 0 0 0)), ((ofSix 0 0 0 0 0 0), (ofSix 0 0 0 0 0 0)), ((ofSix 0 0 0 0 0 0), (ofSix 0 0 0 0 0 0)))).2.2.2)) ((p.1.1, p.1.2), (p.2.1.1, p.2.1.2), (p.2.2.1, p.2.2.2)) := by
  have h : ∀ o : Fe, o = zE → cstp p cz true = cadd (((cdbl ((o, o), (o, o), (o, o))).1.1, (cdbl ((o, o), (o, o), (o, o))).1.2), ((cdbl ((o, o), (o, o), (o, o))).2.1.1, (cdbl ((o, o), (o, o), (o, o))).2.1.2), ((cdbl ((o, o), (o, o), (o, o))).2.2.1, (cdbl ((o, o), (o, o), (o, o))).2.2.2)) ((p.1.1, p.1.2), (p.2.1.1, p.2.1.2), (p.2.2.1, p.2.2.2)) := fun o ho => by
    subst ho
    exact cst_var p zE
  exact h _ rfl
theorem cm_step (n : Nat) (f : Nat → Int) (p : C3) (hn : n ≤ 1000) (i : Nat) (hi : i < 8 * n) : ExB 3 Tryz.prog (inOf [rwsB n f]) (codeAt Tryz.prog 38 [0, 0, 1, 0, 1, 1]) (cmJ p n i (cmK p f i)) .normal (cmJ p n (i + 1) (cmK p f (i + 1))) := by
  have hI := inOf1_ok (rwsB_plain n f)
  have hb := cmBit_eq f (i := i) (by omega)
  have hN := cmN_ok (n := n) (i := i) (by omega)
  cases ht : bitAt f i with
  | false =>
    have hA := (cmA_ok hi hn (hb.trans ht)).1
    cases i with
    | zero =>
      have e : cmK p f 1 = cbl (cstp p cz false) := by show cbl (cstp p cz (bitAt f 0)) = _; rw [ht]
      rw [e]
      exact ExB.auto (SCm_ok _ hI _) hI rfl mixed 60 _ (cmZf n f p 0) ⟨hA, hN, eq6_ok _, eqN_ok _, eq6_ok _⟩
    | succ i =>
      have e : cmK p f (i + 1 + 1) = cbl (cstp p (cmL p f (i + 1)) false) := by show cbl (cstp p (cmL p f (i + 1)) (bitAt f (i + 1))) = _; rw [ht]
      rw [e]
      exact ExB.auto (SCm_ok _ hI _) hI rfl mixed 60 _ (cmPf n f p (cmL p f (i + 1)) (i + 1)) ⟨hA, hN, eq6_ok _, eqN_ok _, eq6_ok _⟩
  | true =>
    have hA := (cmA_ok hi hn (hb.trans ht)).2
    cases i with
    | zero =>
      have e : cmK p f 1 = cbl (cstp p cz true) := by show cbl (cstp p cz (bitAt f 0)) = _; rw [ht]
      rw [e, cst_zero]
      exact ExB.auto (SCm_ok _ hI _) hI rfl mixed 60 _ (cmZt n f p 0) ⟨hA, hN, eq6_ok _, eqN_ok _, eq6_ok _⟩
    | succ i =>
      have e : cmK p f (i + 1 + 1) = cbl (cstp p (cmL p f (i + 1)) true) := by show cbl (cstp p (cmL p f (i + 1)) (bitAt f (i + 1))) = _; rw [ht]
      rw [e]
      exact ExB.auto (SCm_ok _ hI _) hI rfl mixed 60 _ (cmPt n f p (cmL p f (i + 1)) (i + 1)) ⟨hA, hN, eq6_ok _, eqN_ok _, eq6_ok _⟩
theorem cm_end (n : Nat) (f : Nat → Int) (p : C3) (hn : n ≤ 1000) : ExB 3 Tryz.prog (inOf [rwsB n f]) (codeAt Tryz.prog 38 [0, 0, 1, 0, 1, 1]) (cmJ p n (8 * n) (cmK p f (8 * n))) (.exit 0) ⟨tm 31 [(4, .ptr (.own 1) 0 []), (5, .ptr (.own 2) 0 [])], cmM p (cmK p f (8 * n)), []⟩ := by
  have hI := inOf1_ok (rwsB_plain n f)
  have h1 : decide (((8 * n : Nat) : Int) < IntKind.i64.wrap (8 * (n : Int))) = false := decide_eq_false (by rw [IntWalk.i64_in _ (by omega)]; omega)
  generalize 8 * n = m at *
  cases m with
  | zero => exact ExB.auto (SCm_ok _ hI _) hI rfl mixed 60 _ (cmEz n f p 0) ⟨h1, eq6_ok _, eqN_ok _, eqN_ok _⟩
  | succ m => exact ExB.auto (SCm_ok _ hI _) hI rfl mixed 60 _ (cmEp n f p (cmL p f (m + 1)) (m + 1)) ⟨h1, eq6_ok _, eqN_ok _, eq6_ok _⟩
set_option maxRecDepth 100000 in
theorem cm_code : codeAt Tryz.prog 38 [0, 1, 0, 1, 1] = .loop (codeAt Tryz.prog 38 [0, 0, 1, 0, 1, 1]) := by kernel_rfl
theorem cm_in (n : Nat) (f : Nat → Int) (p : C3) : condOk (some (cmE_G n f p)) := by
  unfold condOk cmE_G
  and_intros <;> rfl
theorem cm_loop (n : Nat) (f : Nat → Int) (p : C3) (hn : n ≤ 1000) : ExB 3 Tryz.prog (inOf [rwsB n f]) (codeAt Tryz.prog 38 [0, 1, 0, 1, 1]) (cmS n f p) (.exit 0) ⟨tm 31 [(4, .ptr (.own 1) 0 []), (5, .ptr (.own 2) 0 [])], cmM p (cmK p f (8 * n)), []⟩ := by
  refine ExB.enter (cs := []) (inOf1_ok (rwsB_plain n f)) _ ?_ (cmE n f p) (cm_in n f p) rfl
  rw [cm_code]
  exact ExB.loop (by simp) (fun k => cmJ p n k (cmK p f k)) (8 * n) (fun i hi => cm_step n f p hn i hi) (cm_end n f p hn)
set_option maxRecDepth 100000 in
theorem cm_grow (n : Nat) (f : Nat → Int) (p : C3) (r : List (LV Fe)) : growB (cmS n f p) ⟨tm 31 [(4, .ptr (.own 1) 0 []), (5, .ptr (.own 2) 0 [])], cmM p r, []⟩ = true := by kernel_rfl
set_option maxRecDepth 100000 in
theorem cm_three (n : Nat) (f : Nat → Int) (p : C3) : Nat.ble (cmS n f p).mem.length 3 = true := by kernel_rfl
theorem cmK_pos (p : C3) (f : Nat → Int) {m : Nat} (h : 0 < m) : cmK p f m = cbl (cmL p f m) := by
  cases m with
  | zero => exact absurd h (Nat.lt_irrefl 0)
  | succ m => rfl
theorem cm_pos (n : Nat) (f : Nat → Int) (p : C3) (hn : n ≤ 1000) (h : 0 < n) : ExB 3 Tryz.prog (inOf [rwsB n f]) (codeAt Tryz.prog 38 [0, 1, 0, 1, 1]) (cmS n f p) (.exit 0) ⟨tm 31 [(4, .ptr (.own 1) 0 []), (5, .ptr (.own 2) 0 [])], cmM p (cbl (cmL p f (8 * n))), []⟩ := by
  rw [← cmK_pos p f (show 0 < 8 * n by omega)]
  exact cm_loop n f p hn
noncomputable def cmLp (n : Nat) (f : Nat → Int) (p : C3) (hn : n ≤ 1000) (h : 0 < n) : LoopF Tryz.prog (inOf [rwsB n f]) := LoopF.of (cm_pos n f p hn h) (cm_grow ..) (cm_three ..)
noncomputable def cmLz (f : Nat → Int) (p : C3) : LoopF Tryz.prog (inOf [rwsB 0 f]) := LoopF.of (cm_loop 0 f p (Nat.zero_le _)) (cm_grow ..) (cm_three ..)
--@run cmRz (f : Nat → Int) (p : C3) := callF Tryz.prog (SCm [] (inOf [rwsB 0 f]) [cmLz f p]) 60 38 [.agg (cbl p), .vec (.inp 0 0) 0] [] => .agg cz36
--@[
set_option maxRecDepth 100000 in
def cmRz_G (f : Nat → Int) (p : C3) : Prop := (LS.tmps (LoopF.s (cmLz f p)) = LS.tmps (LoopF.s (cmLz f p)) ∧ LS.mem (LoopF.s (cmLz f p)) = LS.mem (LoopF.s (cmLz f p))) ∧ true = true
set_option maxRecDepth 100000 in
theorem cmRz (f : Nat → Int) (p : C3) : (callF Tryz.prog (SCm [] (inOf [rwsB 0 f]) [cmLz f p]) 60 38 [.agg (cbl p), .vec (.inp 0 0) 0] []).map (fun r => (r.1, r.2.2)) = some (.agg cz36, some (cmRz_G f p)) := by kernel_rfl
--@]
--@run cmRp (n : Nat) (f : Nat → Int) (p : C3) (hn : n ≤ 1000) (h : 0 < n) := callF Tryz.prog (SCm [] (inOf [rwsB n f]) [cmLp n f p hn h]) 60 38 [.agg (cbl p), .vec (.inp 0 0) n] [] => cV (cmL p f (8 * n))
--@[
set_option maxRecDepth 100000 in
def cmRp_G (n : Nat) (f : Nat → Int) (p : C3) (hn : n ≤ 1000) (h : 0 < n) : Prop := (LS.tmps (LoopF.s (cmLp n f p hn h)) = LS.tmps (LoopF.s (cmLp n f p hn h)) ∧ LS.mem (LoopF.s (cmLp n f p hn h)) = LS.mem (LoopF.s (cmLp n f p hn h))) ∧ true = true
set_option maxRecDepth 100000 in
theorem cmRp (n : Nat) (f : Nat → Int) (p : C3) (hn : n ≤ 1000) (h : 0 < n) : (callF Tryz.prog (SCm [] (inOf [rwsB n f]) [cmLp n f p hn h]) 60 38 [.agg (cbl p), .vec (.inp 0 0) n] []).map (fun r => (r.1, r.2.2)) = some (cV (cmL p f (8 * n)), some (cmRp_G n f p hn h)) := by kernel_rfl
--@]
end Go.Proofs.YtcedljbapgmdmaaGreat.En
