/- DERIVED. Texts laid together: FY FZ HA HB HC HD HE HF HG HH HI HJ HK HL HM HN HO HR HU HS HT HP HQ HV HW HX HY. -/
import Derived.Test.YtcedljbapgmdmaaZgD
/- DERIVED. The field's written numbers; the first group's points as contracts. -/
set_option linter.all false
namespace Go.Proofs.Ytcedljbapgmdmaa.En
open Go Go.RowKit

set_option maxRecDepth 100000 in
theorem entSquare : ∀ args w, (callFunc 71 args).run Try.prog w = .ok (.enter 71 args) w := ent_of (f := 71) (P := Try.prog) rfl rfl rfl
--@run sqrV := callF Try.prog (SGa noD []) 60 71 [] [] => vTwo
--@[
set_option maxRecDepth 100000 in
def sqrV_G  : Prop := true = true
set_option maxRecDepth 100000 in
theorem sqrV  : (callF Try.prog (SGa noD []) 60 71 [] []).map (fun r => (r.1, r.2.2)) = some (vTwo, some (sqrV_G )) := by kernel_rfl
set_option maxRecDepth 100000 in
theorem sqrV_ok  : condOk (some (sqrV_G )) := by unfold sqrV_G condOk; and_intros <;> rfl
--@]
noncomputable def conSqC : ConP Try.prog Fe := mk0 71 entSquare vTwo (.of (SGa_ok _ _) rfl sqrV sqrV_ok rfl rfl)
set_option maxRecDepth 100000 in
theorem entMade : ∀ args w, (callFunc 49 args).run Try.prog w = .ok (.enter 49 args) w := ent_of (f := 49) (P := Try.prog) rfl rfl rfl
--@run madV (a : Fe) := callF Try.prog (SGa noD [conSqC]) 60 49 [bF [a]] [] => .agg [.abs (fmul a ftwo)]
--@[
set_option maxRecDepth 100000 in
def madV_G (a : Fe) : Prop := true = true
set_option maxRecDepth 100000 in
theorem madV (a : Fe) : (callF Try.prog (SGa noD [conSqC]) 60 49 [bF [a]] []).map (fun r => (r.1, r.2.2)) = some (.agg [.abs (fmul a ftwo)], some (madV_G a)) := by kernel_rfl
set_option maxRecDepth 100000 in
theorem madV_ok (a : Fe) : condOk (some (madV_G a)) := by unfold madV_G condOk; and_intros <;> rfl
--@]
noncomputable def conMade : ConP Try.prog Fe := mkP 49 entMade [1] (fun a => .agg [.abs (fmul a ftwo)]) fun a => .of (SGa_ok _ _) rfl (madV a) (madV_ok a) rfl rfl
set_option maxRecDepth 100000 in
theorem entNumber : ∀ args w, (callFunc 78 args).run Try.prog w = .ok (.enter 78 args) w := ent_of (f := 78) (P := Try.prog) rfl rfl rfl
--@run nmbV (a : Fe) := callF Try.prog (SGa noD []) 60 78 [bF [a]] [] => .agg [.abs (fmul a frone)]
--@[
set_option maxRecDepth 100000 in
def nmbV_G (a : Fe) : Prop := true = true
set_option maxRecDepth 100000 in
theorem nmbV (a : Fe) : (callF Try.prog (SGa noD []) 60 78 [bF [a]] []).map (fun r => (r.1, r.2.2)) = some (.agg [.abs (fmul a frone)], some (nmbV_G a)) := by kernel_rfl
set_option maxRecDepth 100000 in
theorem nmbV_ok (a : Fe) : condOk (some (nmbV_G a)) := by unfold nmbV_G condOk; and_intros <;> rfl
--@]
noncomputable def conNumber : ConP Try.prog Fe := mkP 78 entNumber [1] (fun a => .agg [.abs (fmul a frone)]) fun a => .of (SGa_ok _ _) rfl (nmbV a) (nmbV_ok a) rfl rfl
/-! ## small numbers -/
def fOne : Fe := fmul frone ftwo
--@run of1V := callF Try.prog (SGa noD [conMade]) 60 52 [.int .u64 1] [] => .agg [.abs fOne]
--@[
set_option maxRecDepth 100000 in
def of1V_G  : Prop := true = true
set_option maxRecDepth 100000 in
theorem of1V  : (callF Try.prog (SGa noD [conMade]) 60 52 [.int .u64 1] []).map (fun r => (r.1, r.2.2)) = some (.agg [.abs fOne], some (of1V_G )) := by kernel_rfl
set_option maxRecDepth 100000 in
theorem of1V_ok  : condOk (some (of1V_G )) := by unfold of1V_G condOk; and_intros <;> rfl
--@]
--@run of4V := callF Try.prog (SGa noD [conMade]) 60 52 [.int .u64 4] [] => .agg [.abs four]
--@[
set_option maxRecDepth 100000 in
def of4V_G  : Prop := true = true
set_option maxRecDepth 100000 in
theorem of4V  : (callF Try.prog (SGa noD [conMade]) 60 52 [.int .u64 4] []).map (fun r => (r.1, r.2.2)) = some (.agg [.abs four], some (of4V_G )) := by kernel_rfl
set_option maxRecDepth 100000 in
theorem of4V_ok  : condOk (some (of4V_G )) := by unfold of4V_G condOk; and_intros <;> rfl
--@]
set_option maxRecDepth 100000 in
theorem entOf : ∀ args w, (callFunc 52 args).run Try.prog w = .ok (.enter 52 args) w := ent_of (f := 52) (P := Try.prog) rfl rfl rfl
def ofFn : List (LV Fe) → Option (LV Fe)
  | [.int .u64 n] => match decide (n = 1) with
    | true => some (.agg [.abs fOne])
    | false => match decide (n = 4) with
      | true => some (.agg [.abs four])
      | false => none
  | _ => none
theorem ofFn_runs {vs : List (LV Fe)} {v : LV Fe} (h : ofFn vs = some v) : Runs 52 vs v := by
  unfold ofFn at h
  split at h
  · split at h
    · rename_i hn
      cases h
      rw [of_decide_eq_true hn]
      exact .of (SGa_ok _ _) rfl of1V of1V_ok rfl rfl
    · split at h
      · rename_i hn
        cases h
        rw [of_decide_eq_true hn]
        exact .of (SGa_ok _ _) rfl of4V of4V_ok rfl rfl
      · cases h
  · cases h
noncomputable def mkFn (f : FuncId) (ent : ∀ args w, (callFunc f args).run Try.prog w = .ok (.enter f args) w) (fn : List (LV Fe) → Option (LV Fe)) (run : ∀ {vs v}, fn vs = some v → Runs f vs v) : ConP Try.prog Fe where
  f := f
  fn := fn
  ent := ent
  kin vs v h p := pv_kin p _ (run h).plain
  call vs v h ρ w := (run h).run ρ w
noncomputable def conOf : ConP Try.prog Fe := mkFn 52 entOf ofFn ofFn_runs
/-! ## written numbers -/
/-- What a call of one string tells. -/
structure Calls2 (f : FuncId) (args : List (LV Fe)) (v : LV Fe) : Prop where
  plain : plainB v = true
  run : ∀ (ρ : Key → Loc) (w : World), Calls Try.prog f (trs ρ args).toArray w fun e w' => e = .returned (LV.tr ρ v) ∧ Below w.heap.size w w'
theorem Calls2.of {f : FuncId} {n : Nat} {s : ByteArray} {S : Sig Fe} (hS : SigOk Try.prog S) (hI : S.inp = noIF) {a : Fe} {c : Cnd} (h : (callF Try.prog S n f [.str s] []).map (fun r => (r.1, r.2.2)) = some (.agg [.abs a], c)) (hc : condOk c) : Calls2 f [.str s] (.agg [.abs a]) :=
  ⟨rfl, fun ρ w => plain_callF hS hI h hc (fun _ _ => rfl) ⟨trivial, trivial⟩ (fun _ _ => rfl) ρ w⟩
def sGx : List UInt8 := [49, 55, 102, 49, 100, 51, 97, 55, 51, 49, 57, 55, 100, 55, 57, 52, 50, 54, 57, 53, 54, 51, 56, 99, 52, 102, 97, 57, 97, 99, 48, 102, 99, 51, 54, 56, 56, 99, 52, 102, 57, 55, 55, 52, 98, 57, 48, 53, 97, 49, 52, 101, 51, 97, 51, 102, 49, 55, 49, 98, 97, 99, 53, 56, 54, 99, 53, 53, 101, 56, 51, 102, 102, 57, 55, 97, 49, 97, 101, 102, 102, 98, 51, 97, 102, 48, 48, 97, 100, 98, 50, 50, 99, 54, 98, 98]
def sGy : List UInt8 := [56, 98, 51, 102, 52, 56, 49, 101, 51, 97, 97, 97, 48, 102, 49, 97, 48, 57, 101, 51, 48, 101, 100, 55, 52, 49, 100, 56, 97, 101, 52, 102, 99, 102, 53, 101, 48, 57, 53, 100, 53, 100, 48, 48, 97, 102, 54, 48, 48, 100, 98, 49, 56, 99, 98, 50, 99, 48, 52, 98, 51, 101, 100, 100, 48, 51, 99, 99, 55, 52, 52, 97, 50, 56, 56, 56, 97, 101, 52, 48, 99, 97, 97, 50, 51, 50, 57, 52, 54, 99, 53, 101, 55, 101, 49]
def sThird : List UInt8 := [53, 102, 49, 57, 54, 55, 50, 102, 100, 102, 55, 54, 99, 101, 53, 49, 98, 97, 54, 57, 99, 54, 48, 55, 54, 97, 48, 102, 55, 55, 101, 97, 100, 100, 98, 51, 97, 57, 51, 98, 101, 54, 102, 56, 57, 54, 56, 56, 100, 101, 49, 55, 100, 56, 49, 51, 54, 50, 48, 97, 48, 48, 48, 50, 50, 101, 48, 49, 102, 102, 102, 102, 102, 102, 102, 101, 102, 102, 102, 101]
def fGx : Fe := fmul (ofSix 18103045581585958587 7806400890582735599 11623291730934869080 14080658508445169925 2780237799254240271 1725392847304644500) ftwo
def fGy : Fe := fmul (ofSix 912580534683953121 15005087156090211044 61670280795567085 18227722000993880822 11573741888802228964 627113611842199793) ftwo
def fThird : Fe := fmul (ofSix 3315212275698040830 16003497378645147650 15975298377956497032 13432485098755684330 6852621763331149393 0) ftwo
--@run txxV := callF Try.prog (SGa noD [conMade]) 300 35 [.str ⟨⟨sGx⟩⟩] [] => .agg [.abs fGx]
--@[
set_option maxRecDepth 100000 in
def txxV_G  : Prop := (true = true ∧ true = true ∧ true = true ∧ true = true ∧ true = true ∧ true = true) ∧ (true = true ∧ true = true ∧ true = true ∧ true = true ∧ true = true ∧ true = true) ∧ (true = true ∧ true = true ∧ true = true ∧ true = true ∧ true = true ∧ true = true) ∧ (true = true ∧ true = true ∧ true = true ∧ true = true ∧ true = true ∧ true = true) ∧ (true = true ∧ true = true ∧ true = true ∧ true = true ∧ true = true ∧ true = true) ∧ (true = true ∧ true = true ∧ true = true ∧ true = true ∧ true = true ∧ true = true) ∧ (true = true ∧ true = true ∧ true = true ∧ true = true ∧ true = true ∧ true = true) ∧ (true = true ∧ true = true ∧ true = true ∧ true = true ∧ true = true ∧ true = true) ∧ (true = true ∧ true = true ∧ true = true ∧ true = true ∧ true = true ∧ true = true) ∧ (true = true ∧ true = true ∧ true = true ∧ true = true ∧ true = true ∧ true = true) ∧ (true = true ∧ true = true ∧ true = true ∧ true = true ∧ true = true ∧ true = true) ∧ (true = true ∧ true = true ∧ true = true ∧ true = true ∧ true = true ∧ true = true) ∧ (true = true ∧ true = true ∧ true = true ∧ true = true ∧ true = true ∧ true = true) ∧ (true = true ∧ true = true ∧ true = true ∧ true = true ∧ true = true ∧ true = true) ∧ (true = true ∧ true = true ∧ true = true ∧ true = true ∧ true = true ∧ true = true) ∧ (true = true ∧ true = true ∧ true = true ∧ true = true ∧ true = true ∧ true = true) ∧ (true = true ∧ true = true ∧ true = true ∧ true = true ∧ true = true ∧ true = true) ∧ (true = true ∧ true = true ∧ true = true ∧ true = true ∧ true = true ∧ true = true) ∧ (true = true ∧ true = true ∧ true = true ∧ true = true ∧ true = true ∧ true = true) ∧ (true = true ∧ true = true ∧ true = true ∧ true = true ∧ true = true ∧ true = true) ∧ (true = true ∧ true = true ∧ true = true ∧ true = true ∧ true = true ∧ true = true) ∧ (true = true ∧ true = true ∧ true = true ∧ true = true ∧ true = true ∧ true = true) ∧ (true = true ∧ true = true ∧ true = true ∧ true = true ∧ true = true ∧ true = true) ∧ (true = true ∧ true = true ∧ true = true ∧ true = true ∧ true = true ∧ true = true) ∧ (true = true ∧ true = true ∧ true = true ∧ true = true ∧ true = true ∧ true = true) ∧ (true = true ∧ true = true ∧ true = true ∧ true = true ∧ true = true ∧ true = true) ∧ (true = true ∧ true = true ∧ true = true ∧ true = true ∧ true = true ∧ true = true) ∧ (true = true ∧ true = true ∧ true = true ∧ true = true ∧ true = true ∧ true = true) ∧ (true = true ∧ true = true ∧ true = true ∧ true = true ∧ true = true ∧ true = true) ∧ (true = true ∧ true = true ∧ true = true ∧ true = true ∧ true = true ∧ true = true) ∧ (true = true ∧ true = true ∧ true = true ∧ true = true ∧ true = true ∧ true = true) ∧ (true = true ∧ true = true ∧ true = true ∧ true = true ∧ true = true ∧ true = true) ∧ (true = true ∧ true = true ∧ true = true ∧ true = true ∧ true = true ∧ true = true) ∧ (true = true ∧ true = true ∧ true = true ∧ true = true ∧ true = true ∧ true = true) ∧ (true = true ∧ true = true ∧ true = true ∧ true = true ∧ true = true ∧ true = true) ∧ (true = true ∧ true = true ∧ true = true ∧ true = true ∧ true = true ∧ true = true) ∧ (true = true ∧ true = true ∧ true = true ∧ true = true ∧ true = true ∧ true = true) ∧ (true = true ∧ true = true ∧ true = true ∧ true = true ∧ true = true ∧ true = true) ∧ (true = true ∧ true = true ∧ true = true ∧ true = true ∧ true = true ∧ true = true) ∧ (true = true ∧ true = true ∧ true = true ∧ true = true ∧ true = true ∧ true = true) ∧ (true = true ∧ true = true ∧ true = true ∧ true = true ∧ true = true ∧ true = true) ∧ (true = true ∧ true = true ∧ true = true ∧ true = true ∧ true = true ∧ true = true) ∧ (true = true ∧ true = true ∧ true = true ∧ true = true ∧ true = true ∧ true = true) ∧ (true = true ∧ true = true ∧ true = true ∧ true = true ∧ true = true ∧ true = true) ∧ (true = true ∧ true = true ∧ true = true ∧ true = true ∧ true = true ∧ true = true) ∧ (true = true ∧ true = true ∧ true = true ∧ true = true ∧ true = true ∧ true = true) ∧ (true = true ∧ true = true ∧ true = true ∧ true = true ∧ true = true ∧ true = true) ∧ (true = true ∧ true = true ∧ true = true ∧ true = true ∧ true = true ∧ true = true) ∧ (true = true ∧ true = true ∧ true = true ∧ true = true ∧ true = true ∧ true = true) ∧ (true = true ∧ true = true ∧ true = true ∧ true = true ∧ true = true ∧ true = true) ∧ (true = true ∧ true = true ∧ true = true ∧ true = true ∧ true = true ∧ true = true) ∧ (true = true ∧ true = true ∧ true = true ∧ true = true ∧ true = true ∧ true = true) ∧ (true = true ∧ true = true ∧ true = true ∧ true = true ∧ true = true ∧ true = true) ∧ (true = true ∧ true = true ∧ true = true ∧ true = true ∧ true = true ∧ true = true) ∧ (true = true ∧ true = true ∧ true = true ∧ true = true ∧ true = true ∧ true = true) ∧ (true = true ∧ true = true ∧ true = true ∧ true = true ∧ true = true ∧ true = true) ∧ (true = true ∧ true = true ∧ true = true ∧ true = true ∧ true = true ∧ true = true) ∧ (true = true ∧ true = true ∧ true = true ∧ true = true ∧ true = true ∧ true = true) ∧ (true = true ∧ true = true ∧ true = true ∧ true = true ∧ true = true ∧ true = true) ∧ (true = true ∧ true = true ∧ true = true ∧ true = true ∧ true = true ∧ true = true) ∧ (true = true ∧ true = true ∧ true = true ∧ true = true ∧ true = true ∧ true = true) ∧ (true = true ∧ true = true ∧ true = true ∧ true = true ∧ true = true ∧ true = true) ∧ (true = true ∧ true = true ∧ true = true ∧ true = true ∧ true = true ∧ true = true) ∧ (true = true ∧ true = true ∧ true = true ∧ true = true ∧ true = true ∧ true = true) ∧ (true = true ∧ true = true ∧ true = true ∧ true = true ∧ true = true ∧ true = true) ∧ (true = true ∧ true = true ∧ true = true ∧ true = true ∧ true = true ∧ true = true) ∧ (true = true ∧ true = true ∧ true = true ∧ true = true ∧ true = true ∧ true = true) ∧ (true = true ∧ true = true ∧ true = true ∧ true = true ∧ true = true ∧ true = true) ∧ (true = true ∧ true = true ∧ true = true ∧ true = true ∧ true = true ∧ true = true) ∧ (true = true ∧ true = true ∧ true = true ∧ true = true ∧ true = true ∧ true = true) ∧ (true = true ∧ true = true ∧ true = true ∧ true = true ∧ true = true ∧ true = true) ∧ (true = true ∧ true = true ∧ true = true ∧ true = true ∧ true = true ∧ true = true) ∧ (true = true ∧ true = true ∧ true = true ∧ true = true ∧ true = true ∧ true = true) ∧ (true = true ∧ true = true ∧ true = true ∧ true = true ∧ true = true ∧ true = true) ∧ (true = true ∧ true = true ∧ true = true ∧ true = true ∧ true = true ∧ true = true) ∧ (true = true ∧ true = true ∧ true = true ∧ true = true ∧ true = true ∧ true = true) ∧ (true = true ∧ true = true ∧ true = true ∧ true = true ∧ true = true ∧ true = true) ∧ (true = true ∧ true = true ∧ true = true ∧ true = true ∧ true = true ∧ true = true) ∧ (true = true ∧ true = true ∧ true = true ∧ true = true ∧ true = true ∧ true = true) ∧ (true = true ∧ true = true ∧ true = true ∧ true = true ∧ true = true ∧ true = true) ∧ (true = true ∧ true = true ∧ true = true ∧ true = true ∧ true = true ∧ true = true) ∧ (true = true ∧ true = true ∧ true = true ∧ true = true ∧ true = true ∧ true = true) ∧ (true = true ∧ true = true ∧ true = true ∧ true = true ∧ true = true ∧ true = true) ∧ (true = true ∧ true = true ∧ true = true ∧ true = true ∧ true = true ∧ true = true) ∧ (true = true ∧ true = true ∧ true = true ∧ true = true ∧ true = true ∧ true = true) ∧ (true = true ∧ true = true ∧ true = true ∧ true = true ∧ true = true ∧ true = true) ∧ (true = true ∧ true = true ∧ true = true ∧ true = true ∧ true = true ∧ true = true) ∧ (true = true ∧ true = true ∧ true = true ∧ true = true ∧ true = true ∧ true = true) ∧ (true = true ∧ true = true ∧ true = true ∧ true = true ∧ true = true ∧ true = true) ∧ (true = true ∧ true = true ∧ true = true ∧ true = true ∧ true = true ∧ true = true) ∧ (true = true ∧ true = true ∧ true = true ∧ true = true ∧ true = true ∧ true = true) ∧ (true = true ∧ true = true ∧ true = true ∧ true = true ∧ true = true ∧ true = true) ∧ (true = true ∧ true = true ∧ true = true ∧ true = true ∧ true = true ∧ true = true) ∧ (true = true ∧ true = true ∧ true = true ∧ true = true ∧ true = true ∧ true = true) ∧ (true = true ∧ true = true ∧ true = true ∧ true = true ∧ true = true ∧ true = true) ∧ (true = true ∧ true = true ∧ true = true ∧ true = true ∧ true = true ∧ true = true) ∧ true = true
set_option maxRecDepth 100000 in
theorem txxV  : (callF Try.prog (SGa noD [conMade]) 300 35 [.str ⟨⟨sGx⟩⟩] []).map (fun r => (r.1, r.2.2)) = some (.agg [.abs fGx], some (txxV_G )) := by kernel_rfl
set_option maxRecDepth 100000 in
theorem txxV_ok  : condOk (some (txxV_G )) := by unfold txxV_G condOk; and_intros <;> rfl
--@]
--@run txyV := callF Try.prog (SGa noD [conMade]) 300 35 [.str ⟨⟨sGy⟩⟩] [] => .agg [.abs fGy]
--@[
set_option maxRecDepth 100000 in
def txyV_G  : Prop := (true = true ∧ true = true ∧ true = true ∧ true = true ∧ true = true ∧ true = true) ∧ (true = true ∧ true = true ∧ true = true ∧ true = true ∧ true = true ∧ true = true) ∧ (true = true ∧ true = true ∧ true = true ∧ true = true ∧ true = true ∧ true = true) ∧ (true = true ∧ true = true ∧ true = true ∧ true = true ∧ true = true ∧ true = true) ∧ (true = true ∧ true = true ∧ true = true ∧ true = true ∧ true = true ∧ true = true) ∧ (true = true ∧ true = true ∧ true = true ∧ true = true ∧ true = true ∧ true = true) ∧ (true = true ∧ true = true ∧ true = true ∧ true = true ∧ true = true ∧ true = true) ∧ (true = true ∧ true = true ∧ true = true ∧ true = true ∧ true = true ∧ true = true) ∧ (true = true ∧ true = true ∧ true = true ∧ true = true ∧ true = true ∧ true = true) ∧ (true = true ∧ true = true ∧ true = true ∧ true = true ∧ true = true ∧ true = true) ∧ (true = true ∧ true = true ∧ true = true ∧ true = true ∧ true = true ∧ true = true) ∧ (true = true ∧ true = true ∧ true = true ∧ true = true ∧ true = true ∧ true = true) ∧ (true = true ∧ true = true ∧ true = true ∧ true = true ∧ true = true ∧ true = true) ∧ (true = true ∧ true = true ∧ true = true ∧ true = true ∧ true = true ∧ true = true) ∧ (true = true ∧ true = true ∧ true = true ∧ true = true ∧ true = true ∧ true = true) ∧ (true = true ∧ true = true ∧ true = true ∧ true = true ∧ true = true ∧ true = true) ∧ (true = true ∧ true = true ∧ true = true ∧ true = true ∧ true = true ∧ true = true) ∧ (true = true ∧ true = true ∧ true = true ∧ true = true ∧ true = true ∧ true = true) ∧ (true = true ∧ true = true ∧ true = true ∧ true = true ∧ true = true ∧ true = true) ∧ (true = true ∧ true = true ∧ true = true ∧ true = true ∧ true = true ∧ true = true) ∧ (true = true ∧ true = true ∧ true = true ∧ true = true ∧ true = true ∧ true = true) ∧ (true = true ∧ true = true ∧ true = true ∧ true = true ∧ true = true ∧ true = true) ∧ (true = true ∧ true = true ∧ true = true ∧ true = true ∧ true = true ∧ true = true) ∧ (true = true ∧ true = true ∧ true = true ∧ true = true ∧ true = true ∧ true = true) ∧ (true = true ∧ true = true ∧ true = true ∧ true = true ∧ true = true ∧ true = true) ∧ (true = true ∧ true = true ∧ true = true ∧ true = true ∧ true = true ∧ true = true) ∧ (true = true ∧ true = true ∧ true = true ∧ true = true ∧ true = true ∧ true = true) ∧ (true = true ∧ true = true ∧ true = true ∧ true = true ∧ true = true ∧ true = true) ∧ (true = true ∧ true = true ∧ true = true ∧ true = true ∧ true = true ∧ true = true) ∧ (true = true ∧ true = true ∧ true = true ∧ true = true ∧ true = true ∧ true = true) ∧ (true = true ∧ true = true ∧ true = true ∧ true = true ∧ true = true ∧ true = true) ∧ (true = true ∧ true = true ∧ true = true ∧ true = true ∧ true = true ∧ true = true) ∧ (true = true ∧ true = true ∧ true = true ∧ true = true ∧ true = true ∧ true = true) ∧ (true = true ∧ true = true ∧ true = true ∧ true = true ∧ true = true ∧ true = true) ∧ (true = true ∧ true = true ∧ true = true ∧ true = true ∧ true = true ∧ true = true) ∧ (true = true ∧ true = true ∧ true = true ∧ true = true ∧ true = true ∧ true = true) ∧ (true = true ∧ true = true ∧ true = true ∧ true = true ∧ true = true ∧ true = true) ∧ (true = true ∧ true = true ∧ true = true ∧ true = true ∧ true = true ∧ true = true) ∧ (true = true ∧ true = true ∧ true = true ∧ true = true ∧ true = true ∧ true = true) ∧ (true = true ∧ true = true ∧ true = true ∧ true = true ∧ true = true ∧ true = true) ∧ (true = true ∧ true = true ∧ true = true ∧ true = true ∧ true = true ∧ true = true) ∧ (true = true ∧ true = true ∧ true = true ∧ true = true ∧ true = true ∧ true = true) ∧ (true = true ∧ true = true ∧ true = true ∧ true = true ∧ true = true ∧ true = true) ∧ (true = true ∧ true = true ∧ true = true ∧ true = true ∧ true = true ∧ true = true) ∧ (true = true ∧ true = true ∧ true = true ∧ true = true ∧ true = true ∧ true = true) ∧ (true = true ∧ true = true ∧ true = true ∧ true = true ∧ true = true ∧ true = true) ∧ (true = true ∧ true = true ∧ true = true ∧ true = true ∧ true = true ∧ true = true) ∧ (true = true ∧ true = true ∧ true = true ∧ true = true ∧ true = true ∧ true = true) ∧ (true = true ∧ true = true ∧ true = true ∧ true = true ∧ true = true ∧ true = true) ∧ (true = true ∧ true = true ∧ true = true ∧ true = true ∧ true = true ∧ true = true) ∧ (true = true ∧ true = true ∧ true = true ∧ true = true ∧ true = true ∧ true = true) ∧ (true = true ∧ true = true ∧ true = true ∧ true = true ∧ true = true ∧ true = true) ∧ (true = true ∧ true = true ∧ true = true ∧ true = true ∧ true = true ∧ true = true) ∧ (true = true ∧ true = true ∧ true = true ∧ true = true ∧ true = true ∧ true = true) ∧ (true = true ∧ true = true ∧ true = true ∧ true = true ∧ true = true ∧ true = true) ∧ (true = true ∧ true = true ∧ true = true ∧ true = true ∧ true = true ∧ true = true) ∧ (true = true ∧ true = true ∧ true = true ∧ true = true ∧ true = true ∧ true = true) ∧ (true = true ∧ true = true ∧ true = true ∧ true = true ∧ true = true ∧ true = true) ∧ (true = true ∧ true = true ∧ true = true ∧ true = true ∧ true = true ∧ true = true) ∧ (true = true ∧ true = true ∧ true = true ∧ true = true ∧ true = true ∧ true = true) ∧ (true = true ∧ true = true ∧ true = true ∧ true = true ∧ true = true ∧ true = true) ∧ (true = true ∧ true = true ∧ true = true ∧ true = true ∧ true = true ∧ true = true) ∧ (true = true ∧ true = true ∧ true = true ∧ true = true ∧ true = true ∧ true = true) ∧ (true = true ∧ true = true ∧ true = true ∧ true = true ∧ true = true ∧ true = true) ∧ (true = true ∧ true = true ∧ true = true ∧ true = true ∧ true = true ∧ true = true) ∧ (true = true ∧ true = true ∧ true = true ∧ true = true ∧ true = true ∧ true = true) ∧ (true = true ∧ true = true ∧ true = true ∧ true = true ∧ true = true ∧ true = true) ∧ (true = true ∧ true = true ∧ true = true ∧ true = true ∧ true = true ∧ true = true) ∧ (true = true ∧ true = true ∧ true = true ∧ true = true ∧ true = true ∧ true = true) ∧ (true = true ∧ true = true ∧ true = true ∧ true = true ∧ true = true ∧ true = true) ∧ (true = true ∧ true = true ∧ true = true ∧ true = true ∧ true = true ∧ true = true) ∧ (true = true ∧ true = true ∧ true = true ∧ true = true ∧ true = true ∧ true = true) ∧ (true = true ∧ true = true ∧ true = true ∧ true = true ∧ true = true ∧ true = true) ∧ (true = true ∧ true = true ∧ true = true ∧ true = true ∧ true = true ∧ true = true) ∧ (true = true ∧ true = true ∧ true = true ∧ true = true ∧ true = true ∧ true = true) ∧ (true = true ∧ true = true ∧ true = true ∧ true = true ∧ true = true ∧ true = true) ∧ (true = true ∧ true = true ∧ true = true ∧ true = true ∧ true = true ∧ true = true) ∧ (true = true ∧ true = true ∧ true = true ∧ true = true ∧ true = true ∧ true = true) ∧ (true = true ∧ true = true ∧ true = true ∧ true = true ∧ true = true ∧ true = true) ∧ (true = true ∧ true = true ∧ true = true ∧ true = true ∧ true = true ∧ true = true) ∧ (true = true ∧ true = true ∧ true = true ∧ true = true ∧ true = true ∧ true = true) ∧ (true = true ∧ true = true ∧ true = true ∧ true = true ∧ true = true ∧ true = true) ∧ (true = true ∧ true = true ∧ true = true ∧ true = true ∧ true = true ∧ true = true) ∧ (true = true ∧ true = true ∧ true = true ∧ true = true ∧ true = true ∧ true = true) ∧ (true = true ∧ true = true ∧ true = true ∧ true = true ∧ true = true ∧ true = true) ∧ (true = true ∧ true = true ∧ true = true ∧ true = true ∧ true = true ∧ true = true) ∧ (true = true ∧ true = true ∧ true = true ∧ true = true ∧ true = true ∧ true = true) ∧ (true = true ∧ true = true ∧ true = true ∧ true = true ∧ true = true ∧ true = true) ∧ (true = true ∧ true = true ∧ true = true ∧ true = true ∧ true = true ∧ true = true) ∧ (true = true ∧ true = true ∧ true = true ∧ true = true ∧ true = true ∧ true = true) ∧ (true = true ∧ true = true ∧ true = true ∧ true = true ∧ true = true ∧ true = true) ∧ (true = true ∧ true = true ∧ true = true ∧ true = true ∧ true = true ∧ true = true) ∧ (true = true ∧ true = true ∧ true = true ∧ true = true ∧ true = true ∧ true = true) ∧ (true = true ∧ true = true ∧ true = true ∧ true = true ∧ true = true ∧ true = true) ∧ (true = true ∧ true = true ∧ true = true ∧ true = true ∧ true = true ∧ true = true) ∧ true = true
set_option maxRecDepth 100000 in
theorem txyV  : (callF Try.prog (SGa noD [conMade]) 300 35 [.str ⟨⟨sGy⟩⟩] []).map (fun r => (r.1, r.2.2)) = some (.agg [.abs fGy], some (txyV_G )) := by kernel_rfl
set_option maxRecDepth 100000 in
theorem txyV_ok  : condOk (some (txyV_G )) := by unfold txyV_G condOk; and_intros <;> rfl
--@]
--@run txtV := callF Try.prog (SGa noD [conMade]) 300 35 [.str ⟨⟨sThird⟩⟩] [] => .agg [.abs fThird]
--@[
set_option maxRecDepth 100000 in
def txtV_G  : Prop := (true = true ∧ true = true ∧ true = true ∧ true = true ∧ true = true ∧ true = true) ∧ (true = true ∧ true = true ∧ true = true ∧ true = true ∧ true = true ∧ true = true) ∧ (true = true ∧ true = true ∧ true = true ∧ true = true ∧ true = true ∧ true = true) ∧ (true = true ∧ true = true ∧ true = true ∧ true = true ∧ true = true ∧ true = true) ∧ (true = true ∧ true = true ∧ true = true ∧ true = true ∧ true = true ∧ true = true) ∧ (true = true ∧ true = true ∧ true = true ∧ true = true ∧ true = true ∧ true = true) ∧ (true = true ∧ true = true ∧ true = true ∧ true = true ∧ true = true ∧ true = true) ∧ (true = true ∧ true = true ∧ true = true ∧ true = true ∧ true = true ∧ true = true) ∧ (true = true ∧ true = true ∧ true = true ∧ true = true ∧ true = true ∧ true = true) ∧ (true = true ∧ true = true ∧ true = true ∧ true = true ∧ true = true ∧ true = true) ∧ (true = true ∧ true = true ∧ true = true ∧ true = true ∧ true = true ∧ true = true) ∧ (true = true ∧ true = true ∧ true = true ∧ true = true ∧ true = true ∧ true = true) ∧ (true = true ∧ true = true ∧ true = true ∧ true = true ∧ true = true ∧ true = true) ∧ (true = true ∧ true = true ∧ true = true ∧ true = true ∧ true = true ∧ true = true) ∧ (true = true ∧ true = true ∧ true = true ∧ true = true ∧ true = true ∧ true = true) ∧ (true = true ∧ true = true ∧ true = true ∧ true = true ∧ true = true ∧ true = true) ∧ (true = true ∧ true = true ∧ true = true ∧ true = true ∧ true = true ∧ true = true) ∧ (true = true ∧ true = true ∧ true = true ∧ true = true ∧ true = true ∧ true = true) ∧ (true = true ∧ true = true ∧ true = true ∧ true = true ∧ true = true ∧ true = true) ∧ (true = true ∧ true = true ∧ true = true ∧ true = true ∧ true = true ∧ true = true) ∧ (true = true ∧ true = true ∧ true = true ∧ true = true ∧ true = true ∧ true = true) ∧ (true = true ∧ true = true ∧ true = true ∧ true = true ∧ true = true ∧ true = true) ∧ (true = true ∧ true = true ∧ true = true ∧ true = true ∧ true = true ∧ true = true) ∧ (true = true ∧ true = true ∧ true = true ∧ true = true ∧ true = true ∧ true = true) ∧ (true = true ∧ true = true ∧ true = true ∧ true = true ∧ true = true ∧ true = true) ∧ (true = true ∧ true = true ∧ true = true ∧ true = true ∧ true = true ∧ true = true) ∧ (true = true ∧ true = true ∧ true = true ∧ true = true ∧ true = true ∧ true = true) ∧ (true = true ∧ true = true ∧ true = true ∧ true = true ∧ true = true ∧ true = true) ∧ (true = true ∧ true = true ∧ true = true ∧ true = true ∧ true = true ∧ true = true) ∧ (true = true ∧ true = true ∧ true = true ∧ true = true ∧ true = true ∧ true = true) ∧ (true = true ∧ true = true ∧ true = true ∧ true = true ∧ true = true ∧ true = true) ∧ (true = true ∧ true = true ∧ true = true ∧ true = true ∧ true = true ∧ true = true) ∧ (true = true ∧ true = true ∧ true = true ∧ true = true ∧ true = true ∧ true = true) ∧ (true = true ∧ true = true ∧ true = true ∧ true = true ∧ true = true ∧ true = true) ∧ (true = true ∧ true = true ∧ true = true ∧ true = true ∧ true = true ∧ true = true) ∧ (true = true ∧ true = true ∧ true = true ∧ true = true ∧ true = true ∧ true = true) ∧ (true = true ∧ true = true ∧ true = true ∧ true = true ∧ true = true ∧ true = true) ∧ (true = true ∧ true = true ∧ true = true ∧ true = true ∧ true = true ∧ true = true) ∧ (true = true ∧ true = true ∧ true = true ∧ true = true ∧ true = true ∧ true = true) ∧ (true = true ∧ true = true ∧ true = true ∧ true = true ∧ true = true ∧ true = true) ∧ (true = true ∧ true = true ∧ true = true ∧ true = true ∧ true = true ∧ true = true) ∧ (true = true ∧ true = true ∧ true = true ∧ true = true ∧ true = true ∧ true = true) ∧ (true = true ∧ true = true ∧ true = true ∧ true = true ∧ true = true ∧ true = true) ∧ (true = true ∧ true = true ∧ true = true ∧ true = true ∧ true = true ∧ true = true) ∧ (true = true ∧ true = true ∧ true = true ∧ true = true ∧ true = true ∧ true = true) ∧ (true = true ∧ true = true ∧ true = true ∧ true = true ∧ true = true ∧ true = true) ∧ (true = true ∧ true = true ∧ true = true ∧ true = true ∧ true = true ∧ true = true) ∧ (true = true ∧ true = true ∧ true = true ∧ true = true ∧ true = true ∧ true = true) ∧ (true = true ∧ true = true ∧ true = true ∧ true = true ∧ true = true ∧ true = true) ∧ (true = true ∧ true = true ∧ true = true ∧ true = true ∧ true = true ∧ true = true) ∧ (true = true ∧ true = true ∧ true = true ∧ true = true ∧ true = true ∧ true = true) ∧ (true = true ∧ true = true ∧ true = true ∧ true = true ∧ true = true ∧ true = true) ∧ (true = true ∧ true = true ∧ true = true ∧ true = true ∧ true = true ∧ true = true) ∧ (true = true ∧ true = true ∧ true = true ∧ true = true ∧ true = true ∧ true = true) ∧ (true = true ∧ true = true ∧ true = true ∧ true = true ∧ true = true ∧ true = true) ∧ (true = true ∧ true = true ∧ true = true ∧ true = true ∧ true = true ∧ true = true) ∧ (true = true ∧ true = true ∧ true = true ∧ true = true ∧ true = true ∧ true = true) ∧ (true = true ∧ true = true ∧ true = true ∧ true = true ∧ true = true ∧ true = true) ∧ (true = true ∧ true = true ∧ true = true ∧ true = true ∧ true = true ∧ true = true) ∧ (true = true ∧ true = true ∧ true = true ∧ true = true ∧ true = true ∧ true = true) ∧ (true = true ∧ true = true ∧ true = true ∧ true = true ∧ true = true ∧ true = true) ∧ (true = true ∧ true = true ∧ true = true ∧ true = true ∧ true = true ∧ true = true) ∧ (true = true ∧ true = true ∧ true = true ∧ true = true ∧ true = true ∧ true = true) ∧ (true = true ∧ true = true ∧ true = true ∧ true = true ∧ true = true ∧ true = true) ∧ (true = true ∧ true = true ∧ true = true ∧ true = true ∧ true = true ∧ true = true) ∧ (true = true ∧ true = true ∧ true = true ∧ true = true ∧ true = true ∧ true = true) ∧ (true = true ∧ true = true ∧ true = true ∧ true = true ∧ true = true ∧ true = true) ∧ (true = true ∧ true = true ∧ true = true ∧ true = true ∧ true = true ∧ true = true) ∧ (true = true ∧ true = true ∧ true = true ∧ true = true ∧ true = true ∧ true = true) ∧ (true = true ∧ true = true ∧ true = true ∧ true = true ∧ true = true ∧ true = true) ∧ (true = true ∧ true = true ∧ true = true ∧ true = true ∧ true = true ∧ true = true) ∧ (true = true ∧ true = true ∧ true = true ∧ true = true ∧ true = true ∧ true = true) ∧ (true = true ∧ true = true ∧ true = true ∧ true = true ∧ true = true ∧ true = true) ∧ (true = true ∧ true = true ∧ true = true ∧ true = true ∧ true = true ∧ true = true) ∧ (true = true ∧ true = true ∧ true = true ∧ true = true ∧ true = true ∧ true = true) ∧ (true = true ∧ true = true ∧ true = true ∧ true = true ∧ true = true ∧ true = true) ∧ (true = true ∧ true = true ∧ true = true ∧ true = true ∧ true = true ∧ true = true) ∧ (true = true ∧ true = true ∧ true = true ∧ true = true ∧ true = true ∧ true = true) ∧ (true = true ∧ true = true ∧ true = true ∧ true = true ∧ true = true ∧ true = true) ∧ (true = true ∧ true = true ∧ true = true ∧ true = true ∧ true = true ∧ true = true) ∧ true = true
set_option maxRecDepth 100000 in
theorem txtV  : (callF Try.prog (SGa noD [conMade]) 300 35 [.str ⟨⟨sThird⟩⟩] []).map (fun r => (r.1, r.2.2)) = some (.agg [.abs fThird], some (txtV_G )) := by kernel_rfl
set_option maxRecDepth 100000 in
theorem txtV_ok  : condOk (some (txtV_G )) := by unfold txtV_G condOk; and_intros <;> rfl
--@]
set_option maxRecDepth 100000 in
theorem entText : ∀ args w, (callFunc 35 args).run Try.prog w = .ok (.enter 35 args) w := ent_of (f := 35) (P := Try.prog) rfl rfl rfl
def textFn : List (LV Fe) → Option (LV Fe)
  | [.str s] => match eqBs s.data.toList sGx with
    | true => some (.agg [.abs fGx])
    | false => match eqBs s.data.toList sGy with
      | true => some (.agg [.abs fGy])
      | false => match eqBs s.data.toList sThird with
        | true => some (.agg [.abs fThird])
        | false => none
  | _ => none
theorem textFn_runs {vs : List (LV Fe)} {v : LV Fe} (h : textFn vs = some v) : Calls2 35 vs v := by
  unfold textFn at h
  split at h
  · rename_i s
    have es : ∀ l, s.data.toList = l → s = ⟨⟨l⟩⟩ := fun l e => by subst e; rfl
    split at h
    · rename_i e
      cases h
      rw [es _ (eqBs_list e)]
      exact .of (SGa_ok _ _) rfl txxV txxV_ok
    · split at h
      · rename_i e
        cases h
        rw [es _ (eqBs_list e)]
        exact .of (SGa_ok _ _) rfl txyV txyV_ok
      · split at h
        · rename_i e
          cases h
          rw [es _ (eqBs_list e)]
          exact .of (SGa_ok _ _) rfl txtV txtV_ok
        · cases h
  · cases h
noncomputable def conText : ConP Try.prog Fe where
  f := 35
  fn := textFn
  ent := entText
  kin vs v h p := pv_kin p _ (textFn_runs h).plain
  call vs v h ρ w := (textFn_runs h).run ρ w
end Go.Proofs.Ytcedljbapgmdmaa.En

/- DERIVED. The first group's points as contracts. -/
set_option linter.all false
namespace Go.Proofs.Ytcedljbapgmdmaa.En
open Go Go.RowKit

/-- Told beside the tests: which functions aren't walked in place, which regions' loads read what the region doesn't write. -/
def advP (d : FuncId → Nat → Nat → Option Bool) (ils : List FuncId) (pls : List (FuncId × Nat)) : Adv :=
  { advF d with il := fun f => !memK ils f, pl := fun f r => pls.any fun x => Nat.beq x.1 f && Nat.beq x.2 r }
noncomputable abbrev psH : List (ConP Try.prog Fe) := [conInv, conCXY, conMade, conSqC, conNumber, conOf, conText]
noncomputable abbrev SGb (d : FuncId → Nat → Nat → Option Bool) (ps : List (ConP Try.prog Fe)) : Sig Fe := SGa d (psH ++ ps)
noncomputable abbrev SGm (A : Adv) (ps : List (ConP Try.prog Fe)) : Sig Fe := sigOf (P := Try.prog) ([conFAdd, conFSub, conFMul, conFSquare, conFNeg, conFIsZero, conFEqual, conTwice] ++ (psG ++ (psH ++ ps))) [] [conCMul] (I := noIF) [] msF A
theorem SGm_ok (A : Adv) (ps : List (ConP Try.prog Fe)) : SigOk Try.prog (SGm A ps) := sigOf_ok _ [] [conCMul] [] msF_ok _ noIF_ok
def sideF (x : Fe) : Fe := fadd (fmul (fmul x x) x) four
set_option maxRecDepth 100000 in
theorem entSide : ∀ args w, (callFunc 27 args).run Try.prog w = .ok (.enter 27 args) w := ent_of (f := 27) (P := Try.prog) rfl rfl rfl
--@run sidV (a : Fe) := callF Try.prog (SGb noD []) 60 27 [bF [a]] [] => .agg [.abs (sideF a)]
--@[
set_option maxRecDepth 100000 in
def sidV_G (a : Fe) : Prop := true = true
set_option maxRecDepth 100000 in
theorem sidV (a : Fe) : (callF Try.prog (SGb noD []) 60 27 [bF [a]] []).map (fun r => (r.1, r.2.2)) = some (.agg [.abs (sideF a)], some (sidV_G a)) := by kernel_rfl
set_option maxRecDepth 100000 in
theorem sidV_ok (a : Fe) : condOk (some (sidV_G a)) := by unfold sidV_G condOk; and_intros <;> rfl
--@]
noncomputable def conSide : ConP Try.prog Fe := mkP 27 entSide [1] (fun a => .agg [.abs (sideF a)]) fun a => .of (SGa_ok _ _) rfl (sidV a) (sidV_ok a) rfl rfl
set_option maxRecDepth 100000 in
theorem entGOne : ∀ args w, (callFunc 28 args).run Try.prog w = .ok (.enter 28 args) w := ent_of (f := 28) (P := Try.prog) rfl rfl rfl
--@run gonV := callF Try.prog (SGb noD []) 60 28 [] [] => .agg [.abs fOne]
--@[
set_option maxRecDepth 100000 in
def gonV_G  : Prop := true = true
set_option maxRecDepth 100000 in
theorem gonV  : (callF Try.prog (SGb noD []) 60 28 [] []).map (fun r => (r.1, r.2.2)) = some (.agg [.abs fOne], some (gonV_G )) := by kernel_rfl
set_option maxRecDepth 100000 in
theorem gonV_ok  : condOk (some (gonV_G )) := by unfold gonV_G condOk; and_intros <;> rfl
--@]
noncomputable def conGOne : ConP Try.prog Fe := mk0 28 entGOne (.agg [.abs fOne]) (.of (SGa_ok _ _) rfl gonV gonV_ok rfl rfl)
/-! ## a point of its numbers -/
def affT (x y : Fe) : Bool := feq (fmul y y) (sideF x)
def affF (x y : Fe) : Pt := bif affT x y then (x, y, fOne) else zPt
set_option maxRecDepth 100000 in
theorem entAff : ∀ args w, (callFunc 7 args).run Try.prog w = .ok (.enter 7 args) w := ent_of (f := 7) (P := Try.prog) rfl rfl rfl
--@run af1V (a b : Fe) := callF Try.prog (SGb (dci 7 [(1, 4, true)]) [conSide, conGOne]) 60 7 [bF [a], bF [b]] [] => .tup [ptV (a, b, fOne), .bool true]
--@[
set_option maxRecDepth 100000 in
def af1V_G (a b : Fe) : Prop := feq (fmul b b) (sideF a) = true ∧ true = true
set_option maxRecDepth 100000 in
theorem af1V (a b : Fe) : (callF Try.prog (SGb (dci 7 [(1, 4, true)]) [conSide, conGOne]) 60 7 [bF [a], bF [b]] []).map (fun r => (r.1, r.2.2)) = some (.tup [ptV (a, b, fOne), .bool true], some (af1V_G a b)) := by kernel_rfl
--@]
--@run af2V (a b : Fe) := callF Try.prog (SGb (dci 7 [(1, 4, false)]) [conSide, conGOne]) 60 7 [bF [a], bF [b]] [] => .tup [.agg zB, .bool false]
--@[
set_option maxRecDepth 100000 in
def af2V_G (a b : Fe) : Prop := feq (fmul b b) (sideF a) = false ∧ true = true
set_option maxRecDepth 100000 in
theorem af2V (a b : Fe) : (callF Try.prog (SGb (dci 7 [(1, 4, false)]) [conSide, conGOne]) 60 7 [bF [a], bF [b]] []).map (fun r => (r.1, r.2.2)) = some (.tup [.agg zB, .bool false], some (af2V_G a b)) := by kernel_rfl
--@]
theorem aff_runs (a b : Fe) : Runs 7 [bF [a], bF [b]] (.tup [ptV (affF a b), .bool (affT a b)]) := by
  cases h : affT a b with
  | true =>
    rw [show affF a b = (a, b, fOne) by unfold affF; rw [h]; rfl]
    unfold affT at h
    exact .of (SGa_ok _ _) rfl (af1V a b) (by unfold condOk af1V_G; and_intros <;> first | with_reducible rfl | assumption) rfl rfl
  | false =>
    rw [show affF a b = zPt by unfold affF; rw [h]; rfl]
    unfold affT at h
    refine (Runs.of (SGa_ok _ _) rfl (af2V a b) (by unfold condOk af2V_G; and_intros <;> first | with_reducible rfl | assumption) rfl rfl).as rfl fun ρ => ?_
    exact congrArg (fun v : Value => Value.tuple #[v, .bool false]) (zPt_tr ρ)
noncomputable def conAff : ConP Try.prog Fe := mkP 7 entAff [1, 1] (fun a b => .tup [ptV (affF a b), .bool (affT a b)]) aff_runs
/-! ## its numbers -/
def gxyX (p : Pt) : Fe := bif isz p.2.2 then zE else xyX p
def gxyY (p : Pt) : Fe := bif isz p.2.2 then zE else xyY p
set_option maxRecDepth 100000 in
theorem entGXY : ∀ args w, (callFunc 11 args).run Try.prog w = .ok (.enter 11 args) w := ent_of (f := 11) (P := Try.prog) rfl rfl rfl
abbrev z6V : LV Fe := .agg [.int .u64 0, .int .u64 0, .int .u64 0, .int .u64 0, .int .u64 0, .int .u64 0]
theorem z6_tr (ρ : Key → Loc) : LV.tr ρ z6V = LV.tr ρ (.agg [.abs zE] : LV Fe) := by kernel_rfl
--@run gx1V (a b c : Fe) := callF Try.prog (SGb (dci 11 [(1, 1, true)]) []) 60 11 [bF [a, b, c]] [] => .tup [z6V, z6V, .bool false]
--@[
set_option maxRecDepth 100000 in
def gx1V_G (a b c : Fe) : Prop := isz c = true ∧ true = true ∧ true = true
set_option maxRecDepth 100000 in
theorem gx1V (a b c : Fe) : (callF Try.prog (SGb (dci 11 [(1, 1, true)]) []) 60 11 [bF [a, b, c]] []).map (fun r => (r.1, r.2.2)) = some (.tup [z6V, z6V, .bool false], some (gx1V_G a b c)) := by kernel_rfl
--@]
--@run gx2V (a b c : Fe) := callF Try.prog (SGm (advP (dci 11 [(1, 1, false)]) [44] [(11, 4)]) []) 60 11 [bF [a, b, c]] [] => .tup [.agg [.abs (xyX (a, b, c))], .agg [.abs (xyY (a, b, c))], .bool true]
--@[
set_option maxRecDepth 100000 in
def gx2V_G (a b c : Fe) : Prop := isz c = false ∧ (true = true ∧ true = true) ∧ true = true ∧ true = true
set_option maxRecDepth 100000 in
theorem gx2V (a b c : Fe) : (callF Try.prog (SGm (advP (dci 11 [(1, 1, false)]) [44] [(11, 4)]) []) 60 11 [bF [a, b, c]] []).map (fun r => (r.1, r.2.2)) = some (.tup [.agg [.abs (xyX (a, b, c))], .agg [.abs (xyY (a, b, c))], .bool true], some (gx2V_G a b c)) := by kernel_rfl
--@]
theorem gxy_runs (a b c : Fe) : Runs 11 [bF [a, b, c]] (.tup [.agg [.abs (gxyX (a, b, c))], .agg [.abs (gxyY (a, b, c))], .bool (!isz c)]) := by
  cases h : isz c with
  | true =>
    rw [show gxyX (a, b, c) = zE by unfold gxyX; rw [h]; rfl, show gxyY (a, b, c) = zE by unfold gxyY; rw [h]; rfl]
    refine (Runs.of (SGa_ok _ _) rfl (gx1V a b c) (by unfold condOk gx1V_G; and_intros <;> first | with_reducible rfl | assumption) rfl rfl).as rfl fun ρ => ?_
    show Value.tuple #[LV.tr ρ z6V, LV.tr ρ z6V, .bool false] = Value.tuple #[LV.tr ρ (.agg [.abs zE] : LV Fe), LV.tr ρ (.agg [.abs zE] : LV Fe), .bool false]
    rw [z6_tr]
  | false =>
    rw [show gxyX (a, b, c) = xyX (a, b, c) by unfold gxyX; rw [h]; rfl, show gxyY (a, b, c) = xyY (a, b, c) by unfold gxyY; rw [h]; rfl]
    exact .of (SGm_ok _ _) rfl (gx2V a b c) (by unfold condOk gx2V_G; and_intros <;> first | with_reducible rfl | assumption) rfl rfl
noncomputable def conGXY : ConP Try.prog Fe := mkP 11 entGXY [3] (fun a b c => .tup [.agg [.abs (gxyX (a, b, c))], .agg [.abs (gxyY (a, b, c))], .bool (!isz c)]) gxy_runs
/-! ## the generator; times u -/
set_option maxRecDepth 100000 in
theorem entGen : ∀ args w, (callFunc 14 args).run Try.prog w = .ok (.enter 14 args) w := ent_of (f := 14) (P := Try.prog) rfl rfl rfl
--@run genV := callF Try.prog (SGb noD [conAff]) 60 14 [] [] => ptV (affF fGx fGy)
--@[
set_option maxRecDepth 100000 in
def genV_G  : Prop := true = true ∧ true = true
set_option maxRecDepth 100000 in
theorem genV  : (callF Try.prog (SGb noD [conAff]) 60 14 [] []).map (fun r => (r.1, r.2.2)) = some (ptV (affF fGx fGy), some (genV_G )) := by kernel_rfl
set_option maxRecDepth 100000 in
theorem genV_ok  : condOk (some (genV_G )) := by unfold genV_G condOk; and_intros <;> rfl
--@]
def genF : Pt := affF fGx fGy
noncomputable def conGen : ConP Try.prog Fe := mk0 14 entGen (ptV genF) (.of (SGa_ok _ _) rfl genV genV_ok rfl rfl)
def uBytes (j : Nat) : Int := ([210, 1, 0, 0, 0, 1, 0, 0] : List Int).getD j 0
/-- u times; the kernel doesn't open it. -/
noncomputable def mlu (a b c : Fe) : Pt := Classical.choose (p := fun q => q = mulF (a, b, c) 8 uBytes) ⟨_, rfl⟩
theorem mlu_eq (a b c : Fe) : mlu a b c = mulF (a, b, c) 8 uBytes := Classical.choose_spec (p := fun q => q = mulF (a, b, c) 8 uBytes) ⟨_, rfl⟩
--@run mluV (a b c : Fe) := callF Try.prog (SGm (advP noD [44] []) []) 60 42 [bF [a, b, c]] [] => ptV (mulF (a, b, c) 8 uBytes)
--@[
set_option maxRecDepth 100000 in
def mluV_G (a b c : Fe) : Prop := (Bys.c { us := [LV.rows 8 1 fun (j : Nat) => [LV.int (A := Fe) IntKind.u8 (byteOf (A := Fe) (List.getD (List.set (List.set (List.set (List.set (List.set (List.set (List.set (List.set (List.replicate 8 (units (A := Fe) (LV.int IntKind.u8 ((0 : Int))))) 0 (units (A := Fe) (LV.int IntKind.u8 ((210 : Int))))) 1 (units (A := Fe) (LV.int IntKind.u8 ((1 : Int))))) 2 (units (A := Fe) (LV.int IntKind.u8 ((0 : Int))))) 3 (units (A := Fe) (LV.int IntKind.u8 ((0 : Int))))) 4 (units (A := Fe) (LV.int IntKind.u8 ((0 : Int))))) 5 (units (A := Fe) (LV.int IntKind.u8 ((1 : Int))))) 6 (units (A := Fe) (LV.int IntKind.u8 ((0 : Int))))) 7 (units (A := Fe) (LV.int IntKind.u8 ((0 : Int))))) j []))]], n := 8, f := fun (j : Nat) => byteOf (A := Fe) (List.getD (List.set (List.set (List.set (List.set (List.set (List.set (List.set (List.set (List.replicate 8 (units (A := Fe) (LV.int IntKind.u8 ((0 : Int))))) 0 (units (A := Fe) (LV.int IntKind.u8 ((210 : Int))))) 1 (units (A := Fe) (LV.int IntKind.u8 ((1 : Int))))) 2 (units (A := Fe) (LV.int IntKind.u8 ((0 : Int))))) 3 (units (A := Fe) (LV.int IntKind.u8 ((0 : Int))))) 4 (units (A := Fe) (LV.int IntKind.u8 ((0 : Int))))) 5 (units (A := Fe) (LV.int IntKind.u8 ((1 : Int))))) 6 (units (A := Fe) (LV.int IntKind.u8 ((0 : Int))))) 7 (units (A := Fe) (LV.int IntKind.u8 ((0 : Int))))) j []), c := ∀ (j : Nat), j < 8 → Like (A := Fe) (List.getD (List.set (List.set (List.set (List.set (List.set (List.set (List.set (List.set (List.replicate 8 (units (A := Fe) (LV.int IntKind.u8 ((0 : Int))))) 0 (units (A := Fe) (LV.int IntKind.u8 ((210 : Int))))) 1 (units (A := Fe) (LV.int IntKind.u8 ((1 : Int))))) 2 (units (A := Fe) (LV.int IntKind.u8 ((0 : Int))))) 3 (units (A := Fe) (LV.int IntKind.u8 ((0 : Int))))) 4 (units (A := Fe) (LV.int IntKind.u8 ((0 : Int))))) 5 (units (A := Fe) (LV.int IntKind.u8 ((1 : Int))))) 6 (units (A := Fe) (LV.int IntKind.u8 ((0 : Int))))) 7 (units (A := Fe) (LV.int IntKind.u8 ((0 : Int))))) j []) [LV.int IntKind.u8 (byteOf (A := Fe) (List.getD (List.set (List.set (List.set (List.set (List.set (List.set (List.set (List.set (List.replicate 8 (units (A := Fe) (LV.int IntKind.u8 ((0 : Int))))) 0 (units (A := Fe) (LV.int IntKind.u8 ((210 : Int))))) 1 (units (A := Fe) (LV.int IntKind.u8 ((1 : Int))))) 2 (units (A := Fe) (LV.int IntKind.u8 ((0 : Int))))) 3 (units (A := Fe) (LV.int IntKind.u8 ((0 : Int))))) 4 (units (A := Fe) (LV.int IntKind.u8 ((0 : Int))))) 5 (units (A := Fe) (LV.int IntKind.u8 ((1 : Int))))) 6 (units (A := Fe) (LV.int IntKind.u8 ((0 : Int))))) 7 (units (A := Fe) (LV.int IntKind.u8 ((0 : Int))))) j []))] } ∧ 8 = 8 ∧ rngB (Bys.f { us := [LV.rows 8 1 fun (j : Nat) => [LV.int (A := Fe) IntKind.u8 (byteOf (A := Fe) (List.getD (List.set (List.set (List.set (List.set (List.set (List.set (List.set (List.set (List.replicate 8 (units (A := Fe) (LV.int IntKind.u8 ((0 : Int))))) 0 (units (A := Fe) (LV.int IntKind.u8 ((210 : Int))))) 1 (units (A := Fe) (LV.int IntKind.u8 ((1 : Int))))) 2 (units (A := Fe) (LV.int IntKind.u8 ((0 : Int))))) 3 (units (A := Fe) (LV.int IntKind.u8 ((0 : Int))))) 4 (units (A := Fe) (LV.int IntKind.u8 ((0 : Int))))) 5 (units (A := Fe) (LV.int IntKind.u8 ((1 : Int))))) 6 (units (A := Fe) (LV.int IntKind.u8 ((0 : Int))))) 7 (units (A := Fe) (LV.int IntKind.u8 ((0 : Int))))) j []))]], n := 8, f := fun (j : Nat) => byteOf (A := Fe) (List.getD (List.set (List.set (List.set (List.set (List.set (List.set (List.set (List.set (List.replicate 8 (units (A := Fe) (LV.int IntKind.u8 ((0 : Int))))) 0 (units (A := Fe) (LV.int IntKind.u8 ((210 : Int))))) 1 (units (A := Fe) (LV.int IntKind.u8 ((1 : Int))))) 2 (units (A := Fe) (LV.int IntKind.u8 ((0 : Int))))) 3 (units (A := Fe) (LV.int IntKind.u8 ((0 : Int))))) 4 (units (A := Fe) (LV.int IntKind.u8 ((0 : Int))))) 5 (units (A := Fe) (LV.int IntKind.u8 ((1 : Int))))) 6 (units (A := Fe) (LV.int IntKind.u8 ((0 : Int))))) 7 (units (A := Fe) (LV.int IntKind.u8 ((0 : Int))))) j []), c := ∀ (j : Nat), j < 8 → Like (A := Fe) (List.getD (List.set (List.set (List.set (List.set (List.set (List.set (List.set (List.set (List.replicate 8 (units (A := Fe) (LV.int IntKind.u8 ((0 : Int))))) 0 (units (A := Fe) (LV.int IntKind.u8 ((210 : Int))))) 1 (units (A := Fe) (LV.int IntKind.u8 ((1 : Int))))) 2 (units (A := Fe) (LV.int IntKind.u8 ((0 : Int))))) 3 (units (A := Fe) (LV.int IntKind.u8 ((0 : Int))))) 4 (units (A := Fe) (LV.int IntKind.u8 ((0 : Int))))) 5 (units (A := Fe) (LV.int IntKind.u8 ((1 : Int))))) 6 (units (A := Fe) (LV.int IntKind.u8 ((0 : Int))))) 7 (units (A := Fe) (LV.int IntKind.u8 ((0 : Int))))) j []) [LV.int IntKind.u8 (byteOf (A := Fe) (List.getD (List.set (List.set (List.set (List.set (List.set (List.set (List.set (List.set (List.replicate 8 (units (A := Fe) (LV.int IntKind.u8 ((0 : Int))))) 0 (units (A := Fe) (LV.int IntKind.u8 ((210 : Int))))) 1 (units (A := Fe) (LV.int IntKind.u8 ((1 : Int))))) 2 (units (A := Fe) (LV.int IntKind.u8 ((0 : Int))))) 3 (units (A := Fe) (LV.int IntKind.u8 ((0 : Int))))) 4 (units (A := Fe) (LV.int IntKind.u8 ((0 : Int))))) 5 (units (A := Fe) (LV.int IntKind.u8 ((1 : Int))))) 6 (units (A := Fe) (LV.int IntKind.u8 ((0 : Int))))) 7 (units (A := Fe) (LV.int IntKind.u8 ((0 : Int))))) j []))] }) 0 8 ∧ 64 ≤ 140737488351232) ∧ true = true
set_option maxRecDepth 100000 in
theorem mluV (a b c : Fe) : (callF Try.prog (SGm (advP noD [44] []) []) 60 42 [bF [a, b, c]] []).map (fun r => (r.1, r.2.2)) = some (ptV (mulF (a, b, c) 8 uBytes), some (mluV_G a b c)) := by kernel_rfl
--@]
end Go.Proofs.Ytcedljbapgmdmaa.En

/- DERIVED. Times u; is a point one of the group. -/
set_option linter.all false
namespace Go.Proofs.Ytcedljbapgmdmaa.En
open Go Go.RowKit

theorem mluG_ok (a b c : Fe) : condOk (some (mluV_G a b c)) := by
  unfold condOk mluV_G
  refine ⟨⟨?_, rfl, ?_, by decide⟩, rfl⟩
  · intro j hj
    match j, hj with
    | 0, _ => exact Like.refl _
    | 1, _ => exact Like.refl _
    | 2, _ => exact Like.refl _
    | 3, _ => exact Like.refl _
    | 4, _ => exact Like.refl _
    | 5, _ => exact Like.refl _
    | 6, _ => exact Like.refl _
    | 7, _ => exact Like.refl _
    | j + 8, h => exact absurd (show j + 8 < 8 from h) (by omega)
  · intro j hj
    match j, hj with
    | 0, _ => exact (by decide : (0 : Int) ≤ 210 ∧ (210 : Int) < 256)
    | 1, _ => exact (by decide : (0 : Int) ≤ 1 ∧ (1 : Int) < 256)
    | 2, _ => exact (by decide : (0 : Int) ≤ 0 ∧ (0 : Int) < 256)
    | 3, _ => exact (by decide : (0 : Int) ≤ 0 ∧ (0 : Int) < 256)
    | 4, _ => exact (by decide : (0 : Int) ≤ 0 ∧ (0 : Int) < 256)
    | 5, _ => exact (by decide : (0 : Int) ≤ 1 ∧ (1 : Int) < 256)
    | 6, _ => exact (by decide : (0 : Int) ≤ 0 ∧ (0 : Int) < 256)
    | 7, _ => exact (by decide : (0 : Int) ≤ 0 ∧ (0 : Int) < 256)
    | j + 8, h => exact absurd (show j + 8 < 8 from h) (by omega)
set_option maxRecDepth 100000 in
theorem entMulU : ∀ args w, (callFunc 42 args).run Try.prog w = .ok (.enter 42 args) w := ent_of (f := 42) (P := Try.prog) rfl rfl rfl
noncomputable def conMulU : ConP Try.prog Fe := mkP 42 entMulU [3] (fun a b c => ptV (mlu a b c)) fun a b c => (Runs.of (SGm_ok _ _) rfl (mluV a b c) (mluG_ok a b c) rfl rfl).as rfl fun ρ => by show LV.tr ρ (ptV (mulF (a, b, c) 8 uBytes)) = LV.tr ρ (ptV (mlu a b c)); rw [mlu_eq]
noncomputable def muu (a b c : Fe) : Pt := mlu (mlu a b c).1 (mlu a b c).2.1 (mlu a b c).2.2
noncomputable def igF (a b c : Fe) : Bool := ceqF (fmul a fThird, b, c) ((negF ((muu a b c).1, (muu a b c).2.1, (muu a b c).2.2)).1, (negF ((muu a b c).1, (muu a b c).2.1, (muu a b c).2.2)).2.1, (negF ((muu a b c).1, (muu a b c).2.1, (muu a b c).2.2)).2.2)
noncomputable def inGrpF (p : Pt) : Bool := bif isz p.2.2 then true else igF p.1 p.2.1 p.2.2
set_option maxRecDepth 100000 in
theorem entInGrp : ∀ args w, (callFunc 17 args).run Try.prog w = .ok (.enter 17 args) w := ent_of (f := 17) (P := Try.prog) rfl rfl rfl
--@run ig1V (a b c : Fe) := callF Try.prog (SGm (advP (dci 17 [(1, 1, true)]) [44] []) [conMulU]) 60 17 [bF [a, b, c]] [] => .bool true
--@[
set_option maxRecDepth 100000 in
def ig1V_G (a b c : Fe) : Prop := isz c = true
set_option maxRecDepth 100000 in
theorem ig1V (a b c : Fe) : (callF Try.prog (SGm (advP (dci 17 [(1, 1, true)]) [44] []) [conMulU]) 60 17 [bF [a, b, c]] []).map (fun r => (r.1, r.2.2)) = some (.bool true, some (ig1V_G a b c)) := by kernel_rfl
--@]
--@run ig2V (a b c : Fe) := callF Try.prog (SGm (advP (dci 17 [(1, 1, false)]) [44] []) [conMulU]) 60 17 [bF [a, b, c]] [] => .bool (igF a b c)
--@[
set_option maxRecDepth 100000 in
def ig2V_G (a b c : Fe) : Prop := isz c = false ∧ true = true ∧ true = true
set_option maxRecDepth 100000 in
theorem ig2V (a b c : Fe) : (callF Try.prog (SGm (advP (dci 17 [(1, 1, false)]) [44] []) [conMulU]) 60 17 [bF [a, b, c]] []).map (fun r => (r.1, r.2.2)) = some (.bool (igF a b c), some (ig2V_G a b c)) := by kernel_rfl
--@]
theorem inGrp_t {p : Pt} (h : isz p.2.2 = true) : inGrpF p = true := by unfold inGrpF; rw [h, cond_true]
theorem inGrp_f {p : Pt} (h : isz p.2.2 = false) : inGrpF p = igF p.1 p.2.1 p.2.2 := by unfold inGrpF; rw [h, cond_false]
theorem ig_runs (a b c : Fe) : Runs 17 [bF [a, b, c]] (.bool (inGrpF (a, b, c))) := by
  cases h : isz c with
  | true =>
    rw [inGrp_t (p := (a, b, c)) h]
    exact .of (SGm_ok _ _) rfl (ig1V a b c) (by unfold condOk ig1V_G; and_intros <;> first | with_reducible rfl | assumption) rfl rfl
  | false =>
    rw [inGrp_f (p := (a, b, c)) h]
    exact .of (SGm_ok _ _) rfl (ig2V a b c) (by unfold condOk ig2V_G; and_intros <;> first | with_reducible rfl | assumption) rfl rfl
noncomputable def conInGrp : ConP Try.prog Fe := mkP 17 entInGrp [3] (fun a b c => .bool (inGrpF (a, b, c))) ig_runs
end Go.Proofs.Ytcedljbapgmdmaa.En

/- DERIVED. A number's bytes. -/
set_option linter.all false
namespace Go.Proofs.Ytcedljbapgmdmaa.En
open Go Go.RowKit

def lbF (t : Nat → Int) (i : Nat) : Int := IntKind.u8.wrap ((t ((47 - i) / 8)).fdiv (2 ^ (8 * ((47 - i) % 8))))
def bytL {A : Type} (f : Nat → Int) : List (LV A) := (List.range 48).map fun i => .int .u8 (f i)
--@pre set_option maxRecDepth 100000
--@gen lbG (t : Nat → Int) := (callF Try.prog (SF fun _ _ _ => none) 300 77 [.agg (lim t)] []).map (fun r => r.2.2)
--@[
set_option maxRecDepth 100000 in
def lbG_G (t : Nat → Int) : Prop := (true = true ∧ true = true ∧ true = true ∧ true = true ∧ true = true ∧ true = true) ∧ (true = true ∧ true = true ∧ true = true ∧ true = true ∧ true = true ∧ true = true) ∧ (true = true ∧ true = true ∧ true = true ∧ true = true ∧ true = true ∧ true = true) ∧ (true = true ∧ true = true ∧ true = true ∧ true = true ∧ true = true ∧ true = true) ∧ (true = true ∧ true = true ∧ true = true ∧ true = true ∧ true = true ∧ true = true) ∧ (true = true ∧ true = true ∧ true = true ∧ true = true ∧ true = true ∧ true = true) ∧ (true = true ∧ true = true ∧ true = true ∧ true = true ∧ true = true ∧ true = true) ∧ (true = true ∧ true = true ∧ true = true ∧ true = true ∧ true = true ∧ true = true) ∧ (true = true ∧ true = true ∧ true = true ∧ true = true ∧ true = true ∧ true = true) ∧ (true = true ∧ true = true ∧ true = true ∧ true = true ∧ true = true ∧ true = true) ∧ (true = true ∧ true = true ∧ true = true ∧ true = true ∧ true = true ∧ true = true) ∧ (true = true ∧ true = true ∧ true = true ∧ true = true ∧ true = true ∧ true = true) ∧ (true = true ∧ true = true ∧ true = true ∧ true = true ∧ true = true ∧ true = true) ∧ (true = true ∧ true = true ∧ true = true ∧ true = true ∧ true = true ∧ true = true) ∧ (true = true ∧ true = true ∧ true = true ∧ true = true ∧ true = true ∧ true = true) ∧ (true = true ∧ true = true ∧ true = true ∧ true = true ∧ true = true ∧ true = true) ∧ (true = true ∧ true = true ∧ true = true ∧ true = true ∧ true = true ∧ true = true) ∧ (true = true ∧ true = true ∧ true = true ∧ true = true ∧ true = true ∧ true = true) ∧ (true = true ∧ true = true ∧ true = true ∧ true = true ∧ true = true ∧ true = true) ∧ (true = true ∧ true = true ∧ true = true ∧ true = true ∧ true = true ∧ true = true) ∧ (true = true ∧ true = true ∧ true = true ∧ true = true ∧ true = true ∧ true = true) ∧ (true = true ∧ true = true ∧ true = true ∧ true = true ∧ true = true ∧ true = true) ∧ (true = true ∧ true = true ∧ true = true ∧ true = true ∧ true = true ∧ true = true) ∧ (true = true ∧ true = true ∧ true = true ∧ true = true ∧ true = true ∧ true = true) ∧ (true = true ∧ true = true ∧ true = true ∧ true = true ∧ true = true ∧ true = true) ∧ (true = true ∧ true = true ∧ true = true ∧ true = true ∧ true = true ∧ true = true) ∧ (true = true ∧ true = true ∧ true = true ∧ true = true ∧ true = true ∧ true = true) ∧ (true = true ∧ true = true ∧ true = true ∧ true = true ∧ true = true ∧ true = true) ∧ (true = true ∧ true = true ∧ true = true ∧ true = true ∧ true = true ∧ true = true) ∧ (true = true ∧ true = true ∧ true = true ∧ true = true ∧ true = true ∧ true = true) ∧ (true = true ∧ true = true ∧ true = true ∧ true = true ∧ true = true ∧ true = true) ∧ (true = true ∧ true = true ∧ true = true ∧ true = true ∧ true = true ∧ true = true) ∧ (true = true ∧ true = true ∧ true = true ∧ true = true ∧ true = true ∧ true = true) ∧ (true = true ∧ true = true ∧ true = true ∧ true = true ∧ true = true ∧ true = true) ∧ (true = true ∧ true = true ∧ true = true ∧ true = true ∧ true = true ∧ true = true) ∧ (true = true ∧ true = true ∧ true = true ∧ true = true ∧ true = true ∧ true = true) ∧ (true = true ∧ true = true ∧ true = true ∧ true = true ∧ true = true ∧ true = true) ∧ (true = true ∧ true = true ∧ true = true ∧ true = true ∧ true = true ∧ true = true) ∧ (true = true ∧ true = true ∧ true = true ∧ true = true ∧ true = true ∧ true = true) ∧ (true = true ∧ true = true ∧ true = true ∧ true = true ∧ true = true ∧ true = true) ∧ (true = true ∧ true = true ∧ true = true ∧ true = true ∧ true = true ∧ true = true) ∧ (true = true ∧ true = true ∧ true = true ∧ true = true ∧ true = true ∧ true = true) ∧ (true = true ∧ true = true ∧ true = true ∧ true = true ∧ true = true ∧ true = true) ∧ (true = true ∧ true = true ∧ true = true ∧ true = true ∧ true = true ∧ true = true) ∧ (true = true ∧ true = true ∧ true = true ∧ true = true ∧ true = true ∧ true = true) ∧ (true = true ∧ true = true ∧ true = true ∧ true = true ∧ true = true ∧ true = true) ∧ (true = true ∧ true = true ∧ true = true ∧ true = true ∧ true = true ∧ true = true) ∧ (true = true ∧ true = true ∧ true = true ∧ true = true ∧ true = true ∧ true = true) ∧ true = true
set_option maxRecDepth 100000 in
theorem lbG (t : Nat → Int) : (callF Try.prog (SF fun _ _ _ => none) 300 77 [.agg (lim t)] []).map (fun r => r.2.2) = some (some ((lbG_G t))) := by kernel_rfl
--@]
set_option maxRecDepth 100000 in
theorem lbV (t : Nat → Int) : (callF Try.prog (SF fun _ _ _ => none) 300 77 [.agg (lim t)] []).map (fun r => (r.1, r.2.2)) = some (.agg (bytL (lbF t)), some (lbG_G t)) := by kernel_rfl
end Go.Proofs.Ytcedljbapgmdmaa.En

/- DERIVED. A number's bytes: the contract. -/
set_option linter.all false
namespace Go.Proofs.Ytcedljbapgmdmaa.En
open Go Go.RowKit

theorem mid_byte (X s : Nat) (hs : s + 8 ≤ 64) : X % 18446744073709551616 / 2 ^ s % 256 = X / 2 ^ s % 256 := by
  have h : (18446744073709551616 : Nat) = 2 ^ s * 2 ^ (64 - s) := by
    rw [← Nat.pow_add, show s + (64 - s) = 64 by omega]
  rw [h, Nat.mod_mul_right_div_self]
  exact Nat.mod_mod_of_dvd _ ⟨2 ^ (64 - s - 8), by rw [show (256 : Nat) = 2 ^ 8 from rfl, ← Nat.pow_add]; congr 1; omega⟩
theorem lbF_lm (m i : Nat) (hi : i < 48) : lbF (lm m) i = ((m / 256 ^ (47 - i) % 256 : Nat) : Int) := by
  unfold lbF lm lmN
  have h1 := Nat.mod_lt (47 - i) (show 0 < 8 by omega)
  have h2 := Nat.div_add_mod (47 - i) 8
  generalize (47 - i) / 8 = q at *
  generalize hr : (47 - i) % 8 = r at *
  have e : (256 : Nat) ^ (47 - i) = BB ^ q * 2 ^ (8 * r) := by
    rw [← h2, show (256 : Nat) = 2 ^ 8 from rfl, show BB = 2 ^ 64 from rfl, ← Nat.pow_mul, ← Nat.pow_mul, ← Nat.pow_add]
    congr 1
    omega
  have e2 : (((m / BB ^ q % BB : Nat) : Int)).fdiv (2 ^ (8 * r)) = ((m / BB ^ q % BB / 2 ^ (8 * r) : Nat) : Int) := by
    rw [show ((2 : Int) ^ (8 * r)) = (((2 : Nat) ^ (8 * r) : Nat) : Int) by rw [Int.natCast_pow]; rfl]
    exact Int.ofNat_fdiv _ _ ▸ rfl
  rw [e2, IntKind.wrap_u8]
  rw [e, ← Nat.div_div_eq_div_mul]
  have := mid_byte (m / BB ^ q) (8 * r) (by omega)
  have e3 : m / BB ^ q % BB = m / BB ^ q % 18446744073709551616 := rfl
  rw [e3]
  generalize m / BB ^ q % 18446744073709551616 / 2 ^ (8 * r) = u at *
  omega
theorem cells_bytL {A : Type} [Ab A] (ρ : Key → Loc) (f : Nat → Int) : cellsL ρ (bytL f : List (LV A)) = (List.range 48).map fun i => Value.int .u8 (f i) := by
  unfold bytL
  generalize List.range 48 = l
  induction l with
  | nil => rfl
  | cons i l ih => simp [cellsL, LV.cells, ih]
theorem plain_bytL {A : Type} [Ab A] (f : Nat → Int) : plainL (bytL f : List (LV A)) := by
  unfold bytL
  generalize List.range 48 = l
  induction l with
  | nil => trivial
  | cons i l ih => exact ⟨trivial, ih⟩
/-- The bytes of the number that an element is kept as, the highest first. -/
def byt (x : Fe) (i : Nat) : Int := ((mo (fv x) / 256 ^ (47 - i) % 256 : Nat) : Int)
theorem lbG_ok (t : Nat → Int) : condOk (some (lbG_G t)) := by unfold condOk lbG_G; and_intros <;> rfl
theorem lb_call (t : Nat → Int) (ρ : Key → Loc) (w : World) : Calls Try.prog 77 (trs ρ [(.agg (lim t) : LV Empty)]).toArray w fun e w' => e = .returned (LV.tr ρ (.agg (bytL (lbF t)) : LV Empty)) ∧ Below w.heap.size w w' :=
  plain_call (SF_ok _) rfl (lbV t) (lbG_ok t) (fun _ _ => rfl) ⟨⟨trivial, trivial, trivial, trivial, trivial, trivial, trivial⟩, trivial⟩ (fun ρ ρ' => by simp only [LV.tr, cells_bytL]) ρ w
set_option maxRecDepth 100000 in
theorem entLBytes : ∀ args w, (callFunc 77 args).run Try.prog w = .ok (.enter 77 args) w := ent_of (f := 77) (P := Try.prog) rfl rfl rfl
theorem lb_runs (a : Fe) : Runs 77 [bF [a]] (.agg (bytL (byt a))) := by
  refine ⟨rfl, fun ρ w => ?_⟩
  have := lb_call (lm (mo (fv a))) ρ w
  have e2 : trs ρ [bF [a]] = trs ρ [(.agg (lim (lm (mo (fv a)))) : LV Empty)] := by simp only [trs, bF, absL, tr_fe]
  rw [e2]
  have e3 : LV.tr ρ (.agg (bytL (lbF (lm (mo (fv a))))) : LV Empty) = LV.tr ρ (.agg (bytL (byt a)) : LV Fe) := by
    simp only [LV.tr, cells_bytL]
    rw [List.map_congr_left fun i hi => by rw [lbF_lm _ i (List.mem_range.1 hi)]]
    rfl
  rw [e3] at this
  exact this
noncomputable def conLBytes : ConP Try.prog Fe := mkP 77 entLBytes [1] (fun a => .agg (bytL (byt a))) lb_runs
set_option maxRecDepth 100000 in
theorem entFBytes : ∀ args w, (callFunc 58 args).run Try.prog w = .ok (.enter 58 args) w := ent_of (f := 58) (P := Try.prog) rfl rfl rfl
--@run fbyV (a : Fe) := callF Try.prog (SGb noD [conLBytes]) 60 58 [bF [a]] [] => .agg (bytL (byt (fmul a frone)))
--@[
set_option maxRecDepth 100000 in
def fbyV_G (a : Fe) : Prop := true = true
set_option maxRecDepth 100000 in
theorem fbyV (a : Fe) : (callF Try.prog (SGb noD [conLBytes]) 60 58 [bF [a]] []).map (fun r => (r.1, r.2.2)) = some (.agg (bytL (byt (fmul a frone))), some (fbyV_G a)) := by kernel_rfl
set_option maxRecDepth 100000 in
theorem fbyV_ok (a : Fe) : condOk (some (fbyV_G a)) := by unfold fbyV_G condOk; and_intros <;> rfl
--@]
noncomputable def conFBytes : ConP Try.prog Fe := mkP 58 entFBytes [1] (fun a => .agg (bytL (byt (fmul a frone)))) fun a => .of (SGa_ok _ _) rfl (fbyV a) (fbyV_ok a) rfl rfl
end Go.Proofs.Ytcedljbapgmdmaa.En

/- DERIVED. The document's number of 48 bytes. -/
set_option linter.all false
namespace Go.Proofs.Ytcedljbapgmdmaa.En
open Go Go.RowKit

noncomputable abbrev SFr (g : Nat → Int) : Sig Empty := sigOf (P := Try.prog) [] [] [] (I := inOf [bytL g]) [] noMs (advF noD)
/-- Bytes put together, one after the other. -/
def orG (g : Nat → Int) (q : Nat) : Nat → Int
  | 0 => 0
  | r + 1 => bits .or .u64 (orG g q r) (IntKind.u64.wrap (IntKind.u64.wrap (g (40 - 8 * q + r)) * 2 ^ (8 * (7 - r))))
def frK (g : Nat → Int) (q : Nat) : Int := orG g q 8
--@pre set_option maxRecDepth 100000
--@gen frG (g : Nat → Int) := (callF Try.prog (SFr g) 300 59 [.slice (.inp 0 0) 0 [] 48 48] []).map (fun r => r.2.2)
--@[
set_option maxRecDepth 100000 in
def frG_G (g : Nat → Int) : Prop := (true = true ∧ true = true ∧ true = true ∧ true = true ∧ true = true ∧ true = true ∧ true = true) ∧ (true = true ∧ true = true ∧ true = true ∧ true = true ∧ true = true ∧ true = true ∧ true = true) ∧ (true = true ∧ true = true ∧ true = true ∧ true = true ∧ true = true ∧ true = true ∧ true = true) ∧ (true = true ∧ true = true ∧ true = true ∧ true = true ∧ true = true ∧ true = true ∧ true = true) ∧ (true = true ∧ true = true ∧ true = true ∧ true = true ∧ true = true ∧ true = true ∧ true = true) ∧ (true = true ∧ true = true ∧ true = true ∧ true = true ∧ true = true ∧ true = true ∧ true = true) ∧ (true = true ∧ true = true ∧ true = true ∧ true = true ∧ true = true ∧ true = true ∧ true = true) ∧ (true = true ∧ true = true ∧ true = true ∧ true = true ∧ true = true ∧ true = true ∧ true = true) ∧ (true = true ∧ true = true ∧ true = true ∧ true = true ∧ true = true ∧ true = true ∧ true = true) ∧ (true = true ∧ true = true ∧ true = true ∧ true = true ∧ true = true ∧ true = true ∧ true = true) ∧ (true = true ∧ true = true ∧ true = true ∧ true = true ∧ true = true ∧ true = true ∧ true = true) ∧ (true = true ∧ true = true ∧ true = true ∧ true = true ∧ true = true ∧ true = true ∧ true = true) ∧ (true = true ∧ true = true ∧ true = true ∧ true = true ∧ true = true ∧ true = true ∧ true = true) ∧ (true = true ∧ true = true ∧ true = true ∧ true = true ∧ true = true ∧ true = true ∧ true = true) ∧ (true = true ∧ true = true ∧ true = true ∧ true = true ∧ true = true ∧ true = true ∧ true = true) ∧ (true = true ∧ true = true ∧ true = true ∧ true = true ∧ true = true ∧ true = true ∧ true = true) ∧ (true = true ∧ true = true ∧ true = true ∧ true = true ∧ true = true ∧ true = true ∧ true = true) ∧ (true = true ∧ true = true ∧ true = true ∧ true = true ∧ true = true ∧ true = true ∧ true = true) ∧ (true = true ∧ true = true ∧ true = true ∧ true = true ∧ true = true ∧ true = true ∧ true = true) ∧ (true = true ∧ true = true ∧ true = true ∧ true = true ∧ true = true ∧ true = true ∧ true = true) ∧ (true = true ∧ true = true ∧ true = true ∧ true = true ∧ true = true ∧ true = true ∧ true = true) ∧ (true = true ∧ true = true ∧ true = true ∧ true = true ∧ true = true ∧ true = true ∧ true = true) ∧ (true = true ∧ true = true ∧ true = true ∧ true = true ∧ true = true ∧ true = true ∧ true = true) ∧ (true = true ∧ true = true ∧ true = true ∧ true = true ∧ true = true ∧ true = true ∧ true = true) ∧ (true = true ∧ true = true ∧ true = true ∧ true = true ∧ true = true ∧ true = true ∧ true = true) ∧ (true = true ∧ true = true ∧ true = true ∧ true = true ∧ true = true ∧ true = true ∧ true = true) ∧ (true = true ∧ true = true ∧ true = true ∧ true = true ∧ true = true ∧ true = true ∧ true = true) ∧ (true = true ∧ true = true ∧ true = true ∧ true = true ∧ true = true ∧ true = true ∧ true = true) ∧ (true = true ∧ true = true ∧ true = true ∧ true = true ∧ true = true ∧ true = true ∧ true = true) ∧ (true = true ∧ true = true ∧ true = true ∧ true = true ∧ true = true ∧ true = true ∧ true = true) ∧ (true = true ∧ true = true ∧ true = true ∧ true = true ∧ true = true ∧ true = true ∧ true = true) ∧ (true = true ∧ true = true ∧ true = true ∧ true = true ∧ true = true ∧ true = true ∧ true = true) ∧ (true = true ∧ true = true ∧ true = true ∧ true = true ∧ true = true ∧ true = true ∧ true = true) ∧ (true = true ∧ true = true ∧ true = true ∧ true = true ∧ true = true ∧ true = true ∧ true = true) ∧ (true = true ∧ true = true ∧ true = true ∧ true = true ∧ true = true ∧ true = true ∧ true = true) ∧ (true = true ∧ true = true ∧ true = true ∧ true = true ∧ true = true ∧ true = true ∧ true = true) ∧ (true = true ∧ true = true ∧ true = true ∧ true = true ∧ true = true ∧ true = true ∧ true = true) ∧ (true = true ∧ true = true ∧ true = true ∧ true = true ∧ true = true ∧ true = true ∧ true = true) ∧ (true = true ∧ true = true ∧ true = true ∧ true = true ∧ true = true ∧ true = true ∧ true = true) ∧ (true = true ∧ true = true ∧ true = true ∧ true = true ∧ true = true ∧ true = true ∧ true = true) ∧ (true = true ∧ true = true ∧ true = true ∧ true = true ∧ true = true ∧ true = true ∧ true = true) ∧ (true = true ∧ true = true ∧ true = true ∧ true = true ∧ true = true ∧ true = true ∧ true = true) ∧ (true = true ∧ true = true ∧ true = true ∧ true = true ∧ true = true ∧ true = true ∧ true = true) ∧ (true = true ∧ true = true ∧ true = true ∧ true = true ∧ true = true ∧ true = true ∧ true = true) ∧ (true = true ∧ true = true ∧ true = true ∧ true = true ∧ true = true ∧ true = true ∧ true = true) ∧ (true = true ∧ true = true ∧ true = true ∧ true = true ∧ true = true ∧ true = true ∧ true = true) ∧ (true = true ∧ true = true ∧ true = true ∧ true = true ∧ true = true ∧ true = true ∧ true = true) ∧ (true = true ∧ true = true ∧ true = true ∧ true = true ∧ true = true ∧ true = true ∧ true = true) ∧ true = true
set_option maxRecDepth 100000 in
theorem frG (g : Nat → Int) : (callF Try.prog (SFr g) 300 59 [.slice (.inp 0 0) 0 [] 48 48] []).map (fun r => r.2.2) = some (some ((frG_G g))) := by kernel_rfl
--@]
set_option maxRecDepth 100000 in
theorem frV (g : Nat → Int) : (callF Try.prog (SFr g) 300 59 [.slice (.inp 0 0) 0 [] 48 48] []).map (fun r => (r.1, r.2.2)) = some (.tup [.agg (lim (frK g)), .bool true], some (frG_G g)) := by kernel_rfl
end Go.Proofs.Ytcedljbapgmdmaa.En

/- DERIVED. The document's number of 48 bytes: on numbers. -/
set_option linter.all false
namespace Go.Proofs.Ytcedljbapgmdmaa.En
open Go Go.RowKit

/-- So many bytes from a place on, as a number, the highest first. -/
def nB (b : Nat → Nat) (s : Nat) : Nat → Nat
  | 0 => 0
  | r + 1 => nB b s r * 256 + b (s + r)
theorem nB_lt {b : Nat → Nat} (s : Nat) : ∀ r, (∀ j, s ≤ j → j < s + r → b j < 256) → nB b s r < 256 ^ r
  | 0, _ => by simp [nB]
  | r + 1, h => by
    have h1 := nB_lt s r fun j h1 h2 => h j h1 (by omega)
    have h2 := h (s + r) (by omega) (by omega)
    rw [nB, Nat.pow_succ]
    have : (nB b s r + 1) * 256 ≤ 256 ^ r * 256 := Nat.mul_le_mul_right _ h1
    omega
theorem nB_split (b : Nat → Nat) (s m : Nat) : ∀ n, nB b s (m + n) = nB b s m * 256 ^ n + nB b (s + m) n
  | 0 => by simp [nB]
  | n + 1 => by
    rw [← Nat.add_assoc, nB, nB_split b s m n, nB, Nat.pow_succ, Nat.add_mul, Nat.mul_assoc, Nat.add_assoc, Nat.add_assoc]
theorem orG_val {g : Nat → Int} {b : Nat → Nat} (hg : ∀ j, j < 48 → g j = (b j : Int)) (hb : ∀ j, j < 48 → b j < 256) {q : Nat} (hq : q < 6) : ∀ r, r ≤ 8 → orG g q r = ((nB b (40 - 8 * q) r * 2 ^ (8 * (8 - r)) : Nat) : Int)
  | 0, _ => by simp [orG, nB]
  | r + 1, hr => by
    have ih := orG_val hg hb hq r (by omega)
    have hlt := nB_lt (b := b) (40 - 8 * q) r fun j h1 h2 => hb j (by omega)
    have hbj := hb (40 - 8 * q + r) (by omega)
    have hY : b (40 - 8 * q + r) * 2 ^ (8 * (7 - r)) < 2 ^ (8 * (8 - r)) := by
      have : (2 : Nat) ^ (8 * (8 - r)) = 256 * 2 ^ (8 * (7 - r)) := by
        rw [show (256 : Nat) = 2 ^ 8 from rfl, ← Nat.pow_add]; congr 1; omega
      rw [this]
      exact Nat.mul_lt_mul_of_pos_right hbj (Nat.two_pow_pos _)
    have hX : nB b (40 - 8 * q) r * 2 ^ (8 * (8 - r)) < 18446744073709551616 := by
      have e : (18446744073709551616 : Nat) = 256 ^ r * 2 ^ (8 * (8 - r)) := by
        rw [show (256 : Nat) = 2 ^ 8 from rfl, ← Nat.pow_mul, ← Nat.pow_add, show 8 * r + 8 * (8 - r) = 64 by omega]
      rw [e]
      exact Nat.mul_lt_mul_of_pos_right hlt (Nat.two_pow_pos _)
    have hY2 : (2 : Nat) ^ (8 * (8 - r)) ≤ 18446744073709551616 := by
      rw [show (18446744073709551616 : Nat) = 2 ^ 64 from rfl]
      exact Nat.pow_le_pow_right (by omega) (by omega)
    rw [orG, ih, hg _ (by omega)]
    have w1 : IntKind.u64.wrap ((b (40 - 8 * q + r) : Nat) : Int) = ((b (40 - 8 * q + r) : Nat) : Int) := wuN _ (by omega)
    have w2 : IntKind.u64.wrap (((b (40 - 8 * q + r) : Nat) : Int) * 2 ^ (8 * (7 - r))) = ((b (40 - 8 * q + r) * 2 ^ (8 * (7 - r)) : Nat) : Int) := by
      rw [show ((2 : Int) ^ (8 * (7 - r))) = (((2 : Nat) ^ (8 * (7 - r)) : Nat) : Int) by rw [Int.natCast_pow]; rfl, ← Int.natCast_mul]
      exact wuN _ (by omega)
    rw [w1, w2, bits_or_u64_nat _ _ hX (by omega), Nat.mul_comm (nB b (40 - 8 * q) r), ← Nat.two_pow_add_eq_or_of_lt hY]
    congr 1
    have e : (2 : Nat) ^ (8 * (8 - r)) = 256 * 2 ^ (8 * (7 - r)) := by
      rw [show (256 : Nat) = 2 ^ 8 from rfl, ← Nat.pow_add]; congr 1; omega
    rw [e, nB, show 8 * (8 - (r + 1)) = 8 * (7 - r) by omega, Nat.add_mul, Nat.mul_comm (256 * 2 ^ (8 * (7 - r))), Nat.mul_assoc]
theorem frK_lm {g : Nat → Int} {b : Nat → Nat} (hg : ∀ j, j < 48 → g j = (b j : Int)) (hb : ∀ j, j < 48 → b j < 256) (q : Nat) (hq : q < 6) : frK g q = lm (nB b 0 48) q := by
  unfold frK
  rw [orG_val hg hb hq 8 (Nat.le_refl _)]
  simp only [Nat.sub_self, Nat.mul_zero, Nat.pow_zero, Nat.mul_one]
  unfold lm lmN
  congr 1
  have h1 := nB_split b 0 (40 - 8 * q) (8 + 8 * q)
  have h2 := nB_split b (0 + (40 - 8 * q)) 8 (8 * q)
  rw [show 40 - 8 * q + (8 + 8 * q) = 48 by omega] at h1
  rw [h1, h2, Nat.zero_add]
  have l1 := nB_lt (b := b) (40 - 8 * q) 8 fun j h1 h2 => hb j (by omega)
  have l2 := nB_lt (b := b) (40 - 8 * q + 8) (8 * q) fun j h1 h2 => hb j (by omega)
  have e : BB ^ q = 256 ^ (8 * q) := by
    rw [show BB = 256 ^ 8 by decide, ← Nat.pow_mul]
  have e2 : (256 : Nat) ^ (8 + 8 * q) = 256 ^ (8 * q) * BB := by
    rw [Nat.add_comm, Nat.pow_add, show BB = 256 ^ 8 by decide]
  rw [e, e2]
  generalize nB b (40 - 8 * q) 8 = u at *
  generalize nB b (40 - 8 * q + 8) (8 * q) = v at *
  generalize nB b 0 (40 - 8 * q) = t at *
  generalize (256 : Nat) ^ (8 * q) = D at *
  have hD : 0 < D := by omega
  rw [show t * (D * BB) + (u * D + v) = D * (t * BB + u) + v by rw [Nat.mul_add, ← Nat.mul_assoc D, Nat.mul_comm D t, Nat.mul_assoc t, Nat.mul_comm D u]; omega]
  rw [Nat.mul_add_div hD, Nat.div_eq_of_lt l2, Nat.add_zero, Nat.mul_add_mod_self_right, Nat.mod_eq_of_lt]
  have : (256 : Nat) ^ 8 = BB := by decide
  omega
/-- The digits of a number are its bytes. -/
theorem nB_digits (m : Nat) : ∀ r, r ≤ 48 → nB (fun i => m / 256 ^ (47 - i) % 256) 0 r = m / 256 ^ (48 - r) % 256 ^ r
  | 0, _ => by simp [nB, Nat.mod_one]
  | r + 1, hr => by
    rw [nB, nB_digits m r (by omega), Nat.zero_add]
    have e : m / 256 ^ (48 - r) = m / 256 ^ (47 - r) / 256 := by
      rw [Nat.div_div_eq_div_mul, ← Nat.pow_succ]; congr 2; omega
    rw [e, show 48 - (r + 1) = 47 - r by omega, Nat.pow_succ]
    generalize m / 256 ^ (47 - r) = X
    rw [Nat.mul_comm (256 ^ r) 256, Nat.mod_mul, Nat.mul_comm 256]
    omega
theorem mo_raw {N : Nat} (h : N < pN) : mo (N * rI % pN) = N := by
  have h1 : mo (N * rI % pN) % pN = N % pN := by
    rw [mo_red, mo_cg, Nat.mul_assoc, Nat.mul_comm rI, cg_mul (rfl : N % pN = N % pN) rI_cg, Nat.mul_one]
  rwa [mo_mod, Nat.mod_eq_of_lt h] at h1
end Go.Proofs.Ytcedljbapgmdmaa.En

/- DERIVED. The document's number of 48 bytes: the contract. -/
set_option linter.all false
namespace Go.Proofs.Ytcedljbapgmdmaa.En
open Go Go.RowKit

noncomputable abbrev SFf (g : Nat → Int) : Sig Fe := sigOf (P := Try.prog) [] [] [] (I := inOf [bytL g]) [] noMs (advF noD)
theorem SFf_ok (g : Nat → Int) : SigOk Try.prog (SFf g) := sigOf_ok [] [] [] [] (noMs_ok _) _ (inOf1_ok (plain_bytL g))
set_option maxRecDepth 100000 in
theorem frVF (g : Nat → Int) : (callF Try.prog (SFf g) 300 59 [.slice (.inp 0 0) 0 [] 48 48] []).map (fun r => (r.1, r.2.2)) = some (.tup [limA (frK g), .bool true], some (frG_G g)) := by kernel_rfl
theorem frG_ok (g : Nat → Int) : condOk (some (frG_G g)) := by unfold condOk frG_G; and_intros <;> rfl
end Go.Proofs.Ytcedljbapgmdmaa.En

/- DERIVED. The document's number of 48 bytes: the contract. -/
set_option linter.all false
namespace Go.Proofs.Ytcedljbapgmdmaa.En
open Go Go.RowKit

/-- The number of 48 bytes. -/
def beN (g : Nat → Int) : Nat := nB (fun j => (g j).toNat) 0 48
theorem frK_be {g : Nat → Int} (hg : rngB g 0 48) (q : Nat) (hq : q < 6) : frK g q = lm (beN g) q :=
  frK_lm (b := fun j => (g j).toNat) (fun j hj => by have := hg j hj; rw [Nat.zero_add] at this; show g j = (((g j).toNat : Nat) : Int); omega) (fun j hj => by have := hg j hj; rw [Nat.zero_add] at this; show (g j).toNat < 256; omega) q hq
/-- The element that is kept as this number. -/
def rawF (n : Nat) : Fe := mkF (n * rI % pN)
theorem fv_rawF (n : Nat) : fv (rawF n) = n * rI % pN := by unfold rawF; rw [fv_mk]
theorem mo_rawF {n : Nat} (h : n < pN) : mo (fv (rawF n)) = n := by rw [fv_rawF, mo_raw h]
theorem tup_fe {f : Nat → Int} {x : Fe} (ρ : Key → Loc) (h : ∀ q, q < 6 → f q = lm (mo (fv x)) q) : LV.tr ρ (.tup [limA f, .bool true] : LV Fe) = LV.tr ρ (.tup [.agg [.abs x], .bool true] : LV Fe) := by
  have e : LV.tr ρ (limA f : LV Fe) = LV.tr ρ (.agg [.abs x] : LV Fe) := by
    rw [tr_fe, ← lim_congr h]
    rfl
  show Value.tuple #[LV.tr ρ (limA f : LV Fe), .bool true] = Value.tuple #[LV.tr ρ (.agg [.abs x] : LV Fe), .bool true]
  rw [e]
theorem from_told {g : Nat → Int} (hg : rngB g 0 48) (hn : beN g < pN) : Told Try.prog 59 [bytL g] [.slice (.inp 0 0) 0 [] 48 48] (.tup [.agg [.abs (rawF (beN g))], .bool true]) [] := by
  refine told_below rfl fun ρ w ha => ?_
  have hk : ∀ t i, kinL (okKey ([] : Mem Fe) ρ) ((SFf g).inp t i) := fun t i => by
    show kinL _ (inOf [bytL g] t i)
    cases t with
    | succ t => trivial
    | zero => cases i with
      | zero => exact plainL_kin _ _ (plain_bytL g)
      | succ i => trivial
  have := calls_top (SFf_ok g) mixed (frVF g) (frG_ok g) ha.mem ha.kinV hk fun ρ ρ' => rfl
  have e2 := tup_fe (ρ := ρ) (f := frK g) (x := rawF (beN g)) fun q hq => by rw [mo_rawF hn]; exact frK_be hg q hq
  rw [e2] at this
  exact this
end Go.Proofs.Ytcedljbapgmdmaa.En

/- DERIVED. The document's number of 48 bytes: the contract. -/
set_option linter.all false
namespace Go.Proofs.Ytcedljbapgmdmaa.En
open Go Go.RowKit

def fromFn (I : Inp Fe) (vs : List (LV Fe)) (mem : Mem Fe) : Option (RdC Fe) := match vs with
  | [.slice k o q len cap] => match o, q with
    | 0, [] => match Nat.beq len 48, Nat.beq cap 48, at? I mem k with
      | true, true, some bl => match isDead bl.kd, flatI .u8 bl.us with
        | false, some l => match Nat.beq l.length 48 with
          | true => some ⟨[bytL fun j => l.getD j 0], [k], [.slice (.inp 0 0) 0 [] 48 48], .tup [.agg [.abs (rawF (beN fun j => l.getD j 0))], .bool true], [], rngB (fun j => l.getD j 0) 0 48 ∧ (beN fun j => l.getD j 0) < pN⟩
          | false => none
        | _, _ => none
      | _, _, _ => none
    | _, _ => none
  | _ => none
theorem bytL_list {l : List Int} (h : l.length = 48) : bytL (A := Fe) (fun j => l.getD j 0) = l.map fun x => .int .u8 x := by
  unfold bytL
  apply List.ext_getElem
  · simp [h]
  · intro i h1 h2
    have : i < l.length := by simpa using h2
    simp [this]
theorem from_ok : ∀ I vs mem r, fromFn I vs mem = some r → r.c → RdOk Try.prog 59 I vs mem r := by
  intro I vs mem r h hc
  unfold fromFn at h
  split at h
  · rename_i k o q len cap
    split at h
    · split at h
      · rename_i bl hl hcp hb
        split at h
        · rename_i l hd hf
          split at h
          · rename_i hlen
            cases h
            have hl := beqN hl
            have hcp := beqN hcp
            have hlen := beqN hlen
            subst hl; subst hcp
            obtain ⟨h1, h2⟩ := hc
            exact {
              args := rfl
              fit := ⟨⟨by simp [keyMap, ιOf], trivial⟩, trivial⟩
              len := rfl
              blk := fun j k' us hk hus => by
                match j with
                | 0 =>
                  cases hk; cases hus
                  exact ⟨bl, hb, hd, plain_bytL _, by rw [bytL_list hlen, ← flatI_some hf]; exact Like.refl _⟩
                | j + 1 => simp at hk
              told := from_told h1 h2
              fitv := (plain_ren _ _ _ (show LV.plain (.tup [.agg [.abs (rawF (beN fun j => l.getD j 0))], .bool true] : LV Fe) from ⟨⟨trivial, trivial⟩, trivial, trivial⟩)).2
              fitb := fun b hb => absurd hb List.not_mem_nil }
          · cases h
        · cases h
      · cases h
    · cases h
  · cases h
set_option maxRecDepth 100000 in
theorem entRFrom : ∀ args w, (callFunc 59 args).run Try.prog w = .ok (.enter 59 args) w := ent_of (f := 59) (P := Try.prog) rfl rfl rfl
noncomputable def conRFrom : ConC Try.prog Fe := conRd 59 entRFrom fromFn from_ok
end Go.Proofs.Ytcedljbapgmdmaa.En

/- DERIVED. An element as the document's. -/
set_option linter.all false
namespace Go.Proofs.Ytcedljbapgmdmaa.En
open Go Go.RowKit

noncomputable abbrev SPa (A : Adv) (ps : List (ConP Try.prog Fe)) : Sig Fe := sigOf (P := Try.prog) ([conFBytes, conROf] ++ ps) [] [conRFrom] (I := noIF) [] msF A
theorem SPa_ok (A : Adv) (ps : List (ConP Try.prog Fe)) : SigOk Try.prog (SPa A ps) := sigOf_ok _ [] [conRFrom] [] msF_ok _ noIF_ok
def bytI (x : Fe) (j : Nat) : Int := ((List.range 48).map (byt x)).getD j 0
def partRaw (a : Fe) : Fe := fmul (rawF (beN (bytI (fmul a frone)))) ftwo
def partC (a : Fe) : Prop := rngB (bytI (fmul a frone)) 0 48 ∧ beN (bytI (fmul a frone)) < pN
set_option maxRecDepth 100000 in
theorem paV (a : Fe) : (callF Try.prog (SPa (advP noD [59] []) []) 60 32 [bF [a]] []).map (fun r => (r.1, r.2.2)) = some (.agg [.abs (partRaw a)], some (true = true ∧ (true = true ∧ partC a ∧ true = true) ∧ true = true)) := by kernel_rfl
end Go.Proofs.Ytcedljbapgmdmaa.En

/- DERIVED. An element as the document's: the contract. -/
set_option linter.all false
namespace Go.Proofs.Ytcedljbapgmdmaa.En
open Go Go.RowKit

theorem nB_cg {b b' : Nat → Nat} (s : Nat) : ∀ r, (∀ j, s ≤ j → j < s + r → b j = b' j) → nB b s r = nB b' s r
  | 0, _ => rfl
  | r + 1, h => by rw [nB, nB, nB_cg s r fun j h1 h2 => h j h1 (by omega), h (s + r) (by omega) (by omega)]
theorem bytI_eq (x : Fe) (j : Nat) (hj : j < 48) : bytI x j = ((mo (fv x) / 256 ^ (47 - j) % 256 : Nat) : Int) := by
  unfold bytI
  rw [List.getD_eq_getElem?_getD, List.getElem?_map, List.getElem?_range hj]
  rfl
theorem p_lt : pN < 256 ^ 48 := by decide +kernel
theorem byt_digits (x : Fe) (r : Nat) (hr : r ≤ 48) : nB (fun j => (bytI x j).toNat) 0 r = mo (fv x) / 256 ^ (48 - r) % 256 ^ r := by
  rw [← nB_digits _ r hr]
  exact nB_cg 0 r fun j _ hj => by rw [bytI_eq x j (by omega), Int.toNat_natCast]
theorem mod48 {m n : Nat} (h : m < 256 ^ n) : m / 256 ^ (n - n) % 256 ^ n = m := by
  rw [Nat.sub_self, Nat.pow_zero, Nat.div_one, Nat.mod_eq_of_lt h]
theorem mo_lt48 (x : Fe) : mo (fv x) < 256 ^ 48 := Nat.lt_trans (mo_lt _) p_lt
theorem beN_byt (x : Fe) : beN (bytI x) = mo (fv x) := (byt_digits x 48 (Nat.le_refl _)).trans (mod48 (mo_lt48 x))
theorem partC_ok (a : Fe) : partC a := by
  refine ⟨fun j hj => ?_, by rw [beN_byt]; exact mo_lt _⟩
  rw [Nat.zero_add, bytI_eq _ j hj]
  have := Nat.mod_lt (mo (fv (fmul a frone)) / 256 ^ (47 - j)) (show 0 < 256 by omega)
  generalize mo (fv (fmul a frone)) / 256 ^ (47 - j) % 256 = u at *
  omega
theorem one_two : fv frone * fv ftwo % pN = 1 % pN := by decide +kernel
theorem partRaw_mo (a : Fe) : mo (fv (partRaw a)) = mo (fv a) := by
  have h1 : fv (rawF (beN (bytI (fmul a frone)))) % pN = fv (fmul a frone) % pN := mo_inj (by rw [mo_rawF (partC_ok a).2, beN_byt])
  unfold partRaw
  rw [fv_mul, mo_red, ← mo_red (_ * _), cg_mul h1 (rfl : fv ftwo % pN = fv ftwo % pN), fv_mul, Nat.mod_mul_mod, Nat.mul_assoc, cg_mul (rfl : fv a % pN = fv a % pN) one_two, Nat.mul_one, mo_red]
set_option maxRecDepth 100000 in
theorem entPart : ∀ args w, (callFunc 32 args).run Try.prog w = .ok (.enter 32 args) w := ent_of (f := 32) (P := Try.prog) rfl rfl rfl
theorem part_runs (a : Fe) : Runs 32 [bF [a]] (.agg [.abs a]) :=
  (Runs.of (SPa_ok _ _) rfl (paV a) ⟨rfl, ⟨rfl, partC_ok a, rfl⟩, rfl⟩ rfl rfl).as rfl fun ρ => by rw [tr_fe, tr_fe, partRaw_mo]
noncomputable def conPart : ConP Try.prog Fe := mkP 32 entPart [1] (fun a => .agg [.abs a]) part_runs
end Go.Proofs.Ytcedljbapgmdmaa.En

/- DERIVED. An element of the document's extension. -/
set_option linter.all false
namespace Go.Proofs.Ytcedljbapgmdmaa.En
open Go Go.RowKit

set_option maxRecDepth 100000 in
theorem entRef : ∀ args w, (callFunc 9 args).run Try.prog w = .ok (.enter 9 args) w := ent_of (f := 9) (P := Try.prog) rfl rfl rfl
--@run refV (a : Fe) := callF Try.prog (SGb noD [conPart]) 60 9 [bF [a]] [] => .agg [.abs a, .int .u64 0, .int .u64 0, .int .u64 0, .int .u64 0, .int .u64 0, .int .u64 0]
--@[
set_option maxRecDepth 100000 in
def refV_G (a : Fe) : Prop := true = true
set_option maxRecDepth 100000 in
theorem refV (a : Fe) : (callF Try.prog (SGb noD [conPart]) 60 9 [bF [a]] []).map (fun r => (r.1, r.2.2)) = some (.agg [.abs a, .int .u64 0, .int .u64 0, .int .u64 0, .int .u64 0, .int .u64 0, .int .u64 0], some (refV_G a)) := by kernel_rfl
set_option maxRecDepth 100000 in
theorem refV_ok (a : Fe) : condOk (some (refV_G a)) := by unfold refV_G condOk; and_intros <;> rfl
--@]
noncomputable def conRef : ConP Try.prog Fe := mkP 9 entRef [1] (fun a => eV (a, zE)) fun a => (Runs.of (SGa_ok _ _) rfl (refV a) (refV_ok a) rfl rfl).as rfl (pad0_tr a)
end Go.Proofs.Ytcedljbapgmdmaa.En

/- DERIVED. A point as the document's. -/
set_option linter.all false
namespace Go.Proofs.Ytcedljbapgmdmaa.En
open Go Go.RowKit

noncomputable abbrev psL : List (ConP Try.prog Fe) := [conGXY, conRef, conRAt, conROn, conAff, conGen, conInGrp]
def refsN (a b c : Fe) : C3 := ((gxyX (a, b, c), zE), (gxyY (a, b, c), zE), eOne)
set_option maxRecDepth 100000 in
theorem entRefs : ∀ args w, (callFunc 36 args).run Try.prog w = .ok (.enter 36 args) w := ent_of (f := 36) (P := Try.prog) rfl rfl rfl
--@run rf1V (a b c : Fe) := callF Try.prog (SGb (dci 36 [(2, 1, true)]) psL) 60 36 [bF [a, b, c]] [] => z36
--@[
set_option maxRecDepth 100000 in
def rf1V_G (a b c : Fe) : Prop := (true = true ∧ true = true) ∧ (!!isz c) = true ∧ true = true
set_option maxRecDepth 100000 in
theorem rf1V (a b c : Fe) : (callF Try.prog (SGb (dci 36 [(2, 1, true)]) psL) 60 36 [bF [a, b, c]] []).map (fun r => (r.1, r.2.2)) = some (z36, some (rf1V_G a b c)) := by kernel_rfl
--@]
--@run rf2V (a b c : Fe) := callF Try.prog (SGb (dci 36 [(2, 1, false)]) psL) 60 36 [bF [a, b, c]] [] => cV (refsN a b c)
--@[
set_option maxRecDepth 100000 in
def rf2V_G (a b c : Fe) : Prop := (true = true ∧ true = true) ∧ (!!isz c) = false ∧ true = true
set_option maxRecDepth 100000 in
theorem rf2V (a b c : Fe) : (callF Try.prog (SGb (dci 36 [(2, 1, false)]) psL) 60 36 [bF [a, b, c]] []).map (fun r => (r.1, r.2.2)) = some (cV (refsN a b c), some (rf2V_G a b c)) := by kernel_rfl
--@]
def refsF (p : Pt) : C3 := bif isz p.2.2 then cz else refsN p.1 p.2.1 p.2.2
theorem refs_t {p : Pt} (h : isz p.2.2 = true) : refsF p = cz := by unfold refsF; rw [h, cond_true]
theorem refs_f {p : Pt} (h : isz p.2.2 = false) : refsF p = refsN p.1 p.2.1 p.2.2 := by unfold refsF; rw [h, cond_false]
theorem refs_runs (a b c : Fe) : Runs 36 [bF [a, b, c]] (cV (refsF (a, b, c))) := by
  cases h : isz c with
  | true =>
    rw [refs_t (p := (a, b, c)) h]
    exact (Runs.of (SGa_ok _ _) rfl (rf1V a b c) (by unfold condOk rf1V_G; simp [h]) rfl rfl).as rfl z36_tr
  | false =>
    rw [refs_f (p := (a, b, c)) h]
    exact .of (SGa_ok _ _) rfl (rf2V a b c) (by unfold condOk rf2V_G; simp [h]) rfl rfl
noncomputable def conRefs : ConP Try.prog Fe := mkP 36 entRefs [3] (fun a b c => cV (refsF (a, b, c))) refs_runs
end Go.Proofs.Ytcedljbapgmdmaa.En

/- DERIVED. Is a point on the curve. -/
set_option linter.all false
namespace Go.Proofs.Ytcedljbapgmdmaa.En
open Go Go.RowKit

set_option maxRecDepth 100000 in
theorem entOn : ∀ args w, (callFunc 13 args).run Try.prog w = .ok (.enter 13 args) w := ent_of (f := 13) (P := Try.prog) rfl rfl rfl
--@run on1V (a b c : Fe) := callF Try.prog (SGb (dci 13 [(2, 3, true), (2, 6, true)]) psL) 60 13 [bF [a, b, c]] [] => .bool true
--@[
set_option maxRecDepth 100000 in
def on1V_G (a b c : Fe) : Prop := (true = true ∧ true = true) ∧ (!(!isz c) == isz c) = true ∧ (!!isz c) = true
set_option maxRecDepth 100000 in
theorem on1V (a b c : Fe) : (callF Try.prog (SGb (dci 13 [(2, 3, true), (2, 6, true)]) psL) 60 13 [bF [a, b, c]] []).map (fun r => (r.1, r.2.2)) = some (.bool true, some (on1V_G a b c)) := by kernel_rfl
--@]
--@run on2V (a b c : Fe) := callF Try.prog (SGb (dci 13 [(2, 3, true), (2, 6, false)]) psL) 60 13 [bF [a, b, c]] [] => .bool (ronF (gxyX (a, b, c), zE) (gxyY (a, b, c), zE) false)
--@[
set_option maxRecDepth 100000 in
def on2V_G (a b c : Fe) : Prop := (true = true ∧ true = true) ∧ (!(!isz c) == isz c) = true ∧ (!!isz c) = false
set_option maxRecDepth 100000 in
theorem on2V (a b c : Fe) : (callF Try.prog (SGb (dci 13 [(2, 3, true), (2, 6, false)]) psL) 60 13 [bF [a, b, c]] []).map (fun r => (r.1, r.2.2)) = some (.bool (ronF (gxyX (a, b, c), zE) (gxyY (a, b, c), zE) false), some (on2V_G a b c)) := by kernel_rfl
--@]
def onF (p : Pt) : Bool := bif isz p.2.2 then true else ronF (gxyX p, zE) (gxyY p, zE) false
theorem on_t {p : Pt} (h : isz p.2.2 = true) : onF p = true := by unfold onF; rw [h, cond_true]
theorem on_f {p : Pt} (h : isz p.2.2 = false) : onF p = ronF (gxyX p, zE) (gxyY p, zE) false := by unfold onF; rw [h, cond_false]
theorem on_runs (a b c : Fe) : Runs 13 [bF [a, b, c]] (.bool (onF (a, b, c))) := by
  cases h : isz c with
  | true =>
    rw [on_t (p := (a, b, c)) h]
    exact .of (SGa_ok _ _) rfl (on1V a b c) (by unfold condOk on1V_G; simp [h]) rfl rfl
  | false =>
    rw [on_f (p := (a, b, c)) h]
    exact .of (SGa_ok _ _) rfl (on2V a b c) (by unfold condOk on2V_G; simp [h]) rfl rfl
noncomputable def conOn : ConP Try.prog Fe := mkP 13 entOn [3] (fun a b c => .bool (onF (a, b, c))) on_runs
end Go.Proofs.Ytcedljbapgmdmaa.En

/- DERIVED. Is a point the document's. -/
set_option linter.all false
namespace Go.Proofs.Ytcedljbapgmdmaa.En
open Go Go.RowKit

def eqR (r q : C3) : Bool := eisz (cadd ((r.1.1, r.1.2), (r.2.1.1, r.2.1.2), (r.2.2.1, r.2.2.2)) (cnegF q)).2.2
set_option maxRecDepth 100000 in
theorem entSame : ∀ args w, (callFunc 15 args).run Try.prog w = .ok (.enter 15 args) w := ent_of (f := 15) (P := Try.prog) rfl rfl rfl
--@run sm1V (a b c d e f g h i : Fe) := callF Try.prog (SGb (dci 15 [(1, 1, true)]) ([conOn, conRefs, conRCEqual] ++ psL)) 60 15 [bF [a, b, c], bF [d, e, f, g, h, i]] [] => .bool (eqR (refsF (a, b, c)) ((d, e), (f, g), (h, i)))
--@[
set_option maxRecDepth 100000 in
def sm1V_G (a b c d e f g h i : Fe) : Prop := onF (a, b, c) = true
set_option maxRecDepth 100000 in
theorem sm1V (a b c d e f g h i : Fe) : (callF Try.prog (SGb (dci 15 [(1, 1, true)]) ([conOn, conRefs, conRCEqual] ++ psL)) 60 15 [bF [a, b, c], bF [d, e, f, g, h, i]] []).map (fun r => (r.1, r.2.2)) = some (.bool (eqR (refsF (a, b, c)) ((d, e), (f, g), (h, i))), some (sm1V_G a b c d e f g h i)) := by kernel_rfl
--@]
--@run sm2V (a b c d e f g h i : Fe) := callF Try.prog (SGb (dci 15 [(1, 1, false)]) ([conOn, conRefs, conRCEqual] ++ psL)) 60 15 [bF [a, b, c], bF [d, e, f, g, h, i]] [] => .bool false
--@[
set_option maxRecDepth 100000 in
def sm2V_G (a b c d e f g h i : Fe) : Prop := onF (a, b, c) = false
set_option maxRecDepth 100000 in
theorem sm2V (a b c d e f g h i : Fe) : (callF Try.prog (SGb (dci 15 [(1, 1, false)]) ([conOn, conRefs, conRCEqual] ++ psL)) 60 15 [bF [a, b, c], bF [d, e, f, g, h, i]] []).map (fun r => (r.1, r.2.2)) = some (.bool false, some (sm2V_G a b c d e f g h i)) := by kernel_rfl
--@]
def sameF (p : Pt) (q : C3) : Bool := bif onF p then eqR (refsF p) q else false
theorem same_t {p : Pt} {q : C3} (h : onF p = true) : sameF p q = eqR (refsF p) q := by unfold sameF; rw [h, cond_true]
theorem same_f {p : Pt} {q : C3} (h : onF p = false) : sameF p q = false := by unfold sameF; rw [h, cond_false]
theorem same_runs (a b c d e f g h i : Fe) : Runs 15 [bF [a, b, c], bF [d, e, f, g, h, i]] (.bool (sameF (a, b, c) ((d, e), (f, g), (h, i)))) := by
  cases h0 : onF (a, b, c) with
  | true =>
    rw [same_t h0]
    exact .of (SGa_ok _ _) rfl (sm1V a b c d e f g h i) (by unfold condOk sm1V_G; and_intros <;> first | with_reducible rfl | assumption) rfl rfl
  | false =>
    rw [same_f h0]
    exact .of (SGa_ok _ _) rfl (sm2V a b c d e f g h i) (by unfold condOk sm2V_G; and_intros <;> first | with_reducible rfl | assumption) rfl rfl
noncomputable def conSame : ConP Try.prog Fe := mkP 15 entSame [3, 6] (fun a b c d e f g h i => .bool (sameF (a, b, c) ((d, e), (f, g), (h, i)))) same_runs
end Go.Proofs.Ytcedljbapgmdmaa.En

/- DERIVED. The document's generator of the first group. -/
set_option linter.all false
namespace Go.Proofs.Ytcedljbapgmdmaa.En
open Go Go.RowKit

def rgenF : C3 := ((fGx, fmul zE ftwo), (fGy, fmul zE ftwo), eOne)
set_option maxRecDepth 100000 in
theorem entRGen : ∀ args w, (callFunc 16 args).run Try.prog w = .ok (.enter 16 args) w := ent_of (f := 16) (P := Try.prog) rfl rfl rfl
--@run rgnV := callF Try.prog (SRC noD [conREOne]) 90 16 [.bool false] [] => cV rgenF
--@[
set_option maxRecDepth 100000 in
def rgnV_G  : Prop := (true = true ∧ true = true) ∧ (true = true ∧ true = true) ∧ true = true
set_option maxRecDepth 100000 in
theorem rgnV  : (callF Try.prog (SRC noD [conREOne]) 90 16 [.bool false] []).map (fun r => (r.1, r.2.2)) = some (cV rgenF, some (rgnV_G )) := by kernel_rfl
set_option maxRecDepth 100000 in
theorem rgnV_ok  : condOk (some (rgnV_G )) := by unfold rgnV_G condOk; and_intros <;> rfl
--@]
def rgnFn : List (LV Fe) → Option (LV Fe)
  | [.bool false] => some (cV rgenF)
  | _ => none
theorem rgnFn_runs {vs : List (LV Fe)} {v : LV Fe} (h : rgnFn vs = some v) : Runs 16 vs v := by
  unfold rgnFn at h
  split at h
  · cases h; exact .of (SRE_ok _ _) rfl rgnV rgnV_ok rfl rfl
  · cases h
noncomputable def conRGen : ConP Try.prog Fe := mkFn 16 entRGen rgnFn rgnFn_runs
end Go.Proofs.Ytcedljbapgmdmaa.En

/- DERIVED. The group's order in bytes, as a contract. -/
set_option linter.all false
namespace Go.Proofs.Ytcedljbapgmdmaa.En
open Go Go.RowKit

def ordL : List Int := [0, 0, 0, 0, 0, 0, 0, 0, 0, 0, 0, 0, 0, 0, 0, 0, 115, 237, 167, 83, 41, 157, 125, 72, 51, 57, 216, 8, 9, 161, 216, 5, 83, 189, 164, 2, 255, 254, 91, 254, 255, 255, 255, 255, 0, 0, 0, 1]
def ordU : List (LV Fe) := ordL.map fun x => .int .u8 x
abbrev rNV : LV Fe := .agg [.int .u64 18446744069414584321, .int .u64 6034159408538082302, .int .u64 3691218898639771653, .int .u64 8353516859464449352, .int .u64 0, .int .u64 0]
set_option maxRecDepth 100000 in
theorem entRR : ∀ args w, (callFunc 46 args).run Try.prog w = .ok (.enter 46 args) w := ent_of (f := 46) (P := Try.prog) rfl rfl rfl
set_option maxRecDepth 100000 in
theorem entRBy : ∀ args w, (callFunc 45 args).run Try.prog w = .ok (.enter 45 args) w := ent_of (f := 45) (P := Try.prog) rfl rfl rfl
set_option maxRecDepth 100000 in
theorem entOrd : ∀ args w, (callFunc 19 args).run Try.prog w = .ok (.enter 19 args) w := ent_of (f := 19) (P := Try.prog) rfl rfl rfl
--@run rrV := callF Try.prog (SGa noD []) 300 46 [] [] => rNV
--@[
set_option maxRecDepth 100000 in
def rrV_G  : Prop := true = true
set_option maxRecDepth 100000 in
theorem rrV  : (callF Try.prog (SGa noD []) 300 46 [] []).map (fun r => (r.1, r.2.2)) = some (rNV, some (rrV_G )) := by kernel_rfl
set_option maxRecDepth 100000 in
theorem rrV_ok  : condOk (some (rrV_G )) := by unfold rrV_G condOk; and_intros <;> rfl
--@]
noncomputable def conRR : ConP Try.prog Fe := mk0 46 entRR rNV (.of (SGa_ok _ _) rfl rrV rrV_ok rfl rfl)
--@run rbV := callF Try.prog (SGa noD []) 300 45 [rNV] [] => .agg ordU
--@[
set_option maxRecDepth 100000 in
def rbV_G  : Prop := (true = true ∧ true = true ∧ true = true ∧ true = true ∧ true = true ∧ true = true) ∧ (true = true ∧ true = true ∧ true = true ∧ true = true ∧ true = true ∧ true = true) ∧ (true = true ∧ true = true ∧ true = true ∧ true = true ∧ true = true ∧ true = true) ∧ (true = true ∧ true = true ∧ true = true ∧ true = true ∧ true = true ∧ true = true) ∧ (true = true ∧ true = true ∧ true = true ∧ true = true ∧ true = true ∧ true = true) ∧ (true = true ∧ true = true ∧ true = true ∧ true = true ∧ true = true ∧ true = true) ∧ (true = true ∧ true = true ∧ true = true ∧ true = true ∧ true = true ∧ true = true) ∧ (true = true ∧ true = true ∧ true = true ∧ true = true ∧ true = true ∧ true = true) ∧ (true = true ∧ true = true ∧ true = true ∧ true = true ∧ true = true ∧ true = true) ∧ (true = true ∧ true = true ∧ true = true ∧ true = true ∧ true = true ∧ true = true) ∧ (true = true ∧ true = true ∧ true = true ∧ true = true ∧ true = true ∧ true = true) ∧ (true = true ∧ true = true ∧ true = true ∧ true = true ∧ true = true ∧ true = true) ∧ (true = true ∧ true = true ∧ true = true ∧ true = true ∧ true = true ∧ true = true) ∧ (true = true ∧ true = true ∧ true = true ∧ true = true ∧ true = true ∧ true = true) ∧ (true = true ∧ true = true ∧ true = true ∧ true = true ∧ true = true ∧ true = true) ∧ (true = true ∧ true = true ∧ true = true ∧ true = true ∧ true = true ∧ true = true) ∧ (true = true ∧ true = true ∧ true = true ∧ true = true ∧ true = true ∧ true = true) ∧ (true = true ∧ true = true ∧ true = true ∧ true = true ∧ true = true ∧ true = true) ∧ (true = true ∧ true = true ∧ true = true ∧ true = true ∧ true = true ∧ true = true) ∧ (true = true ∧ true = true ∧ true = true ∧ true = true ∧ true = true ∧ true = true) ∧ (true = true ∧ true = true ∧ true = true ∧ true = true ∧ true = true ∧ true = true) ∧ (true = true ∧ true = true ∧ true = true ∧ true = true ∧ true = true ∧ true = true) ∧ (true = true ∧ true = true ∧ true = true ∧ true = true ∧ true = true ∧ true = true) ∧ (true = true ∧ true = true ∧ true = true ∧ true = true ∧ true = true ∧ true = true) ∧ (true = true ∧ true = true ∧ true = true ∧ true = true ∧ true = true ∧ true = true) ∧ (true = true ∧ true = true ∧ true = true ∧ true = true ∧ true = true ∧ true = true) ∧ (true = true ∧ true = true ∧ true = true ∧ true = true ∧ true = true ∧ true = true) ∧ (true = true ∧ true = true ∧ true = true ∧ true = true ∧ true = true ∧ true = true) ∧ (true = true ∧ true = true ∧ true = true ∧ true = true ∧ true = true ∧ true = true) ∧ (true = true ∧ true = true ∧ true = true ∧ true = true ∧ true = true ∧ true = true) ∧ (true = true ∧ true = true ∧ true = true ∧ true = true ∧ true = true ∧ true = true) ∧ (true = true ∧ true = true ∧ true = true ∧ true = true ∧ true = true ∧ true = true) ∧ (true = true ∧ true = true ∧ true = true ∧ true = true ∧ true = true ∧ true = true) ∧ (true = true ∧ true = true ∧ true = true ∧ true = true ∧ true = true ∧ true = true) ∧ (true = true ∧ true = true ∧ true = true ∧ true = true ∧ true = true ∧ true = true) ∧ (true = true ∧ true = true ∧ true = true ∧ true = true ∧ true = true ∧ true = true) ∧ (true = true ∧ true = true ∧ true = true ∧ true = true ∧ true = true ∧ true = true) ∧ (true = true ∧ true = true ∧ true = true ∧ true = true ∧ true = true ∧ true = true) ∧ (true = true ∧ true = true ∧ true = true ∧ true = true ∧ true = true ∧ true = true) ∧ (true = true ∧ true = true ∧ true = true ∧ true = true ∧ true = true ∧ true = true) ∧ (true = true ∧ true = true ∧ true = true ∧ true = true ∧ true = true ∧ true = true) ∧ (true = true ∧ true = true ∧ true = true ∧ true = true ∧ true = true ∧ true = true) ∧ (true = true ∧ true = true ∧ true = true ∧ true = true ∧ true = true ∧ true = true) ∧ (true = true ∧ true = true ∧ true = true ∧ true = true ∧ true = true ∧ true = true) ∧ (true = true ∧ true = true ∧ true = true ∧ true = true ∧ true = true ∧ true = true) ∧ (true = true ∧ true = true ∧ true = true ∧ true = true ∧ true = true ∧ true = true) ∧ (true = true ∧ true = true ∧ true = true ∧ true = true ∧ true = true ∧ true = true) ∧ (true = true ∧ true = true ∧ true = true ∧ true = true ∧ true = true ∧ true = true) ∧ true = true
set_option maxRecDepth 100000 in
theorem rbV  : (callF Try.prog (SGa noD []) 300 45 [rNV] []).map (fun r => (r.1, r.2.2)) = some (.agg ordU, some (rbV_G )) := by kernel_rfl
set_option maxRecDepth 100000 in
theorem rbV_ok  : condOk (some (rbV_G )) := by unfold rbV_G condOk; and_intros <;> rfl
--@]
def rbFn : List (LV Fe) → Option (LV Fe)
  | [.agg [.int .u64 18446744069414584321, .int .u64 6034159408538082302, .int .u64 3691218898639771653, .int .u64 8353516859464449352, .int .u64 0, .int .u64 0]] => some (.agg ordU)
  | _ => none
theorem rbFn_runs {vs : List (LV Fe)} {v : LV Fe} (h : rbFn vs = some v) : Runs 45 vs v := by
  unfold rbFn at h
  split at h
  · cases h; exact .of (SGa_ok _ _) rfl rbV rbV_ok rfl rfl
  · cases h
noncomputable def conRBy : ConP Try.prog Fe := mkFn 45 entRBy rbFn rbFn_runs
--@pre set_option maxRecDepth 100000
--@gen ordG := (callF Try.prog (SGa noD [conRR, conRBy]) 300 19 [] []).map (fun r => r.2.2)
--@[
set_option maxRecDepth 100000 in
def ordG_G  : Prop := true = true ∧ true = true
set_option maxRecDepth 100000 in
theorem ordG  : (callF Try.prog (SGa noD [conRR, conRBy]) 300 19 [] []).map (fun r => r.2.2) = some (some ((ordG_G ))) := by kernel_rfl
--@]
set_option maxRecDepth 100000 in
theorem ordV : callF Try.prog (SGa noD [conRR, conRBy]) 300 19 [] [] = some (.slice (.own 0) 0 [⟨16, 1, 0⟩] 32 32, [(⟨.rw, ordU⟩ : Blk Fe)].map some, some ordG_G) := by kernel_rfl
def ordC (I : Inp Fe) (vs : List (LV Fe)) (mem : Mem Fe) : Option (RdC Fe) := match vs with
  | [] => some ⟨[], [], [], .slice (.own 0) 0 [⟨16, 1, 0⟩] 32 32, [⟨.rw, ordU⟩], true = true⟩
  | _ => none
theorem inOf_nil : (inOf [] : Inp Fe) = noIF := by
  funext t i
  cases t with
  | zero => cases i <;> rfl
  | succ t => rfl
theorem ord_ok : ∀ I vs mem r, ordC I vs mem = some r → r.c → RdOk Try.prog 19 I vs mem r := by
  intro I vs mem r h hc
  unfold ordC at h
  split at h
  · cases h
    exact {
      args := rfl
      fit := trivial
      len := rfl
      blk := fun j k us hk hus => by simp at hk
      told := told_of (SGa_ok _ _) mixed inOf_nil.symm ordV (by unfold ordG_G condOk; and_intros <;> rfl)
      fitv := ownly_fit _ _ _ _ ⟨0, rfl⟩
      fitb := fun b hb => by
        rw [List.mem_singleton] at hb
        subst hb
        exact ⟨(plainL_ren _ _ _ (plain_ints .u8 ordL)).2, rfl⟩ }
  · cases h
noncomputable def conOrd : ConC Try.prog Fe := conRd 19 entOrd ordC ord_ok
end Go.Proofs.Ytcedljbapgmdmaa.En

/- DERIVED. Calls of a group and a slice, walked when they are met. -/
set_option linter.all false
namespace Go.Proofs.Ytcedljbapgmdmaa.En
open Go Go.RowKit

/-- A contract of a call that reads, in regions whose loads hang on no order too. -/
noncomputable def conRdT (f : FuncId) (ent : ∀ args w, (callFunc f args).run Try.prog w = .ok (.enter f args) w) (fn : Inp Fe → List (LV Fe) → Mem Fe → Option (RdC Fe))
    (ok : ∀ I vs mem r, fn I vs mem = some r → r.c → RdOk Try.prog f I vs mem r) : ConC Try.prog Fe :=
  { conRd f ent fn ok with
    tc := fun _ _ _ => some []
    keep := fun I vs mem v mem' c l h _ k hk _ => by
      simp only [conRd] at h
      split at h
      · cases h
        rw [List.getElem?_append_left hk]
      · cases h }
theorem told_walk {S : Sig Fe} {us0 : List (LV Fe)} (hS : SigOk Try.prog S) (hI : S.inp = inOf [us0]) (hp : plainL us0) {n : Nat} {f : FuncId} {args : List (LV Fe)} {v : LV Fe} {c : Cnd}
    (h : (callF Try.prog S n f args []).map (fun r => (r.1, r.2.2)) = some (v, c)) (hc : condOk c) (hv : plainB v = true) : Told Try.prog f [us0] args v [] := by
  refine told_below hv fun ρ w ha => ?_
  have hk : ∀ t i, kinL (okKey ([] : Mem Fe) ρ) (S.inp t i) := fun t i => by
    rw [hI]
    cases t with
    | succ t => trivial
    | zero => cases i with
      | zero => exact plainL_kin _ _ hp
      | succ i => trivial
  exact calls_top hS mixed h hc (by rw [hI]; exact ha.mem) ha.kinV hk fun ρ ρ' => pv_tr v hv ρ' ρ
/-- What such a call comes to. -/
noncomputable def walkC (mk : Inp Fe → Sig Fe) (f : FuncId) (us : List (LV Fe)) (args : List (LV Fe)) : Option (LV Fe × Cnd) := match callF Try.prog (mk (inOf [us])) 60 f args [] with
  | some (v, _, c) => match plainB v with
    | true => some (v, c)
    | false => none
  | none => none
theorem walk_told {mk : Inp Fe → Sig Fe} (hm : ∀ I, InpOk I → SigOk Try.prog (mk I)) (hi : ∀ I, (mk I).inp = I) {f : FuncId} {us args : List (LV Fe)} {v : LV Fe} {c : Cnd} (h : walkC mk f us args = some (v, c)) (hc : condOk c) (hp : plainL us) : plainB v = true ∧ Told Try.prog f [us] args v [] := by
  unfold walkC at h
  split at h
  · rename_i v' m c' hr
    split at h
    · rename_i hv
      cases h
      exact ⟨hv, told_walk (hm _ (inOf1_ok hp)) (hi _) hp (by rw [hr]; rfl) hc hv⟩
    · cases h
  · cases h
noncomputable def gsW (mk : Inp Fe → Sig Fe) (f : FuncId) (I : Inp Fe) (vs : List (LV Fe)) (mem : Mem Fe) : Option (RdC Fe) := match vs with
  | [u, x] => match pA [3] [u] with
    | some [[_, _, _]] => match x with
      | .vec k n => match bysOf I mem k with
        | some y => match walkC mk f y.us [u, .vec (.inp 0 0) n] with
          | some (v, c) => some ⟨[y.us], [k], [u, .vec (.inp 0 0) n], v, [], y.c ∧ condOk c⟩
          | none => none
        | none => none
      | .slice k o q len cap => match bysOf I mem k with
        | some y => match walkC mk f y.us [u, .slice (.inp 0 0) o q len cap] with
          | some (v, c) => some ⟨[y.us], [k], [u, .slice (.inp 0 0) o q len cap], v, [], y.c ∧ condOk c⟩
          | none => none
        | none => none
      | _ => none
    | _ => none
  | _ => none
theorem gsW_ok {mk : Inp Fe → Sig Fe} (hm : ∀ I, InpOk I → SigOk Try.prog (mk I)) (hi : ∀ I, (mk I).inp = I) {f : FuncId} : ∀ I vs mem r, gsW mk f I vs mem = some r → r.c → RdOk Try.prog f I vs mem r := by
  intro I vs mem r h hc
  unfold gsW at h
  split at h
  · rename_i u x
    split at h
    · rename_i hu
      have hpu := pA_plain _ _ _ hu
      split at h
      · rename_i k n
        split at h
        · rename_i y hy
          split at h
          · rename_i v c hw
            cases h
            obtain ⟨_, _, _, hpl, _, _⟩ := bysOf_ok hy hc.1
            obtain ⟨hv, ht⟩ := walk_told hm hi hw hc.2 hpl
            exact rdOk_gs hpu (pv_plain _ hv) ⟨rfl, ⟨fun e => by simp [keyMap, ιOf] at e, trivial⟩⟩ hy hc.1 ht
          · cases h
        · cases h
      · rename_i k o q len cap
        split at h
        · rename_i y hy
          split at h
          · rename_i v c hw
            cases h
            obtain ⟨_, _, _, hpl, _, _⟩ := bysOf_ok hy hc.1
            obtain ⟨hv, ht⟩ := walk_told hm hi hw hc.2 hpl
            exact rdOk_gs hpu (pv_plain _ hv) ⟨rfl, ⟨by simp [keyMap, ιOf], trivial⟩⟩ hy hc.1 ht
          · cases h
        · cases h
      · cases h
    · cases h
  · cases h
noncomputable abbrev SGw (I : Inp Fe) : Sig Fe := sigOf (P := Try.prog) ([conFAdd, conFSub, conFMul, conFSquare, conFNeg, conFIsZero, conFEqual, conTwice] ++ (psG ++ psH)) [] [conCMul] (I := I) [] msF (advP noD [44] [])
theorem SGw_ok (I : Inp Fe) (h : InpOk I) : SigOk Try.prog (SGw I) := sigOf_ok _ [] [conCMul] [] msF_ok _ h
set_option maxRecDepth 100000 in
theorem entGMul : ∀ args w, (callFunc 18 args).run Try.prog w = .ok (.enter 18 args) w := ent_of (f := 18) (P := Try.prog) rfl rfl rfl
noncomputable def conGMul : ConC Try.prog Fe := conRdT 18 entGMul (gsW SGw 18) (gsW_ok SGw_ok fun _ => rfl)
noncomputable def conOrdT : ConC Try.prog Fe := conRdT 19 entOrd ordC ord_ok
end Go.Proofs.Ytcedljbapgmdmaa.En

/- DERIVED. What becomes of the generator, on numbers. -/
set_option linter.all false
namespace Go.Proofs.Ytcedljbapgmdmaa.En
open Go Go.RowKit

theorem kn_same : sameF genF rgenF = true := by decide +kernel
theorem kn_ord : isz (mulF genF 32 fun j => ordL.getD (16 + j) 0).2.2 = true := by decide +kernel
theorem kn_nine : isz (mulF genF 1 fun j => ([9] : List Int).getD j 0).2.2 = false := by decide +kernel
theorem kn_dbl : ceqF (paddF genF genF) (dblF genF) = true := by decide +kernel
theorem kn_neg : isz (paddF genF (negF genF)).2.2 = true := by decide +kernel
theorem kn_ig : inGrpF genF = true := by
  unfold inGrpF igF muu
  simp only [mlu_eq]
  decide +kernel
end Go.Proofs.Ytcedljbapgmdmaa.En

/- DERIVED. What becomes of the generator: the program's own test of it. -/
set_option linter.all false
namespace Go.Proofs.Ytcedljbapgmdmaa.En
open Go Go.RowKit

noncomputable abbrev SGk (A : Adv) (ps : List (ConP Try.prog Fe)) : Sig Fe := sigOf (P := Try.prog) ([conFAdd, conFSub, conFMul, conFSquare, conFNeg, conFIsZero, conFEqual, conTwice] ++ (psG ++ (psH ++ ps))) [] [conGMul, conOrdT] (I := noIF) [] msF A
theorem SGk_ok (A : Adv) (ps : List (ConP Try.prog Fe)) : SigOk Try.prog (SGk A ps) := sigOf_ok _ [] [conGMul, conOrdT] [] msF_ok _ noIF_ok
set_option maxRecDepth 100000 in
theorem entInfty : ∀ args w, (callFunc 21 args).run Try.prog w = .ok (.enter 21 args) w := ent_of (f := 21) (P := Try.prog) rfl rfl rfl
--@run iftV := callF Try.prog (SGa noD []) 60 21 [] [] => .agg zB
--@[
set_option maxRecDepth 100000 in
def iftV_G  : Prop := true = true
set_option maxRecDepth 100000 in
theorem iftV  : (callF Try.prog (SGa noD []) 60 21 [] []).map (fun r => (r.1, r.2.2)) = some (.agg zB, some (iftV_G )) := by kernel_rfl
set_option maxRecDepth 100000 in
theorem iftV_ok  : condOk (some (iftV_G )) := by unfold iftV_G condOk; and_intros <;> rfl
--@]
noncomputable def conInfty : ConP Try.prog Fe := mk0 21 entInfty (.agg zB) (.of (SGa_ok _ _) rfl iftV iftV_ok rfl rfl)
/-- The generators, not opened. -/
noncomputable def conGenV (p : Pt) (h : p = genF) : ConP Try.prog Fe := mk0 14 entGen (ptV p) (by subst h; exact .of (SGa_ok _ _) rfl genV genV_ok rfl rfl)
def rgnW (r : C3) : List (LV Fe) → Option (LV Fe)
  | [.bool false] => some (cV r)
  | _ => none
theorem rgnW_runs {r : C3} (hr : r = rgenF) {vs : List (LV Fe)} {v : LV Fe} (h : rgnW r vs = some v) : Runs 16 vs v := by
  unfold rgnW at h
  split at h
  · cases h; subst hr; exact .of (SRE_ok _ _) rfl rgnV rgnV_ok rfl rfl
  · cases h
noncomputable def conRGenV (r : C3) (h : r = rgenF) : ConP Try.prog Fe := mkFn 16 entRGen (rgnW r) (rgnW_runs h)
noncomputable abbrev psK {a b c d e f g h i : Fe} (h1 : (a, b, c) = genF) (h2 : ((d, e), (f, g), (h, i)) = rgenF) : List (ConP Try.prog Fe) := [conGenV _ h1, conRGenV _ h2, conSame, conInGrp, conGEqual, conGAdd, conGNeg, conGInf, conGDouble, conInfty]
noncomputable abbrev advK : Adv := advP (dci 4 [(3, 2, true), (3, 5, true), (3, 11, true), (3, 17, false), (3, 22, true), (3, 27, true), (3, 35, true), (3, 42, true)]) [18, 19] [(4, 3)]
set_option maxRecDepth 100000 in
theorem entKnown : ∀ args w, (callFunc 4 args).run Try.prog w = .ok (.enter 4 args) w := ent_of (f := 4) (P := Try.prog) rfl rfl rfl

/-- The one byte 9, as the slice's block has it. -/
def g9 (j : Nat) : List (LV Fe) := List.getD (List.set (List.replicate 1 (units (LV.int .u8 0))) 0 (units (LV.int .u8 9))) j []
def n9 (j : Nat) : Int := byteOf (g9 j)
def knP (a b c d e f g h i : Fe) : Prop := true = true ∧ sameF (a, b, c) ((d, e), (f, g), h, i) = true ∧ inGrpF (a, b, c) = true ∧ true = true ∧
  (true = true ∧ ((true = true ∧ 48 ≤ 48 ∧ rngB (fun j => ordL.getD j 0) 16 32 ∧ 256 ≤ 140737488351232) ∧ true = true)) ∧ isz (mulF (a, b, c) 32 fun j => ordL.getD (16 + j) 0).2.2 = true ∧
  ((∀ j, j < 1 → Like (g9 j) [.int .u8 (n9 j)]) ∧ (((∀ j, j < 1 → Like (A := Fe) [.int .u8 (n9 j)] [.int .u8 (n9 j)]) ∧ 1 = 1 ∧ rngB n9 0 1 ∧ 8 ≤ 140737488351232) ∧ true = true)) ∧ isz (mulF (a, b, c) 1 n9).2.2 = false ∧
  true = true ∧ true = true ∧ ceqF ((paddF (a, b, c) (a, b, c)).1, (paddF (a, b, c) (a, b, c)).2.1, (paddF (a, b, c) (a, b, c)).2.2) ((dblF (a, b, c)).1, (dblF (a, b, c)).2.1, (dblF (a, b, c)).2.2) = true ∧
  isz (paddF (a, b, c) ((negF (a, b, c)).1, (negF (a, b, c)).2.1, (negF (a, b, c)).2.2)).2.2 = true
set_option maxRecDepth 100000 in
theorem knV (a b c d e f g h i : Fe) (h1 : (a, b, c) = genF) (h2 : ((d, e), (f, g), (h, i)) = rgenF) : (callF Try.prog (SGk advK (psK h1 h2)) 60 4 [] []).map (fun r => (r.1, r.2.2)) = some (.bool true, some (knP a b c d e f g h i)) := by kernel_rfl
theorem knP_ok {a b c d e f g h i : Fe} (h1 : (a, b, c) = genF) (h2 : ((d, e), (f, g), (h, i)) = rgenF) : knP a b c d e f g h i := by
  unfold knP
  refine ⟨rfl, ?_, ?_, rfl, ⟨rfl, ⟨rfl, Nat.le_refl _, ?_, by decide⟩, rfl⟩, ?_, ⟨fun j hj => ?_, ⟨fun _ _ => Like.refl _, rfl, ?_, by decide⟩, rfl⟩, ?_, rfl, rfl, ?_, ?_⟩
  · rw [h1, h2]; exact kn_same
  · rw [h1]; exact kn_ig
  · intro j hj; revert j; unfold ordL; decide +kernel
  · rw [h1]; exact kn_ord
  · have : j = 0 := by omega
    subst this
    exact Like.refl _
  · intro j hj
    have : j = 0 := by omega
    subst this
    exact ⟨by decide, by decide⟩
  · rw [h1]; decide +kernel
  · have e := kn_dbl
    rw [← h1] at e
    exact e
  · have e := kn_neg
    rw [← h1] at e
    exact e
noncomputable def conKnown : ConP Try.prog Fe := mk0 4 entKnown (.bool true) (.of (SGk_ok _ _) rfl (knV genF.1 genF.2.1 genF.2.2 rgenF.1.1 rgenF.1.2 rgenF.2.1.1 rgenF.2.1.2 rgenF.2.2.1 rgenF.2.2.2 rfl rfl) (knP_ok rfl rfl) rfl rfl)
end Go.Proofs.Ytcedljbapgmdmaa.En

/- DERIVED. A number of few bytes. -/
set_option linter.all false
namespace Go.Proofs.Ytcedljbapgmdmaa.En
open Go Go.RowKit

noncomputable abbrev SFm (m : Nat) (g : Nat → Int) : Sig Fe := sigOf (P := Try.prog) [] [] [] (I := inOf [[.rows m 1 fun j => [.int .u8 (g j)]]]) [] noMs (advF noD)
def fwS (m : Nat) (g : Nat → Int) : Nat → Nat → Int
  | 0, _ => 0
  | i + 1, q => match Nat.beq ((m - 1 - i) / 8) q with
    | true => bits .or .u64 (fwS m g i q) (IntKind.u64.wrap (IntKind.u64.wrap (g i) * 2 ^ (8 * ((m - 1 - i) % 8))))
    | false => fwS m g i q
def fwC : Nat → Prop
  | 0 => true = true
  | m + 1 => (true = true ∧ true = true ∧ true = true ∧ true = true ∧ true = true ∧ true = true ∧ true = true ∧ true = true) ∧ fwC m
theorem fwC_ok : ∀ m, fwC m
  | 0 => rfl
  | m + 1 => ⟨⟨rfl, rfl, rfl, rfl, rfl, rfl, rfl, rfl⟩, fwC_ok m⟩
set_option maxRecDepth 100000 in
theorem fw0 (g : Nat → Int) : (callF Try.prog (SFm 0 g) 300 50 [.vec (.inp 0 0) 0] []).map (fun r => (r.1, r.2.2)) = some (.tup [limA (fwS 0 g 0), .bool true], some (fwC 0)) := by kernel_rfl
set_option maxRecDepth 100000 in
theorem fw1 (g : Nat → Int) : (callF Try.prog (SFm 1 g) 300 50 [.vec (.inp 0 0) 1] []).map (fun r => (r.1, r.2.2)) = some (.tup [limA (fwS 1 g 1), .bool true], some (fwC 1)) := by kernel_rfl
set_option maxRecDepth 100000 in
theorem fw2 (g : Nat → Int) : (callF Try.prog (SFm 2 g) 300 50 [.vec (.inp 0 0) 2] []).map (fun r => (r.1, r.2.2)) = some (.tup [limA (fwS 2 g 2), .bool true], some (fwC 2)) := by kernel_rfl
set_option maxRecDepth 100000 in
theorem fw3 (g : Nat → Int) : (callF Try.prog (SFm 3 g) 300 50 [.vec (.inp 0 0) 3] []).map (fun r => (r.1, r.2.2)) = some (.tup [limA (fwS 3 g 3), .bool true], some (fwC 3)) := by kernel_rfl
set_option maxRecDepth 100000 in
theorem fw4 (g : Nat → Int) : (callF Try.prog (SFm 4 g) 300 50 [.vec (.inp 0 0) 4] []).map (fun r => (r.1, r.2.2)) = some (.tup [limA (fwS 4 g 4), .bool true], some (fwC 4)) := by kernel_rfl
set_option maxRecDepth 100000 in
theorem fw5 (g : Nat → Int) : (callF Try.prog (SFm 5 g) 300 50 [.vec (.inp 0 0) 5] []).map (fun r => (r.1, r.2.2)) = some (.tup [limA (fwS 5 g 5), .bool true], some (fwC 5)) := by kernel_rfl
set_option maxRecDepth 100000 in
theorem fw6 (g : Nat → Int) : (callF Try.prog (SFm 6 g) 300 50 [.vec (.inp 0 0) 6] []).map (fun r => (r.1, r.2.2)) = some (.tup [limA (fwS 6 g 6), .bool true], some (fwC 6)) := by kernel_rfl
set_option maxRecDepth 100000 in
theorem fw7 (g : Nat → Int) : (callF Try.prog (SFm 7 g) 300 50 [.vec (.inp 0 0) 7] []).map (fun r => (r.1, r.2.2)) = some (.tup [limA (fwS 7 g 7), .bool true], some (fwC 7)) := by kernel_rfl
set_option maxRecDepth 100000 in
theorem fw8 (g : Nat → Int) : (callF Try.prog (SFm 8 g) 300 50 [.vec (.inp 0 0) 8] []).map (fun r => (r.1, r.2.2)) = some (.tup [limA (fwS 8 g 8), .bool true], some (fwC 8)) := by kernel_rfl
set_option maxRecDepth 100000 in
theorem fw9 (g : Nat → Int) : (callF Try.prog (SFm 9 g) 300 50 [.vec (.inp 0 0) 9] []).map (fun r => (r.1, r.2.2)) = some (.tup [limA (fwS 9 g 9), .bool true], some (fwC 9)) := by kernel_rfl
set_option maxRecDepth 100000 in
theorem fw10 (g : Nat → Int) : (callF Try.prog (SFm 10 g) 300 50 [.vec (.inp 0 0) 10] []).map (fun r => (r.1, r.2.2)) = some (.tup [limA (fwS 10 g 10), .bool true], some (fwC 10)) := by kernel_rfl
set_option maxRecDepth 100000 in
theorem fw11 (g : Nat → Int) : (callF Try.prog (SFm 11 g) 300 50 [.vec (.inp 0 0) 11] []).map (fun r => (r.1, r.2.2)) = some (.tup [limA (fwS 11 g 11), .bool true], some (fwC 11)) := by kernel_rfl
set_option maxRecDepth 100000 in
theorem fw12 (g : Nat → Int) : (callF Try.prog (SFm 12 g) 300 50 [.vec (.inp 0 0) 12] []).map (fun r => (r.1, r.2.2)) = some (.tup [limA (fwS 12 g 12), .bool true], some (fwC 12)) := by kernel_rfl
set_option maxRecDepth 100000 in
theorem fw13 (g : Nat → Int) : (callF Try.prog (SFm 13 g) 300 50 [.vec (.inp 0 0) 13] []).map (fun r => (r.1, r.2.2)) = some (.tup [limA (fwS 13 g 13), .bool true], some (fwC 13)) := by kernel_rfl
set_option maxRecDepth 100000 in
theorem fw14 (g : Nat → Int) : (callF Try.prog (SFm 14 g) 300 50 [.vec (.inp 0 0) 14] []).map (fun r => (r.1, r.2.2)) = some (.tup [limA (fwS 14 g 14), .bool true], some (fwC 14)) := by kernel_rfl
set_option maxRecDepth 100000 in
theorem fw15 (g : Nat → Int) : (callF Try.prog (SFm 15 g) 300 50 [.vec (.inp 0 0) 15] []).map (fun r => (r.1, r.2.2)) = some (.tup [limA (fwS 15 g 15), .bool true], some (fwC 15)) := by kernel_rfl
set_option maxRecDepth 100000 in
theorem fw16 (g : Nat → Int) : (callF Try.prog (SFm 16 g) 300 50 [.vec (.inp 0 0) 16] []).map (fun r => (r.1, r.2.2)) = some (.tup [limA (fwS 16 g 16), .bool true], some (fwC 16)) := by kernel_rfl
set_option maxRecDepth 100000 in
theorem fw17 (g : Nat → Int) : (callF Try.prog (SFm 17 g) 300 50 [.vec (.inp 0 0) 17] []).map (fun r => (r.1, r.2.2)) = some (.tup [limA (fwS 17 g 17), .bool true], some (fwC 17)) := by kernel_rfl
set_option maxRecDepth 100000 in
theorem fw18 (g : Nat → Int) : (callF Try.prog (SFm 18 g) 300 50 [.vec (.inp 0 0) 18] []).map (fun r => (r.1, r.2.2)) = some (.tup [limA (fwS 18 g 18), .bool true], some (fwC 18)) := by kernel_rfl
set_option maxRecDepth 100000 in
theorem fw19 (g : Nat → Int) : (callF Try.prog (SFm 19 g) 300 50 [.vec (.inp 0 0) 19] []).map (fun r => (r.1, r.2.2)) = some (.tup [limA (fwS 19 g 19), .bool true], some (fwC 19)) := by kernel_rfl
set_option maxRecDepth 100000 in
theorem fw20 (g : Nat → Int) : (callF Try.prog (SFm 20 g) 300 50 [.vec (.inp 0 0) 20] []).map (fun r => (r.1, r.2.2)) = some (.tup [limA (fwS 20 g 20), .bool true], some (fwC 20)) := by kernel_rfl
set_option maxRecDepth 100000 in
theorem fw21 (g : Nat → Int) : (callF Try.prog (SFm 21 g) 300 50 [.vec (.inp 0 0) 21] []).map (fun r => (r.1, r.2.2)) = some (.tup [limA (fwS 21 g 21), .bool true], some (fwC 21)) := by kernel_rfl
set_option maxRecDepth 100000 in
theorem fw22 (g : Nat → Int) : (callF Try.prog (SFm 22 g) 300 50 [.vec (.inp 0 0) 22] []).map (fun r => (r.1, r.2.2)) = some (.tup [limA (fwS 22 g 22), .bool true], some (fwC 22)) := by kernel_rfl
set_option maxRecDepth 100000 in
theorem fw23 (g : Nat → Int) : (callF Try.prog (SFm 23 g) 300 50 [.vec (.inp 0 0) 23] []).map (fun r => (r.1, r.2.2)) = some (.tup [limA (fwS 23 g 23), .bool true], some (fwC 23)) := by kernel_rfl
set_option maxRecDepth 100000 in
theorem fw24 (g : Nat → Int) : (callF Try.prog (SFm 24 g) 300 50 [.vec (.inp 0 0) 24] []).map (fun r => (r.1, r.2.2)) = some (.tup [limA (fwS 24 g 24), .bool true], some (fwC 24)) := by kernel_rfl
set_option maxRecDepth 100000 in
theorem fw25 (g : Nat → Int) : (callF Try.prog (SFm 25 g) 300 50 [.vec (.inp 0 0) 25] []).map (fun r => (r.1, r.2.2)) = some (.tup [limA (fwS 25 g 25), .bool true], some (fwC 25)) := by kernel_rfl
set_option maxRecDepth 100000 in
theorem fw26 (g : Nat → Int) : (callF Try.prog (SFm 26 g) 300 50 [.vec (.inp 0 0) 26] []).map (fun r => (r.1, r.2.2)) = some (.tup [limA (fwS 26 g 26), .bool true], some (fwC 26)) := by kernel_rfl
set_option maxRecDepth 100000 in
theorem fw27 (g : Nat → Int) : (callF Try.prog (SFm 27 g) 300 50 [.vec (.inp 0 0) 27] []).map (fun r => (r.1, r.2.2)) = some (.tup [limA (fwS 27 g 27), .bool true], some (fwC 27)) := by kernel_rfl
set_option maxRecDepth 100000 in
theorem fw28 (g : Nat → Int) : (callF Try.prog (SFm 28 g) 300 50 [.vec (.inp 0 0) 28] []).map (fun r => (r.1, r.2.2)) = some (.tup [limA (fwS 28 g 28), .bool true], some (fwC 28)) := by kernel_rfl
set_option maxRecDepth 100000 in
theorem fw29 (g : Nat → Int) : (callF Try.prog (SFm 29 g) 300 50 [.vec (.inp 0 0) 29] []).map (fun r => (r.1, r.2.2)) = some (.tup [limA (fwS 29 g 29), .bool true], some (fwC 29)) := by kernel_rfl
set_option maxRecDepth 100000 in
theorem fw30 (g : Nat → Int) : (callF Try.prog (SFm 30 g) 300 50 [.vec (.inp 0 0) 30] []).map (fun r => (r.1, r.2.2)) = some (.tup [limA (fwS 30 g 30), .bool true], some (fwC 30)) := by kernel_rfl
set_option maxRecDepth 100000 in
theorem fw31 (g : Nat → Int) : (callF Try.prog (SFm 31 g) 300 50 [.vec (.inp 0 0) 31] []).map (fun r => (r.1, r.2.2)) = some (.tup [limA (fwS 31 g 31), .bool true], some (fwC 31)) := by kernel_rfl
set_option maxRecDepth 100000 in
theorem fw32 (g : Nat → Int) : (callF Try.prog (SFm 32 g) 300 50 [.vec (.inp 0 0) 32] []).map (fun r => (r.1, r.2.2)) = some (.tup [limA (fwS 32 g 32), .bool true], some (fwC 32)) := by kernel_rfl
theorem fwV (g : Nat → Int) : ∀ m, m ≤ 32 → (callF Try.prog (SFm m g) 300 50 [.vec (.inp 0 0) m] []).map (fun r => (r.1, r.2.2)) = some (.tup [limA (fwS m g m), .bool true], some (fwC m))
  | 0, _ => fw0 g
  | 1, _ => fw1 g
  | 2, _ => fw2 g
  | 3, _ => fw3 g
  | 4, _ => fw4 g
  | 5, _ => fw5 g
  | 6, _ => fw6 g
  | 7, _ => fw7 g
  | 8, _ => fw8 g
  | 9, _ => fw9 g
  | 10, _ => fw10 g
  | 11, _ => fw11 g
  | 12, _ => fw12 g
  | 13, _ => fw13 g
  | 14, _ => fw14 g
  | 15, _ => fw15 g
  | 16, _ => fw16 g
  | 17, _ => fw17 g
  | 18, _ => fw18 g
  | 19, _ => fw19 g
  | 20, _ => fw20 g
  | 21, _ => fw21 g
  | 22, _ => fw22 g
  | 23, _ => fw23 g
  | 24, _ => fw24 g
  | 25, _ => fw25 g
  | 26, _ => fw26 g
  | 27, _ => fw27 g
  | 28, _ => fw28 g
  | 29, _ => fw29 g
  | 30, _ => fw30 g
  | 31, _ => fw31 g
  | 32, _ => fw32 g
  | m + 33, h => absurd h (by omega)
end Go.Proofs.Ytcedljbapgmdmaa.En

/- DERIVED. A number of few bytes: the contract. -/
set_option linter.all false
namespace Go.Proofs.Ytcedljbapgmdmaa.En
open Go Go.RowKit

theorem fwS_rng (m : Nat) (g : Nat → Int) (q : Nat) : ∀ i, 0 ≤ fwS m g i q ∧ fwS m g i q < 18446744073709551616
  | 0 => ⟨Int.le_refl _, show (0 : Int) < 18446744073709551616 by decide⟩
  | i + 1 => by
    have ih := fwS_rng m g q i
    unfold fwS
    split
    · obtain ⟨a, ha⟩ := Int.eq_ofNat_of_zero_le ih.1
      rw [ha, IntKind.wrap_u64 (IntKind.u64.wrap (g i) * 2 ^ (8 * ((m - 1 - i) % 8)))]
      have h1 := Int.emod_nonneg (IntKind.u64.wrap (g i) * 2 ^ (8 * ((m - 1 - i) % 8))) (show (18446744073709551616 : Int) ≠ 0 by decide)
      have h2 := Int.emod_lt_of_pos (IntKind.u64.wrap (g i) * 2 ^ (8 * ((m - 1 - i) % 8))) (show (0 : Int) < 18446744073709551616 by decide)
      obtain ⟨b, hb⟩ := Int.eq_ofNat_of_zero_le h1
      rw [hb] at h2 ⊢
      have ha2 : a < 2 ^ 64 := by have := ih.2; omega
      have hb2 : b < 2 ^ 64 := by omega
      rw [bits_or_u64_nat _ _ (by omega) (by omega)]
      have := Nat.or_lt_two_pow ha2 hb2
      omega
    · exact ih
theorem fwS_hi {m : Nat} (hm : m ≤ 32) (g : Nat → Int) {q : Nat} (hq : 4 ≤ q) : ∀ i, i ≤ m → fwS m g i q = 0
  | 0, _ => rfl
  | i + 1, hi => by
    have ih := fwS_hi hm g hq i (by omega)
    unfold fwS
    split
    · rename_i h
      have := Nat.eq_of_beq_eq_true h
      omega
    · exact ih
/-- The number of so few bytes. -/
def fwN (m : Nat) (g : Nat → Int) : Nat := (fwS m g m 0).toNat + BB * ((fwS m g m 1).toNat + BB * ((fwS m g m 2).toNat + BB * (fwS m g m 3).toNat))
theorem fwN_lt (m : Nat) (g : Nat → Int) : fwN m g < pN := by
  have h0 := fwS_rng m g 0 m
  have h1 := fwS_rng m g 1 m
  have h2 := fwS_rng m g 2 m
  have h3 := fwS_rng m g 3 m
  unfold fwN
  have e : BB ^ 4 < pN := by decide +kernel
  have eb : BB = 18446744073709551616 := rfl
  rw [eb] at e ⊢
  generalize pN = X at *
  omega
theorem fwN_lm {m : Nat} (hm : m ≤ 32) (g : Nat → Int) : ∀ q, q < 6 → fwS m g m q = lm (fwN m g) q := by
  have h0 := fwS_rng m g 0 m
  have h1 := fwS_rng m g 1 m
  have h2 := fwS_rng m g 2 m
  have h3 := fwS_rng m g 3 m
  have h4 := fwS_hi hm g (Nat.le_refl 4) m (Nat.le_refl m)
  have h5 := fwS_hi hm g (show 4 ≤ 5 by omega) m (Nat.le_refl m)
  intro q hq
  unfold lm lmN fwN
  have eb : BB = 18446744073709551616 := rfl
  match q, hq with
  | 0, _ => rw [eb]; simp only [Nat.pow_zero]; omega
  | 1, _ => rw [eb]; simp only [Nat.pow_one]; omega
  | 2, _ => rw [eb, show (18446744073709551616 : Nat) ^ 2 = 340282366920938463463374607431768211456 by decide]; omega
  | 3, _ => rw [eb, show (18446744073709551616 : Nat) ^ 3 = 6277101735386680763835789423207666416102355444464034512896 by decide]; omega
  | 4, _ => rw [eb, h4, show (18446744073709551616 : Nat) ^ 4 = 115792089237316195423570985008687907853269984665640564039457584007913129639936 by decide]; omega
  | 5, _ => rw [eb, h5, show (18446744073709551616 : Nat) ^ 5 = 2135987035920910082395021706169552114602704522356652769947041607822219725780640550022962086936576 by decide]; omega
def fwF (m : Nat) (g : Nat → Int) : Fe := rawF (fwN m g)
theorem SFm_ok (m : Nat) (g : Nat → Int) : SigOk Try.prog (SFm m g) := sigOf_ok [] [] [] [] (noMs_ok _) _ (inOf1_ok ⟨fun _ => ⟨trivial, trivial⟩, trivial⟩)
theorem fw_told {m : Nat} (hm : m ≤ 32) (g : Nat → Int) : Told Try.prog 50 [[.rows m 1 fun j => [.int .u8 (g j)]]] [.vec (.inp 0 0) m] (.tup [.agg [.abs (fwF m g)], .bool true]) [] := by
  refine told_below rfl fun ρ w ha => ?_
  have hk : ∀ t i, kinL (okKey ([] : Mem Fe) ρ) ((SFm m g).inp t i) := fun t i => by
    show kinL _ (inOf [[.rows m 1 fun j => [.int .u8 (g j)]]] t i)
    cases t with
    | succ t => trivial
    | zero => cases i with
      | zero => exact plainL_kin _ _ ⟨fun _ => ⟨trivial, trivial⟩, trivial⟩
      | succ i => trivial
  have := calls_top (SFm_ok m g) mixed (fwV g m hm) (fwC_ok m) ha.mem ha.kinV hk fun ρ ρ' => rfl
  have e2 := tup_fe (ρ := ρ) (f := fwS m g m) (x := fwF m g) fun q hq => by unfold fwF; rw [mo_rawF (fwN_lt m g)]; exact fwN_lm hm g q hq
  rw [e2] at this
  exact this
/-- Bytes in a block of open rows. -/
def rowsB (us : List (LV Fe)) : Option (Nat × (Nat → Int) × Prop) := match us with
  | [.rows n z f] => match Nat.beq z 1 with
    | true => some (n, fun j => byteOf (f j), ∀ j, j < n → Like (f j) [.int .u8 (byteOf (f j))])
    | false => none
  | _ => none
theorem rowsB_some {us : List (LV Fe)} {n : Nat} {g : Nat → Int} {c : Prop} (h : rowsB us = some (n, g, c)) (hc : c) : Like us [.rows n 1 fun j => [.int .u8 (g j)]] := by
  unfold rowsB at h
  split at h
  · split at h
    · rename_i hz
      cases h
      have := beqN hz
      subst this
      exact Like.rows hc fun i _ p _ => ⟨trivial, trivial⟩
    · cases h
  · cases h
noncomputable def fwFn (I : Inp Fe) (vs : List (LV Fe)) (mem : Mem Fe) : Option (RdC Fe) := match vs with
  | [.vec k m] => match at? I mem k with
    | some bl => match isDead bl.kd, rowsB bl.us with
      | false, some (n, g, c) => some ⟨[[.rows m 1 fun j => [.int .u8 (g j)]]], [k], [.vec (.inp 0 0) m], .tup [.agg [.abs (fwF m g)], .bool true], [], c ∧ n = m ∧ m ≤ 32⟩
      | _, _ => none
    | none => none
  | _ => none
theorem fw_ok : ∀ I vs mem r, fwFn I vs mem = some r → r.c → RdOk Try.prog 50 I vs mem r := by
  intro I vs mem r h hc
  unfold fwFn at h
  split at h
  · rename_i k m
    split at h
    · rename_i bl hb
      split at h
      · rename_i n g c hd hr
        cases h
        obtain ⟨h1, h2, h3⟩ := hc
        subst h2
        exact {
          args := rfl
          fit := ⟨⟨fun e => by simp [keyMap, ιOf] at e, trivial⟩, trivial⟩
          len := rfl
          blk := fun j k' us hk hus => by
            match j with
            | 0 =>
              cases hk; cases hus
              exact ⟨bl, hb, hd, ⟨fun _ => ⟨trivial, trivial⟩, trivial⟩, rowsB_some hr h1⟩
            | j + 1 => simp at hk
          told := fw_told h3 g
          fitv := (plain_ren _ _ _ (show LV.plain (.tup [.agg [.abs (fwF n g)], .bool true] : LV Fe) from ⟨⟨trivial, trivial⟩, trivial, trivial⟩)).2
          fitb := fun b hb => absurd hb List.not_mem_nil }
      · cases h
    · cases h
  · cases h
set_option maxRecDepth 100000 in
theorem entFrom : ∀ args w, (callFunc 50 args).run Try.prog w = .ok (.enter 50 args) w := ent_of (f := 50) (P := Try.prog) rfl rfl rfl
noncomputable def conFrom : ConC Try.prog Fe := conRd 50 entFrom fwFn fw_ok
end Go.Proofs.Ytcedljbapgmdmaa.En

/- DERIVED. The element of any bytes: all runs. -/
set_option linter.all false
namespace Go.Proofs.Ytcedljbapgmdmaa.En
open Go Go.RowKit

noncomputable abbrev SWd (n : Nat) (g : Nat → Int) : Sig Fe := sigOf (P := Try.prog) ([conFAdd, conFSub, conFMul, conFSquare, conFNeg, conFIsZero, conFEqual, conTwice] ++ (psG ++ psH)) [] [conFrom] (I := inOf [[.rows n 1 fun j => [.int .u8 (g j)]]]) [] msF (advP noD [50] [])
theorem SWd_ok (n : Nat) (g : Nat → Int) : SigOk Try.prog (SWd n g) := sigOf_ok _ [] [conFrom] [] msF_ok _ (inOf1_ok ⟨fun _ => ⟨trivial, trivial⟩, trivial⟩)
def wSh : Fe := fmul (ofSix 0 0 0 0 1 0) ftwo
def wdR : Nat → Nat → (Nat → Int) → Fe → Fe
  | 0, _, _, x => x
  | k + 1, f, g, x => wdR k 32 (fun j => g (f + j)) (fadd (fmul x wSh) (fmul (fwF f g) ftwo))
def wdC : Nat → Nat → (Nat → Int) → Prop
  | 0, _, _ => true = true
  | k + 1, f, g => ((true = true ∧ true = true) ∧ ((∀ j, j < f → Like (A := Fe) [.int .u8 (g j)] [.int .u8 (g j)]) ∧ f = f ∧ f ≤ 32) ∧ true = true) ∧ true = true ∧ (true = true ∧ true = true) ∧ wdC k 32 fun j => g (f + j)
theorem wdC_ok : ∀ k f g, f ≤ 32 → wdC k f g
  | 0, _, _, _ => rfl
  | k + 1, f, g, h => ⟨⟨⟨rfl, rfl⟩, ⟨fun _ _ => Like.refl _, rfl, h⟩, rfl⟩, rfl, ⟨rfl, rfl⟩, wdC_ok k 32 _ (Nat.le_refl _)⟩
def wd1 (n : Nat) : Nat := match n % 32 with
  | 0 => 32
  | r + 1 => r + 1
def wdF (n : Nat) (g : Nat → Int) : Fe := wdR ((n + 31) / 32) (wd1 n) g (ofSix 0 0 0 0 0 0)
def wdP (n : Nat) (g : Nat → Int) : Prop := true = true ∧ true = true ∧ wdC ((n + 31) / 32) (wd1 n) g
theorem wdP_ok (n : Nat) (g : Nat → Int) : wdP n g := ⟨rfl, rfl, wdC_ok _ _ g (by unfold wd1; split <;> omega)⟩
set_option maxRecDepth 100000 in
theorem wd_1 (g : Nat → Int) : (callF Try.prog (SWd 1 g) 300 25 [.vec (.inp 0 0) 1] []).map (fun r => (r.1, r.2.2)) = some (.agg [.abs (wdF 1 g)], some (wdP 1 g)) := by kernel_rfl
set_option maxRecDepth 100000 in
theorem wd_2 (g : Nat → Int) : (callF Try.prog (SWd 2 g) 300 25 [.vec (.inp 0 0) 2] []).map (fun r => (r.1, r.2.2)) = some (.agg [.abs (wdF 2 g)], some (wdP 2 g)) := by kernel_rfl
set_option maxRecDepth 100000 in
theorem wd_3 (g : Nat → Int) : (callF Try.prog (SWd 3 g) 300 25 [.vec (.inp 0 0) 3] []).map (fun r => (r.1, r.2.2)) = some (.agg [.abs (wdF 3 g)], some (wdP 3 g)) := by kernel_rfl
set_option maxRecDepth 100000 in
theorem wd_4 (g : Nat → Int) : (callF Try.prog (SWd 4 g) 300 25 [.vec (.inp 0 0) 4] []).map (fun r => (r.1, r.2.2)) = some (.agg [.abs (wdF 4 g)], some (wdP 4 g)) := by kernel_rfl
set_option maxRecDepth 100000 in
theorem wd_5 (g : Nat → Int) : (callF Try.prog (SWd 5 g) 300 25 [.vec (.inp 0 0) 5] []).map (fun r => (r.1, r.2.2)) = some (.agg [.abs (wdF 5 g)], some (wdP 5 g)) := by kernel_rfl
set_option maxRecDepth 100000 in
theorem wd_6 (g : Nat → Int) : (callF Try.prog (SWd 6 g) 300 25 [.vec (.inp 0 0) 6] []).map (fun r => (r.1, r.2.2)) = some (.agg [.abs (wdF 6 g)], some (wdP 6 g)) := by kernel_rfl
set_option maxRecDepth 100000 in
theorem wd_7 (g : Nat → Int) : (callF Try.prog (SWd 7 g) 300 25 [.vec (.inp 0 0) 7] []).map (fun r => (r.1, r.2.2)) = some (.agg [.abs (wdF 7 g)], some (wdP 7 g)) := by kernel_rfl
set_option maxRecDepth 100000 in
theorem wd_8 (g : Nat → Int) : (callF Try.prog (SWd 8 g) 300 25 [.vec (.inp 0 0) 8] []).map (fun r => (r.1, r.2.2)) = some (.agg [.abs (wdF 8 g)], some (wdP 8 g)) := by kernel_rfl
set_option maxRecDepth 100000 in
theorem wd_9 (g : Nat → Int) : (callF Try.prog (SWd 9 g) 300 25 [.vec (.inp 0 0) 9] []).map (fun r => (r.1, r.2.2)) = some (.agg [.abs (wdF 9 g)], some (wdP 9 g)) := by kernel_rfl
set_option maxRecDepth 100000 in
theorem wd_10 (g : Nat → Int) : (callF Try.prog (SWd 10 g) 300 25 [.vec (.inp 0 0) 10] []).map (fun r => (r.1, r.2.2)) = some (.agg [.abs (wdF 10 g)], some (wdP 10 g)) := by kernel_rfl
set_option maxRecDepth 100000 in
theorem wd_11 (g : Nat → Int) : (callF Try.prog (SWd 11 g) 300 25 [.vec (.inp 0 0) 11] []).map (fun r => (r.1, r.2.2)) = some (.agg [.abs (wdF 11 g)], some (wdP 11 g)) := by kernel_rfl
set_option maxRecDepth 100000 in
theorem wd_12 (g : Nat → Int) : (callF Try.prog (SWd 12 g) 300 25 [.vec (.inp 0 0) 12] []).map (fun r => (r.1, r.2.2)) = some (.agg [.abs (wdF 12 g)], some (wdP 12 g)) := by kernel_rfl
set_option maxRecDepth 100000 in
theorem wd_13 (g : Nat → Int) : (callF Try.prog (SWd 13 g) 300 25 [.vec (.inp 0 0) 13] []).map (fun r => (r.1, r.2.2)) = some (.agg [.abs (wdF 13 g)], some (wdP 13 g)) := by kernel_rfl
set_option maxRecDepth 100000 in
theorem wd_14 (g : Nat → Int) : (callF Try.prog (SWd 14 g) 300 25 [.vec (.inp 0 0) 14] []).map (fun r => (r.1, r.2.2)) = some (.agg [.abs (wdF 14 g)], some (wdP 14 g)) := by kernel_rfl
set_option maxRecDepth 100000 in
theorem wd_15 (g : Nat → Int) : (callF Try.prog (SWd 15 g) 300 25 [.vec (.inp 0 0) 15] []).map (fun r => (r.1, r.2.2)) = some (.agg [.abs (wdF 15 g)], some (wdP 15 g)) := by kernel_rfl
set_option maxRecDepth 100000 in
theorem wd_16 (g : Nat → Int) : (callF Try.prog (SWd 16 g) 300 25 [.vec (.inp 0 0) 16] []).map (fun r => (r.1, r.2.2)) = some (.agg [.abs (wdF 16 g)], some (wdP 16 g)) := by kernel_rfl
set_option maxRecDepth 100000 in
theorem wd_17 (g : Nat → Int) : (callF Try.prog (SWd 17 g) 300 25 [.vec (.inp 0 0) 17] []).map (fun r => (r.1, r.2.2)) = some (.agg [.abs (wdF 17 g)], some (wdP 17 g)) := by kernel_rfl
set_option maxRecDepth 100000 in
theorem wd_18 (g : Nat → Int) : (callF Try.prog (SWd 18 g) 300 25 [.vec (.inp 0 0) 18] []).map (fun r => (r.1, r.2.2)) = some (.agg [.abs (wdF 18 g)], some (wdP 18 g)) := by kernel_rfl
set_option maxRecDepth 100000 in
theorem wd_19 (g : Nat → Int) : (callF Try.prog (SWd 19 g) 300 25 [.vec (.inp 0 0) 19] []).map (fun r => (r.1, r.2.2)) = some (.agg [.abs (wdF 19 g)], some (wdP 19 g)) := by kernel_rfl
set_option maxRecDepth 100000 in
theorem wd_20 (g : Nat → Int) : (callF Try.prog (SWd 20 g) 300 25 [.vec (.inp 0 0) 20] []).map (fun r => (r.1, r.2.2)) = some (.agg [.abs (wdF 20 g)], some (wdP 20 g)) := by kernel_rfl
set_option maxRecDepth 100000 in
theorem wd_21 (g : Nat → Int) : (callF Try.prog (SWd 21 g) 300 25 [.vec (.inp 0 0) 21] []).map (fun r => (r.1, r.2.2)) = some (.agg [.abs (wdF 21 g)], some (wdP 21 g)) := by kernel_rfl
set_option maxRecDepth 100000 in
theorem wd_22 (g : Nat → Int) : (callF Try.prog (SWd 22 g) 300 25 [.vec (.inp 0 0) 22] []).map (fun r => (r.1, r.2.2)) = some (.agg [.abs (wdF 22 g)], some (wdP 22 g)) := by kernel_rfl
set_option maxRecDepth 100000 in
theorem wd_23 (g : Nat → Int) : (callF Try.prog (SWd 23 g) 300 25 [.vec (.inp 0 0) 23] []).map (fun r => (r.1, r.2.2)) = some (.agg [.abs (wdF 23 g)], some (wdP 23 g)) := by kernel_rfl
set_option maxRecDepth 100000 in
theorem wd_24 (g : Nat → Int) : (callF Try.prog (SWd 24 g) 300 25 [.vec (.inp 0 0) 24] []).map (fun r => (r.1, r.2.2)) = some (.agg [.abs (wdF 24 g)], some (wdP 24 g)) := by kernel_rfl
set_option maxRecDepth 100000 in
theorem wd_25 (g : Nat → Int) : (callF Try.prog (SWd 25 g) 300 25 [.vec (.inp 0 0) 25] []).map (fun r => (r.1, r.2.2)) = some (.agg [.abs (wdF 25 g)], some (wdP 25 g)) := by kernel_rfl
set_option maxRecDepth 100000 in
theorem wd_26 (g : Nat → Int) : (callF Try.prog (SWd 26 g) 300 25 [.vec (.inp 0 0) 26] []).map (fun r => (r.1, r.2.2)) = some (.agg [.abs (wdF 26 g)], some (wdP 26 g)) := by kernel_rfl
set_option maxRecDepth 100000 in
theorem wd_27 (g : Nat → Int) : (callF Try.prog (SWd 27 g) 300 25 [.vec (.inp 0 0) 27] []).map (fun r => (r.1, r.2.2)) = some (.agg [.abs (wdF 27 g)], some (wdP 27 g)) := by kernel_rfl
set_option maxRecDepth 100000 in
theorem wd_28 (g : Nat → Int) : (callF Try.prog (SWd 28 g) 300 25 [.vec (.inp 0 0) 28] []).map (fun r => (r.1, r.2.2)) = some (.agg [.abs (wdF 28 g)], some (wdP 28 g)) := by kernel_rfl
set_option maxRecDepth 100000 in
theorem wd_29 (g : Nat → Int) : (callF Try.prog (SWd 29 g) 300 25 [.vec (.inp 0 0) 29] []).map (fun r => (r.1, r.2.2)) = some (.agg [.abs (wdF 29 g)], some (wdP 29 g)) := by kernel_rfl
set_option maxRecDepth 100000 in
theorem wd_30 (g : Nat → Int) : (callF Try.prog (SWd 30 g) 300 25 [.vec (.inp 0 0) 30] []).map (fun r => (r.1, r.2.2)) = some (.agg [.abs (wdF 30 g)], some (wdP 30 g)) := by kernel_rfl
set_option maxRecDepth 100000 in
theorem wd_31 (g : Nat → Int) : (callF Try.prog (SWd 31 g) 300 25 [.vec (.inp 0 0) 31] []).map (fun r => (r.1, r.2.2)) = some (.agg [.abs (wdF 31 g)], some (wdP 31 g)) := by kernel_rfl
set_option maxRecDepth 100000 in
theorem wd_32 (g : Nat → Int) : (callF Try.prog (SWd 32 g) 300 25 [.vec (.inp 0 0) 32] []).map (fun r => (r.1, r.2.2)) = some (.agg [.abs (wdF 32 g)], some (wdP 32 g)) := by kernel_rfl
set_option maxRecDepth 100000 in
theorem wd_33 (g : Nat → Int) : (callF Try.prog (SWd 33 g) 300 25 [.vec (.inp 0 0) 33] []).map (fun r => (r.1, r.2.2)) = some (.agg [.abs (wdF 33 g)], some (wdP 33 g)) := by kernel_rfl
set_option maxRecDepth 100000 in
theorem wd_34 (g : Nat → Int) : (callF Try.prog (SWd 34 g) 300 25 [.vec (.inp 0 0) 34] []).map (fun r => (r.1, r.2.2)) = some (.agg [.abs (wdF 34 g)], some (wdP 34 g)) := by kernel_rfl
set_option maxRecDepth 100000 in
theorem wd_35 (g : Nat → Int) : (callF Try.prog (SWd 35 g) 300 25 [.vec (.inp 0 0) 35] []).map (fun r => (r.1, r.2.2)) = some (.agg [.abs (wdF 35 g)], some (wdP 35 g)) := by kernel_rfl
set_option maxRecDepth 100000 in
theorem wd_36 (g : Nat → Int) : (callF Try.prog (SWd 36 g) 300 25 [.vec (.inp 0 0) 36] []).map (fun r => (r.1, r.2.2)) = some (.agg [.abs (wdF 36 g)], some (wdP 36 g)) := by kernel_rfl
set_option maxRecDepth 100000 in
theorem wd_37 (g : Nat → Int) : (callF Try.prog (SWd 37 g) 300 25 [.vec (.inp 0 0) 37] []).map (fun r => (r.1, r.2.2)) = some (.agg [.abs (wdF 37 g)], some (wdP 37 g)) := by kernel_rfl
set_option maxRecDepth 100000 in
theorem wd_38 (g : Nat → Int) : (callF Try.prog (SWd 38 g) 300 25 [.vec (.inp 0 0) 38] []).map (fun r => (r.1, r.2.2)) = some (.agg [.abs (wdF 38 g)], some (wdP 38 g)) := by kernel_rfl
set_option maxRecDepth 100000 in
theorem wd_39 (g : Nat → Int) : (callF Try.prog (SWd 39 g) 300 25 [.vec (.inp 0 0) 39] []).map (fun r => (r.1, r.2.2)) = some (.agg [.abs (wdF 39 g)], some (wdP 39 g)) := by kernel_rfl
set_option maxRecDepth 100000 in
theorem wd_40 (g : Nat → Int) : (callF Try.prog (SWd 40 g) 300 25 [.vec (.inp 0 0) 40] []).map (fun r => (r.1, r.2.2)) = some (.agg [.abs (wdF 40 g)], some (wdP 40 g)) := by kernel_rfl
set_option maxRecDepth 100000 in
theorem wd_41 (g : Nat → Int) : (callF Try.prog (SWd 41 g) 300 25 [.vec (.inp 0 0) 41] []).map (fun r => (r.1, r.2.2)) = some (.agg [.abs (wdF 41 g)], some (wdP 41 g)) := by kernel_rfl
set_option maxRecDepth 100000 in
theorem wd_42 (g : Nat → Int) : (callF Try.prog (SWd 42 g) 300 25 [.vec (.inp 0 0) 42] []).map (fun r => (r.1, r.2.2)) = some (.agg [.abs (wdF 42 g)], some (wdP 42 g)) := by kernel_rfl
set_option maxRecDepth 100000 in
theorem wd_43 (g : Nat → Int) : (callF Try.prog (SWd 43 g) 300 25 [.vec (.inp 0 0) 43] []).map (fun r => (r.1, r.2.2)) = some (.agg [.abs (wdF 43 g)], some (wdP 43 g)) := by kernel_rfl
set_option maxRecDepth 100000 in
theorem wd_44 (g : Nat → Int) : (callF Try.prog (SWd 44 g) 300 25 [.vec (.inp 0 0) 44] []).map (fun r => (r.1, r.2.2)) = some (.agg [.abs (wdF 44 g)], some (wdP 44 g)) := by kernel_rfl
set_option maxRecDepth 100000 in
theorem wd_45 (g : Nat → Int) : (callF Try.prog (SWd 45 g) 300 25 [.vec (.inp 0 0) 45] []).map (fun r => (r.1, r.2.2)) = some (.agg [.abs (wdF 45 g)], some (wdP 45 g)) := by kernel_rfl
set_option maxRecDepth 100000 in
theorem wd_46 (g : Nat → Int) : (callF Try.prog (SWd 46 g) 300 25 [.vec (.inp 0 0) 46] []).map (fun r => (r.1, r.2.2)) = some (.agg [.abs (wdF 46 g)], some (wdP 46 g)) := by kernel_rfl
set_option maxRecDepth 100000 in
theorem wd_47 (g : Nat → Int) : (callF Try.prog (SWd 47 g) 300 25 [.vec (.inp 0 0) 47] []).map (fun r => (r.1, r.2.2)) = some (.agg [.abs (wdF 47 g)], some (wdP 47 g)) := by kernel_rfl
set_option maxRecDepth 100000 in
theorem wd_48 (g : Nat → Int) : (callF Try.prog (SWd 48 g) 300 25 [.vec (.inp 0 0) 48] []).map (fun r => (r.1, r.2.2)) = some (.agg [.abs (wdF 48 g)], some (wdP 48 g)) := by kernel_rfl
set_option maxRecDepth 100000 in
theorem wd_49 (g : Nat → Int) : (callF Try.prog (SWd 49 g) 300 25 [.vec (.inp 0 0) 49] []).map (fun r => (r.1, r.2.2)) = some (.agg [.abs (wdF 49 g)], some (wdP 49 g)) := by kernel_rfl
set_option maxRecDepth 100000 in
theorem wd_50 (g : Nat → Int) : (callF Try.prog (SWd 50 g) 300 25 [.vec (.inp 0 0) 50] []).map (fun r => (r.1, r.2.2)) = some (.agg [.abs (wdF 50 g)], some (wdP 50 g)) := by kernel_rfl
set_option maxRecDepth 100000 in
theorem wd_51 (g : Nat → Int) : (callF Try.prog (SWd 51 g) 300 25 [.vec (.inp 0 0) 51] []).map (fun r => (r.1, r.2.2)) = some (.agg [.abs (wdF 51 g)], some (wdP 51 g)) := by kernel_rfl
set_option maxRecDepth 100000 in
theorem wd_52 (g : Nat → Int) : (callF Try.prog (SWd 52 g) 300 25 [.vec (.inp 0 0) 52] []).map (fun r => (r.1, r.2.2)) = some (.agg [.abs (wdF 52 g)], some (wdP 52 g)) := by kernel_rfl
set_option maxRecDepth 100000 in
theorem wd_53 (g : Nat → Int) : (callF Try.prog (SWd 53 g) 300 25 [.vec (.inp 0 0) 53] []).map (fun r => (r.1, r.2.2)) = some (.agg [.abs (wdF 53 g)], some (wdP 53 g)) := by kernel_rfl
set_option maxRecDepth 100000 in
theorem wd_54 (g : Nat → Int) : (callF Try.prog (SWd 54 g) 300 25 [.vec (.inp 0 0) 54] []).map (fun r => (r.1, r.2.2)) = some (.agg [.abs (wdF 54 g)], some (wdP 54 g)) := by kernel_rfl
set_option maxRecDepth 100000 in
theorem wd_55 (g : Nat → Int) : (callF Try.prog (SWd 55 g) 300 25 [.vec (.inp 0 0) 55] []).map (fun r => (r.1, r.2.2)) = some (.agg [.abs (wdF 55 g)], some (wdP 55 g)) := by kernel_rfl
set_option maxRecDepth 100000 in
theorem wd_56 (g : Nat → Int) : (callF Try.prog (SWd 56 g) 300 25 [.vec (.inp 0 0) 56] []).map (fun r => (r.1, r.2.2)) = some (.agg [.abs (wdF 56 g)], some (wdP 56 g)) := by kernel_rfl
set_option maxRecDepth 100000 in
theorem wd_57 (g : Nat → Int) : (callF Try.prog (SWd 57 g) 300 25 [.vec (.inp 0 0) 57] []).map (fun r => (r.1, r.2.2)) = some (.agg [.abs (wdF 57 g)], some (wdP 57 g)) := by kernel_rfl
set_option maxRecDepth 100000 in
theorem wd_58 (g : Nat → Int) : (callF Try.prog (SWd 58 g) 300 25 [.vec (.inp 0 0) 58] []).map (fun r => (r.1, r.2.2)) = some (.agg [.abs (wdF 58 g)], some (wdP 58 g)) := by kernel_rfl
set_option maxRecDepth 100000 in
theorem wd_59 (g : Nat → Int) : (callF Try.prog (SWd 59 g) 300 25 [.vec (.inp 0 0) 59] []).map (fun r => (r.1, r.2.2)) = some (.agg [.abs (wdF 59 g)], some (wdP 59 g)) := by kernel_rfl
set_option maxRecDepth 100000 in
theorem wd_60 (g : Nat → Int) : (callF Try.prog (SWd 60 g) 300 25 [.vec (.inp 0 0) 60] []).map (fun r => (r.1, r.2.2)) = some (.agg [.abs (wdF 60 g)], some (wdP 60 g)) := by kernel_rfl
set_option maxRecDepth 100000 in
theorem wd_61 (g : Nat → Int) : (callF Try.prog (SWd 61 g) 300 25 [.vec (.inp 0 0) 61] []).map (fun r => (r.1, r.2.2)) = some (.agg [.abs (wdF 61 g)], some (wdP 61 g)) := by kernel_rfl
set_option maxRecDepth 100000 in
theorem wd_62 (g : Nat → Int) : (callF Try.prog (SWd 62 g) 300 25 [.vec (.inp 0 0) 62] []).map (fun r => (r.1, r.2.2)) = some (.agg [.abs (wdF 62 g)], some (wdP 62 g)) := by kernel_rfl
set_option maxRecDepth 100000 in
theorem wd_63 (g : Nat → Int) : (callF Try.prog (SWd 63 g) 300 25 [.vec (.inp 0 0) 63] []).map (fun r => (r.1, r.2.2)) = some (.agg [.abs (wdF 63 g)], some (wdP 63 g)) := by kernel_rfl
set_option maxRecDepth 100000 in
theorem wd_64 (g : Nat → Int) : (callF Try.prog (SWd 64 g) 300 25 [.vec (.inp 0 0) 64] []).map (fun r => (r.1, r.2.2)) = some (.agg [.abs (wdF 64 g)], some (wdP 64 g)) := by kernel_rfl
set_option maxRecDepth 100000 in
theorem wd_65 (g : Nat → Int) : (callF Try.prog (SWd 65 g) 300 25 [.vec (.inp 0 0) 65] []).map (fun r => (r.1, r.2.2)) = some (.agg [.abs (wdF 65 g)], some (wdP 65 g)) := by kernel_rfl
set_option maxRecDepth 100000 in
theorem wd_66 (g : Nat → Int) : (callF Try.prog (SWd 66 g) 300 25 [.vec (.inp 0 0) 66] []).map (fun r => (r.1, r.2.2)) = some (.agg [.abs (wdF 66 g)], some (wdP 66 g)) := by kernel_rfl
set_option maxRecDepth 100000 in
theorem wd_67 (g : Nat → Int) : (callF Try.prog (SWd 67 g) 300 25 [.vec (.inp 0 0) 67] []).map (fun r => (r.1, r.2.2)) = some (.agg [.abs (wdF 67 g)], some (wdP 67 g)) := by kernel_rfl
set_option maxRecDepth 100000 in
theorem wd_68 (g : Nat → Int) : (callF Try.prog (SWd 68 g) 300 25 [.vec (.inp 0 0) 68] []).map (fun r => (r.1, r.2.2)) = some (.agg [.abs (wdF 68 g)], some (wdP 68 g)) := by kernel_rfl
set_option maxRecDepth 100000 in
theorem wd_69 (g : Nat → Int) : (callF Try.prog (SWd 69 g) 300 25 [.vec (.inp 0 0) 69] []).map (fun r => (r.1, r.2.2)) = some (.agg [.abs (wdF 69 g)], some (wdP 69 g)) := by kernel_rfl
set_option maxRecDepth 100000 in
theorem wd_70 (g : Nat → Int) : (callF Try.prog (SWd 70 g) 300 25 [.vec (.inp 0 0) 70] []).map (fun r => (r.1, r.2.2)) = some (.agg [.abs (wdF 70 g)], some (wdP 70 g)) := by kernel_rfl
set_option maxRecDepth 100000 in
theorem wd_71 (g : Nat → Int) : (callF Try.prog (SWd 71 g) 300 25 [.vec (.inp 0 0) 71] []).map (fun r => (r.1, r.2.2)) = some (.agg [.abs (wdF 71 g)], some (wdP 71 g)) := by kernel_rfl
set_option maxRecDepth 100000 in
theorem wd_72 (g : Nat → Int) : (callF Try.prog (SWd 72 g) 300 25 [.vec (.inp 0 0) 72] []).map (fun r => (r.1, r.2.2)) = some (.agg [.abs (wdF 72 g)], some (wdP 72 g)) := by kernel_rfl
set_option maxRecDepth 100000 in
theorem wd_73 (g : Nat → Int) : (callF Try.prog (SWd 73 g) 300 25 [.vec (.inp 0 0) 73] []).map (fun r => (r.1, r.2.2)) = some (.agg [.abs (wdF 73 g)], some (wdP 73 g)) := by kernel_rfl
set_option maxRecDepth 100000 in
theorem wd_74 (g : Nat → Int) : (callF Try.prog (SWd 74 g) 300 25 [.vec (.inp 0 0) 74] []).map (fun r => (r.1, r.2.2)) = some (.agg [.abs (wdF 74 g)], some (wdP 74 g)) := by kernel_rfl
set_option maxRecDepth 100000 in
theorem wd_75 (g : Nat → Int) : (callF Try.prog (SWd 75 g) 300 25 [.vec (.inp 0 0) 75] []).map (fun r => (r.1, r.2.2)) = some (.agg [.abs (wdF 75 g)], some (wdP 75 g)) := by kernel_rfl
set_option maxRecDepth 100000 in
theorem wd_76 (g : Nat → Int) : (callF Try.prog (SWd 76 g) 300 25 [.vec (.inp 0 0) 76] []).map (fun r => (r.1, r.2.2)) = some (.agg [.abs (wdF 76 g)], some (wdP 76 g)) := by kernel_rfl
set_option maxRecDepth 100000 in
theorem wd_77 (g : Nat → Int) : (callF Try.prog (SWd 77 g) 300 25 [.vec (.inp 0 0) 77] []).map (fun r => (r.1, r.2.2)) = some (.agg [.abs (wdF 77 g)], some (wdP 77 g)) := by kernel_rfl
set_option maxRecDepth 100000 in
theorem wd_78 (g : Nat → Int) : (callF Try.prog (SWd 78 g) 300 25 [.vec (.inp 0 0) 78] []).map (fun r => (r.1, r.2.2)) = some (.agg [.abs (wdF 78 g)], some (wdP 78 g)) := by kernel_rfl
set_option maxRecDepth 100000 in
theorem wd_79 (g : Nat → Int) : (callF Try.prog (SWd 79 g) 300 25 [.vec (.inp 0 0) 79] []).map (fun r => (r.1, r.2.2)) = some (.agg [.abs (wdF 79 g)], some (wdP 79 g)) := by kernel_rfl
set_option maxRecDepth 100000 in
theorem wd_80 (g : Nat → Int) : (callF Try.prog (SWd 80 g) 300 25 [.vec (.inp 0 0) 80] []).map (fun r => (r.1, r.2.2)) = some (.agg [.abs (wdF 80 g)], some (wdP 80 g)) := by kernel_rfl
set_option maxRecDepth 100000 in
theorem wd_81 (g : Nat → Int) : (callF Try.prog (SWd 81 g) 300 25 [.vec (.inp 0 0) 81] []).map (fun r => (r.1, r.2.2)) = some (.agg [.abs (wdF 81 g)], some (wdP 81 g)) := by kernel_rfl
set_option maxRecDepth 100000 in
theorem wd_82 (g : Nat → Int) : (callF Try.prog (SWd 82 g) 300 25 [.vec (.inp 0 0) 82] []).map (fun r => (r.1, r.2.2)) = some (.agg [.abs (wdF 82 g)], some (wdP 82 g)) := by kernel_rfl
set_option maxRecDepth 100000 in
theorem wd_83 (g : Nat → Int) : (callF Try.prog (SWd 83 g) 300 25 [.vec (.inp 0 0) 83] []).map (fun r => (r.1, r.2.2)) = some (.agg [.abs (wdF 83 g)], some (wdP 83 g)) := by kernel_rfl
set_option maxRecDepth 100000 in
theorem wd_84 (g : Nat → Int) : (callF Try.prog (SWd 84 g) 300 25 [.vec (.inp 0 0) 84] []).map (fun r => (r.1, r.2.2)) = some (.agg [.abs (wdF 84 g)], some (wdP 84 g)) := by kernel_rfl
set_option maxRecDepth 100000 in
theorem wd_85 (g : Nat → Int) : (callF Try.prog (SWd 85 g) 300 25 [.vec (.inp 0 0) 85] []).map (fun r => (r.1, r.2.2)) = some (.agg [.abs (wdF 85 g)], some (wdP 85 g)) := by kernel_rfl
set_option maxRecDepth 100000 in
theorem wd_86 (g : Nat → Int) : (callF Try.prog (SWd 86 g) 300 25 [.vec (.inp 0 0) 86] []).map (fun r => (r.1, r.2.2)) = some (.agg [.abs (wdF 86 g)], some (wdP 86 g)) := by kernel_rfl
set_option maxRecDepth 100000 in
theorem wd_87 (g : Nat → Int) : (callF Try.prog (SWd 87 g) 300 25 [.vec (.inp 0 0) 87] []).map (fun r => (r.1, r.2.2)) = some (.agg [.abs (wdF 87 g)], some (wdP 87 g)) := by kernel_rfl
set_option maxRecDepth 100000 in
theorem wd_88 (g : Nat → Int) : (callF Try.prog (SWd 88 g) 300 25 [.vec (.inp 0 0) 88] []).map (fun r => (r.1, r.2.2)) = some (.agg [.abs (wdF 88 g)], some (wdP 88 g)) := by kernel_rfl
set_option maxRecDepth 100000 in
theorem wd_89 (g : Nat → Int) : (callF Try.prog (SWd 89 g) 300 25 [.vec (.inp 0 0) 89] []).map (fun r => (r.1, r.2.2)) = some (.agg [.abs (wdF 89 g)], some (wdP 89 g)) := by kernel_rfl
set_option maxRecDepth 100000 in
theorem wd_90 (g : Nat → Int) : (callF Try.prog (SWd 90 g) 300 25 [.vec (.inp 0 0) 90] []).map (fun r => (r.1, r.2.2)) = some (.agg [.abs (wdF 90 g)], some (wdP 90 g)) := by kernel_rfl
set_option maxRecDepth 100000 in
theorem wd_91 (g : Nat → Int) : (callF Try.prog (SWd 91 g) 300 25 [.vec (.inp 0 0) 91] []).map (fun r => (r.1, r.2.2)) = some (.agg [.abs (wdF 91 g)], some (wdP 91 g)) := by kernel_rfl
set_option maxRecDepth 100000 in
theorem wd_92 (g : Nat → Int) : (callF Try.prog (SWd 92 g) 300 25 [.vec (.inp 0 0) 92] []).map (fun r => (r.1, r.2.2)) = some (.agg [.abs (wdF 92 g)], some (wdP 92 g)) := by kernel_rfl
set_option maxRecDepth 100000 in
theorem wd_93 (g : Nat → Int) : (callF Try.prog (SWd 93 g) 300 25 [.vec (.inp 0 0) 93] []).map (fun r => (r.1, r.2.2)) = some (.agg [.abs (wdF 93 g)], some (wdP 93 g)) := by kernel_rfl
set_option maxRecDepth 100000 in
theorem wd_94 (g : Nat → Int) : (callF Try.prog (SWd 94 g) 300 25 [.vec (.inp 0 0) 94] []).map (fun r => (r.1, r.2.2)) = some (.agg [.abs (wdF 94 g)], some (wdP 94 g)) := by kernel_rfl
set_option maxRecDepth 100000 in
theorem wd_95 (g : Nat → Int) : (callF Try.prog (SWd 95 g) 300 25 [.vec (.inp 0 0) 95] []).map (fun r => (r.1, r.2.2)) = some (.agg [.abs (wdF 95 g)], some (wdP 95 g)) := by kernel_rfl
set_option maxRecDepth 100000 in
theorem wd_96 (g : Nat → Int) : (callF Try.prog (SWd 96 g) 300 25 [.vec (.inp 0 0) 96] []).map (fun r => (r.1, r.2.2)) = some (.agg [.abs (wdF 96 g)], some (wdP 96 g)) := by kernel_rfl
set_option maxRecDepth 100000 in
theorem wd_97 (g : Nat → Int) : (callF Try.prog (SWd 97 g) 300 25 [.vec (.inp 0 0) 97] []).map (fun r => (r.1, r.2.2)) = some (.agg [.abs (wdF 97 g)], some (wdP 97 g)) := by kernel_rfl
set_option maxRecDepth 100000 in
theorem wd_98 (g : Nat → Int) : (callF Try.prog (SWd 98 g) 300 25 [.vec (.inp 0 0) 98] []).map (fun r => (r.1, r.2.2)) = some (.agg [.abs (wdF 98 g)], some (wdP 98 g)) := by kernel_rfl
set_option maxRecDepth 100000 in
theorem wd_99 (g : Nat → Int) : (callF Try.prog (SWd 99 g) 300 25 [.vec (.inp 0 0) 99] []).map (fun r => (r.1, r.2.2)) = some (.agg [.abs (wdF 99 g)], some (wdP 99 g)) := by kernel_rfl
set_option maxRecDepth 100000 in
theorem wd_100 (g : Nat → Int) : (callF Try.prog (SWd 100 g) 300 25 [.vec (.inp 0 0) 100] []).map (fun r => (r.1, r.2.2)) = some (.agg [.abs (wdF 100 g)], some (wdP 100 g)) := by kernel_rfl
theorem wdV (g : Nat → Int) : ∀ n, 1 ≤ n → n ≤ 100 → (callF Try.prog (SWd n g) 300 25 [.vec (.inp 0 0) n] []).map (fun r => (r.1, r.2.2)) = some (.agg [.abs (wdF n g)], some (wdP n g))
  | 0, h, _ => absurd h (by omega)
  | 1, _, _ => wd_1 g
  | 2, _, _ => wd_2 g
  | 3, _, _ => wd_3 g
  | 4, _, _ => wd_4 g
  | 5, _, _ => wd_5 g
  | 6, _, _ => wd_6 g
  | 7, _, _ => wd_7 g
  | 8, _, _ => wd_8 g
  | 9, _, _ => wd_9 g
  | 10, _, _ => wd_10 g
  | 11, _, _ => wd_11 g
  | 12, _, _ => wd_12 g
  | 13, _, _ => wd_13 g
  | 14, _, _ => wd_14 g
  | 15, _, _ => wd_15 g
  | 16, _, _ => wd_16 g
  | 17, _, _ => wd_17 g
  | 18, _, _ => wd_18 g
  | 19, _, _ => wd_19 g
  | 20, _, _ => wd_20 g
  | 21, _, _ => wd_21 g
  | 22, _, _ => wd_22 g
  | 23, _, _ => wd_23 g
  | 24, _, _ => wd_24 g
  | 25, _, _ => wd_25 g
  | 26, _, _ => wd_26 g
  | 27, _, _ => wd_27 g
  | 28, _, _ => wd_28 g
  | 29, _, _ => wd_29 g
  | 30, _, _ => wd_30 g
  | 31, _, _ => wd_31 g
  | 32, _, _ => wd_32 g
  | 33, _, _ => wd_33 g
  | 34, _, _ => wd_34 g
  | 35, _, _ => wd_35 g
  | 36, _, _ => wd_36 g
  | 37, _, _ => wd_37 g
  | 38, _, _ => wd_38 g
  | 39, _, _ => wd_39 g
  | 40, _, _ => wd_40 g
  | 41, _, _ => wd_41 g
  | 42, _, _ => wd_42 g
  | 43, _, _ => wd_43 g
  | 44, _, _ => wd_44 g
  | 45, _, _ => wd_45 g
  | 46, _, _ => wd_46 g
  | 47, _, _ => wd_47 g
  | 48, _, _ => wd_48 g
  | 49, _, _ => wd_49 g
  | 50, _, _ => wd_50 g
  | 51, _, _ => wd_51 g
  | 52, _, _ => wd_52 g
  | 53, _, _ => wd_53 g
  | 54, _, _ => wd_54 g
  | 55, _, _ => wd_55 g
  | 56, _, _ => wd_56 g
  | 57, _, _ => wd_57 g
  | 58, _, _ => wd_58 g
  | 59, _, _ => wd_59 g
  | 60, _, _ => wd_60 g
  | 61, _, _ => wd_61 g
  | 62, _, _ => wd_62 g
  | 63, _, _ => wd_63 g
  | 64, _, _ => wd_64 g
  | 65, _, _ => wd_65 g
  | 66, _, _ => wd_66 g
  | 67, _, _ => wd_67 g
  | 68, _, _ => wd_68 g
  | 69, _, _ => wd_69 g
  | 70, _, _ => wd_70 g
  | 71, _, _ => wd_71 g
  | 72, _, _ => wd_72 g
  | 73, _, _ => wd_73 g
  | 74, _, _ => wd_74 g
  | 75, _, _ => wd_75 g
  | 76, _, _ => wd_76 g
  | 77, _, _ => wd_77 g
  | 78, _, _ => wd_78 g
  | 79, _, _ => wd_79 g
  | 80, _, _ => wd_80 g
  | 81, _, _ => wd_81 g
  | 82, _, _ => wd_82 g
  | 83, _, _ => wd_83 g
  | 84, _, _ => wd_84 g
  | 85, _, _ => wd_85 g
  | 86, _, _ => wd_86 g
  | 87, _, _ => wd_87 g
  | 88, _, _ => wd_88 g
  | 89, _, _ => wd_89 g
  | 90, _, _ => wd_90 g
  | 91, _, _ => wd_91 g
  | 92, _, _ => wd_92 g
  | 93, _, _ => wd_93 g
  | 94, _, _ => wd_94 g
  | 95, _, _ => wd_95 g
  | 96, _, _ => wd_96 g
  | 97, _, _ => wd_97 g
  | 98, _, _ => wd_98 g
  | 99, _, _ => wd_99 g
  | 100, _, _ => wd_100 g
  | m + 101, _, h => absurd h (by omega)
end Go.Proofs.Ytcedljbapgmdmaa.En

/- DERIVED. The element of any bytes: the contract. -/
set_option linter.all false
namespace Go.Proofs.Ytcedljbapgmdmaa.En
open Go Go.RowKit

theorem Told.as {f : FuncId} {us : List (List (LV Fe))} {args : List (LV Fe)} {v v' : LV Fe} (h : Told Try.prog f us args v []) (hv : plainB v' = true) (e : ∀ ρ : Key → Loc, LV.tr ρ v = LV.tr ρ v') : Told Try.prog f us args v' [] := by
  intro D ρ w ha
  refine (h D ρ w ha).mono ?_
  rintro e' w' ⟨ρ1, rfl, h1, h2, h3, h4, h5, h6⟩
  exact ⟨ρ1, by rw [e ρ1], h1, h2, h3, h4, pv_kin _ v' hv, h6⟩
set_option maxRecDepth 100000 in
theorem wd_0 (g : Nat → Int) : (callF Try.prog (SWd 0 g) 300 25 [.vec (.inp 0 0) 0] []).map (fun r => (r.1, r.2.2)) = some (z6V, some (true = true ∧ true = true ∧ true = true)) := by kernel_rfl
theorem wd0_tr (g : Nat → Int) (ρ : Key → Loc) : LV.tr ρ z6V = LV.tr ρ (.agg [.abs (wdF 0 g)] : LV Fe) := by kernel_rfl
theorem wd_told {n : Nat} (hn : n ≤ 100) (g : Nat → Int) : Told Try.prog 25 [[.rows n 1 fun j => [.int .u8 (g j)]]] [.vec (.inp 0 0) n] (.agg [.abs (wdF n g)]) [] := by
  have hp : plainL [(.rows n 1 fun j => [.int .u8 (g j)] : LV Fe)] := ⟨fun _ => ⟨trivial, trivial⟩, trivial⟩
  rcases Nat.eq_zero_or_pos n with rfl | h
  · exact Told.as (told_walk (SWd_ok 0 g) rfl hp (wd_0 g) ⟨rfl, rfl, rfl⟩ rfl) rfl (wd0_tr g)
  · exact told_walk (SWd_ok n g) rfl hp (wdV g n h hn) (wdP_ok n g) rfl
noncomputable def wdFn (I : Inp Fe) (vs : List (LV Fe)) (mem : Mem Fe) : Option (RdC Fe) := match vs with
  | [.vec k m] => match at? I mem k with
    | some bl => match isDead bl.kd, rowsB bl.us with
      | false, some (n, g, c) => some ⟨[[.rows m 1 fun j => [.int .u8 (g j)]]], [k], [.vec (.inp 0 0) m], .agg [.abs (wdF m g)], [], c ∧ n = m ∧ m ≤ 100⟩
      | _, _ => none
    | none => none
  | _ => none
theorem wdFn_ok : ∀ I vs mem r, wdFn I vs mem = some r → r.c → RdOk Try.prog 25 I vs mem r := by
  intro I vs mem r h hc
  unfold wdFn at h
  split at h
  · rename_i k m
    split at h
    · rename_i bl hb
      split at h
      · rename_i n g c hd hr
        cases h
        obtain ⟨h1, h2, h3⟩ := hc
        subst h2
        exact {
          args := rfl
          fit := ⟨⟨fun e => by simp [keyMap, ιOf] at e, trivial⟩, trivial⟩
          len := rfl
          blk := fun j k' us hk hus => by
            match j with
            | 0 =>
              cases hk; cases hus
              exact ⟨bl, hb, hd, ⟨fun _ => ⟨trivial, trivial⟩, trivial⟩, rowsB_some hr h1⟩
            | j + 1 => simp at hk
          told := wd_told h3 g
          fitv := (plain_ren _ _ _ (show LV.plain (.agg [.abs (wdF n g)] : LV Fe) from ⟨trivial, trivial⟩)).2
          fitb := fun b hb => absurd hb List.not_mem_nil }
      · cases h
    · cases h
  · cases h
set_option maxRecDepth 100000 in
theorem entWide : ∀ args w, (callFunc 25 args).run Try.prog w = .ok (.enter 25 args) w := ent_of (f := 25) (P := Try.prog) rfl rfl rfl
noncomputable def conWide : ConC Try.prog Fe := conRdT 25 entWide wdFn wdFn_ok
end Go.Proofs.Ytcedljbapgmdmaa.En

/- DERIVED. Points of numbers: the law's own run. -/
set_option linter.all false
namespace Go.Proofs.Ytcedljbapgmdmaa.En
open Go Go.RowKit

abbrev in2 (n : Nat) (f : Nat → Int) (m : Nat) (g : Nat → Int) : Inp Fe := inOf [[.rows n 1 fun j => [.int .u8 (f j)]], [.rows m 1 fun j => [.int .u8 (g j)]]]
theorem in2_ok (n : Nat) (f : Nat → Int) (m : Nat) (g : Nat → Int) : InpOk (in2 n f m g) := inOf_ok fun l hl => by
  rcases List.mem_cons.1 hl with rfl | hl
  · exact ⟨fun _ => ⟨trivial, trivial⟩, trivial⟩
  · rw [List.mem_singleton] at hl
    subst hl
    exact ⟨fun _ => ⟨trivial, trivial⟩, trivial⟩
noncomputable abbrev psX : List (ConP Try.prog Fe) := [conKnown, conAff, conROn, conRef, conGInf, conGXY, conFEqual, conOn]
noncomputable abbrev SGl (A : Adv) (I : Inp Fe) (ls : List (LoopF Try.prog I)) : Sig Fe := sigOf (P := Try.prog) ([conFAdd, conFSub, conFMul, conFSquare, conFNeg, conFIsZero, conFEqual, conTwice] ++ (psG ++ (psH ++ psX))) [] [conWide] (I := I) ls msF A
theorem SGl_ok (A : Adv) {I : Inp Fe} (h : InpOk I) (ls : List (LoopF Try.prog I)) : SigOk Try.prog (SGl A I ls) := sigOf_ok _ [] [conWide] ls msF_ok _ h
/-- Decisions of several functions. -/
def dcf (l : List (FuncId × Nat × Nat × Bool)) : FuncId → Nat → Nat → Option Bool := fun f r i => look l f r i
where look : List (FuncId × Nat × Nat × Bool) → FuncId → Nat → Nat → Option Bool
  | [], _, _, _ => none
  | (g, k, j, b) :: l, f, r, i => match Nat.beq g f, Nat.beq k r, Nat.beq j i with
    | true, true, true => some b
    | _, _, _ => look l f r i
noncomputable abbrev advL (l : List (FuncId × Nat × Nat × Bool)) : Adv := advP (dcf l) [25] []
--@run laB (n : Nat) (f : Nat → Int) (m : Nat) (g : Nat → Int) := callF Try.prog (SGl (advL [(5, 4, 5, true)]) (in2 n f m g) []) 60 3 [.vec (.inp 0 0) n, .vec (.inp 0 1) m] [] => .bool true
--@[
set_option maxRecDepth 100000 in
def laB_G (n : Nat) (f : Nat → Int) (m : Nat) (g : Nat → Int) : Prop := true = true ∧ true = true ∧ decide ((100 : Int) < (↑n : Int)) = true
set_option maxRecDepth 100000 in
theorem laB (n : Nat) (f : Nat → Int) (m : Nat) (g : Nat → Int) : (callF Try.prog (SGl (advL [(5, 4, 5, true)]) (in2 n f m g) []) 60 3 [.vec (.inp 0 0) n, .vec (.inp 0 1) m] []).map (fun r => (r.1, r.2.2)) = some (.bool true, some (laB_G n f m g)) := by kernel_rfl
--@]
--@run laF (n : Nat) (f : Nat → Int) (m : Nat) (g : Nat → Int) := callF Try.prog (SGl (advL [(5, 4, 5, false), (3, 6, 5, false), (3, 7, 5, false), (3, 10, 1, true)]) (in2 n f m g) []) 60 3 [.vec (.inp 0 0) n, .vec (.inp 0 1) m] [] => .bool true
--@[
set_option maxRecDepth 100000 in
def laF_G (n : Nat) (f : Nat → Int) (m : Nat) (g : Nat → Int) : Prop := ((true = true ∧ true = true ∧ decide ((100 : Int) < (↑n : Int)) = false) ∧ true = true ∧ true = true ∧ decide ((100 : Int) < (↑m : Int)) = false) ∧ ((((∀ (j : Nat), j < n → Like (A := Fe) [LV.int IntKind.u8 (f j)] [LV.int IntKind.u8 (f j)]) ∧ n = n ∧ n ≤ 100) ∧ true = true) ∧ (((∀ (j : Nat), j < m → Like (A := Fe) [LV.int IntKind.u8 (g j)] [LV.int IntKind.u8 (g j)]) ∧ m = m ∧ m ≤ 100) ∧ true = true) ∧ true = true ∧ true = true) ∧ (affT (wdF n f) (wdF m g) = false ∧ true = true) ∧ ronF (wdF n f, zE) (wdF m g, zE) false = false ∧ isz (Prod.snd (Prod.snd (affF (wdF n f) (wdF m g)))) = true
set_option maxRecDepth 100000 in
theorem laF (n : Nat) (f : Nat → Int) (m : Nat) (g : Nat → Int) : (callF Try.prog (SGl (advL [(5, 4, 5, false), (3, 6, 5, false), (3, 7, 5, false), (3, 10, 1, true)]) (in2 n f m g) []) 60 3 [.vec (.inp 0 0) n, .vec (.inp 0 1) m] []).map (fun r => (r.1, r.2.2)) = some (.bool true, some (laF_G n f m g)) := by kernel_rfl
--@]
--@run laT (n : Nat) (f : Nat → Int) (m : Nat) (g : Nat → Int) := callF Try.prog (SGl (advL [(5, 4, 5, false), (3, 6, 5, true), (3, 7, 5, true), (3, 11, 5, true), (3, 12, 4, true), (3, 12, 9, true), (3, 12, 13, true)]) (in2 n f m g) []) 60 3 [.vec (.inp 0 0) n, .vec (.inp 0 1) m] [] => .bool true
--@[
set_option maxRecDepth 100000 in
def laT_G (n : Nat) (f : Nat → Int) (m : Nat) (g : Nat → Int) : Prop := ((true = true ∧ true = true ∧ decide ((100 : Int) < (↑n : Int)) = false) ∧ true = true ∧ true = true ∧ decide ((100 : Int) < (↑m : Int)) = false) ∧ ((((∀ (j : Nat), j < n → Like (A := Fe) [LV.int IntKind.u8 (f j)] [LV.int IntKind.u8 (f j)]) ∧ n = n ∧ n ≤ 100) ∧ true = true) ∧ (((∀ (j : Nat), j < m → Like (A := Fe) [LV.int IntKind.u8 (g j)] [LV.int IntKind.u8 (g j)]) ∧ m = m ∧ m ≤ 100) ∧ true = true) ∧ true = true ∧ true = true) ∧ (affT (wdF n f) (wdF m g) = true ∧ true = true) ∧ ronF (wdF n f, zE) (wdF m g, zE) false = true ∧ ((!isz (Prod.snd (Prod.snd (affF (wdF n f) (wdF m g))))) = true ∧ true = true ∧ true = true) ∧ feq (gxyX (Prod.fst (affF (wdF n f) (wdF m g)), Prod.fst (Prod.snd (affF (wdF n f) (wdF m g))), Prod.snd (Prod.snd (affF (wdF n f) (wdF m g))))) (wdF n f) = true ∧ feq (gxyY (Prod.fst (affF (wdF n f) (wdF m g)), Prod.fst (Prod.snd (affF (wdF n f) (wdF m g))), Prod.snd (Prod.snd (affF (wdF n f) (wdF m g))))) (wdF m g) = true ∧ onF (Prod.fst (affF (wdF n f) (wdF m g)), Prod.fst (Prod.snd (affF (wdF n f) (wdF m g))), Prod.snd (Prod.snd (affF (wdF n f) (wdF m g)))) = true
set_option maxRecDepth 100000 in
theorem laT (n : Nat) (f : Nat → Int) (m : Nat) (g : Nat → Int) : (callF Try.prog (SGl (advL [(5, 4, 5, false), (3, 6, 5, true), (3, 7, 5, true), (3, 11, 5, true), (3, 12, 4, true), (3, 12, 9, true), (3, 12, 13, true)]) (in2 n f m g) []) 60 3 [.vec (.inp 0 0) n, .vec (.inp 0 1) m] []).map (fun r => (r.1, r.2.2)) = some (.bool true, some (laT_G n f m g)) := by kernel_rfl
--@]
/-! ## the second is too long -/
noncomputable abbrev blkL (n m : Nat) : Blk Fe := ⟨.row 22, [.rows 2 1 fun j => List.getD (List.set (List.set (List.replicate 2 (units .nils)) 0 (units (.vec (.inp 0 0) n))) 1 (units (.vec (.inp 0 1) m))) j []]⟩
noncomputable def ltS (n : Nat) (f : Nat → Int) (m : Nat) (g : Nat → Int) : LS Fe := entry Try.prog (SGl (advL []) (in2 n f m g) []) 60 5 [0, 1, 0, 1] [.vec (.own 0) 2] [some (blkL n m)]
noncomputable abbrev SLt (b : Bool) (n : Nat) (f : Nat → Int) (m : Nat) (g : Nat → Int) : Sig Fe := SGl (advL [(5, 4, 5, b)]) (in2 n f m g) []
noncomputable def ltR1 (n : Nat) (f : Nat → Int) (m : Nat) (g : Nat → Int) : Option (Out × LS Fe) := exec Try.prog (SLt false n f m g) 60 5 [0, 0, 1, 0, 1] (codeAt Try.prog 5 [0, 0, 1, 0, 1]) (ltS n f m g)
noncomputable def ltR2 (n : Nat) (f : Nat → Int) (m : Nat) (g : Nat → Int) : Option (Out × LS Fe) := exec Try.prog (SLt true n f m g) 60 5 [0, 0, 1, 0, 1] (codeAt Try.prog 5 [0, 0, 1, 0, 1]) (outS (ltR1 n f m g))
set_option maxRecDepth 100000 in
theorem lt_o1 (n : Nat) (f : Nat → Int) (m : Nat) (g : Nat → Int) : outO (ltR1 n f m g) = some .normal := by kernel_rfl
set_option maxRecDepth 100000 in
theorem lt_o2 (n : Nat) (f : Nat → Int) (m : Nat) (g : Nat → Int) : outO (ltR2 n f m g) = some .ret := by kernel_rfl
set_option maxRecDepth 100000 in
theorem lt_c1 (n : Nat) (f : Nat → Int) (m : Nat) (g : Nat → Int) : allC (outS (ltR1 n f m g)).conds = some (true = true ∧ true = true ∧ decide ((100 : Int) < (n : Int)) = false) := by kernel_rfl
set_option maxRecDepth 100000 in
theorem lt_c2 (n : Nat) (f : Nat → Int) (m : Nat) (g : Nat → Int) : allC (outS (ltR2 n f m g)).conds = some ((true = true ∧ true = true ∧ decide ((100 : Int) < (n : Int)) = false) ∧ true = true ∧ true = true ∧ decide ((100 : Int) < (m : Int)) = true) := by kernel_rfl
set_option maxRecDepth 100000 in
theorem lt_code : codeAt Try.prog 5 [0, 1, 0, 1] = .loop (codeAt Try.prog 5 [0, 0, 1, 0, 1]) := by kernel_rfl
theorem lt_ex {n : Nat} (f : Nat → Int) {m : Nat} (g : Nat → Int) (hn : n ≤ 100) (hm : 100 < m) : Ex Try.prog (in2 n f m g) (codeAt Try.prog 5 [0, 1, 0, 1]) (ltS n f m g) .ret (outS (ltR2 n f m g)) := by
  have h1 : decide ((100 : Int) < (n : Int)) = false := decide_eq_false (by omega)
  have h2 : decide ((100 : Int) < (m : Int)) = true := decide_eq_true (by omega)
  have e1 := Ex.of_run (SGl_ok _ (in2_ok n f m g) []) rfl mixed (show ltR1 n f m g = _ from rfl) (lt_o1 n f m g) (by rw [lt_c1]; exact ⟨rfl, rfl, h1⟩)
  have e2 := Ex.of_run (SGl_ok _ (in2_ok n f m g) []) rfl mixed (show ltR2 n f m g = _ from rfl) (lt_o2 n f m g) (by rw [lt_c2]; exact ⟨⟨rfl, rfl, h1⟩, rfl, rfl, h2⟩)
  rw [lt_code]
  refine Ex.loop (by simp) (fun k => match k with | 0 => ltS n f m g | _ + 1 => outS (ltR1 n f m g)) 1 (fun k hk => ?_) e2
  have : k = 0 := by omega
  subst this
  exact e1
set_option maxRecDepth 100000 in
theorem lt_grow (n : Nat) (f : Nat → Int) (m : Nat) (g : Nat → Int) : growB (ltS n f m g) (outS (ltR2 n f m g)) = true := by kernel_rfl
set_option maxRecDepth 100000 in
theorem lt_one (n : Nat) (f : Nat → Int) (m : Nat) (g : Nat → Int) : Nat.ble (ltS n f m g).mem.length 1 = true := by kernel_rfl
noncomputable def ltL {n : Nat} (f : Nat → Int) {m : Nat} (g : Nat → Int) (hn : n ≤ 100) (hm : 100 < m) : LoopF Try.prog (in2 n f m g) := LoopF.of ((lt_ex f g hn hm).toB 1) (lt_grow ..) (lt_one ..)
--@run laM (n : Nat) (f : Nat → Int) (m : Nat) (g : Nat → Int) (hn : n ≤ 100) (hm : 100 < m) := callF Try.prog (SGl (advL []) (in2 n f m g) [ltL f g hn hm]) 60 3 [.vec (.inp 0 0) n, .vec (.inp 0 1) m] [] => .bool true
--@[
set_option maxRecDepth 100000 in
def laM_G (n : Nat) (f : Nat → Int) (m : Nat) (g : Nat → Int) (hn : n ≤ 100) (hm : 100 < m) : Prop := LS.tmps (LoopF.s (ltL f g hn hm)) = LS.tmps (LoopF.s (ltL f g hn hm)) ∧ LS.mem (LoopF.s (ltL f g hn hm)) = LS.mem (LoopF.s (ltL f g hn hm))
set_option maxRecDepth 100000 in
theorem laM (n : Nat) (f : Nat → Int) (m : Nat) (g : Nat → Int) (hn : n ≤ 100) (hm : 100 < m) : (callF Try.prog (SGl (advL []) (in2 n f m g) [ltL f g hn hm]) 60 3 [.vec (.inp 0 0) n, .vec (.inp 0 1) m] []).map (fun r => (r.1, r.2.2)) = some (.bool true, some (laM_G n f m g hn hm)) := by kernel_rfl
--@]
end Go.Proofs.Ytcedljbapgmdmaa.En

/- DERIVED. Points of numbers: the law's call. -/
set_option linter.all false
namespace Go.Proofs.Ytcedljbapgmdmaa.En
open Go Go.RowKit

theorem inv1 : fv (invF fOne) = 1 := by decide +kernel
theorem one_nz : isz fOne = false := by decide +kernel
theorem zE_z : isz zE = true := by decide +kernel
theorem z_feq : feq zE (fadd zE (fmul zE ftwo)) = true := by decide +kernel
/-- The same number modulo the field's. -/
theorem feq_iff {a b : Fe} : feq a b = true ↔ fv a % pN = fv b % pN := by
  unfold feq
  rw [Bool.and_true]
  exact ⟨Nat.eq_of_beq_eq_true, fun h => by rw [h]; exact Nat.beq_refl _⟩
theorem feq_cong {a a' b b' : Fe} (ha : fv a % pN = fv a' % pN) (hb : fv b % pN = fv b' % pN) : feq a b = feq a' b' := by unfold feq; rw [ha, hb]
theorem fmul_cong {a a' b b' : Fe} (ha : fv a % pN = fv a' % pN) (hb : fv b % pN = fv b' % pN) : fv (fmul a b) % pN = fv (fmul a' b') % pN := by
  rw [fv_mul, fv_mul, Nat.mod_mod, Nat.mod_mod, Nat.mul_mod, ha, hb, ← Nat.mul_mod]
theorem fadd_cong {a a' b b' : Fe} (ha : fv a % pN = fv a' % pN) (hb : fv b % pN = fv b' % pN) : fv (fadd a b) % pN = fv (fadd a' b') % pN := by
  rw [fv_add, fv_add, Nat.mod_mod, Nat.mod_mod, Nat.add_mod, ha, hb, ← Nat.add_mod]
theorem affT_cong {x x' y y' : Fe} (hx : fv x % pN = fv x' % pN) (hy : fv y % pN = fv y' % pN) : affT x y = affT x' y' :=
  feq_cong (fmul_cong hy hy) (fadd_cong (fmul_cong (fmul_cong hx hx) hx) rfl)
theorem mul_one1 (x i : Fe) (hi : fv i = 1) : fv (fmul x (fmul i i)) % pN = fv x % pN := by
  rw [fv_mul, fv_mul, hi, Nat.mod_mod, show 1 * 1 % pN = 1 from by decide +kernel, Nat.mul_one]
theorem mul_one2 (y i : Fe) (hi : fv i = 1) : fv (fmul (fmul y (fmul i i)) i) % pN = fv y % pN := by
  rw [fv_mul, hi, Nat.mod_mod, Nat.mul_one]
  exact mul_one1 y i hi
theorem ron_aff (x y : Fe) : ronF (x, zE) (y, zE) false = affT x y := by
  have h1 : ∀ a b : Fe, emul (a, zE) (b, zE) = (fmul a b, zE) := fun a b => by
    unfold emul
    simp only [zE_z, Bool.and_self, cond_true]
  unfold ronF
  rw [h1, h1, h1]
  unfold eB
  rw [cond_false]
  show eeq (fmul y y, zE) (fadd (fmul (fmul x x) x) four, fadd zE (fmul zE ftwo)) = _
  unfold eeq
  simp only [z_feq, Bool.and_true]
  rfl
theorem aff_x (x y : Fe) : fv (gxyX (x, y, fOne)) % pN = fv x % pN := by
  unfold gxyX xyX
  simp only [one_nz, cond_false]
  exact mul_one1 x _ inv1
theorem aff_y (x y : Fe) : fv (gxyY (x, y, fOne)) % pN = fv y % pN := by
  unfold gxyY xyY
  simp only [one_nz, cond_false]
  exact mul_one2 y _ inv1
theorem aff_on (x y : Fe) : onF (x, y, fOne) = affT x y := by
  rw [on_f (p := (x, y, fOne)) one_nz, ron_aff]
  exact affT_cong (aff_x x y) (aff_y x y)
/-- The law's call answers true. -/
theorem affine_call (n : Nat) (f : Nat → Int) (m : Nat) (g : Nat → Int) {ρ : Key → Loc} {w : World} (hm : MemRel (in2 n f m g) ρ [] w) (hk : n ≤ (ρ (.inp 0 0)).cap) (hk' : m ≤ (ρ (.inp 0 1)).cap) :
    Calls Try.prog 3 (trs ρ [(.vec (.inp 0 0) n : LV Fe), .vec (.inp 0 1) m]).toArray w fun e w' => e = .returned (.bool true) ∧ Below w.heap.size w w' := by
  have hI := in2_ok n f m g
  have hkI : ∀ t i, kinL (okKey ([] : Mem Fe) ρ) (in2 n f m g t i) := by
    intro t i
    cases t with
    | succ t => trivial
    | zero =>
      match i with
      | 0 => exact ⟨fun _ => ⟨trivial, trivial⟩, trivial⟩
      | 1 => exact ⟨fun _ => ⟨trivial, trivial⟩, trivial⟩
      | i + 2 => trivial
  have ha : kinL (okKey ([] : Mem Fe) ρ) [(.vec (.inp 0 0) n : LV Fe), .vec (.inp 0 1) m] := ⟨hk, hk', trivial⟩
  by_cases hn : n ≤ 100
  · by_cases hm1 : m ≤ 100
    · have h1 : decide ((100 : Int) < (n : Int)) = false := decide_eq_false (by omega)
      have h2 : decide ((100 : Int) < (m : Int)) = false := decide_eq_false (by omega)
      cases ht : affT (wdF n f) (wdF m g) with
      | false =>
        have e : affF (wdF n f) (wdF m g) = zPt := by unfold affF; rw [ht]; rfl
        refine calls_top (SGl_ok _ hI []) mixed (laF n f m g) ?_ hm ha hkI fun _ _ => rfl
        unfold condOk laF_G
        refine ⟨⟨⟨rfl, rfl, h1⟩, rfl, rfl, h2⟩, ⟨⟨⟨fun _ _ => Like.refl _, rfl, hn⟩, rfl⟩, ⟨⟨fun _ _ => Like.refl _, rfl, hm1⟩, rfl⟩, rfl, rfl⟩, ⟨ht, rfl⟩, ?_, ?_⟩
        · rw [ron_aff, ht]
        · rw [e]; exact zE_z
      | true =>
        have e : affF (wdF n f) (wdF m g) = (wdF n f, wdF m g, fOne) := by unfold affF; rw [ht]; rfl
        refine calls_top (SGl_ok _ hI []) mixed (laT n f m g) ?_ hm ha hkI fun _ _ => rfl
        unfold condOk laT_G
        refine ⟨⟨⟨rfl, rfl, h1⟩, rfl, rfl, h2⟩, ⟨⟨⟨fun _ _ => Like.refl _, rfl, hn⟩, rfl⟩, ⟨⟨fun _ _ => Like.refl _, rfl, hm1⟩, rfl⟩, rfl, rfl⟩, ⟨ht, rfl⟩, ?_, ⟨?_, rfl, rfl⟩, ?_, ?_, ?_⟩
        · rw [ron_aff, ht]
        · rw [e]; show (!isz fOne) = true; rw [one_nz]; rfl
        · rw [e]; exact feq_iff.2 (aff_x _ _)
        · rw [e]; exact feq_iff.2 (aff_y _ _)
        · rw [e]; show onF (wdF n f, wdF m g, fOne) = true; rw [aff_on, ht]
    · exact calls_top (SGl_ok _ hI _) mixed (laM n f m g hn (by omega)) ⟨rfl, rfl⟩ hm ha hkI fun _ _ => rfl
  · exact calls_top (SGl_ok _ hI []) mixed (laB n f m g) ⟨rfl, rfl, decide_eq_true (by omega)⟩ hm ha hkI fun _ _ => rfl
end Go.Proofs.Ytcedljbapgmdmaa.En
