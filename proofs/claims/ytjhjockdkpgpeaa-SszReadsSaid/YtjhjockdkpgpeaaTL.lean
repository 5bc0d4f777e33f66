/- DERIVED. What is written: the law's call. -/
import Derived.Test.YtjhjockdkpgpeaaTK
set_option linter.all false
namespace Go.Proofs.Ytjhjockdkpgpeaa.En
open Go Go.RowKit

noncomputable abbrev runW (c d : Bool) (s : Stps) (ls : List (LoopF Try.prog (inS s))) := callF Try.prog (SWrL c d s ls) 60 3 [.vec (.inp 0 0) s.n] []
--@gen lw1 (s : Stps) (hf : few s) (q : Nat) (hs : okS s) (h : stopL s q) := (runW true true s [liL s q hs h, wrL s hf q hs h]).map (fun r => r.2.2)
--@[
def lw1_G (s : Stps) (hf : few s) (q : Nat) (hs : okS s) (h : stopL s q) : Prop := ((LS.tmps (LoopF.s (liL s q hs h)) = LS.tmps (LoopF.s (liL s q hs h)) ∧       LS.mem (LoopF.s (liL s q hs h)) = LS.mem (LoopF.s (liL s q hs h))) ∧     decide ((↑(Stps.n s) : Int) ≤ (100 : Int)) = true ∧       decide ((↑(cost s q) : Int) ≤ (5000 : Int)) = true) ∧   LS.tmps (LoopF.s (wrL s hf q hs h)) = LS.tmps (LoopF.s (wrL s hf q hs h)) ∧     LS.mem (LoopF.s (wrL s hf q hs h)) = LS.mem (LoopF.s (wrL s hf q hs h))
set_option maxRecDepth 100000 in
theorem lw1 (s : Stps) (hf : few s) (q : Nat) (hs : okS s) (h : stopL s q) : (runW true true s [liL s q hs h, wrL s hf q hs h]).map (fun r => r.2.2) = some (some ((lw1_G s hf q hs h))) := by kernel_rfl
--@]
--@gen lw2 (s : Stps) (q : Nat) (hs : okS s) (h : stopL s q) := (runW false true s [liL s q hs h]).map (fun r => r.2.2)
--@[
def lw2_G (s : Stps) (q : Nat) (hs : okS s) (h : stopL s q) : Prop := (LS.tmps (LoopF.s (liL s q hs h)) = LS.tmps (LoopF.s (liL s q hs h)) ∧     LS.mem (LoopF.s (liL s q hs h)) = LS.mem (LoopF.s (liL s q hs h))) ∧   decide ((↑(Stps.n s) : Int) ≤ (100 : Int)) = false
set_option maxRecDepth 100000 in
theorem lw2 (s : Stps) (q : Nat) (hs : okS s) (h : stopL s q) : (runW false true s [liL s q hs h]).map (fun r => r.2.2) = some (some ((lw2_G s q hs h))) := by kernel_rfl
--@]
--@gen lw3 (s : Stps) (q : Nat) (hs : okS s) (h : stopL s q) := (runW true false s [liL s q hs h]).map (fun r => r.2.2)
--@[
def lw3_G (s : Stps) (q : Nat) (hs : okS s) (h : stopL s q) : Prop := (LS.tmps (LoopF.s (liL s q hs h)) = LS.tmps (LoopF.s (liL s q hs h)) ∧     LS.mem (LoopF.s (liL s q hs h)) = LS.mem (LoopF.s (liL s q hs h))) ∧   decide ((↑(Stps.n s) : Int) ≤ (100 : Int)) = true ∧     decide ((↑(cost s q) : Int) ≤ (5000 : Int)) = false
set_option maxRecDepth 100000 in
theorem lw3 (s : Stps) (q : Nat) (hs : okS s) (h : stopL s q) : (runW true false s [liL s q hs h]).map (fun r => r.2.2) = some (some ((lw3_G s q hs h))) := by kernel_rfl
--@]
set_option maxRecDepth 100000 in
theorem lw1_v (s : Stps) (hf : few s) (q : Nat) (hs : okS s) (h : stopL s q) : (runW true true s [liL s q hs h, wrL s hf q hs h]).map (fun r => r.1) = some (.bool true) := by kernel_rfl
set_option maxRecDepth 100000 in
theorem lw2_v (s : Stps) (q : Nat) (hs : okS s) (h : stopL s q) : (runW false true s [liL s q hs h]).map (fun r => r.1) = some (.bool true) := by kernel_rfl
set_option maxRecDepth 100000 in
theorem lw3_v (s : Stps) (q : Nat) (hs : okS s) (h : stopL s q) : (runW true false s [liL s q hs h]).map (fun r => r.1) = some (.bool true) := by kernel_rfl
end Go.Proofs.Ytjhjockdkpgpeaa.En
