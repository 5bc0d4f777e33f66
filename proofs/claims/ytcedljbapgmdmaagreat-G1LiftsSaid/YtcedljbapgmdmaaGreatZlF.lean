/- DERIVED. Texts laid together: JO JQ JT JU JV JW VT1 JX MA MP MQ MB MC MD ME MF MG MH MI MJ MN KA KB KC. -/
import Derived.Test.YtcedljbapgmdmaaGreatZlE
/- DERIVED. So many times the document's point: the contract. -/
set_option linter.all false
namespace Go.Proofs.YtcedljbapgmdmaaGreat.En
open Go Go.RowKit

theorem cm_told {n : Nat} {f : Nat → Int} (p : C3) (hn : n ≤ 1000) : Told Tryz.prog 38 [rwsB n f] [.agg (cbl p), .vec (.inp 0 0) n] (cV (cmL p f (8 * n))) [] := by
  have hp := rwsB_plain n f
  have hI := inOf1_ok hp
  rcases Nat.eq_zero_or_pos n with h | h
  · subst h
    exact Told.as (told_walk (SCm_ok _ hI _) rfl hp (cmRz f p) ⟨⟨rfl, rfl⟩, rfl⟩ rfl) rfl z36_tr
  · exact told_walk (SCm_ok _ hI _) rfl hp (cmRp n f p hn h) ⟨⟨rfl, rfl⟩, rfl⟩ rfl
noncomputable def cmFn (I : Inp Fe) (vs : List (LV Fe)) (mem : Mem Fe) : Option (RdC Fe) := match vs with
  | [u, .vec k n] => match pA [6] [u] with
    | some [[a, b, c, d, e, g]] => match at? I mem k with
      | some bl => match isDead bl.kd, rowsB bl.us with
        | false, some (n', f, q) => some ⟨[rwsB n f], [k], [u, .vec (.inp 0 0) n], cV (cmL ((a, b), (c, d), (e, g)) f (8 * n)), [], q ∧ n' = n ∧ n ≤ 1000⟩
        | _, _ => none
      | none => none
    | _ => none
  | _ => none
theorem cmFn_ok : ∀ I vs mem r, cmFn I vs mem = some r → r.c → RdOk Tryz.prog 38 I vs mem r := by
  intro I vs mem r h hc
  unfold cmFn at h
  split at h
  · rename_i u k n
    split at h
    · rename_i a b c d e g hu
      have hpu := pA_plain _ _ _ hu
      split at h
      · rename_i bl hb
        split at h
        · rename_i n' f q hd hr
          cases h
          obtain ⟨h1, h2, h3⟩ := hc
          subst h2
          exact {
            args := by
              show [u.ren _, _] = [u, _]
              rw [(plain_ren _ (fun _ => True) u hpu.1).1]; rfl
            fit := ⟨(plain_ren _ _ u hpu.1).2, ⟨fun e => by simp [keyMap, ιOf] at e, trivial⟩, trivial⟩
            len := rfl
            blk := fun j k' us hk hus => by
              match j with
              | 0 =>
                cases hk; cases hus
                exact ⟨bl, hb, hd, rwsB_plain _ _, rowsB_some hr h1⟩
              | j + 1 => simp at hk
            told := told_group hu (cm_told ((a, b), (c, d), (e, g)) h3)
            fitv := (plain_ren _ _ _ (show LV.plain (cV _) from ⟨trivial, trivial, trivial, trivial, trivial, trivial, trivial⟩)).2
            fitb := fun b hb => absurd hb List.not_mem_nil }
        · cases h
      · cases h
    · cases h
  · cases h
set_option maxRecDepth 100000 in
theorem entRCMul : ∀ args w, (callFunc 38 args).run Tryz.prog w = .ok (.enter 38 args) w := ent_of (f := 38) (P := Tryz.prog) rfl rfl rfl
noncomputable def conRCMul : ConC Tryz.prog Fe := conRdT 38 entRCMul cmFn cmFn_ok
end Go.Proofs.YtcedljbapgmdmaaGreat.En

/- DERIVED. Written powers of the document: shifted(1, 2) and shifted(-1, 1), as contracts. -/
set_option linter.all false
namespace Go.Proofs.YtcedljbapgmdmaaGreat.En
open Go Go.RowKit

def shA : List Int := [6, 128, 68, 122, 142, 95, 249, 166, 146, 198, 233, 237, 144, 210, 235, 53, 217, 29, 210, 225, 60, 225, 68, 175, 217, 204, 52, 168, 61, 172, 61, 137, 7, 170, 255, 255, 172, 84, 255, 255, 238, 127, 191, 255, 255, 255, 234, 171]
def shB : List Int := [13, 0, 136, 245, 28, 191, 243, 77, 37, 141, 211, 219, 33, 165, 214, 107, 178, 59, 165, 194, 121, 194, 137, 95, 179, 152, 105, 80, 123, 88, 123, 18, 15, 85, 255, 255, 88, 169, 255, 255, 220, 255, 127, 255, 255, 255, 213, 85]
def shD : List Int := [26, 1, 17, 234, 57, 127, 230, 154, 75, 27, 167, 182, 67, 75, 172, 215, 100, 119, 75, 132, 243, 133, 18, 191, 103, 48, 210, 160, 246, 176, 246, 36, 30, 171, 255, 254, 177, 83, 255, 255, 185, 254, 255, 255, 255, 255, 170, 169]
abbrev shDV : LV Fe := .agg [.int .u64 13402431016077863593, .int .u64 2210141511517208575, .int .u64 7435674573564081700, .int .u64 7239337960414712511, .int .u64 5412103778470702295, .int .u64 1873798617647539866]
abbrev pNV : LV Fe := .agg [.int .u64 13402431016077863595, .int .u64 2210141511517208575, .int .u64 7435674573564081700, .int .u64 7239337960414712511, .int .u64 5412103778470702295, .int .u64 1873798617647539866]
abbrev shAV : LV Fe := .agg [.int .u64 17185665809301629611, .int .u64 552535377879302143, .int .u64 15693976698673184137, .int .u64 15644892545385841839, .int .u64 10576397981472451381, .int .u64 468449654411884966]
abbrev shBV : LV Fe := .agg [.int .u64 15924587544893707605, .int .u64 1105070755758604287, .int .u64 12941209323636816658, .int .u64 12843041017062132063, .int .u64 2706051889235351147, .int .u64 936899308823769933]
abbrev ints8 (l : List Int) : List (LV Fe) := l.map fun x => .int .u8 x
set_option maxRecDepth 100000 in
theorem entShP : ∀ args w, (callFunc 131 args).run Tryz.prog w = .ok (.enter 131 args) w := ent_of (f := 131) (P := Tryz.prog) rfl rfl rfl
--@run shPV := callF Tryz.prog (SGa noD []) 300 131 [] [] => pNV
--@[
set_option maxRecDepth 100000 in
def shPV_G  : Prop := true = true
set_option maxRecDepth 100000 in
theorem shPV  : (callF Tryz.prog (SGa noD []) 300 131 [] []).map (fun r => (r.1, r.2.2)) = some (pNV, some (shPV_G )) := by kernel_rfl
set_option maxRecDepth 100000 in
theorem shPV_ok  : condOk (some (shPV_G )) := by unfold shPV_G condOk; and_intros <;> rfl
--@]
noncomputable def conRPV : ConP Tryz.prog Fe := mk0 131 entShP pNV (.of (SGa_ok _ _) rfl shPV shPV_ok rfl rfl)
--@run byA := callF Tryz.prog (SGa noD []) 300 88 [shAV] [] => .agg (ints8 shA)
--@[
set_option maxRecDepth 100000 in
def byA_G  : Prop := (true = true ∧ true = true ∧ true = true ∧ true = true ∧ true = true ∧ true = true) ∧ (true = true ∧ true = true ∧ true = true ∧ true = true ∧ true = true ∧ true = true) ∧ (true = true ∧ true = true ∧ true = true ∧ true = true ∧ true = true ∧ true = true) ∧ (true = true ∧ true = true ∧ true = true ∧ true = true ∧ true = true ∧ true = true) ∧ (true = true ∧ true = true ∧ true = true ∧ true = true ∧ true = true ∧ true = true) ∧ (true = true ∧ true = true ∧ true = true ∧ true = true ∧ true = true ∧ true = true) ∧ (true = true ∧ true = true ∧ true = true ∧ true = true ∧ true = true ∧ true = true) ∧ (true = true ∧ true = true ∧ true = true ∧ true = true ∧ true = true ∧ true = true) ∧ (true = true ∧ true = true ∧ true = true ∧ true = true ∧ true = true ∧ true = true) ∧ (true = true ∧ true = true ∧ true = true ∧ true = true ∧ true = true ∧ true = true) ∧ (true = true ∧ true = true ∧ true = true ∧ true = true ∧ true = true ∧ true = true) ∧ (true = true ∧ true = true ∧ true = true ∧ true = true ∧ true = true ∧ true = true) ∧ (true = true ∧ true = true ∧ true = true ∧ true = true ∧ true = true ∧ true = true) ∧ (true = true ∧ true = true ∧ true = true ∧ true = true ∧ true = true ∧ true = true) ∧ (true = true ∧ true = true ∧ true = true ∧ true = true ∧ true = true ∧ true = true) ∧ (true = true ∧ true = true ∧ true = true ∧ true = true ∧ true = true ∧ true = true) ∧ (true = true ∧ true = true ∧ true = true ∧ true = true ∧ true = true ∧ true = true) ∧ (true = true ∧ true = true ∧ true = true ∧ true = true ∧ true = true ∧ true = true) ∧ (true = true ∧ true = true ∧ true = true ∧ true = true ∧ true = true ∧ true = true) ∧ (true = true ∧ true = true ∧ true = true ∧ true = true ∧ true = true ∧ true = true) ∧ (true = true ∧ true = true ∧ true = true ∧ true = true ∧ true = true ∧ true = true) ∧ (true = true ∧ true = true ∧ true = true ∧ true = true ∧ true = true ∧ true = true) ∧ (true = true ∧ true = true ∧ true = true ∧ true = true ∧ true = true ∧ true = true) ∧ (true = true ∧ true = true ∧ true = true ∧ true = true ∧ true = true ∧ true = true) ∧ (true = true ∧ true = true ∧ true = true ∧ true = true ∧ true = true ∧ true = true) ∧ (true = true ∧ true = true ∧ true = true ∧ true = true ∧ true = true ∧ true = true) ∧ (true = true ∧ true = true ∧ true = true ∧ true = true ∧ true = true ∧ true = true) ∧ (true = true ∧ true = true ∧ true = true ∧ true = true ∧ true = true ∧ true = true) ∧ (true = true ∧ true = true ∧ true = true ∧ true = true ∧ true = true ∧ true = true) ∧ (true = true ∧ true = true ∧ true = true ∧ true = true ∧ true = true ∧ true = true) ∧ (true = true ∧ true = true ∧ true = true ∧ true = true ∧ true = true ∧ true = true) ∧ (true = true ∧ true = true ∧ true = true ∧ true = true ∧ true = true ∧ true = true) ∧ (true = true ∧ true = true ∧ true = true ∧ true = true ∧ true = true ∧ true = true) ∧ (true = true ∧ true = true ∧ true = true ∧ true = true ∧ true = true ∧ true = true) ∧ (true = true ∧ true = true ∧ true = true ∧ true = true ∧ true = true ∧ true = true) ∧ (true = true ∧ true = true ∧ true = true ∧ true = true ∧ true = true ∧ true = true) ∧ (true = true ∧ true = true ∧ true = true ∧ true = true ∧ true = true ∧ true = true) ∧ (true = true ∧ true = true ∧ true = true ∧ true = true ∧ true = true ∧ true = true) ∧ (true = true ∧ true = true ∧ true = true ∧ true = true ∧ true = true ∧ true = true) ∧ (true = true ∧ true = true ∧ true = true ∧ true = true ∧ true = true ∧ true = true) ∧ (true = true ∧ true = true ∧ true = true ∧ true = true ∧ true = true ∧ true = true) ∧ (true = true ∧ true = true ∧ true = true ∧ true = true ∧ true = true ∧ true = true) ∧ (true = true ∧ true = true ∧ true = true ∧ true = true ∧ true = true ∧ true = true) ∧ (true = true ∧ true = true ∧ true = true ∧ true = true ∧ true = true ∧ true = true) ∧ (true = true ∧ true = true ∧ true = true ∧ true = true ∧ true = true ∧ true = true) ∧ (true = true ∧ true = true ∧ true = true ∧ true = true ∧ true = true ∧ true = true) ∧ (true = true ∧ true = true ∧ true = true ∧ true = true ∧ true = true ∧ true = true) ∧ (true = true ∧ true = true ∧ true = true ∧ true = true ∧ true = true ∧ true = true) ∧ true = true
set_option maxRecDepth 100000 in
theorem byA  : (callF Tryz.prog (SGa noD []) 300 88 [shAV] []).map (fun r => (r.1, r.2.2)) = some (.agg (ints8 shA), some (byA_G )) := by kernel_rfl
set_option maxRecDepth 100000 in
theorem byA_ok  : condOk (some (byA_G )) := by unfold byA_G condOk; and_intros <;> rfl
--@]
--@run byB := callF Tryz.prog (SGa noD []) 300 88 [shBV] [] => .agg (ints8 shB)
--@[
set_option maxRecDepth 100000 in
def byB_G  : Prop := (true = true ∧ true = true ∧ true = true ∧ true = true ∧ true = true ∧ true = true) ∧ (true = true ∧ true = true ∧ true = true ∧ true = true ∧ true = true ∧ true = true) ∧ (true = true ∧ true = true ∧ true = true ∧ true = true ∧ true = true ∧ true = true) ∧ (true = true ∧ true = true ∧ true = true ∧ true = true ∧ true = true ∧ true = true) ∧ (true = true ∧ true = true ∧ true = true ∧ true = true ∧ true = true ∧ true = true) ∧ (true = true ∧ true = true ∧ true = true ∧ true = true ∧ true = true ∧ true = true) ∧ (true = true ∧ true = true ∧ true = true ∧ true = true ∧ true = true ∧ true = true) ∧ (true = true ∧ true = true ∧ true = true ∧ true = true ∧ true = true ∧ true = true) ∧ (true = true ∧ true = true ∧ true = true ∧ true = true ∧ true = true ∧ true = true) ∧ (true = true ∧ true = true ∧ true = true ∧ true = true ∧ true = true ∧ true = true) ∧ (true = true ∧ true = true ∧ true = true ∧ true = true ∧ true = true ∧ true = true) ∧ (true = true ∧ true = true ∧ true = true ∧ true = true ∧ true = true ∧ true = true) ∧ (true = true ∧ true = true ∧ true = true ∧ true = true ∧ true = true ∧ true = true) ∧ (true = true ∧ true = true ∧ true = true ∧ true = true ∧ true = true ∧ true = true) ∧ (true = true ∧ true = true ∧ true = true ∧ true = true ∧ true = true ∧ true = true) ∧ (true = true ∧ true = true ∧ true = true ∧ true = true ∧ true = true ∧ true = true) ∧ (true = true ∧ true = true ∧ true = true ∧ true = true ∧ true = true ∧ true = true) ∧ (true = true ∧ true = true ∧ true = true ∧ true = true ∧ true = true ∧ true = true) ∧ (true = true ∧ true = true ∧ true = true ∧ true = true ∧ true = true ∧ true = true) ∧ (true = true ∧ true = true ∧ true = true ∧ true = true ∧ true = true ∧ true = true) ∧ (true = true ∧ true = true ∧ true = true ∧ true = true ∧ true = true ∧ true = true) ∧ (true = true ∧ true = true ∧ true = true ∧ true = true ∧ true = true ∧ true = true) ∧ (true = true ∧ true = true ∧ true = true ∧ true = true ∧ true = true ∧ true = true) ∧ (true = true ∧ true = true ∧ true = true ∧ true = true ∧ true = true ∧ true = true) ∧ (true = true ∧ true = true ∧ true = true ∧ true = true ∧ true = true ∧ true = true) ∧ (true = true ∧ true = true ∧ true = true ∧ true = true ∧ true = true ∧ true = true) ∧ (true = true ∧ true = true ∧ true = true ∧ true = true ∧ true = true ∧ true = true) ∧ (true = true ∧ true = true ∧ true = true ∧ true = true ∧ true = true ∧ true = true) ∧ (true = true ∧ true = true ∧ true = true ∧ true = true ∧ true = true ∧ true = true) ∧ (true = true ∧ true = true ∧ true = true ∧ true = true ∧ true = true ∧ true = true) ∧ (true = true ∧ true = true ∧ true = true ∧ true = true ∧ true = true ∧ true = true) ∧ (true = true ∧ true = true ∧ true = true ∧ true = true ∧ true = true ∧ true = true) ∧ (true = true ∧ true = true ∧ true = true ∧ true = true ∧ true = true ∧ true = true) ∧ (true = true ∧ true = true ∧ true = true ∧ true = true ∧ true = true ∧ true = true) ∧ (true = true ∧ true = true ∧ true = true ∧ true = true ∧ true = true ∧ true = true) ∧ (true = true ∧ true = true ∧ true = true ∧ true = true ∧ true = true ∧ true = true) ∧ (true = true ∧ true = true ∧ true = true ∧ true = true ∧ true = true ∧ true = true) ∧ (true = true ∧ true = true ∧ true = true ∧ true = true ∧ true = true ∧ true = true) ∧ (true = true ∧ true = true ∧ true = true ∧ true = true ∧ true = true ∧ true = true) ∧ (true = true ∧ true = true ∧ true = true ∧ true = true ∧ true = true ∧ true = true) ∧ (true = true ∧ true = true ∧ true = true ∧ true = true ∧ true = true ∧ true = true) ∧ (true = true ∧ true = true ∧ true = true ∧ true = true ∧ true = true ∧ true = true) ∧ (true = true ∧ true = true ∧ true = true ∧ true = true ∧ true = true ∧ true = true) ∧ (true = true ∧ true = true ∧ true = true ∧ true = true ∧ true = true ∧ true = true) ∧ (true = true ∧ true = true ∧ true = true ∧ true = true ∧ true = true ∧ true = true) ∧ (true = true ∧ true = true ∧ true = true ∧ true = true ∧ true = true ∧ true = true) ∧ (true = true ∧ true = true ∧ true = true ∧ true = true ∧ true = true ∧ true = true) ∧ (true = true ∧ true = true ∧ true = true ∧ true = true ∧ true = true ∧ true = true) ∧ true = true
set_option maxRecDepth 100000 in
theorem byB  : (callF Tryz.prog (SGa noD []) 300 88 [shBV] []).map (fun r => (r.1, r.2.2)) = some (.agg (ints8 shB), some (byB_G )) := by kernel_rfl
set_option maxRecDepth 100000 in
theorem byB_ok  : condOk (some (byB_G )) := by unfold byB_G condOk; and_intros <;> rfl
--@]
--@run byD := callF Tryz.prog (SGa noD []) 300 88 [shDV] [] => .agg (ints8 shD)
--@[
set_option maxRecDepth 100000 in
def byD_G  : Prop := (true = true ∧ true = true ∧ true = true ∧ true = true ∧ true = true ∧ true = true) ∧ (true = true ∧ true = true ∧ true = true ∧ true = true ∧ true = true ∧ true = true) ∧ (true = true ∧ true = true ∧ true = true ∧ true = true ∧ true = true ∧ true = true) ∧ (true = true ∧ true = true ∧ true = true ∧ true = true ∧ true = true ∧ true = true) ∧ (true = true ∧ true = true ∧ true = true ∧ true = true ∧ true = true ∧ true = true) ∧ (true = true ∧ true = true ∧ true = true ∧ true = true ∧ true = true ∧ true = true) ∧ (true = true ∧ true = true ∧ true = true ∧ true = true ∧ true = true ∧ true = true) ∧ (true = true ∧ true = true ∧ true = true ∧ true = true ∧ true = true ∧ true = true) ∧ (true = true ∧ true = true ∧ true = true ∧ true = true ∧ true = true ∧ true = true) ∧ (true = true ∧ true = true ∧ true = true ∧ true = true ∧ true = true ∧ true = true) ∧ (true = true ∧ true = true ∧ true = true ∧ true = true ∧ true = true ∧ true = true) ∧ (true = true ∧ true = true ∧ true = true ∧ true = true ∧ true = true ∧ true = true) ∧ (true = true ∧ true = true ∧ true = true ∧ true = true ∧ true = true ∧ true = true) ∧ (true = true ∧ true = true ∧ true = true ∧ true = true ∧ true = true ∧ true = true) ∧ (true = true ∧ true = true ∧ true = true ∧ true = true ∧ true = true ∧ true = true) ∧ (true = true ∧ true = true ∧ true = true ∧ true = true ∧ true = true ∧ true = true) ∧ (true = true ∧ true = true ∧ true = true ∧ true = true ∧ true = true ∧ true = true) ∧ (true = true ∧ true = true ∧ true = true ∧ true = true ∧ true = true ∧ true = true) ∧ (true = true ∧ true = true ∧ true = true ∧ true = true ∧ true = true ∧ true = true) ∧ (true = true ∧ true = true ∧ true = true ∧ true = true ∧ true = true ∧ true = true) ∧ (true = true ∧ true = true ∧ true = true ∧ true = true ∧ true = true ∧ true = true) ∧ (true = true ∧ true = true ∧ true = true ∧ true = true ∧ true = true ∧ true = true) ∧ (true = true ∧ true = true ∧ true = true ∧ true = true ∧ true = true ∧ true = true) ∧ (true = true ∧ true = true ∧ true = true ∧ true = true ∧ true = true ∧ true = true) ∧ (true = true ∧ true = true ∧ true = true ∧ true = true ∧ true = true ∧ true = true) ∧ (true = true ∧ true = true ∧ true = true ∧ true = true ∧ true = true ∧ true = true) ∧ (true = true ∧ true = true ∧ true = true ∧ true = true ∧ true = true ∧ true = true) ∧ (true = true ∧ true = true ∧ true = true ∧ true = true ∧ true = true ∧ true = true) ∧ (true = true ∧ true = true ∧ true = true ∧ true = true ∧ true = true ∧ true = true) ∧ (true = true ∧ true = true ∧ true = true ∧ true = true ∧ true = true ∧ true = true) ∧ (true = true ∧ true = true ∧ true = true ∧ true = true ∧ true = true ∧ true = true) ∧ (true = true ∧ true = true ∧ true = true ∧ true = true ∧ true = true ∧ true = true) ∧ (true = true ∧ true = true ∧ true = true ∧ true = true ∧ true = true ∧ true = true) ∧ (true = true ∧ true = true ∧ true = true ∧ true = true ∧ true = true ∧ true = true) ∧ (true = true ∧ true = true ∧ true = true ∧ true = true ∧ true = true ∧ true = true) ∧ (true = true ∧ true = true ∧ true = true ∧ true = true ∧ true = true ∧ true = true) ∧ (true = true ∧ true = true ∧ true = true ∧ true = true ∧ true = true ∧ true = true) ∧ (true = true ∧ true = true ∧ true = true ∧ true = true ∧ true = true ∧ true = true) ∧ (true = true ∧ true = true ∧ true = true ∧ true = true ∧ true = true ∧ true = true) ∧ (true = true ∧ true = true ∧ true = true ∧ true = true ∧ true = true ∧ true = true) ∧ (true = true ∧ true = true ∧ true = true ∧ true = true ∧ true = true ∧ true = true) ∧ (true = true ∧ true = true ∧ true = true ∧ true = true ∧ true = true ∧ true = true) ∧ (true = true ∧ true = true ∧ true = true ∧ true = true ∧ true = true ∧ true = true) ∧ (true = true ∧ true = true ∧ true = true ∧ true = true ∧ true = true ∧ true = true) ∧ (true = true ∧ true = true ∧ true = true ∧ true = true ∧ true = true ∧ true = true) ∧ (true = true ∧ true = true ∧ true = true ∧ true = true ∧ true = true ∧ true = true) ∧ (true = true ∧ true = true ∧ true = true ∧ true = true ∧ true = true ∧ true = true) ∧ (true = true ∧ true = true ∧ true = true ∧ true = true ∧ true = true ∧ true = true) ∧ true = true
set_option maxRecDepth 100000 in
theorem byD  : (callF Tryz.prog (SGa noD []) 300 88 [shDV] []).map (fun r => (r.1, r.2.2)) = some (.agg (ints8 shD), some (byD_G )) := by kernel_rfl
set_option maxRecDepth 100000 in
theorem byD_ok  : condOk (some (byD_G )) := by unfold byD_G condOk; and_intros <;> rfl
--@]
def byFn : List (LV Fe) → Option (LV Fe)
  | [.agg [.int .u64 17185665809301629611, .int .u64 552535377879302143, .int .u64 15693976698673184137, .int .u64 15644892545385841839, .int .u64 10576397981472451381, .int .u64 468449654411884966]] => some (.agg (ints8 shA))
  | [.agg [.int .u64 15924587544893707605, .int .u64 1105070755758604287, .int .u64 12941209323636816658, .int .u64 12843041017062132063, .int .u64 2706051889235351147, .int .u64 936899308823769933]] => some (.agg (ints8 shB))
  | [.agg [.int .u64 13402431016077863593, .int .u64 2210141511517208575, .int .u64 7435674573564081700, .int .u64 7239337960414712511, .int .u64 5412103778470702295, .int .u64 1873798617647539866]] => some (.agg (ints8 shD))
  | _ => none
theorem byFn_runs {vs : List (LV Fe)} {v : LV Fe} (h : byFn vs = some v) : Runs 88 vs v := by
  unfold byFn at h
  split at h
  · cases h; exact .of (SGa_ok _ _) rfl byA byA_ok rfl rfl
  · cases h; exact .of (SGa_ok _ _) rfl byB byB_ok rfl rfl
  · cases h; exact .of (SGa_ok _ _) rfl byD byD_ok rfl rfl
  · cases h
noncomputable def conBy : ConP Tryz.prog Fe := mkFn 88 entRBy byFn byFn_runs
abbrev oneV : LV Fe := .agg [.int .u64 1, .int .u64 0, .int .u64 0, .int .u64 0, .int .u64 0, .int .u64 0]
abbrev twoV : LV Fe := .agg [.int .u64 2, .int .u64 0, .int .u64 0, .int .u64 0, .int .u64 0, .int .u64 0]
abbrev pUpV : LV Fe := .agg [.int .u64 13402431016077863596, .int .u64 2210141511517208575, .int .u64 7435674573564081700, .int .u64 7239337960414712511, .int .u64 5412103778470702295, .int .u64 1873798617647539866]
abbrev pDnV : LV Fe := .agg [.int .u64 13402431016077863594, .int .u64 2210141511517208575, .int .u64 7435674573564081700, .int .u64 7239337960414712511, .int .u64 5412103778470702295, .int .u64 1873798617647539866]
set_option maxRecDepth 100000 in
theorem entShAdd : ∀ args w, (callFunc 130 args).run Tryz.prog w = .ok (.enter 130 args) w := ent_of (f := 130) (P := Tryz.prog) rfl rfl rfl
set_option maxRecDepth 100000 in
theorem entShSub : ∀ args w, (callFunc 129 args).run Tryz.prog w = .ok (.enter 129 args) w := ent_of (f := 129) (P := Tryz.prog) rfl rfl rfl
noncomputable abbrev SQa (ps : List (ConP Tryz.prog Fe)) : Sig Fe := sigQ [conAdd64, conSub64] (SGa noD ps)
theorem SQa_ok (ps : List (ConP Tryz.prog Fe)) : SigOk Tryz.prog (SQa ps) := sigQ_ok _ (SGa_ok _ _)
--@run shAd := callF Tryz.prog (SQa []) 300 130 [pNV, oneV] [] => .tup [pUpV, .int .u64 0]
--@[
set_option maxRecDepth 100000 in
def shAd_G  : Prop := (true = true ∧ true = true ∧ 0 ≤ 1 ∧ true = true ∧ true = true) ∧ (true = true ∧ true = true ∧ 0 ≤ 1 ∧ true = true ∧ true = true) ∧ (true = true ∧ true = true ∧ 0 ≤ 1 ∧ true = true ∧ true = true) ∧ (true = true ∧ true = true ∧ 0 ≤ 1 ∧ true = true ∧ true = true) ∧ (true = true ∧ true = true ∧ 0 ≤ 1 ∧ true = true ∧ true = true) ∧ (true = true ∧ true = true ∧ 0 ≤ 1 ∧ true = true ∧ true = true) ∧ true = true
set_option maxRecDepth 100000 in
theorem shAd  : (callF Tryz.prog (SQa []) 300 130 [pNV, oneV] []).map (fun r => (r.1, r.2.2)) = some (.tup [pUpV, .int .u64 0], some (shAd_G )) := by kernel_rfl
--@]
--@run shSb := callF Tryz.prog (SQa []) 300 129 [pNV, oneV] [] => .tup [pDnV, .int .u64 0]
--@[
set_option maxRecDepth 100000 in
def shSb_G  : Prop := (true = true ∧ true = true ∧ 0 ≤ 1 ∧ true = true ∧ true = true) ∧ (true = true ∧ true = true ∧ 0 ≤ 1 ∧ true = true ∧ true = true) ∧ (true = true ∧ true = true ∧ 0 ≤ 1 ∧ true = true ∧ true = true) ∧ (true = true ∧ true = true ∧ 0 ≤ 1 ∧ true = true ∧ true = true) ∧ (true = true ∧ true = true ∧ 0 ≤ 1 ∧ true = true ∧ true = true) ∧ (true = true ∧ true = true ∧ 0 ≤ 1 ∧ true = true ∧ true = true) ∧ true = true
set_option maxRecDepth 100000 in
theorem shSb  : (callF Tryz.prog (SQa []) 300 129 [pNV, oneV] []).map (fun r => (r.1, r.2.2)) = some (.tup [pDnV, .int .u64 0], some (shSb_G )) := by kernel_rfl
--@]
--@run shSc := callF Tryz.prog (SQa []) 300 129 [pNV, twoV] [] => .tup [shDV, .int .u64 0]
--@[
set_option maxRecDepth 100000 in
def shSc_G  : Prop := (true = true ∧ true = true ∧ 0 ≤ 1 ∧ true = true ∧ true = true) ∧ (true = true ∧ true = true ∧ 0 ≤ 1 ∧ true = true ∧ true = true) ∧ (true = true ∧ true = true ∧ 0 ≤ 1 ∧ true = true ∧ true = true) ∧ (true = true ∧ true = true ∧ 0 ≤ 1 ∧ true = true ∧ true = true) ∧ (true = true ∧ true = true ∧ 0 ≤ 1 ∧ true = true ∧ true = true) ∧ (true = true ∧ true = true ∧ 0 ≤ 1 ∧ true = true ∧ true = true) ∧ true = true
set_option maxRecDepth 100000 in
theorem shSc  : (callF Tryz.prog (SQa []) 300 129 [pNV, twoV] []).map (fun r => (r.1, r.2.2)) = some (.tup [shDV, .int .u64 0], some (shSc_G )) := by kernel_rfl
--@]
theorem shSc_ok' : condOk (some shSc_G) := by unfold shSc_G condOk; and_intros <;> first | rfl | exact Nat.zero_le _
theorem shAd_ok' : condOk (some shAd_G) := by unfold shAd_G condOk; and_intros <;> first | rfl | exact Nat.zero_le _
theorem shSb_ok' : condOk (some shSb_G) := by unfold shSb_G condOk; and_intros <;> first | rfl | exact Nat.zero_le _
def shAdFn : List (LV Fe) → Option (LV Fe)
  | [.agg [.int .u64 13402431016077863595, .int .u64 2210141511517208575, .int .u64 7435674573564081700, .int .u64 7239337960414712511, .int .u64 5412103778470702295, .int .u64 1873798617647539866], .agg [.int .u64 1, .int .u64 0, .int .u64 0, .int .u64 0, .int .u64 0, .int .u64 0]] => some (.tup [pUpV, .int .u64 0])
  | _ => none
theorem shAdFn_runs {vs : List (LV Fe)} {v : LV Fe} (h : shAdFn vs = some v) : Runs 130 vs v := by
  unfold shAdFn at h
  split at h
  · cases h; exact .of (SQa_ok _) rfl shAd shAd_ok' rfl rfl
  · cases h
noncomputable def conShAd : ConP Tryz.prog Fe := mkFn 130 entShAdd shAdFn shAdFn_runs
def shSbFn : List (LV Fe) → Option (LV Fe)
  | [.agg [.int .u64 13402431016077863595, .int .u64 2210141511517208575, .int .u64 7435674573564081700, .int .u64 7239337960414712511, .int .u64 5412103778470702295, .int .u64 1873798617647539866], .agg [.int .u64 1, .int .u64 0, .int .u64 0, .int .u64 0, .int .u64 0, .int .u64 0]] => some (.tup [pDnV, .int .u64 0])
  | [.agg [.int .u64 13402431016077863595, .int .u64 2210141511517208575, .int .u64 7435674573564081700, .int .u64 7239337960414712511, .int .u64 5412103778470702295, .int .u64 1873798617647539866], .agg [.int .u64 2, .int .u64 0, .int .u64 0, .int .u64 0, .int .u64 0, .int .u64 0]] => some (.tup [shDV, .int .u64 0])
  | _ => none
theorem shSbFn_runs {vs : List (LV Fe)} {v : LV Fe} (h : shSbFn vs = some v) : Runs 129 vs v := by
  unfold shSbFn at h
  split at h
  · cases h; exact .of (SQa_ok _) rfl shSb shSb_ok' rfl rfl
  · cases h; exact .of (SQa_ok _) rfl shSc shSc_ok' rfl rfl
  · cases h
noncomputable def conShSb : ConP Tryz.prog Fe := mkFn 129 entShSub shSbFn shSbFn_runs
set_option maxRecDepth 100000 in
theorem entShifted : ∀ args w, (callFunc 133 args).run Tryz.prog w = .ok (.enter 133 args) w := ent_of (f := 133) (P := Tryz.prog) rfl rfl rfl
--@gen shA0 := (callF Tryz.prog (SGa noD [conRPV, conBy, conShAd, conShSb]) 300 133 [.int .i64 1, .int .u64 2] []).map (fun r => r.2.2)
--@[
set_option maxRecDepth 100000 in
def shA0_G  : Prop := true = true ∧ true = true ∧ (true = true ∧ true = true ∧ true = true ∧ true = true) ∧ (true = true ∧ true = true ∧ true = true ∧ true = true ∧ true = true) ∧ (true = true ∧ true = true ∧ true = true ∧ true = true) ∧ (true = true ∧ true = true ∧ true = true ∧ true = true ∧ true = true) ∧ (true = true ∧ true = true ∧ true = true ∧ true = true) ∧ (true = true ∧ true = true ∧ true = true ∧ true = true ∧ true = true) ∧ (true = true ∧ true = true ∧ true = true ∧ true = true) ∧ (true = true ∧ true = true ∧ true = true ∧ true = true ∧ true = true) ∧ (true = true ∧ true = true ∧ true = true ∧ true = true) ∧ (true = true ∧ true = true ∧ true = true ∧ true = true ∧ true = true) ∧ (true = true ∧ true = true ∧ true = true ∧ true = true) ∧ (true = true ∧ true = true ∧ true = true ∧ true = true) ∧ (true = true ∧ true = true ∧ true = true ∧ true = true ∧ true = true) ∧ (true = true ∧ true = true ∧ true = true ∧ true = true) ∧ (true = true ∧ true = true ∧ true = true ∧ true = true ∧ true = true) ∧ (true = true ∧ true = true ∧ true = true ∧ true = true) ∧ (true = true ∧ true = true ∧ true = true ∧ true = true ∧ true = true) ∧ (true = true ∧ true = true ∧ true = true ∧ true = true) ∧ (true = true ∧ true = true ∧ true = true ∧ true = true ∧ true = true) ∧ (true = true ∧ true = true ∧ true = true ∧ true = true) ∧ (true = true ∧ true = true ∧ true = true ∧ true = true ∧ true = true) ∧ (true = true ∧ true = true ∧ true = true ∧ true = true) ∧ true = true ∧ true = true
set_option maxRecDepth 100000 in
theorem shA0  : (callF Tryz.prog (SGa noD [conRPV, conBy, conShAd, conShSb]) 300 133 [.int .i64 1, .int .u64 2] []).map (fun r => r.2.2) = some (some ((shA0_G ))) := by kernel_rfl
--@]
--@gen shB0 := (callF Tryz.prog (SGa noD [conRPV, conBy, conShAd, conShSb]) 300 133 [.int .i64 (-1), .int .u64 1] []).map (fun r => r.2.2)
--@[
set_option maxRecDepth 100000 in
def shB0_G  : Prop := true = true ∧ true = true ∧ (true = true ∧ true = true ∧ true = true ∧ true = true) ∧ (true = true ∧ true = true ∧ true = true ∧ true = true ∧ true = true) ∧ (true = true ∧ true = true ∧ true = true ∧ true = true) ∧ (true = true ∧ true = true ∧ true = true ∧ true = true ∧ true = true) ∧ (true = true ∧ true = true ∧ true = true ∧ true = true) ∧ (true = true ∧ true = true ∧ true = true ∧ true = true ∧ true = true) ∧ (true = true ∧ true = true ∧ true = true ∧ true = true) ∧ (true = true ∧ true = true ∧ true = true ∧ true = true ∧ true = true) ∧ (true = true ∧ true = true ∧ true = true ∧ true = true) ∧ (true = true ∧ true = true ∧ true = true ∧ true = true ∧ true = true) ∧ (true = true ∧ true = true ∧ true = true ∧ true = true) ∧ true = true ∧ true = true
set_option maxRecDepth 100000 in
theorem shB0  : (callF Tryz.prog (SGa noD [conRPV, conBy, conShAd, conShSb]) 300 133 [.int .i64 (-1), .int .u64 1] []).map (fun r => r.2.2) = some (some ((shB0_G ))) := by kernel_rfl
--@]
--@gen shD0 := (callF Tryz.prog (SGa noD [conRPV, conBy, conShAd, conShSb]) 300 133 [.int .i64 (-2), .int .u64 0] []).map (fun r => r.2.2)
--@[
set_option maxRecDepth 100000 in
def shD0_G  : Prop := true = true ∧ true = true ∧ true = true ∧ true = true
set_option maxRecDepth 100000 in
theorem shD0  : (callF Tryz.prog (SGa noD [conRPV, conBy, conShAd, conShSb]) 300 133 [.int .i64 (-2), .int .u64 0] []).map (fun r => r.2.2) = some (some ((shD0_G ))) := by kernel_rfl
--@]
end Go.Proofs.YtcedljbapgmdmaaGreat.En

/- DERIVED. Written powers of the document: the contract. -/
set_option linter.all false
namespace Go.Proofs.YtcedljbapgmdmaaGreat.En
open Go Go.RowKit

def shAb : List (Blk Fe) := [⟨.rw, [.int .u64 17185665809301629611, .int .u64 552535377879302143, .int .u64 15693976698673184137, .int .u64 15644892545385841839, .int .u64 10576397981472451381, .int .u64 468449654411884966]⟩, ⟨.rw, ints8 shA⟩]
def shBb : List (Blk Fe) := [⟨.rw, [.int .u64 15924587544893707605, .int .u64 1105070755758604287, .int .u64 12941209323636816658, .int .u64 12843041017062132063, .int .u64 2706051889235351147, .int .u64 936899308823769933]⟩, ⟨.rw, ints8 shB⟩]
def shDb : List (Blk Fe) := [⟨.rw, [.int .u64 13402431016077863593, .int .u64 2210141511517208575, .int .u64 7435674573564081700, .int .u64 7239337960414712511, .int .u64 5412103778470702295, .int .u64 1873798617647539866]⟩, ⟨.rw, ints8 shD⟩]
set_option maxRecDepth 100000 in
theorem shAW : callF Tryz.prog (SGa noD [conRPV, conBy, conShAd, conShSb]) 300 133 [.int .i64 1, .int .u64 2] [] = some (.slice (.own 1) 0 [] 48 48, shAb.map some, some shA0_G) := by kernel_rfl
set_option maxRecDepth 100000 in
theorem shBW : callF Tryz.prog (SGa noD [conRPV, conBy, conShAd, conShSb]) 300 133 [.int .i64 (-1), .int .u64 1] [] = some (.slice (.own 1) 0 [] 48 48, shBb.map some, some shB0_G) := by kernel_rfl
set_option maxRecDepth 100000 in
theorem shDW : callF Tryz.prog (SGa noD [conRPV, conBy, conShAd, conShSb]) 300 133 [.int .i64 (-2), .int .u64 0] [] = some (.slice (.own 1) 0 [] 48 48, shDb.map some, some shD0_G) := by kernel_rfl
def shC (I : Inp Fe) (vs : List (LV Fe)) (mem : Mem Fe) : Option (RdC Fe) := match vs with
  | [.int .i64 1, .int .u64 2] => some ⟨[], [], [.int .i64 1, .int .u64 2], .slice (.own 1) 0 [] 48 48, shAb, true = true⟩
  | [.int .i64 (-1), .int .u64 1] => some ⟨[], [], [.int .i64 (-1), .int .u64 1], .slice (.own 1) 0 [] 48 48, shBb, true = true⟩
  | [.int .i64 (-2), .int .u64 0] => some ⟨[], [], [.int .i64 (-2), .int .u64 0], .slice (.own 1) 0 [] 48 48, shDb, true = true⟩
  | _ => none
theorem sh_plain {n : List (LV Fe)} (hn : plainL n) (l : List Int) (τ : Key → Option Key) : ∀ b ∈ [(⟨.rw, n⟩ : Blk Fe), ⟨.rw, ints8 l⟩], fitL τ (fun _ => True) b.us ∧ isRo b.kd = false := fun b hb => by
  simp only [List.mem_cons, List.not_mem_nil, or_false] at hb
  rcases hb with rfl | rfl
  · exact ⟨(plainL_ren _ _ _ hn).2, rfl⟩
  · exact ⟨(plainL_ren _ _ _ (plain_ints .u8 l)).2, rfl⟩
theorem sh_ok : ∀ I vs mem r, shC I vs mem = some r → r.c → RdOk Tryz.prog 133 I vs mem r := by
  intro I vs mem r h hc
  unfold shC at h
  split at h
  · cases h
    exact {
      args := rfl
      fit := ⟨trivial, trivial, trivial⟩
      len := rfl
      blk := fun j k us hk hus => by simp at hk
      told := told_of (SGa_ok _ _) mixed inOf_nil.symm shAW (by unfold shA0_G condOk; and_intros <;> rfl)
      fitv := ownly_fit _ _ _ _ ⟨1, rfl⟩
      fitb := sh_plain (plain_ints .u64 [17185665809301629611, 552535377879302143, 15693976698673184137, 15644892545385841839, 10576397981472451381, 468449654411884966]) shA _ }
  · cases h
    exact {
      args := rfl
      fit := ⟨trivial, trivial, trivial⟩
      len := rfl
      blk := fun j k us hk hus => by simp at hk
      told := told_of (SGa_ok _ _) mixed inOf_nil.symm shBW (by unfold shB0_G condOk; and_intros <;> rfl)
      fitv := ownly_fit _ _ _ _ ⟨1, rfl⟩
      fitb := sh_plain (plain_ints .u64 [15924587544893707605, 1105070755758604287, 12941209323636816658, 12843041017062132063, 2706051889235351147, 936899308823769933]) shB _ }
  · cases h
    exact {
      args := rfl
      fit := ⟨trivial, trivial, trivial⟩
      len := rfl
      blk := fun j k us hk hus => by simp at hk
      told := told_of (SGa_ok _ _) mixed inOf_nil.symm shDW (by unfold shD0_G condOk; and_intros <;> rfl)
      fitv := ownly_fit _ _ _ _ ⟨1, rfl⟩
      fitb := sh_plain (plain_ints .u64 [13402431016077863593, 2210141511517208575, 7435674573564081700, 7239337960414712511, 5412103778470702295, 1873798617647539866]) shD _ }
  · cases h
noncomputable def conShift : ConC Tryz.prog Fe := conRdT 133 entShifted shC sh_ok
end Go.Proofs.YtcedljbapgmdmaaGreat.En

/- DERIVED. The document's power of an element: the loop. -/
set_option linter.all false
namespace Go.Proofs.YtcedljbapgmdmaaGreat.En
open Go Go.RowKit

theorem vOne_tr (ρ : Key → Loc) : LV.tr ρ vOne = LV.tr ρ (.agg [.abs fone] : LV Fe) := congrArg (fun l : List Value => Value.agg l.toArray) (pF_cells (a := fone) (t := []) rfl ρ)
noncomputable def conROneA : ConP Tryz.prog Fe := mk0 137 entROne (.agg [.abs fone]) ((Runs.of (SRF_ok _ _) rfl ronV ronV_ok rfl rfl).as rfl vOne_tr)
def rpS (a r : Fe) (t : Bool) : Fe := bif t then fmul (fmul r r) a else fmul r r
abbrev z6L : List (LV Fe) := List.replicate 6 (.int .u64 0)
noncomputable abbrev SRp (l : List (Nat × Nat × Bool)) (I : Inp Fe) (ls : List (LoopF Tryz.prog I)) : Sig Fe := sigOf (P := Tryz.prog) ([conFAdd, conFSub, conFMul, conFSquare, conFNeg, conFIsZero, conFEqual, conTwice] ++ (psG ++ (psH ++ [conRFMul, conROneA]))) [] [] (I := I) ls msF (advP (dci 132 l) [] [])
theorem SRp_ok (l : List (Nat × Nat × Bool)) {I : Inp Fe} (h : InpOk I) (ls : List (LoopF Tryz.prog I)) : SigOk Tryz.prog (SRp l I ls) := sigOf_ok _ [] [] ls msF_ok _ h
abbrev rpT (n i : Nat) : List (Nat × LV Fe) := [(1, .slice (.inp 0 0) 0 [] n n), (2, .ptr (.own 0) 0 []), (4, .ptr (.own 1) 0 []), (5, .ptr (.own 2) 0 []), (6, .int .i64 (i : Int))]
abbrev rpM (a r : Fe) : Mem Fe := [some ⟨.rw, [.abs a]⟩, some ⟨.rw, z6L⟩, some ⟨.rw, [.abs r]⟩]
noncomputable abbrev rpJ (a : Fe) (n i : Nat) (r : Fe) : LS Fe := ⟨tm 34 (rpT n i), rpM a r, []⟩
noncomputable def rpE0 (n : Nat) (f : Nat → Int) (a : Fe) : LS Fe := entry Tryz.prog (SRp [] (inOf [rwsB n f]) []) 60 132 [0, 1, 0, 1, 1] [bF [a], .slice (.inp 0 0) 0 [] n n] []
--@gen rpE (n : Nat) (f : Nat → Int) (a : Fe) := mS (inOf [rwsB n f]) [some (.own 0), some (.own 1), some (.own 2)] (rpE0 n f a) 34 (rpT n 0) (rpM a fone)
--@[
set_option maxRecDepth 100000 in
def rpE_G (n : Nat) (f : Nat → Int) (a : Fe) : Prop := ((0 = 0 ∧ ([] : List Stp) = [] ∧ n = n ∧ n = n) ∧ (0 : Int) = (↑0 : Int)) ∧ a = a ∧ ((0 : Int) = (0 : Int) ∧ (0 : Int) = (0 : Int) ∧ (0 : Int) = (0 : Int) ∧ (0 : Int) = (0 : Int) ∧ (0 : Int) = (0 : Int) ∧ (0 : Int) = (0 : Int)) ∧ fone = fone
set_option maxRecDepth 100000 in
theorem rpE (n : Nat) (f : Nat → Int) (a : Fe) : mS (inOf [rwsB n f]) [some (.own 0), some (.own 1), some (.own 2)] (rpE0 n f a) 34 (rpT n 0) (rpM a fone) = some (some ((rpE_G n f a))) := by kernel_rfl
--@]
--@gen rpRf (n : Nat) (f : Nat → Int) (a r : Fe) (i : Nat) := runG Tryz.prog (SRp [(3, 4, true), (6, 10, false)] (inOf [rwsB n f]) []) 60 132 [0, 0, 1, 0, 1, 1] (rpJ a n i r) .normal 3 [some (.own 0), some (.own 1), some (.own 2)] 34 (rpT n (i + 1)) (rpM a (fmul r r))
--@[
set_option maxRecDepth 100000 in
def rpRf_G (n : Nat) (f : Nat → Int) (a r : Fe) (i : Nat) : Prop := (decide ((↑i : Int) < IntKind.wrap IntKind.i64 ((8 : Int) * (↑n : Int))) = true ∧ true = true ∧ true = true ∧ decide ((0 : Int) ≤ IntKind.wrap IntKind.i64 (Int.tdiv (↑i : Int) ((8 : Int))) ∧ IntKind.wrap IntKind.i64 (Int.tdiv (↑i : Int) ((8 : Int))) < (↑n : Int)) = true ∧ Nat.blt (Int.toNat (IntKind.wrap IntKind.i64 (Int.tdiv (↑i : Int) ((8 : Int))))) n = true ∧ true = true ∧ decide ((0 : Int) ≤ IntKind.wrap IntKind.i64 ((7 : Int) - Int.tmod (↑i : Int) ((8 : Int)))) = true ∧ (bits BinOp.and IntKind.u8 (Int.fdiv (f (Int.toNat (IntKind.wrap IntKind.i64 (Int.tdiv (↑i : Int) ((8 : Int)))))) ((2 : Int) ^ min (Int.toNat (IntKind.wrap IntKind.i64 ((7 : Int) - Int.tmod (↑i : Int) ((8 : Int))))) 8)) ((1 : Int)) == (1 : Int)) = false) ∧ ((0 = 0 ∧ ([] : List Stp) = [] ∧ n = n ∧ n = n) ∧ IntKind.wrap IntKind.i64 ((↑i : Int) + (1 : Int)) = (↑(i + 1) : Int)) ∧ a = a ∧ ((0 : Int) = (0 : Int) ∧ (0 : Int) = (0 : Int) ∧ (0 : Int) = (0 : Int) ∧ (0 : Int) = (0 : Int) ∧ (0 : Int) = (0 : Int) ∧ (0 : Int) = (0 : Int)) ∧ fmul r r = fmul r r
set_option maxRecDepth 100000 in
theorem rpRf (n : Nat) (f : Nat → Int) (a r : Fe) (i : Nat) : runG Tryz.prog (SRp [(3, 4, true), (6, 10, false)] (inOf [rwsB n f]) []) 60 132 [0, 0, 1, 0, 1, 1] (rpJ a n i r) .normal 3 [some (.own 0), some (.own 1), some (.own 2)] 34 (rpT n (i + 1)) (rpM a (fmul r r)) = some (some ((rpRf_G n f a r i))) := by kernel_rfl
--@]
--@gen rpRt (n : Nat) (f : Nat → Int) (a r : Fe) (i : Nat) := runG Tryz.prog (SRp [(3, 4, true), (6, 10, true)] (inOf [rwsB n f]) []) 60 132 [0, 0, 1, 0, 1, 1] (rpJ a n i r) .normal 3 [some (.own 0), some (.own 1), some (.own 2)] 34 (rpT n (i + 1)) (rpM a (fmul (fmul r r) a))
--@[
set_option maxRecDepth 100000 in
def rpRt_G (n : Nat) (f : Nat → Int) (a r : Fe) (i : Nat) : Prop := (decide ((↑i : Int) < IntKind.wrap IntKind.i64 ((8 : Int) * (↑n : Int))) = true ∧ true = true ∧ (true = true ∧ decide ((0 : Int) ≤ IntKind.wrap IntKind.i64 (Int.tdiv (↑i : Int) ((8 : Int))) ∧ IntKind.wrap IntKind.i64 (Int.tdiv (↑i : Int) ((8 : Int))) < (↑n : Int)) = true ∧ Nat.blt (Int.toNat (IntKind.wrap IntKind.i64 (Int.tdiv (↑i : Int) ((8 : Int))))) n = true ∧ true = true ∧ decide ((0 : Int) ≤ IntKind.wrap IntKind.i64 ((7 : Int) - Int.tmod (↑i : Int) ((8 : Int)))) = true ∧ (bits BinOp.and IntKind.u8 (Int.fdiv (f (Int.toNat (IntKind.wrap IntKind.i64 (Int.tdiv (↑i : Int) ((8 : Int)))))) ((2 : Int) ^ min (Int.toNat (IntKind.wrap IntKind.i64 ((7 : Int) - Int.tmod (↑i : Int) ((8 : Int))))) 8)) ((1 : Int)) == (1 : Int)) = true) ∧ true = true) ∧ ((0 = 0 ∧ ([] : List Stp) = [] ∧ n = n ∧ n = n) ∧ IntKind.wrap IntKind.i64 ((↑i : Int) + (1 : Int)) = (↑(i + 1) : Int)) ∧ a = a ∧ ((0 : Int) = (0 : Int) ∧ (0 : Int) = (0 : Int) ∧ (0 : Int) = (0 : Int) ∧ (0 : Int) = (0 : Int) ∧ (0 : Int) = (0 : Int) ∧ (0 : Int) = (0 : Int)) ∧ fmul (fmul r r) a = fmul (fmul r r) a
set_option maxRecDepth 100000 in
theorem rpRt (n : Nat) (f : Nat → Int) (a r : Fe) (i : Nat) : runG Tryz.prog (SRp [(3, 4, true), (6, 10, true)] (inOf [rwsB n f]) []) 60 132 [0, 0, 1, 0, 1, 1] (rpJ a n i r) .normal 3 [some (.own 0), some (.own 1), some (.own 2)] 34 (rpT n (i + 1)) (rpM a (fmul (fmul r r) a)) = some (some ((rpRt_G n f a r i))) := by kernel_rfl
--@]
--@gen rpX (n : Nat) (f : Nat → Int) (a r : Fe) (i : Nat) := runG Tryz.prog (SRp [(3, 4, false)] (inOf [rwsB n f]) []) 60 132 [0, 0, 1, 0, 1, 1] (rpJ a n i r) (.exit 0) 3 [some (.own 0), some (.own 1), some (.own 2)] 34 [(4, .ptr (.own 1) 0 []), (5, .ptr (.own 2) 0 [])] (rpM a r)
--@[
set_option maxRecDepth 100000 in
def rpX_G (n : Nat) (f : Nat → Int) (a r : Fe) (i : Nat) : Prop := decide ((↑i : Int) < IntKind.wrap IntKind.i64 ((8 : Int) * (↑n : Int))) = false ∧ a = a ∧ ((0 : Int) = (0 : Int) ∧ (0 : Int) = (0 : Int) ∧ (0 : Int) = (0 : Int) ∧ (0 : Int) = (0 : Int) ∧ (0 : Int) = (0 : Int) ∧ (0 : Int) = (0 : Int)) ∧ r = r
set_option maxRecDepth 100000 in
theorem rpX (n : Nat) (f : Nat → Int) (a r : Fe) (i : Nat) : runG Tryz.prog (SRp [(3, 4, false)] (inOf [rwsB n f]) []) 60 132 [0, 0, 1, 0, 1, 1] (rpJ a n i r) (.exit 0) 3 [some (.own 0), some (.own 1), some (.own 2)] 34 [(4, .ptr (.own 1) 0 []), (5, .ptr (.own 2) 0 [])] (rpM a r) = some (some ((rpX_G n f a r i))) := by kernel_rfl
--@]
end Go.Proofs.YtcedljbapgmdmaaGreat.En

/- DERIVED. The document's power of an element: the contract. -/
set_option linter.all false
namespace Go.Proofs.YtcedljbapgmdmaaGreat.En
open Go Go.RowKit

theorem fm1 {α : Type} (g : Nat → α) : ∀ l : List Nat, l.flatMap (fun i => [g i]) = l.map g
  | [] => rfl
  | x :: l => by simp [List.flatMap_cons, fm1 g l]
theorem flat_rows (l : List Int) : Like (l.map fun x => (.int .u8 x : LV Fe)) (rwsB l.length fun j => l.getD j 0) := by
  refine Like.of_cells (fun ρ => ?_) fun p => plainL_kin p _ (rwsB_plain _ _)
  rw [cells_flat]
  simp only [cellsL, LV.cells, List.append_nil, fitTo]
  show _ = (List.range l.length).flatMap fun i => [Value.int .u8 (l.getD i 0)]
  rw [fm1]
  apply List.ext_getElem
  · simp
  · intro j h1 h2
    have hj : j < l.length := by simpa using h1
    simp [hj]
theorem bysU_rows {us : List (LV Fe)} {b : Bys} (h : bysU us = some b) (hc : b.c) : Like us (rwsB b.n b.f) := by
  unfold bysU at h
  split at h
  · rename_i l hl
    cases h
    rw [flatI_some hl]
    exact flat_rows l
  · split at h
    · split at h
      · rename_i hz
        cases h
        have := beqN hz
        subst this
        exact Like.rows hc fun i _ p _ => ⟨trivial, trivial⟩
      · cases h
    · cases h
theorem rpRf_ok {n : Nat} {f : Nat → Int} {a r : Fe} {i : Nat} (hi : i < 8 * n) (hn : n ≤ 1000) (hq : cmBit f i = false) : rpRf_G n f a r i :=
  ⟨(cmA_ok hi hn hq).1, ⟨⟨rfl, rfl, rfl, rfl⟩, (cmN_ok (n := n) (i := i) (by omega)).2⟩, rfl, ⟨rfl, rfl, rfl, rfl, rfl, rfl⟩, rfl⟩
theorem rpRt_ok {n : Nat} {f : Nat → Int} {a r : Fe} {i : Nat} (hi : i < 8 * n) (hn : n ≤ 1000) (hq : cmBit f i = true) : rpRt_G n f a r i :=
  ⟨(cmA_ok hi hn hq).2, ⟨⟨rfl, rfl, rfl, rfl⟩, (cmN_ok (n := n) (i := i) (by omega)).2⟩, rfl, ⟨rfl, rfl, rfl, rfl, rfl, rfl⟩, rfl⟩
/-- So many bits of the power. -/
def rpL (a : Fe) (f : Nat → Int) : Nat → Fe
  | 0 => fone
  | k + 1 => rpS a (rpL a f k) (bitAt f k)
theorem rp_step (n : Nat) (f : Nat → Int) (a : Fe) (hn : n ≤ 1000) (i : Nat) (hi : i < 8 * n) : ExB 3 Tryz.prog (inOf [rwsB n f]) (codeAt Tryz.prog 132 [0, 0, 1, 0, 1, 1]) (rpJ a n i (rpL a f i)) .normal (rpJ a n (i + 1) (rpL a f (i + 1))) := by
  have hI := inOf1_ok (rwsB_plain n f)
  have hb := cmBit_eq f (i := i) (by omega)
  cases ht : bitAt f i with
  | false =>
    rw [show rpL a f (i + 1) = fmul (rpL a f i) (rpL a f i) by rw [rpL, ht]; rfl]
    exact ExB.auto (SRp_ok _ hI _) hI rfl mixed 60 _ (rpRf n f a (rpL a f i) i) (rpRf_ok hi hn (hb.trans ht))
  | true =>
    rw [show rpL a f (i + 1) = fmul (fmul (rpL a f i) (rpL a f i)) a by rw [rpL, ht]; rfl]
    exact ExB.auto (SRp_ok _ hI _) hI rfl mixed 60 _ (rpRt n f a (rpL a f i) i) (rpRt_ok hi hn (hb.trans ht))
theorem rp_end (n : Nat) (f : Nat → Int) (a : Fe) (hn : n ≤ 1000) : ExB 3 Tryz.prog (inOf [rwsB n f]) (codeAt Tryz.prog 132 [0, 0, 1, 0, 1, 1]) (rpJ a n (8 * n) (rpL a f (8 * n))) (.exit 0) ⟨tm 34 [(4, .ptr (.own 1) 0 []), (5, .ptr (.own 2) 0 [])], rpM a (rpL a f (8 * n)), []⟩ := by
  have hI := inOf1_ok (rwsB_plain n f)
  have h1 : decide (((8 * n : Nat) : Int) < IntKind.i64.wrap (8 * (n : Int))) = false := decide_eq_false (by rw [IntWalk.i64_in _ (by omega)]; omega)
  exact ExB.auto (SRp_ok _ hI _) hI rfl mixed 60 _ (rpX n f a (rpL a f (8 * n)) (8 * n)) ⟨h1, rfl, ⟨rfl, rfl, rfl, rfl, rfl, rfl⟩, rfl⟩
set_option maxRecDepth 100000 in
theorem rp_code : codeAt Tryz.prog 132 [0, 1, 0, 1, 1] = .loop (codeAt Tryz.prog 132 [0, 0, 1, 0, 1, 1]) := by kernel_rfl
theorem rp_loop (n : Nat) (f : Nat → Int) (a : Fe) (hn : n ≤ 1000) : ExB 3 Tryz.prog (inOf [rwsB n f]) (codeAt Tryz.prog 132 [0, 1, 0, 1, 1]) (rpE0 n f a) (.exit 0) ⟨tm 34 [(4, .ptr (.own 1) 0 []), (5, .ptr (.own 2) 0 [])], rpM a (rpL a f (8 * n)), []⟩ := by
  refine ExB.enter (cs := []) (inOf1_ok (rwsB_plain n f)) _ ?_ (rpE n f a) (by unfold condOk rpE_G; and_intros <;> rfl) rfl
  rw [rp_code]
  exact ExB.loop (by simp) (fun k => rpJ a n k (rpL a f k)) (8 * n) (fun i hi => rp_step n f a hn i hi) (rp_end n f a hn)
set_option maxRecDepth 100000 in
theorem rp_grow (n : Nat) (f : Nat → Int) (a r : Fe) : growB (rpE0 n f a) ⟨tm 34 [(4, .ptr (.own 1) 0 []), (5, .ptr (.own 2) 0 [])], rpM a r, []⟩ = true := by kernel_rfl
set_option maxRecDepth 100000 in
theorem rp_three (n : Nat) (f : Nat → Int) (a : Fe) : Nat.ble (rpE0 n f a).mem.length 3 = true := by kernel_rfl
noncomputable def rpLp (n : Nat) (f : Nat → Int) (a : Fe) (hn : n ≤ 1000) : LoopF Tryz.prog (inOf [rwsB n f]) := LoopF.of (rp_loop n f a hn) (rp_grow ..) (rp_three ..)
--@run rpAll (n : Nat) (f : Nat → Int) (a : Fe) (hn : n ≤ 1000) := callF Tryz.prog (SRp [] (inOf [rwsB n f]) [rpLp n f a hn]) 60 132 [bF [a], .slice (.inp 0 0) 0 [] n n] [] => .agg [.abs (rpL a f (8 * n))]
--@[
set_option maxRecDepth 100000 in
def rpAll_G (n : Nat) (f : Nat → Int) (a : Fe) (hn : n ≤ 1000) : Prop := true = true ∧ (LS.tmps (LoopF.s (rpLp n f a hn)) = LS.tmps (LoopF.s (rpLp n f a hn)) ∧ LS.mem (LoopF.s (rpLp n f a hn)) = LS.mem (LoopF.s (rpLp n f a hn))) ∧ true = true
set_option maxRecDepth 100000 in
theorem rpAll (n : Nat) (f : Nat → Int) (a : Fe) (hn : n ≤ 1000) : (callF Tryz.prog (SRp [] (inOf [rwsB n f]) [rpLp n f a hn]) 60 132 [bF [a], .slice (.inp 0 0) 0 [] n n] []).map (fun r => (r.1, r.2.2)) = some (.agg [.abs (rpL a f (8 * n))], some (rpAll_G n f a hn)) := by kernel_rfl
--@]
theorem rp_told {n : Nat} {f : Nat → Int} (a : Fe) (hn : n ≤ 1000) : Told Tryz.prog 132 [rwsB n f] [bF [a], .slice (.inp 0 0) 0 [] n n] (.agg [.abs (rpL a f (8 * n))]) [] :=
  told_walk (SRp_ok _ (inOf1_ok (rwsB_plain n f)) _) rfl (rwsB_plain n f) (rpAll n f a hn) ⟨rfl, ⟨rfl, rfl⟩, rfl⟩ rfl
noncomputable def rpFn (I : Inp Fe) (vs : List (LV Fe)) (mem : Mem Fe) : Option (RdC Fe) := match vs with
  | [u, .slice k o q len cap] => match pA [1] [u], o, q with
    | some [[a]], 0, [] => match bysOf I mem k with
      | some y => some ⟨[rwsB y.n y.f], [k], [u, .slice (.inp 0 0) 0 [] y.n y.n], .agg [.abs (rpL a y.f (8 * y.n))], [], y.c ∧ y.n = len ∧ y.n = cap ∧ y.n ≤ 1000⟩
      | none => none
    | _, _, _ => none
  | _ => none
theorem rpFn_ok : ∀ I vs mem r, rpFn I vs mem = some r → r.c → RdOk Tryz.prog 132 I vs mem r := by
  intro I vs mem r h hc
  unfold rpFn at h
  split at h
  · rename_i u k o q len cap
    split at h
    · rename_i a hu
      have hpu := pA_plain _ _ _ hu
      split at h
      · rename_i y hy
        cases h
        obtain ⟨h1, h2, h3, h4⟩ := hc
        subst h2; subst h3
        exact {
          args := by
            show [u.ren _, _] = [u, _]
            rw [(plain_ren _ (fun _ => True) u hpu.1).1]; rfl
          fit := ⟨(plain_ren _ _ u hpu.1).2, ⟨by simp [keyMap, ιOf], trivial⟩, trivial⟩
          len := rfl
          blk := fun j k' us hk hus => by
            match j with
            | 0 =>
              cases hk; cases hus
              unfold bysOf at hy
              split at hy
              · rename_i bl hb
                split at hy
                · rename_i hd
                  exact ⟨bl, hb, hd, rwsB_plain _ _, bysU_rows hy h1⟩
                · cases hy
              · cases hy
            | j + 1 => simp at hk
          told := told_group hu (rp_told a h4)
          fitv := (plain_ren _ _ _ (show LV.plain (.agg [.abs _] : LV Fe) from ⟨trivial, trivial⟩)).2
          fitb := fun b hb => absurd hb List.not_mem_nil }
      · cases h
    · cases h
  · cases h
set_option maxRecDepth 100000 in
theorem entRPow : ∀ args w, (callFunc 132 args).run Tryz.prog w = .ok (.enter 132 args) w := ent_of (f := 132) (P := Tryz.prog) rfl rfl rfl
noncomputable def conRPow : ConC Tryz.prog Fe := conRdT 132 entRPow rpFn rpFn_ok
end Go.Proofs.YtcedljbapgmdmaaGreat.En

/- DERIVED. The document's numbers held against one another; large elements; roots. -/
set_option linter.all false
namespace Go.Proofs.YtcedljbapgmdmaaGreat.En
open Go Go.RowKit

--@run rlsV (a b : Nat → Int) := callF Tryz.prog (SF fun _ _ _ => none) 60 134 [.agg (lim a), .agg (lim b)] [] => .bool (cB a b 6 == 1)
--@[
set_option maxRecDepth 100000 in
def rlsV_G (a b : Nat → Int) : Prop := ((true = true ∧ true = true ∧ 0 ≤ 1 ∧ true = true ∧ true = true) ∧ (true = true ∧ true = true ∧ Int.toNat (sbB (a 0) (b 0) ((0 : Int))) ≤ 1 ∧ true = true ∧ true = true) ∧ (true = true ∧ true = true ∧ Int.toNat (sbB (a 1) (b 1) (sbB (a 0) (b 0) ((0 : Int)))) ≤ 1 ∧ true = true ∧ true = true) ∧ (true = true ∧ true = true ∧ Int.toNat (sbB (a 2) (b 2) (sbB (a 1) (b 1) (sbB (a 0) (b 0) ((0 : Int))))) ≤ 1 ∧ true = true ∧ true = true) ∧ (true = true ∧ true = true ∧ Int.toNat (sbB (a 3) (b 3) (sbB (a 2) (b 2) (sbB (a 1) (b 1) (sbB (a 0) (b 0) ((0 : Int)))))) ≤ 1 ∧ true = true ∧ true = true) ∧ (true = true ∧ true = true ∧ Int.toNat (sbB (a 4) (b 4) (sbB (a 3) (b 3) (sbB (a 2) (b 2) (sbB (a 1) (b 1) (sbB (a 0) (b 0) ((0 : Int))))))) ≤ 1 ∧ true = true ∧ true = true) ∧ true = true) ∧ true = true
set_option maxRecDepth 100000 in
theorem rlsV (a b : Nat → Int) : (callF Tryz.prog (SF fun _ _ _ => none) 60 134 [.agg (lim a), .agg (lim b)] []).map (fun r => (r.1, r.2.2)) = some (.bool (cB a b 6 == 1), some (rlsV_G a b)) := by kernel_rfl
--@]
theorem rls_ok (a b : Nat → Int) : condOk (some (rlsV_G a b)) := by
  unfold condOk rlsV_G
  and_intros <;> first | with_reducible rfl | exact sbB_le _ _ _ | exact Nat.zero_le _
theorem rless_call (m n : Nat) (hm : m < pN) (hn : n < pN) (ρ : Key → Loc) (w : World) :
    Calls Tryz.prog 134 (trs ρ [(.agg (lim (lm m)) : LV Empty), .agg (lim (lm n))]).toArray w fun e w' => e = .returned (.bool (decide (m < n))) ∧ Below w.heap.size w w' := by
  have hp := pN_lt
  have e6 : (cB (lm m) (lm n) 6 == 1) = decide (m < n) := by
    rw [cB_lm, bw_six (by omega) (by omega)]
    by_cases h : m < n
    · rw [if_pos h, decide_eq_true h]; rfl
    · rw [if_neg h, decide_eq_false h]; rfl
  have h : Calls Tryz.prog 134 (trs ρ [(.agg (lim (lm m)) : LV Empty), .agg (lim (lm n))]).toArray w fun e w' => e = .returned (LV.tr ρ (.bool (cB (lm m) (lm n) 6 == 1) : LV Empty)) ∧ Below w.heap.size w w' := plain_call (SF_ok _) rfl (rlsV (lm m) (lm n)) (rls_ok _ _)
    (fun _ _ => rfl) ⟨⟨trivial, trivial, trivial, trivial, trivial, trivial, trivial⟩, ⟨trivial, trivial, trivial, trivial, trivial, trivial, trivial⟩, trivial⟩ (fun _ _ => rfl) ρ w
  rw [e6] at h
  exact h
set_option maxRecDepth 100000 in
theorem entRLess : ∀ args w, (callFunc 134 args).run Tryz.prog w = .ok (.enter 134 args) w := ent_of (f := 134) (P := Tryz.prog) rfl rfl rfl
theorem rless_runs (a b : Fe) : Runs 134 [bF [a], bF [b]] (.bool (lessF a b)) := by
  refine ⟨rfl, fun ρ w => ?_⟩
  have := rless_call (mo (fv a)) (mo (fv b)) (mo_lt _) (mo_lt _) ρ w
  have e2 : trs ρ [bF [a], bF [b]] = trs ρ [(.agg (lim (lm (mo (fv a)))) : LV Empty), .agg (lim (lm (mo (fv b))))] := trs_fe a b ρ
  rw [e2]
  exact this
noncomputable def conRLess : ConP Tryz.prog Fe := mkP 134 entRLess [1, 1] (fun a b => .bool (lessF a b)) rless_runs
/-! ## large ones -/
noncomputable abbrev SRx (l : List (FuncId × Nat × Nat × Bool)) (ps : List (ConP Tryz.prog Fe)) (cs : List (ConC Tryz.prog Fe)) : Sig Fe := sigOf (P := Tryz.prog) ([conRFAdd, conRFSub, conRFMul, conRFNeg, conRFIsZero, conRNum, conRLess] ++ ps) [] ([conShift, conRFrom, conRPow] ++ cs) (I := noIF) [] msF (advP (dcf l) [133, 114, 132, 70] [(107, 1), (26, 1)])
theorem SRx_ok (l : List (FuncId × Nat × Nat × Bool)) (ps : List (ConP Tryz.prog Fe)) (cs : List (ConC Tryz.prog Fe)) : SigOk Tryz.prog (SRx l ps cs) := sigOf_ok _ [] _ [] msF_ok _ noIF_ok
def shBf (j : Nat) : Int := shB.getD j 0
def shAf (j : Nat) : Int := shA.getD j 0
def lgR (a : Fe) : Bool := lessF (rawF (beN shBf)) (fmul a frone)
set_option maxRecDepth 100000 in
theorem entRLarge : ∀ args w, (callFunc 112 args).run Tryz.prog w = .ok (.enter 112 args) w := ent_of (f := 112) (P := Tryz.prog) rfl rfl rfl
def rlgP : Prop := true = true ∧ (rngB shBf 0 48 ∧ beN shBf < pN) ∧ true = true
set_option maxRecDepth 100000 in
theorem rlgV (a : Fe) : (callF Tryz.prog (SRx [] [] []) 60 112 [bF [a]] []).map (fun r => (r.1, r.2.2)) = some (.bool (lgR a), some rlgP) := by kernel_rfl
theorem shB_rng : rngB shBf 0 48 := by unfold rngB; decide +kernel
theorem shB_val : beN shBf = (pN - 1) / 2 := by decide +kernel
theorem rlgP_ok : rlgP := ⟨rfl, ⟨shB_rng, by decide +kernel⟩, rfl⟩
noncomputable def conRLarge : ConP Tryz.prog Fe := mkP 112 entRLarge [1] (fun a => .bool (lgR a)) fun a => .of (SRx_ok _ _ _) rfl (rlgV a) rlgP_ok rfl rfl
/-! ## large ones of the extension -/
set_option maxRecDepth 100000 in
theorem entRELarge : ∀ args w, (callFunc 72 args).run Tryz.prog w = .ok (.enter 72 args) w := ent_of (f := 72) (P := Tryz.prog) rfl rfl rfl
def elgR (x : E2) : Bool := bif isz x.2 then lgR x.1 else lgR x.2
--@run rel1V (a b : Fe) := callF Tryz.prog (SRx [(72, 1, 2, true)] [conRLarge] []) 60 72 [bF [a, b]] [] => .bool (lgR a)
--@[
set_option maxRecDepth 100000 in
def rel1V_G (a b : Fe) : Prop := isz b = true
set_option maxRecDepth 100000 in
theorem rel1V (a b : Fe) : (callF Tryz.prog (SRx [(72, 1, 2, true)] [conRLarge] []) 60 72 [bF [a, b]] []).map (fun r => (r.1, r.2.2)) = some (.bool (lgR a), some (rel1V_G a b)) := by kernel_rfl
--@]
--@run rel2V (a b : Fe) := callF Tryz.prog (SRx [(72, 1, 2, false)] [conRLarge] []) 60 72 [bF [a, b]] [] => .bool (lgR b)
--@[
set_option maxRecDepth 100000 in
def rel2V_G (a b : Fe) : Prop := isz b = false
set_option maxRecDepth 100000 in
theorem rel2V (a b : Fe) : (callF Tryz.prog (SRx [(72, 1, 2, false)] [conRLarge] []) 60 72 [bF [a, b]] []).map (fun r => (r.1, r.2.2)) = some (.bool (lgR b), some (rel2V_G a b)) := by kernel_rfl
--@]
theorem elg_t {x : E2} (h : isz x.2 = true) : elgR x = lgR x.1 := by unfold elgR; rw [h, cond_true]
theorem elg_f {x : E2} (h : isz x.2 = false) : elgR x = lgR x.2 := by unfold elgR; rw [h, cond_false]
theorem rel_runs (a b : Fe) : Runs 72 [bF [a, b]] (.bool (elgR (a, b))) := by
  cases h : isz b with
  | true =>
    rw [elg_t (x := (a, b)) h]
    exact .of (SRx_ok _ _ _) rfl (rel1V a b) (by unfold condOk rel1V_G; and_intros <;> first | with_reducible rfl | assumption) rfl rfl
  | false =>
    rw [elg_f (x := (a, b)) h]
    exact .of (SRx_ok _ _ _) rfl (rel2V a b) (by unfold condOk rel2V_G; and_intros <;> first | with_reducible rfl | assumption) rfl rfl
noncomputable def conRELarge : ConP Tryz.prog Fe := mkP 72 entRELarge [2] (fun a b => .bool (elgR (a, b))) rel_runs
end Go.Proofs.YtcedljbapgmdmaaGreat.En

/- DERIVED. A region whose order Go leaves open, run in each of its orders. -/
set_option linter.all false
namespace Go.Proofs.YtcedljbapgmdmaaGreat.En
open Go Go.RowKit

section
variable {A : Type} [Ab A] {P : Program}

def catO {β : Type} : List (Option (List β)) → Option (List β)
  | [] => some []
  | some l :: r => match catO r with
    | some m => some (l ++ m)
    | none => none
  | none :: _ => none
theorem catO_mem {β : Type} : ∀ {l : List (Option (List β))} {m : List β}, catO l = some m → ∀ x ∈ l, ∃ y, x = some y ∧ ∀ p ∈ y, p ∈ m
  | [], _, _, x, hx => absurd hx List.not_mem_nil
  | none :: _, _, h, _, _ => by cases h
  | some l :: r, m, h, x, hx => by
    simp only [catO] at h
    split at h
    · rename_i m' hm
      cases h
      rcases List.mem_cons.1 hx with rfl | hx
      · exact ⟨l, rfl, fun p hp => List.mem_append_left _ hp⟩
      · obtain ⟨y, e, hy⟩ := catO_mem hm x hx
        exact ⟨y, e, fun p hp => List.mem_append_right _ (hy p hp)⟩
    · cases h
def ctlA (P : Program) (S : Sig A) (cur : FuncId) (rid i : Nat) (o : Oper) (key : Nat) : Ctl := { ctlO S cur rid (rO P S cur rid o) key 0 i with ck := 0, fz := { S.fz cur rid with pl := false } }
def bareC (s : LS A) : LS A := { s with conds := [none] }
/-- One operation, wherever it comes. -/
def stepA (P : Program) (S : Sig A) (cur : FuncId) (rid : Nat) (ops : Array Oper) (i : Nat) (o : Oper) (s : LS A) : Option (LS A) :=
  forceN s.mem.length fun key => match stepG P S S.cs (ctlA P S cur rid i o key) ops.toList o (more (rO P S cur rid o) (bareC s)) with
  | some s' => some (cutS key s')
  | none => none
/-- What each order comes to. -/
def ordR (P : Program) (S : Sig A) (cur : FuncId) (rid : Nat) (ops : Array Oper) : Nat → Array Bool → LS A → Cnd → Option (List (LS A × Cnd))
  | 0, l, s, c => match Region.ready .any ops l with
    | [] => some [(s, c)]
    | _ => none
  | n + 1, l, s, c => match Region.ready .any ops l with
    | [] => some [(s, c)]
    | j :: js => catO ((j :: js).map fun i => match ops[i]? with
      | some o => match stepA P S cur rid ops i o s with
        | some s' => ordR P S cur rid ops n (l.setIfInBounds i true) s' (andC c (s'.conds.headD none))
        | none => none
      | none => none)
theorem ordR_c {S : Sig A} {cur : FuncId} {rid : Nat} {ops : Array Oper} : ∀ (n : Nat) (l : Array Bool) (s : LS A) (c : Cnd) (ts : List (LS A × Cnd)), ordR P S cur rid ops n l s c = some ts → (∀ p ∈ ts, condOk p.2) → condOk c
  | 0, l, s, c, ts, h, hc => by
    simp only [ordR] at h
    split at h
    · cases h; exact hc _ List.mem_cons_self
    · cases h
  | n + 1, l, s, c, ts, h, hc => by
    simp only [ordR] at h
    split at h
    · cases h; exact hc _ List.mem_cons_self
    · rename_i j js hj
      obtain ⟨y, e, hy⟩ := catO_mem h _ (by rw [List.map_cons]; exact List.mem_cons_self)
      split at e
      · split at e
        · have := ordR_c n _ _ _ _ e fun p hp => hc p (hy p hp)
          exact (andC_ok this).1
        · cases e
      · cases e
variable {I : Nat → Nat → List (LV A)} {Own : Dom} {w0 : World}
theorem stepA_sound [LawAb A] [LawEq A] {S : Sig A} (hI : S.inp = I) (hS : SigOk P S) {cur : FuncId} {rid : Nat} {ops : Array Oper} {i : Nat} {o : Oper} (ho : ops[i]? = some o) {s s' : LS A} (h : stepA P S cur rid ops i o s = some s') (hc : condOk (s'.conds.headD none)) {ρ : Key → Loc} {a : Act} {w : World} (hr : Rl I Own w0 ρ s a w)
    {K : Act → World → Prop} {Q : Exit → Act → World → Prop} (hK : ∀ ρ' a' w', (∀ k m, okKey s.mem ρ k m → ρ k = ρ' k) → (∀ (k : Nat) (bl : Blk A), s.mem[k]? = some (some bl) → ∃ bl' : Blk A, s'.mem[k]? = some (some bl')) → Rl I Own w0 ρ' s' a' w' → K a' w') : wpOpR P ops Q i K a w := by
  simp only [stepA, forceN_eq] at h
  split at h
  rotate_left
  · cases h
  rename_i t hs
  cases h
  have hs : stepG P S S.cs (ctlA P S cur rid i o (bareC s).mem.length) ops.toList o (more (ctlA P S cur rid i o (bareC s).mem.length).r (bareC s)) = some t := hs
  have hcr : CallOk P I S.cs := hI ▸ hS.cs
  obtain ⟨e1, e2, e3, e4, e5, e6⟩ := stepO_shape hcr.grow (s := bareC s) rfl hs
  refine stepG_sound hI hS hcr ho hs (fun c hcc => ?_) (show 0 < 1 by omega) (fun hp => ?_) (by show s.mem.length ≤ _; simp [more, bareC]) ?_ (hr.sub' (t := more (rO P S cur rid o) (bareC s)) rfl fun k bl => more_get _ (bareC s) k bl) ?_
  · have hl : t.conds.length = 1 := e1
    have hcc : t.conds[0]? = some c := hcc
    have hc : condOk (t.conds.headD none) := hc
    match ht : t.conds, hl with
    | [x], _ =>
      rw [ht] at hcc hc
      cases hcc
      exact hc
  · have hp : 0 < rO P S cur rid o := hp
    show (more (rO P S cur rid o) (bareC s)).mem[s.mem.length]? = _
    simp only [more, bareC]
    rw [List.getElem?_append_right (Nat.le_refl _), List.getElem?_replicate, if_pos (by omega)]
  · intro _ k hk bl hb
    have hk : s.mem.length ≤ k := hk
    have := lt_of_get ((more_get _ (bareC s) k bl).1 hb)
    simp only [bareC] at this
    omega
  · intro ρ' a' w' he hr'
    refine hK ρ' a' w' (fun k m hk => he k m ?_) (fun k bl hb => e4 k bl hb) (hr'.sub' rfl fun k bl => trimM_get _ _ k bl)
    cases k with
    | own k => obtain ⟨⟨bl, hb⟩, hm⟩ := hk; exact ⟨⟨bl, (more_get _ (bareC s) _ _).2 hb⟩, hm⟩
    | inp t i => exact hk
theorem ord_sound [LawAb A] [LawEq A] {S : Sig A} (hI : S.inp = I) (hS : SigOk P S) {cur : FuncId} {rid : Nat} {ops : Array Oper} {Q : Exit → Act → World → Prop} : ∀ (n : Nat) (l : Array Bool) (s : LS A) (c : Cnd) (ts : List (LS A × Cnd)) (ρ : Key → Loc) (a : Act) (w : World),
    ordR P S cur rid ops n l s c = some ts → (∀ p ∈ ts, condOk p.2) → Rl I Own w0 ρ s a w → (∀ p ∈ ts, ∀ ρ' a' w', (∀ k m, okKey s.mem ρ k m → ρ k = ρ' k) → Rl I Own w0 ρ' p.1 a' w' → Q .normal a' w') → wpAnyR P ops Q n l a w
  | 0, l, s, c, ts, ρ, a, w, h, hc, hr, hQ => by
    simp only [ordR] at h
    split at h
    · rename_i hl
      cases h
      exact wpAnyR_zero hl (hQ _ List.mem_cons_self ρ a w (fun _ _ _ => rfl) hr)
    · cases h
  | n + 1, l, s, c, ts, ρ, a, w, h, hc, hr, hQ => by
    simp only [ordR] at h
    split at h
    · rename_i hl
      cases h
      refine wpAnyR_succ (fun _ => hQ _ List.mem_cons_self ρ a w (fun _ _ _ => rfl) hr) fun i hi => ?_
      rw [hl] at hi
      exact absurd hi List.not_mem_nil
    · rename_i j js hj
      refine wpAnyR_succ (fun he => by rw [hj] at he; cases he) fun i hi => ?_
      rw [hj] at hi
      obtain ⟨y, e, hy⟩ := catO_mem h _ (List.mem_map_of_mem hi)
      split at e
      · rename_i o ho
        split at e
        · rename_i s' hs
          have hc' := ordR_c n _ _ _ _ e fun p hp => hc p (hy p hp)
          refine stepA_sound hI hS ho hs (andC_ok hc').2 hr fun ρ' a' w' he hlive hr' => ?_
          refine ord_sound hI hS n _ _ _ _ ρ' a' w' e (fun p hp => hc p (hy p hp)) hr' fun p hp ρ2 a2 w2 he2 hr2 => hQ p (hy p hp) ρ2 a2 w2 (fun k m hk => (he k m hk).trans (he2 k m ?_)) hr2
          exact okKey_to hlive hk (he k m hk)
        · cases e
      · cases e
/-- One of these ways to name a state's blocks. -/
def oneS (I : Inp A) (B : Nat) (t : LS A) (nn : Nat) (l : List (Nat × LV A)) (m' : Mem A) : List (List (Option Key)) → Option Cnd
  | [] => none
  | σ :: r => match idB σ m' B with
    | true => match mS I σ t nn l m' with
      | some c => some c
      | none => oneS I B t nn l m' r
    | false => oneS I B t nn l m' r
theorem oneS_spec {I : Inp A} {B : Nat} {t : LS A} {nn : Nat} {l : List (Nat × LV A)} {m' : Mem A} {c : Cnd} : ∀ {σs : List (List (Option Key))}, oneS I B t nn l m' σs = some c → ∃ σ, idB σ m' B = true ∧ mS I σ t nn l m' = some c
  | [], h => by cases h
  | σ :: r, h => by
    simp only [oneS] at h
    split at h
    · rename_i hi
      split at h
      · rename_i c' hm; cases h; exact ⟨σ, hi, hm⟩
      · exact oneS_spec h
    · exact oneS_spec h
def allS (I : Inp A) (B : Nat) (σs : List (List (Option Key))) (nn : Nat) (l : List (Nat × LV A)) (m' : Mem A) : List (LS A × Cnd) → Option Cnd
  | [] => some none
  | p :: r => match oneS I B p.1 nn l m' σs, allS I B σs nn l m' r with
    | some c, some c' => some (andC (andC p.2 c) c')
    | _, _ => none
theorem allS_spec {I : Inp A} {B : Nat} {σs : List (List (Option Key))} {nn : Nat} {l : List (Nat × LV A)} {m' : Mem A} : ∀ {ts : List (LS A × Cnd)} {c : Cnd}, allS I B σs nn l m' ts = some c → condOk c → ∀ p ∈ ts, condOk p.2 ∧ ∃ σ c', idB σ m' B = true ∧ mS I σ p.1 nn l m' = some c' ∧ condOk c'
  | [], _, _, _, p, hp => absurd hp List.not_mem_nil
  | q :: r, c, h, hc, p, hp => by
    simp only [allS] at h
    split at h
    · rename_i c1 c2 h1 h2
      cases h
      obtain ⟨k1, k2⟩ := andC_ok hc
      obtain ⟨k3, k4⟩ := andC_ok k1
      rcases List.mem_cons.1 hp with rfl | hp
      · obtain ⟨σ, e1, e2⟩ := oneS_spec h1
        exact ⟨k3, σ, c1, e1, e2, k4⟩
      · exact allS_spec h2 k2 p hp
    · cases h
/-- All orders of the region at this place come to this state. -/
def runO (P : Program) (S : Sig A) (cur : FuncId) (p : List Nat) (s : LS A) (B : Nat) (σs : List (List (Option Key))) (nn : Nat) (l : List (Nat × LV A)) (m' : Mem A) : Option Cnd := match codeAt P cur p with
  | .region rid ops true => match idB (σs.headD []) m' B, ordR P S cur rid ops ops.size (Array.replicate ops.size false) s none with
    | true, some ts => allS S.inp B σs nn l m' ts
    | _, _ => none
  | _ => none
theorem ExB.orders [LawAb A] [LawEq A] {I : Inp A} {S : Sig A} (hS : SigOk P S) (hI : InpOk I) (hSI : S.inp = I) (hm : P.follows .mixedOrders = true) {cur : FuncId} {p : List Nat} {s : LS A} {B : Nat} (σs : List (List (Option Key))) {nn : Nat} {l : List (Nat × LV A)} {m' : Mem A} {cs : List Cnd} {c : Cnd}
    (h : runO P S cur p s B σs nn l m' = some c) (hc : condOk c) : ExB B P I (codeAt P cur p) s .normal ⟨tm nn l, m', cs⟩ := by
  unfold runO at h
  split at h
  · rename_i rid ops hcode
    split at h
    · rename_i ts hid ho
      rw [hcode]
      have hall := allS_spec h hc
      refine ⟨fun k bl hk hb => there_ex (idB_spec hid k hk).2, fun Own w0 ρ a w Q hr hQ => wpR_region_any hm ?_⟩
      refine ord_sound hSI hS ops.size _ s none ts ρ a _ ho (fun p hp => (hall p hp).1) hr.drew fun p hp ρ' a' w' he hr' => ?_
      obtain ⟨_, σ, c', e1, e2, e3⟩ := hall p hp
      rw [hSI] at e2
      have hf : Fits I p.1 ⟨tm nn l, m', cs⟩ (σL σ) := mS_spec e2 e3
      refine hQ _ a' w' (fun k m hB hk => ?_) (hf.rl hI hr')
      rw [he k m hk]
      cases k with
      | own k => exact (renρ_some (τ := ownK (σL σ)) (b := .own k) (idB_spec e1 k hB).1).symm
      | inp x y => rfl
    · cases h
  · cases h
end
end Go.Proofs.YtcedljbapgmdmaaGreat.En

/- DERIVED. Roots of the document's field. -/
set_option linter.all false
namespace Go.Proofs.YtcedljbapgmdmaaGreat.En
open Go Go.RowKit

def rtR (a : Fe) : Fe := rpL a shAf 384
noncomputable def rqE (a : Fe) : LS Fe := entry Tryz.prog (SRx [] [conRLarge] []) 60 107 [0, 1] [bF [a]] []
abbrev rqT : List (Nat × LV Fe) := [(1, .ptr (.own 0) 0 []), (2, .ptr (.own 1) 0 []), (3, .bool false), (4, .ptr (.own 2) 0 [])]
abbrev rqM (a r : Fe) : Mem Fe := [some ⟨.rw, [.abs a]⟩, some ⟨.rw, z6L⟩, some ⟨.rw, [.abs r]⟩]
def rqK (a : Fe) : Prop := ((true = true ∧ true = true ∧ 48 = 48 ∧ 48 = 48 ∧ 48 ≤ 1000) ∧ true = true) ∧ false = false ∧ a = a ∧ eqN 6 ∧ rtR a = rtR a
theorem rqK_ok (a : Fe) : rqK a := ⟨⟨⟨rfl, rfl, rfl, rfl, by decide⟩, rfl⟩, rfl, rfl, eqN_ok _, rfl⟩
set_option maxRecDepth 100000 in
theorem rqO (a : Fe) : runO Tryz.prog (SRx [] [conRLarge] []) 107 [0, 1] (rqE a) 2 [[some (.own 0), some (.own 1), some (.own 2)], [some (.own 0), some (.own 1), some (.own 4)]] 19 rqT (rqM a (rtR a)) = some (some (rqK a ∧ rqK a ∧ rqK a ∧ rqK a ∧ rqK a ∧ rqK a ∧ rqK a ∧ rqK a)) := by kernel_rfl
theorem rq_ex (a : Fe) : ExB 2 Tryz.prog noIF (codeAt Tryz.prog 107 [0, 1]) (rqE a) .normal ⟨tm 19 rqT, rqM a (rtR a), []⟩ :=
  ExB.orders (SRx_ok _ _ _) noIF_ok rfl mixed _ (rqO a) ⟨rqK_ok a, rqK_ok a, rqK_ok a, rqK_ok a, rqK_ok a, rqK_ok a, rqK_ok a, rqK_ok a⟩
set_option maxRecDepth 100000 in
theorem rq_grow (a : Fe) : growB (rqE a) ⟨tm 19 rqT, rqM a (rtR a), []⟩ = true := by kernel_rfl
set_option maxRecDepth 100000 in
theorem rq_two (a : Fe) : Nat.ble (rqE a).mem.length 2 = true := by kernel_rfl
noncomputable def rqLp (a r : Fe) (h : r = rtR a) : LoopF Tryz.prog noIF := LoopF.of (B := 2) (t := ⟨tm 19 rqT, rqM a r, []⟩) (by subst h; exact rq_ex a) (by subst h; exact rq_grow a) (rq_two a)
noncomputable abbrev SRy (l : List (FuncId × Nat × Nat × Bool)) (ls : List (LoopF Tryz.prog noIF)) : Sig Fe := sigOf (P := Tryz.prog) [conRFAdd, conRFSub, conRFMul, conRFNeg, conRFIsZero, conRNum, conRLess, conRLarge] [] [conShift, conRFrom, conRPow] (I := noIF) ls msF (advP (dcf l) [133, 114, 132] [])
theorem SRy_ok (l : List (FuncId × Nat × Nat × Bool)) (ls : List (LoopF Tryz.prog noIF)) : SigOk Tryz.prog (SRy l ls) := sigOf_ok _ [] _ ls msF_ok _ noIF_ok
set_option maxRecDepth 100000 in
theorem entRSqrt : ∀ args w, (callFunc 107 args).run Tryz.prog w = .ok (.enter 107 args) w := ent_of (f := 107) (P := Tryz.prog) rfl rfl rfl
abbrev lpE (a r : Fe) (h : r = rtR a) : Prop := LS.tmps (LoopF.s (rqLp a r h)) = LS.tmps (LoopF.s (rqLp a r h)) ∧ LS.mem (LoopF.s (rqLp a r h)) = LS.mem (LoopF.s (rqLp a r h))
set_option maxRecDepth 100000 in
theorem rq1V (a r : Fe) (h : r = rtR a) : (callF Tryz.prog (SRy [(107, 2, 4, true)] [rqLp a r h]) 60 107 [bF [a]] []).map (fun r => (r.1, r.2.2)) = some (.tup [z6V, .bool false], some (lpE a r h ∧ (!feq (fmul r r) a) = true ∧ true = true)) := by kernel_rfl
set_option maxRecDepth 100000 in
theorem rq2V (a r : Fe) (h : r = rtR a) : (callF Tryz.prog (SRy [(107, 2, 4, false), (107, 4, 1, false)] [rqLp a r h]) 60 107 [bF [a]] []).map (fun r => (r.1, r.2.2)) = some (.tup [.agg [.abs r], .bool true], some (lpE a r h ∧ (!feq (fmul r r) a) = false ∧ lgR r = false ∧ true = true)) := by kernel_rfl
set_option maxRecDepth 100000 in
theorem rq3V (a r : Fe) (h : r = rtR a) : (callF Tryz.prog (SRy [(107, 2, 4, false), (107, 4, 1, true)] [rqLp a r h]) 60 107 [bF [a]] []).map (fun r => (r.1, r.2.2)) = some (.tup [.agg [.abs (fneg r)], .bool true], some (lpE a r h ∧ (!feq (fmul r r) a) = false ∧ lgR r = true ∧ true = true ∧ true = true)) := by kernel_rfl
def rtRT (a : Fe) : Bool := feq (fmul (rtR a) (rtR a)) a
/-- The root that isn't large, out of a power. -/
def sqRr (a r : Fe) : Fe := bif feq (fmul r r) a then (bif lgR r then fneg r else r) else zE
def sqR (a : Fe) : Fe := sqRr a (rtR a)
theorem sqRr_f {a r : Fe} (h : feq (fmul r r) a = false) : sqRr a r = zE := by unfold sqRr; rw [h, cond_false]
theorem sqRr_s {a r : Fe} (h : feq (fmul r r) a = true) (k : lgR r = false) : sqRr a r = r := by unfold sqRr; rw [h, k, cond_true, cond_false]
theorem sqRr_l {a r : Fe} (h : feq (fmul r r) a = true) (k : lgR r = true) : sqRr a r = fneg r := by unfold sqRr; rw [h, k, cond_true, cond_true]
theorem rq_runs (a r : Fe) (h : r = rtR a) : Runs 107 [bF [a]] (.tup [.agg [.abs (sqRr a r)], .bool (feq (fmul r r) a)]) := by
  have hl : lpE a r h := ⟨rfl, rfl⟩
  cases h1 : feq (fmul r r) a with
  | false =>
    rw [sqRr_f h1]
    refine (Runs.of (SRy_ok _ _) rfl (rq1V a r h) ⟨hl, by rw [h1]; rfl, rfl⟩ rfl rfl).as rfl fun ρ => ?_
    show Value.tuple #[LV.tr ρ z6V, .bool false] = Value.tuple #[LV.tr ρ (.agg [.abs zE] : LV Fe), .bool false]
    rw [z6_tr]
  | true => cases h2 : lgR r with
    | false =>
      rw [sqRr_s h1 h2]
      exact .of (SRy_ok _ _) rfl (rq2V a r h) ⟨hl, by rw [h1]; rfl, h2, rfl⟩ rfl rfl
    | true =>
      rw [sqRr_l h1 h2]
      exact .of (SRy_ok _ _) rfl (rq3V a r h) ⟨hl, by rw [h1]; rfl, h2, rfl, rfl⟩ rfl rfl
noncomputable def conRSqrt : ConP Tryz.prog Fe := mkP 107 entRSqrt [1] (fun a => .tup [.agg [.abs (sqR a)], .bool (rtRT a)]) fun a => rq_runs a _ rfl
end Go.Proofs.YtcedljbapgmdmaaGreat.En

/- DERIVED. Commutative rings: a normaliser. -/

set_option linter.all false
namespace Go.Proofs.YtcedljbapgmdmaaGreat.Alg

/-- A commutative ring, by its plain laws. -/
class CR (K : Type) extends Zero K, One K, Add K, Mul K, Neg K, Sub K where
  sub_def : ∀ a b : K, a - b = a + -b
  add_assoc : ∀ a b c : K, a + b + c = a + (b + c)
  add_comm : ∀ a b : K, a + b = b + a
  add_zero : ∀ a : K, a + 0 = a
  add_neg : ∀ a : K, a + -a = 0
  mul_assoc : ∀ a b c : K, a * b * c = a * (b * c)
  mul_comm : ∀ a b : K, a * b = b * a
  mul_one : ∀ a : K, a * 1 = a
  mul_add : ∀ a b c : K, a * (b + c) = a * b + a * c

section
variable {K : Type} [CR K]
open CR
theorem zero_add (a : K) : 0 + a = a := by rw [add_comm, add_zero]
theorem one_mul (a : K) : 1 * a = a := by rw [mul_comm, mul_one]
theorem add_mul (a b c : K) : (a + b) * c = a * c + b * c := by rw [mul_comm, mul_add, mul_comm c a, mul_comm c b]
theorem add_left_comm (a b c : K) : a + (b + c) = b + (a + c) := by rw [← add_assoc, add_comm a b, add_assoc]
theorem mul_left_comm (a b c : K) : a * (b * c) = b * (a * c) := by rw [← mul_assoc, mul_comm a b, mul_assoc]
theorem neg_add_self (a : K) : -a + a = 0 := by rw [add_comm, add_neg]
theorem add_left_cancel {a b c : K} (h : a + b = a + c) : b = c := by
  have : -a + (a + b) = -a + (a + c) := by rw [h]
  rwa [← add_assoc, ← add_assoc, neg_add_self, zero_add, zero_add] at this
theorem neg_unique {a b : K} (h : a + b = 0) : b = -a := add_left_cancel (by rw [h, add_neg])
theorem neg_neg (a : K) : - -a = a := (neg_unique (neg_add_self a)).symm
theorem neg_zero : -(0 : K) = 0 := (neg_unique (add_zero 0)).symm
theorem mul_zero (a : K) : a * 0 = 0 := by
  have : a * 0 + a * 0 = a * 0 + 0 := by rw [← mul_add, add_zero, add_zero]
  exact add_left_cancel this
theorem zero_mul (a : K) : 0 * a = 0 := by rw [mul_comm, mul_zero]
theorem mul_neg (a b : K) : a * -b = -(a * b) := neg_unique (by rw [← mul_add, add_neg, mul_zero])
theorem neg_mul (a b : K) : -a * b = -(a * b) := by rw [mul_comm, mul_neg, mul_comm]
theorem neg_add (a b : K) : -(a + b) = -a + -b := by
  refine (neg_unique ?_).symm
  rw [add_assoc, add_left_comm b, ← add_assoc, add_neg, add_neg, add_zero]
theorem sub_self (a : K) : a - a = 0 := by rw [sub_def, add_neg]
theorem sub_zero (a : K) : a - 0 = a := by rw [sub_def, neg_zero, add_zero]
theorem eq_of_sub {a b : K} (h : a - b = 0) : a = b := by
  rw [sub_def] at h
  have := neg_unique (a := -b) (b := a) (by rw [add_comm]; exact h)
  rwa [neg_neg] at this
theorem sub_of_eq {a b : K} (h : a = b) : a - b = 0 := by rw [h, sub_self]

/-- A natural number, an integer, in the ring. -/
def natC : Nat → K
  | 0 => 0
  | n + 1 => natC n + 1
def intC : Int → K
  | .ofNat n => natC n
  | .negSucc n => -natC (n + 1)

theorem natC_add (a b : Nat) : (natC (a + b) : K) = natC a + natC b := by
  induction b with
  | zero => exact (add_zero _).symm
  | succ b ih => show natC (a + b) + 1 = natC a + (natC b + 1); rw [ih, add_assoc]
theorem natC_mul (a b : Nat) : (natC (a * b) : K) = natC a * natC b := by
  induction b with
  | zero => exact (mul_zero _).symm
  | succ b ih => show natC (a * b + a) = natC a * (natC b + 1); rw [natC_add, ih, mul_add, mul_one]
theorem intC_neg (a : Int) : (intC (-a) : K) = -intC a := by
  cases a with
  | ofNat n =>
    cases n with
    | zero => exact neg_zero.symm
    | succ n => rfl
  | negSucc n => exact (neg_neg _).symm
theorem intC_subNatNat (a b : Nat) : (intC (Int.subNatNat a b) : K) = natC a + -natC b := by
  by_cases h : b ≤ a
  · obtain ⟨c, rfl⟩ := Nat.exists_eq_add_of_le h
    rw [Int.subNatNat_of_le (by omega), Nat.add_sub_cancel_left, natC_add, add_comm (natC b), add_assoc, add_neg, add_zero]; rfl
  · obtain ⟨c, rfl⟩ := Nat.exists_eq_add_of_lt (by omega : a < b)
    rw [Int.subNatNat_of_lt (by omega), show a + c + 1 - a = c + 1 by omega]
    show -natC (c + 1) = _
    rw [show a + c + 1 = a + (c + 1) by omega, natC_add a (c + 1), neg_add, ← add_assoc, add_neg, zero_add]
theorem intC_add (a b : Int) : (intC (a + b) : K) = intC a + intC b := by
  cases a <;> cases b
  · exact natC_add _ _
  · rename_i m n; show intC (Int.subNatNat m (n + 1)) = _; rw [intC_subNatNat]; rfl
  · rename_i m n; show intC (Int.subNatNat n (m + 1)) = _; rw [intC_subNatNat, add_comm]; rfl
  · rename_i m n
    show -natC (m + n + 1 + 1) = -natC (m + 1) + -natC (n + 1)
    rw [← neg_add, ← natC_add, show m + n + 1 + 1 = m + 1 + (n + 1) by omega]
theorem intC_mul (a b : Int) : (intC (a * b) : K) = intC a * intC b := by
  cases a <;> cases b
  · exact natC_mul _ _
  · rename_i m n
    rw [show Int.ofNat m * Int.negSucc n = -(Int.ofNat (m * (n + 1))) by rw [Int.negSucc_eq]; simp [Int.mul_neg], intC_neg]
    show -natC (m * (n + 1)) = natC m * -natC (n + 1)
    rw [natC_mul, mul_neg]
  · rename_i m n
    rw [show Int.negSucc m * Int.ofNat n = -(Int.ofNat ((m + 1) * n)) by rw [Int.negSucc_eq]; simp [Int.neg_mul], intC_neg]
    show -natC ((m + 1) * n) = -natC (m + 1) * natC n
    rw [natC_mul, neg_mul]
  · rename_i m n
    rw [Int.negSucc_mul_negSucc]
    show natC ((m + 1) * (n + 1)) = -natC (m + 1) * -natC (n + 1)
    rw [natC_mul, neg_mul, mul_neg, neg_neg]
theorem intC_one : (intC 1 : K) = 1 := zero_add 1
theorem intC_zero : (intC 0 : K) = 0 := rfl

/-- A power. -/
def pw (a : K) : Nat → K
  | 0 => 1
  | n + 1 => pw a n * a

/-! ## Polynomials, dense, one variable over the others -/
def P : Nat → Type
  | 0 => Int
  | n + 1 => List (P n)

def zipAdd {α : Type} (f : α → α → α) : List α → List α → List α
  | [], m => m
  | l, [] => l
  | a :: l, b :: m => f a b :: zipAdd f l m

def pzero : (n : Nat) → P n
  | 0 => (0 : Int)
  | _ + 1 => []
def pconst : (n : Nat) → Int → P n
  | 0, z => z
  | n + 1, z => [pconst n z]
def padd : (n : Nat) → P n → P n → P n
  | 0, a, b => Int.add a b
  | n + 1, l, m => zipAdd (padd n) l m
def pneg : (n : Nat) → P n → P n
  | 0, a => Int.neg a
  | n + 1, l => List.map (pneg n) l
def mulL {α : Type} (z : α) (f g : α → α → α) : List α → List α → List α
  | [], _ => []
  | a :: l, m => zipAdd g (m.map (f a)) (z :: mulL z f g l m)
def pmul : (n : Nat) → P n → P n → P n
  | 0, a, b => Int.mul a b
  | n + 1, l, m => mulL (pzero n) (pmul n) (padd n) l m
def pvar : (n : Nat) → Nat → P n
  | 0, _ => (0 : Int)
  | n + 1, i => match Nat.beq i n with
    | true => [pzero n, pconst n 1]
    | false => [pvar n i]
def isZ : (n : Nat) → P n → Bool
  | 0, a => match (a : Int) with | .ofNat k => Nat.beq k 0 | .negSucc _ => false
  | n + 1, l => List.all l (isZ n)
def ppow (n : Nat) (a : P n) : Nat → P n
  | 0 => pconst n 1
  | k + 1 => pmul n (ppow n a k) a

def horner {α : Type} (d : α → K) (x : K) : List α → K
  | [] => 0
  | a :: l => d a + x * horner d x l
def den (ρ : Nat → K) : (n : Nat) → P n → K
  | 0, a => intC a
  | n + 1, l => horner (den ρ n) (ρ n) l

theorem horner_zip {α : Type} {d : α → K} {x : K} {f : α → α → α} (h : ∀ a b, d (f a b) = d a + d b) : ∀ l m, horner d x (zipAdd f l m) = horner d x l + horner d x m
  | [], m => by simp only [zipAdd, horner, zero_add]
  | a :: l, [] => by simp only [zipAdd, horner, add_zero]
  | a :: l, b :: m => by
    simp only [zipAdd, horner]
    rw [h, horner_zip h l m, mul_add, add_assoc, add_left_comm (d b), ← add_assoc]
theorem horner_map {α : Type} {d : α → K} {x y : K} {f : α → α} (h : ∀ a, d (f a) = y * d a) : ∀ l, horner d x (l.map f) = y * horner d x l
  | [] => (mul_zero _).symm
  | a :: l => by simp only [List.map, horner]; rw [h, horner_map h l, mul_add, mul_left_comm]
theorem horner_neg {α : Type} {d : α → K} {x : K} {f : α → α} (h : ∀ a, d (f a) = -d a) : ∀ l, horner d x (l.map f) = -horner d x l
  | [] => neg_zero.symm
  | a :: l => by simp only [List.map, horner]; rw [h, horner_neg h l, mul_neg, neg_add]
theorem den_zero (ρ : Nat → K) : ∀ n, den ρ n (pzero n) = 0
  | 0 => rfl
  | _ + 1 => rfl
theorem den_const (ρ : Nat → K) (z : Int) : ∀ n, den ρ n (pconst n z) = intC z
  | 0 => rfl
  | n + 1 => by simp only [pconst, den, horner]; rw [den_const ρ z n, mul_zero, add_zero]
theorem den_add (ρ : Nat → K) : ∀ n a b, den ρ n (padd n a b) = den ρ n a + den ρ n b
  | 0, a, b => intC_add a b
  | n + 1, l, m => horner_zip (den_add ρ n) l m
theorem den_neg (ρ : Nat → K) : ∀ n a, den ρ n (pneg n a) = -den ρ n a
  | 0, a => intC_neg a
  | n + 1, l => horner_neg (den_neg ρ n) l
theorem horner_mul {α : Type} {d : α → K} {x : K} {z : α} {f g : α → α → α} (hz : d z = 0) (hf : ∀ a b, d (f a b) = d a * d b) (hg : ∀ a b, d (g a b) = d a + d b) :
    ∀ l m, horner d x (mulL z f g l m) = horner d x l * horner d x m
  | [], m => (zero_mul _).symm
  | a :: l, m => by
    simp only [mulL, horner]
    rw [horner_zip hg, horner_map (hf a), horner, hz, zero_add, horner_mul hz hf hg l m, add_mul, mul_assoc]
theorem den_mul (ρ : Nat → K) : ∀ n a b, den ρ n (pmul n a b) = den ρ n a * den ρ n b
  | 0, a, b => intC_mul a b
  | n + 1, l, m => horner_mul (den_zero ρ n) (den_mul ρ n) (den_add ρ n) l m
theorem den_var (ρ : Nat → K) (i : Nat) : ∀ n, i < n → den ρ n (pvar n i) = ρ i
  | 0, h => absurd h (Nat.not_lt_zero _)
  | n + 1, h => by
    by_cases e : i = n
    · subst e
      have : pvar (i + 1) i = [pzero i, pconst i 1] := by show (match Nat.beq i i with | true => _ | false => _) = _; rw [Nat.beq_refl]
      rw [this]
      show Alg.den ρ i (pzero i) + ρ i * (Alg.den ρ i (pconst i 1) + ρ i * 0) = ρ i
      rw [den_zero, den_const, intC_one, zero_add, mul_zero, add_zero, mul_one]
    · have hb : Nat.beq i n = false := by
        cases hb : Nat.beq i n
        · rfl
        · exact absurd (Nat.eq_of_beq_eq_true hb) e
      have : pvar (n + 1) i = [pvar n i] := by show (match Nat.beq i n with | true => _ | false => _) = _; rw [hb]
      rw [this]
      show Alg.den ρ n (pvar n i) + ρ n * 0 = ρ i
      rw [den_var ρ i n (by omega), mul_zero, add_zero]
theorem den_pow (ρ : Nat → K) (n : Nat) (a : P n) : ∀ k, den ρ n (ppow n a k) = pw (den ρ n a) k
  | 0 => by simp only [ppow, pw]; rw [den_const, intC_one]
  | k + 1 => by simp only [ppow, pw]; rw [den_mul, den_pow ρ n a k]
theorem horner_all {α : Type} {d : α → K} {x : K} {p : α → Bool} (h : ∀ a, p a = true → d a = 0) : ∀ l : List α, l.all p = true → horner d x l = 0
  | [], _ => rfl
  | a :: l, hl => by
    simp only [List.all_cons, Bool.and_eq_true] at hl
    simp only [horner]
    rw [h a hl.1, horner_all h l hl.2, mul_zero, add_zero]
theorem den_isZ (ρ : Nat → K) : ∀ n a, isZ n a = true → den ρ n a = 0
  | 0, a, h => by
    simp only [isZ] at h
    split at h
    · rename_i k; have := Nat.eq_of_beq_eq_true h; subst this; rfl
    · cases h
  | n + 1, l, h => horner_all (den_isZ ρ n) l h

/-! ## Expressions -/
inductive E where
  | v (i : Nat)
  | c (z : Int)
  | add (a b : E)
  | mul (a b : E)
  | neg (a : E)
  | sub (a b : E)
  | pow (a : E) (k : Nat)

/-- A small integer, 1 and 0 as they are written. -/
def smallC (z : Int) : K := match z with
  | 0 => 0
  | 1 => 1
  | z => intC z
theorem smallC_eq (z : Int) : (smallC z : K) = intC z := by
  unfold smallC
  split
  · rfl
  · exact intC_one.symm
  · rfl
def E.den (ρ : Nat → K) : E → K
  | .v i => ρ i
  | .c z => smallC z
  | .add a b => a.den ρ + b.den ρ
  | .mul a b => a.den ρ * b.den ρ
  | .neg a => -a.den ρ
  | .sub a b => a.den ρ - b.den ρ
  | .pow a k => pw (a.den ρ) k
def E.ok (n : Nat) : E → Bool
  | .v i => Nat.blt i n
  | .c _ => true
  | .add a b => a.ok n && b.ok n
  | .mul a b => a.ok n && b.ok n
  | .neg a => a.ok n
  | .sub a b => a.ok n && b.ok n
  | .pow a _ => a.ok n
def E.nf (n : Nat) : E → P n
  | .v i => pvar n i
  | .c z => pconst n z
  | .add a b => padd n (a.nf n) (b.nf n)
  | .mul a b => pmul n (a.nf n) (b.nf n)
  | .neg a => pneg n (a.nf n)
  | .sub a b => padd n (a.nf n) (pneg n (b.nf n))
  | .pow a k => ppow n (a.nf n) k
theorem E.den_nf (ρ : Nat → K) (n : Nat) : ∀ e : E, e.ok n = true → Alg.den ρ n (e.nf n) = e.den ρ
  | .v i, h => den_var ρ i n (Nat.le_of_ble_eq_true h)
  | .c z, _ => (den_const ρ z n).trans (smallC_eq z).symm
  | .add a b, h => by
    simp only [E.ok, Bool.and_eq_true] at h
    simp only [E.nf, E.den]; rw [den_add, E.den_nf ρ n a h.1, E.den_nf ρ n b h.2]
  | .mul a b, h => by
    simp only [E.ok, Bool.and_eq_true] at h
    simp only [E.nf, E.den]; rw [den_mul, E.den_nf ρ n a h.1, E.den_nf ρ n b h.2]
  | .neg a, h => by
    simp only [E.ok] at h
    simp only [E.nf, E.den]; rw [den_neg, E.den_nf ρ n a h]
  | .sub a b, h => by
    simp only [E.ok, Bool.and_eq_true] at h
    simp only [E.nf, E.den]; rw [den_add, den_neg, E.den_nf ρ n a h.1, E.den_nf ρ n b h.2, sub_def]
  | .pow a k, h => by
    simp only [E.ok] at h
    simp only [E.nf, E.den]; rw [den_pow, E.den_nf ρ n a h]

instance : Add E := ⟨.add⟩
instance : Mul E := ⟨.mul⟩
instance : Sub E := ⟨.sub⟩
instance : Neg E := ⟨.neg⟩

/-- What normalises to nought is nought. -/
theorem zero_of (ρ : Nat → K) (n : Nat) (e : E) (h : (e.ok n && isZ n (e.nf n)) = true) : e.den ρ = 0 := by
  simp only [Bool.and_eq_true] at h
  rw [← E.den_nf ρ n e h.1, den_isZ ρ n _ h.2]
theorem eq_of (ρ : Nat → K) (n : Nat) (a b : E) (h : ((E.sub a b).ok n && isZ n ((E.sub a b).nf n)) = true) : a.den ρ = b.den ρ :=
  eq_of_sub (zero_of ρ n (.sub a b) h)
/-- .. with relations, and their factors. -/
def comb : List (E × E) → E
  | [] => .c 0
  | (k, r) :: l => .add (.mul k r) (comb l)
theorem comb_zero (ρ : Nat → K) : ∀ l : List (E × E), (∀ q ∈ l, q.2.den ρ = 0) → (comb l).den ρ = 0
  | [], _ => rfl
  | (k, r) :: l, h => by
    simp only [comb, E.den]
    rw [h (k, r) (by simp), comb_zero ρ l (fun q hq => h q (by simp [hq])), mul_zero, add_zero]
theorem all_nil {ρ : Nat → K} : ∀ q ∈ ([] : List (E × E)), q.2.den ρ = 0 := fun _ h => by cases h
theorem all_cons {ρ : Nat → K} {k r : E} {l : List (E × E)} (h : r.den ρ = 0) (hl : ∀ q ∈ l, q.2.den ρ = 0) : ∀ q ∈ (k, r) :: l, q.2.den ρ = 0 := fun q hq => by
  rcases List.mem_cons.1 hq with e | e
  · rw [e]; exact h
  · exact hl q e
theorem zero_of_rel (ρ : Nat → K) (n : Nat) (e : E) (l : List (E × E)) (hl : ∀ q ∈ l, q.2.den ρ = 0) (h : ((E.sub e (comb l)).ok n && isZ n ((E.sub e (comb l)).nf n)) = true) : e.den ρ = 0 := by
  have := zero_of ρ n _ h
  simp only [E.den] at this
  rw [comb_zero ρ l hl, sub_zero] at this
  exact this
end
end Go.Proofs.YtcedljbapgmdmaaGreat.Alg

/- DERIVED. Prime numbers: the little theorem, and a test by the factors of a number less one. -/
set_option linter.all false
namespace Go.Proofs.YtcedljbapgmdmaaGreat.Alg

structure Pr (p : Nat) : Prop where
  two : 1 < p
  div : ∀ d, d ∣ p → d = 1 ∨ d = p
theorem Pr.pos {p : Nat} (h : Pr p) : 0 < p := Nat.lt_trans Nat.zero_lt_one h.two
theorem Pr.co {p : Nat} (h : Pr p) {a : Nat} (ha : ¬p ∣ a) : Nat.Coprime p a := by
  rcases h.div (Nat.gcd p a) (Nat.gcd_dvd_left p a) with e | e
  · exact e
  · exact absurd (e ▸ Nat.gcd_dvd_right p a) ha
theorem Pr.dvd_mul {p : Nat} (h : Pr p) {a b : Nat} (hab : p ∣ a * b) : p ∣ a ∨ p ∣ b := by
  by_cases ha : p ∣ a
  · exact .inl ha
  · exact .inr ((h.co ha).dvd_of_dvd_mul_left hab)
/-! ## the little theorem -/
def bin : Nat → Nat → Nat
  | _, 0 => 1
  | 0, _ + 1 => 0
  | n + 1, k + 1 => bin n k + bin n (k + 1)
theorem bin_big : ∀ n k, n < k → bin n k = 0
  | 0, k + 1, _ => rfl
  | n + 1, 0, h => absurd h (Nat.not_lt_zero _)
  | n + 1, k + 1, h => by simp only [bin]; rw [bin_big n k (by omega), bin_big n (k + 1) (by omega)]
theorem bin_self : ∀ n, bin n n = 1
  | 0 => rfl
  | n + 1 => by simp only [bin]; rw [bin_self n, bin_big n (n + 1) (by omega)]
theorem bin_zero (n : Nat) : bin n 0 = 1 := by cases n <;> rfl
theorem bin_mul : ∀ n k, (k + 1) * bin (n + 1) (k + 1) = (n + 1) * bin n k
  | 0, 0 => rfl
  | 0, k + 1 => by simp [bin]
  | n + 1, 0 => by
    have h := bin_mul n 0
    simp only [bin, bin_zero, Nat.zero_add, Nat.one_mul] at h ⊢
    first | omega | done
  | n + 1, k + 1 => by
    have h1 := bin_mul n k
    have h2 := bin_mul n (k + 1)
    have e1 : bin (n + 2) (k + 2) = bin (n + 1) (k + 1) + bin (n + 1) (k + 2) := rfl
    have e2 : bin (n + 1) (k + 1) = bin n k + bin n (k + 1) := rfl
    rw [show n + 1 + 1 = n + 2 from rfl, show k + 1 + 1 = k + 2 from rfl, e1, Nat.mul_add, h2, show k + 2 = (k + 1) + 1 from rfl, Nat.add_mul (k + 1) 1, h1, Nat.one_mul]
    rw [show n + 2 = (n + 1) + 1 from rfl, Nat.add_mul (n + 1) 1, Nat.one_mul]
    rw [show (n + 1) * bin (n + 1) (k + 1) = (n + 1) * bin n k + (n + 1) * bin n (k + 1) by rw [e2, Nat.mul_add]]
    omega
def sumTo (f : Nat → Nat) : Nat → Nat
  | 0 => 0
  | n + 1 => sumTo f n + f n
theorem sumTo_congr {f g : Nat → Nat} : ∀ n, (∀ k, k < n → f k = g k) → sumTo f n = sumTo g n
  | 0, _ => rfl
  | n + 1, h => by simp only [sumTo]; rw [sumTo_congr n fun k hk => h k (by omega), h n (by omega)]
theorem sumTo_add (f g : Nat → Nat) : ∀ n, sumTo (fun k => f k + g k) n = sumTo f n + sumTo g n
  | 0 => rfl
  | n + 1 => by simp only [sumTo]; rw [sumTo_add f g n]; omega
theorem sumTo_mul (f : Nat → Nat) (c : Nat) : ∀ n, sumTo (fun k => c * f k) n = c * sumTo f n
  | 0 => rfl
  | n + 1 => by simp only [sumTo]; rw [sumTo_mul f c n, Nat.mul_add]
theorem sumTo_head (f : Nat → Nat) : ∀ n, sumTo f (n + 1) = f 0 + sumTo (fun k => f (k + 1)) n
  | 0 => by simp [sumTo]
  | n + 1 => by rw [sumTo, sumTo_head f n]; simp only [sumTo]; omega
theorem sumTo_mod {f : Nat → Nat} {p : Nat} : ∀ n, (∀ k, k < n → p ∣ f k) → p ∣ sumTo f n
  | 0, _ => ⟨0, rfl⟩
  | n + 1, h => Nat.dvd_add (sumTo_mod n fun k hk => h k (by omega)) (h n (by omega))
theorem bin_pow (a : Nat) : ∀ n, (a + 1) ^ n = sumTo (fun k => bin n k * a ^ k) (n + 1)
  | 0 => by simp [sumTo, bin]
  | n + 1 => by
    rw [Nat.pow_succ, bin_pow a n, sumTo_head, Nat.mul_add, Nat.mul_one]
    have e : sumTo (fun k => bin (n + 1) (k + 1) * a ^ (k + 1)) (n + 1) = a * sumTo (fun k => bin n k * a ^ k) (n + 1) + sumTo (fun k => bin n (k + 1) * a ^ (k + 1)) (n + 1) := by
      rw [← sumTo_mul, ← sumTo_add]
      refine sumTo_congr _ fun k _ => ?_
      rw [bin, Nat.add_mul, Nat.pow_succ, ← Nat.mul_assoc, Nat.mul_comm a (bin n k * a ^ k)]
    have e2 : bin n 0 * a ^ 0 + sumTo (fun k => bin n (k + 1) * a ^ (k + 1)) n = sumTo (fun k => bin n k * a ^ k) (n + 1) := (sumTo_head (fun k => bin n k * a ^ k) n).symm
    have e3 : sumTo (fun k => bin n (k + 1) * a ^ (k + 1)) (n + 1) = sumTo (fun k => bin n (k + 1) * a ^ (k + 1)) n := by
      simp only [sumTo]; rw [bin_big n (n + 1) (by omega), Nat.zero_mul, Nat.add_zero]
    rw [sumTo_head _ (n + 1), e, e3, e2, bin_zero, Nat.pow_zero]
    rw [bin_zero, Nat.pow_zero] at e2
    generalize sumTo (fun k => bin n k * a ^ k) (n + 1) = S at *
    rw [Nat.mul_comm a S]
    omega
theorem Pr.bin {p : Nat} (h : Pr p) {k : Nat} (h0 : 0 < k) (hk : k < p) : p ∣ Alg.bin p k := by
  obtain ⟨n, rfl⟩ : ∃ n, p = n + 1 := ⟨p - 1, by have := h.pos; omega⟩
  obtain ⟨j, rfl⟩ : ∃ j, k = j + 1 := ⟨k - 1, by omega⟩
  have e := bin_mul n j
  rcases h.dvd_mul (a := j + 1) (b := Alg.bin (n + 1) (j + 1)) ⟨_, e⟩ with hd | hd
  · exact absurd (Nat.le_of_dvd (by omega) hd) (by omega)
  · exact hd
/-- The little theorem. -/
theorem Pr.little {p : Nat} (h : Pr p) : ∀ a, a ^ p % p = a % p
  | 0 => by rw [Nat.zero_pow h.pos]
  | a + 1 => by
    rw [bin_pow a p]
    obtain ⟨n, rfl⟩ : ∃ n, p = n + 1 := ⟨p - 1, by have := h.pos; omega⟩
    rw [sumTo, sumTo_head, bin_self, Nat.one_mul]
    have hd : n + 1 ∣ sumTo (fun k => Alg.bin (n + 1) (k + 1) * a ^ (k + 1)) n := sumTo_mod n fun k hk => Nat.dvd_trans (h.bin (by omega) (by omega)) ⟨_, rfl⟩
    obtain ⟨c, hc⟩ := hd
    rw [hc, bin_zero, Nat.pow_zero, Nat.add_assoc, Nat.add_comm ((n + 1) * c), ← Nat.add_assoc, Nat.add_mul_mod_self_left, Nat.add_mod, h.little a, ← Nat.add_mod]
    congr 1
    omega
theorem Pr.unit {p : Nat} (h : Pr p) {a : Nat} (ha : ¬p ∣ a) : a ^ (p - 1) % p = 1 := by
  have h1 := h.little a
  have h2 := h.two
  obtain ⟨n, rfl⟩ : ∃ n, p = n + 1 := ⟨p - 1, by omega⟩
  rw [Nat.add_sub_cancel]
  have hp1 : 1 ≤ a ^ n := Nat.pos_of_ne_zero fun e => by
    rcases Nat.eq_zero_or_pos a with rfl | ha0
    · exact ha ⟨0, rfl⟩
    · exact absurd e (Nat.ne_of_gt (Nat.pow_pos ha0))
  have hd : n + 1 ∣ a * (a ^ n - 1) := by
    rw [Nat.mul_sub, Nat.mul_one, ← Nat.pow_succ']
    exact Nat.dvd_of_mod_eq_zero (Nat.sub_mod_eq_zero_of_mod_eq h1)
  rcases h.dvd_mul hd with hd | hd
  · exact absurd hd ha
  · obtain ⟨c, hc⟩ := hd
    rw [show a ^ n = 1 + (n + 1) * c by omega, Nat.add_mul_mod_self_left, Nat.mod_eq_of_lt h2]
/-! ## powers modulo a number -/
def pmL (n a : Nat) : List Bool → Nat → Nat
  | [], x => x
  | b :: l, x => pmL n a l (match b with | true => x * x % n * a % n | false => x * x % n)
def valL : List Bool → Nat → Nat
  | [], v => v
  | b :: l, v => valL l (match b with | true => 2 * v + 1 | false => 2 * v)
def bitsL : Nat → Nat → List Bool → List Bool
  | 0, _, l => l
  | f + 1, e, l => bitsL f (e / 2) (Nat.beq (e % 2) 1 :: l)
theorem pmL_eq (n a : Nat) : ∀ l v, pmL n a l (a ^ v % n) = a ^ valL l v % n
  | [], v => rfl
  | true :: l, v => by
    simp only [pmL, valL]
    rw [← pmL_eq n a l]
    congr 1
    rw [Nat.pow_succ, Nat.two_mul, Nat.pow_add, ← Nat.mul_mod, Nat.mul_mod (a ^ v * a ^ v) a n, Nat.mod_mul_mod, ← Nat.mul_mod]
  | false :: l, v => by
    simp only [pmL, valL]
    rw [← pmL_eq n a l]
    congr 1
    rw [Nat.two_mul, Nat.pow_add, ← Nat.mul_mod]
theorem valL_bits : ∀ f e l, e < 2 ^ f → valL (bitsL f e l) 0 = valL l e
  | 0, e, l, h => by
    have : e = 0 := by simp at h; omega
    subst this; rfl
  | f + 1, e, l, h => by
    rw [bitsL, valL_bits f (e / 2) _ (by rw [Nat.pow_succ] at h; omega)]
    cases hb : Nat.beq (e % 2) 1 with
    | true => have := Nat.eq_of_beq_eq_true hb; simp only [valL]; congr 1; omega
    | false => have := Nat.ne_of_beq_eq_false hb; simp only [valL]; congr 1; omega
/-- a^e modulo n, e below 2^f. -/
def pm (n a f e : Nat) : Nat := pmL n a (bitsL f e []) (1 % n)
theorem pm_eq {n a f e : Nat} (h : e < 2 ^ f) : pm n a f e = a ^ e % n := by
  unfold pm
  rw [show 1 % n = a ^ 0 % n by rw [Nat.pow_zero], pmL_eq, valL_bits f e [] h]
  rfl
/-! ## a test -/
theorem pow_gcd {n x : Nat} (hn : 1 < n) : ∀ a b, x ^ a % n = 1 → x ^ b % n = 1 → x ^ (Nat.gcd a b) % n = 1 := by
  intro a b
  induction a, b using Nat.gcd.induction with
  | H0 b => intro _ h; rwa [Nat.gcd_zero_left]
  | H1 a b ha ih =>
    intro h1 h2
    rw [Nat.gcd_rec]
    refine ih ?_ h1
    have e : x ^ (a * (b / a) + b % a) % n = x ^ (b % a) % n := by
      rw [Nat.pow_add, Nat.pow_mul, Nat.mul_mod, Nat.pow_mod, h1, Nat.one_pow, Nat.mod_eq_of_lt hn, Nat.one_mul, Nat.mod_mod]
    rw [Nat.div_add_mod] at e
    rw [← e]; exact h2
theorem has_pr (n : Nat) : 1 < n → ∃ d, Pr d ∧ d ∣ n := by
  induction n using Nat.strongRecOn with
  | ind n ih =>
    intro hn
    by_cases h : ∃ d, d ∣ n ∧ d ≠ 1 ∧ d ≠ n
    · obtain ⟨d, hd, h1, h2⟩ := h
      have hle := Nat.le_of_dvd (by omega) hd
      have h0 : d ≠ 0 := fun e => by subst e; have := Nat.eq_zero_of_zero_dvd hd; omega
      obtain ⟨e, he, hed⟩ := ih d (by omega) (by omega)
      exact ⟨e, he, Nat.dvd_trans hed hd⟩
    · refine ⟨n, ⟨hn, fun d hd => ?_⟩, ⟨1, (Nat.mul_one n).symm⟩⟩
      by_cases h1 : d = 1
      · exact .inl h1
      · by_cases h2 : d = n
        · exact .inr h2
        · exact absurd ⟨d, hd, h1, h2⟩ h
theorem small_pr {n : Nat} (hn : 1 < n) (h : ∀ d, Pr d → d ∣ n → n < d * d) : Pr n := by
  refine ⟨hn, fun d hd => ?_⟩
  by_cases h1 : d = 1
  · exact .inl h1
  by_cases h2 : d = n
  · exact .inr h2
  exfalso
  obtain ⟨e, rfl⟩ := hd
  have hd0 : d ≠ 0 := fun e0 => by subst e0; simp at hn
  have he0 : e ≠ 0 := fun e0 => by subst e0; simp at hn
  have he1 : e ≠ 1 := fun e0 => by subst e0; simp at h2
  have key : ∀ a b, a ≤ b → 1 < a → a * b = d * e → False := fun a b hab ha hm => by
    obtain ⟨q, hq, hqa⟩ := has_pr a ha
    have h3 := h q hq (Nat.dvd_trans hqa ⟨b, hm.symm⟩)
    have h4 := Nat.le_of_dvd (by omega) hqa
    have h5 : q * q ≤ a * b := Nat.mul_le_mul h4 (by omega)
    omega
  rcases Nat.le_total d e with hle | hle
  · exact key d e hle (by omega) rfl
  · exact key e d hle (by omega) (Nat.mul_comm _ _)
theorem poc_one {n q a d : Nat} (hn : 1 < n) (hq : Pr q) (hqn : q ∣ n - 1) (h1 : a ^ (n - 1) % n = 1) (h2 : Nat.gcd (a ^ ((n - 1) / q) % n + (n - 1)) n = 1) (hd : Pr d) (hdn : d ∣ n) : q ∣ d - 1 := by
  by_cases hqd : q ∣ d - 1
  · exact hqd
  exfalso
  have hd1 : 1 % d = 1 := Nat.mod_eq_of_lt hd.two
  have hx : (a ^ ((n - 1) / q)) ^ q % d = 1 := by
    rw [← Nat.pow_mul, Nat.div_mul_cancel hqn, ← Nat.mod_mod_of_dvd _ hdn, h1, hd1]
  generalize hxe : a ^ ((n - 1) / q) = x at *
  have hnd : ¬d ∣ x := fun h => by
    obtain ⟨m, rfl⟩ : ∃ m, q = m + 1 := ⟨q - 1, by have := hq.pos; omega⟩
    have : x ^ (m + 1) % d = 0 := Nat.mod_eq_zero_of_dvd (Nat.dvd_trans h ⟨x ^ m, by rw [Nat.pow_succ, Nat.mul_comm]⟩)
    omega
  have h4 := pow_gcd hd.two q (d - 1) hx (hd.unit hnd)
  have h5 : Nat.gcd q (d - 1) = 1 := hq.co hqd
  rw [h5, Nat.pow_one] at h4
  have h6 : x % n % d = 1 := by rw [Nat.mod_mod_of_dvd _ hdn]; exact h4
  have h7 : d ∣ x % n + (n - 1) := by
    have h8 := Nat.div_add_mod (x % n) d
    obtain ⟨c, hc⟩ := hdn
    refine ⟨x % n / d + c, ?_⟩
    rw [Nat.mul_add, ← hc]
    omega
  have h9 := Nat.dvd_gcd h7 hdn
  rw [h2] at h9
  have := Nat.le_of_dvd (by omega) h9
  have := hd.two
  omega
def prodL : List Nat → Nat
  | [] => 1
  | q :: l => q * prodL l
def coL : List Nat → Bool
  | [] => true
  | q :: l => Nat.beq (Nat.gcd q (prodL l)) 1 && coL l
theorem prod_dvd {m : Nat} : ∀ l : List Nat, coL l = true → (∀ q ∈ l, q ∣ m) → prodL l ∣ m
  | [], _, _ => ⟨m, (Nat.one_mul m).symm⟩
  | q :: l, h, hl => by
    simp only [coL, Bool.and_eq_true] at h
    exact Nat.Coprime.mul_dvd_of_dvd_of_dvd (Nat.eq_of_beq_eq_true h.1) (hl q (by simp)) (prod_dvd l h.2 fun q hq => hl q (by simp [hq]))
/-- The test: of all of l it is known that they're prime. -/
def pocB (n a f : Nat) (l : List Nat) : Bool :=
  Nat.blt 1 n && (Nat.blt n (2 ^ f) && (Nat.beq (pm n a f (n - 1)) 1 && (coL l && (Nat.blt n (prodL l * prodL l) && l.all fun q => Nat.beq ((n - 1) % q) 0 && Nat.beq (Nat.gcd (pm n a f ((n - 1) / q) + (n - 1)) n) 1))))
theorem poc {n a f : Nat} {l : List Nat} (hl : ∀ q ∈ l, Pr q) (h : pocB n a f l = true) : Pr n := by
  unfold pocB at h
  simp only [Bool.and_eq_true, List.all_eq_true] at h
  obtain ⟨h1, h2, h3, h4, h5, h6⟩ := h
  have h1 : 1 < n := Nat.le_of_ble_eq_true h1
  have h2 : n < 2 ^ f := Nat.le_of_ble_eq_true h2
  have h3 := Nat.eq_of_beq_eq_true h3
  rw [pm_eq (by omega)] at h3
  have h5 : n < prodL l * prodL l := Nat.le_of_ble_eq_true h5
  refine small_pr h1 fun d hd hdn => ?_
  have h7 : prodL l ∣ d - 1 := prod_dvd l h4 fun q hq => by
    obtain ⟨h8, h9⟩ := h6 q hq
    have h9 := Nat.eq_of_beq_eq_true h9
    rw [pm_eq (Nat.lt_of_le_of_lt (Nat.div_le_self _ _) (by omega))] at h9
    exact poc_one h1 (hl q hq) (Nat.dvd_of_mod_eq_zero (Nat.eq_of_beq_eq_true h8)) h3 h9 hd hdn
  have h8 := Nat.le_of_dvd (by have := hd.two; omega) h7
  have h9 : prodL l * prodL l ≤ d * d := Nat.mul_le_mul (by omega) (by omega)
  omega
/-- A small one: by all that could divide it. -/
def trialB (n : Nat) : Nat → Bool
  | 0 => true
  | k + 1 => (Nat.ble (k + 1) 1 || !Nat.beq (n % (k + 1)) 0) && trialB n k
theorem trialB_spec {n d : Nat} (h1 : 1 < d) : ∀ k, trialB n k = true → d ≤ k → ¬d ∣ n
  | 0, _, hk => by omega
  | k + 1, h, hk => by
    simp only [trialB, Bool.and_eq_true, Bool.or_eq_true] at h
    by_cases e : d = k + 1
    · subst e
      intro hd
      rcases h.1 with h | h
      · have := Nat.le_of_ble_eq_true h; omega
      · rw [Nat.mod_eq_zero_of_dvd hd] at h; cases h
    · exact trialB_spec h1 k h.2 (by omega)
theorem trial {n k : Nat} (h : (Nat.blt 1 n && (Nat.blt n ((k + 1) * (k + 1)) && trialB n k)) = true) : Pr n := by
  simp only [Bool.and_eq_true] at h
  obtain ⟨h1, h2, h3⟩ := h
  have h2 : n < (k + 1) * (k + 1) := Nat.le_of_ble_eq_true h2
  refine small_pr (Nat.le_of_ble_eq_true h1) fun d hd hdn => ?_
  by_cases hk : d ≤ k
  · exact absurd hdn (trialB_spec hd.two k h3 hk)
  · exact Nat.lt_of_lt_of_le h2 (Nat.mul_le_mul (by omega) (by omega))
end Go.Proofs.YtcedljbapgmdmaaGreat.Alg

/- DERIVED. The field's number and the group's are prime. -/
set_option linter.all false
namespace Go.Proofs.YtcedljbapgmdmaaGreat.Alg
theorem pr_421987 : Pr 421987 := trial (k := 649) (by decide +kernel)
theorem pr_13090036741 : Pr 13090036741 := poc (a := 2) (f := 34) (l := [421987]) (by simp only [List.mem_cons, List.not_mem_nil, or_false, forall_eq_or_imp, forall_eq]; exact pr_421987) (by decide +kernel)
theorem pr_755057 : Pr 755057 := trial (k := 868) (by decide +kernel)
theorem pr_3819663927398918131021 : Pr 3819663927398918131021 := poc (a := 2) (f := 72) (l := [13090036741, 755057]) (by simp only [List.mem_cons, List.not_mem_nil, or_false, forall_eq_or_imp, forall_eq]; exact ⟨pr_13090036741, pr_755057⟩) (by decide +kernel)
theorem pr_1125266252156850182658904441386709967 : Pr 1125266252156850182658904441386709967 := poc (a := 2) (f := 120) (l := [3819663927398918131021]) (by simp only [List.mem_cons, List.not_mem_nil, or_false, forall_eq_or_imp, forall_eq]; exact pr_3819663927398918131021) (by decide +kernel)
theorem pr_15778400344354997994418419698270088123916926905054652752758194827714659 : Pr 15778400344354997994418419698270088123916926905054652752758194827714659 := poc (a := 2) (f := 234) (l := [1125266252156850182658904441386709967]) (by simp only [List.mem_cons, List.not_mem_nil, or_false, forall_eq_or_imp, forall_eq]; exact pr_1125266252156850182658904441386709967) (by decide +kernel)
theorem pr_p : Pr 4002409555221667393417789825735904156556882819939007885332058136124031650490837864442687629129015664037894272559787 := poc (a := 2) (f := 381) (l := [15778400344354997994418419698270088123916926905054652752758194827714659]) (by simp only [List.mem_cons, List.not_mem_nil, or_false, forall_eq_or_imp, forall_eq]; exact pr_15778400344354997994418419698270088123916926905054652752758194827714659) (by decide +kernel)
theorem pr_2653753 : Pr 2653753 := trial (k := 1629) (by decide +kernel)
theorem pr_63690073 : Pr 63690073 := poc (a := 2) (f := 26) (l := [2653753]) (by simp only [List.mem_cons, List.not_mem_nil, or_false, forall_eq_or_imp, forall_eq]; exact pr_2653753) (by decide +kernel)
theorem pr_254760293 : Pr 254760293 := poc (a := 2) (f := 28) (l := [63690073]) (by simp only [List.mem_cons, List.not_mem_nil, or_false, forall_eq_or_imp, forall_eq]; exact pr_63690073) (by decide +kernel)
theorem pr_52437899 : Pr 52437899 := trial (k := 7241) (by decide +kernel)
theorem pr_2529403 : Pr 2529403 := trial (k := 1590) (by decide +kernel)
theorem pr_2508409 : Pr 2508409 := trial (k := 1583) (by decide +kernel)
theorem pr_906349 : Pr 906349 := trial (k := 952) (by decide +kernel)
theorem pr_859267 : Pr 859267 := trial (k := 926) (by decide +kernel)
theorem pr_r : Pr 52435875175126190479447740508185965837690552500527637822603658699938581184513 := poc (a := 2) (f := 255) (l := [254760293, 52437899, 2529403, 2508409, 906349, 859267]) (by simp only [List.mem_cons, List.not_mem_nil, or_false, forall_eq_or_imp, forall_eq]; exact ⟨pr_254760293, pr_52437899, pr_2529403, pr_2508409, pr_906349, pr_859267⟩) (by decide +kernel)
end Go.Proofs.YtcedljbapgmdmaaGreat.Alg

/- DERIVED. Fields; numbers modulo a prime. -/
set_option linter.all false
namespace Go.Proofs.YtcedljbapgmdmaaGreat.Alg

/-- A field, by its plain laws. -/
class Fld (K : Type) extends CR K where
  one_ne : (1 : K) ≠ 0
  inv : ∀ a : K, a ≠ 0 → ∃ b : K, a * b = 1

section
variable {K : Type} [Fld K]
open CR
theorem mul_left_cancel {a b c : K} (ha : a ≠ 0) (h : a * b = a * c) : b = c := by
  obtain ⟨i, hi⟩ := Fld.inv a ha
  have : i * (a * b) = i * (a * c) := by rw [h]
  rwa [← mul_assoc, ← mul_assoc, mul_comm i a, hi, one_mul, one_mul] at this
theorem mul_right_cancel {a b c : K} (ha : a ≠ 0) (h : b * a = c * a) : b = c := mul_left_cancel ha (by rw [mul_comm a b, h, mul_comm])
theorem mul_eq_zero {a b : K} (h : a * b = 0) : a = 0 ∨ b = 0 := by
  by_cases ha : a = 0
  · exact .inl ha
  · exact .inr (mul_left_cancel ha (by rw [h, mul_zero]))
theorem mul_ne {a b : K} (ha : a ≠ 0) (hb : b ≠ 0) : a * b ≠ 0 := fun h => by
  rcases mul_eq_zero h with h | h
  · exact ha h
  · exact hb h
theorem eq_neg_of {a b : K} (h : a + b = 0) : a = -b := neg_unique (by rw [add_comm]; exact h)
theorem sq_eq {a b : K} (h : a * a = b * b) : a = b ∨ a = -b := by
  have e : (a - b) * (a + b) = 0 := by
    have := eq_of (fun i => [a, b].getD i 0) 2 ((.v 0 - .v 1) * (.v 0 + .v 1)) (.v 0 * .v 0 - .v 1 * .v 1) (by decide +kernel)
    exact this.trans (sub_of_eq h)
  rcases mul_eq_zero e with e | e
  · exact .inl (eq_of_sub e)
  · exact .inr (eq_neg_of e)
end

/-! ## numbers modulo a prime -/
class IsPr (n : Nat) : Prop where
  pr : Pr n
structure Zm (n : Nat) where
  v : Nat
  lt : v < n
theorem Zm.ext {n : Nat} : ∀ {a b : Zm n}, a.v = b.v → a = b
  | ⟨_, _⟩, ⟨_, _⟩, rfl => rfl
section
variable {n : Nat} [hn : IsPr n]
def zr (a : Nat) : Zm n := ⟨a % n, Nat.mod_lt _ hn.pr.pos⟩
theorem zr_eq {a b : Nat} : (zr a : Zm n) = zr b ↔ a % n = b % n := ⟨fun h => congrArg Zm.v h, fun h => Zm.ext h⟩
theorem zr_v (a : Zm n) : zr a.v = a := Zm.ext (Nat.mod_eq_of_lt a.lt)
instance : Add (Zm n) := ⟨fun a b => zr (a.v + b.v)⟩
instance : Mul (Zm n) := ⟨fun a b => zr (a.v * b.v)⟩
instance : Neg (Zm n) := ⟨fun a => zr (n - a.v)⟩
instance : Sub (Zm n) := ⟨fun a b => zr (a.v + (n - b.v))⟩
instance : Zero (Zm n) := ⟨zr 0⟩
instance : One (Zm n) := ⟨zr 1⟩
theorem zr_add (a b : Nat) : (zr a + zr b : Zm n) = zr (a + b) := Zm.ext (by show (a % n + b % n) % n = _; rw [← Nat.add_mod]; rfl)
theorem zr_mul (a b : Nat) : (zr a * zr b : Zm n) = zr (a * b) := Zm.ext (by show (a % n * (b % n)) % n = _; rw [← Nat.mul_mod]; rfl)
theorem zr_neg (a : Nat) : (-zr a : Zm n) = zr (n - a % n) := rfl
theorem zr_sub (a b : Nat) : (zr a - zr b : Zm n) = zr (a + (n - b % n)) := Zm.ext (by show (a % n + (n - b % n)) % n = _; rw [Nat.add_mod, Nat.mod_mod, ← Nat.add_mod]; rfl)
theorem zr_zero : (zr 0 : Zm n) = 0 := rfl
theorem zr_one : (zr 1 : Zm n) = 1 := rfl
theorem zr_ind {p : Zm n → Prop} (h : ∀ a, p (zr a)) (a : Zm n) : p a := zr_v a ▸ h a.v
instance : CR (Zm n) where
  sub_def a b := by
    revert a b; refine zr_ind fun a => zr_ind fun b => ?_
    rw [zr_sub, zr_neg, zr_add]
  add_assoc a b c := by
    revert a b c; refine zr_ind fun a => zr_ind fun b => zr_ind fun c => ?_
    rw [zr_add, zr_add, zr_add, zr_add, Nat.add_assoc]
  add_comm a b := by
    revert a b; refine zr_ind fun a => zr_ind fun b => ?_
    rw [zr_add, zr_add, Nat.add_comm]
  add_zero a := by
    revert a; refine zr_ind fun a => ?_
    rw [← zr_zero, zr_add, Nat.add_zero]
  add_neg a := by
    revert a; refine zr_ind fun a => ?_
    rw [zr_neg, zr_add, ← zr_zero, zr_eq]
    have h := Nat.mod_lt a hn.pr.pos
    have h2 := Nat.div_add_mod a n
    rw [show a + (n - a % n) = n * (a / n + 1) by rw [Nat.mul_add, Nat.mul_one]; omega, Nat.mul_mod_right, Nat.zero_mod]
  mul_assoc a b c := by
    revert a b c; refine zr_ind fun a => zr_ind fun b => zr_ind fun c => ?_
    rw [zr_mul, zr_mul, zr_mul, zr_mul, Nat.mul_assoc]
  mul_comm a b := by
    revert a b; refine zr_ind fun a => zr_ind fun b => ?_
    rw [zr_mul, zr_mul, Nat.mul_comm]
  mul_one a := by
    revert a; refine zr_ind fun a => ?_
    rw [← zr_one, zr_mul, Nat.mul_one]
  mul_add a b c := by
    revert a b c; refine zr_ind fun a => zr_ind fun b => zr_ind fun c => ?_
    rw [zr_add, zr_mul, zr_mul, zr_mul, zr_add, Nat.mul_add]
theorem zr_pow (a : Nat) : ∀ k, (pw (zr a) k : Zm n) = zr (a ^ k)
  | 0 => rfl
  | k + 1 => by rw [pw, zr_pow a k, zr_mul, Nat.pow_succ]
/-- Fermat's inverse. -/
theorem zm_inv (a : Zm n) (ha : a ≠ 0) : a * pw a (n - 2) = 1 := by
  revert ha
  revert a
  refine zr_ind fun a ha => ?_
  have hd : ¬n ∣ a := fun h => ha (by rw [← zr_zero, zr_eq, Nat.mod_eq_zero_of_dvd h, Nat.zero_mod])
  have h2 := hn.pr.two
  rw [zr_pow, zr_mul, ← zr_one, zr_eq, ← Nat.pow_succ', show (n - 2).succ = n - 1 by omega, hn.pr.unit hd, Nat.mod_eq_of_lt h2]
instance : Fld (Zm n) where
  one_ne h := by
    have h2 := hn.pr.two
    rw [← zr_one, ← zr_zero, zr_eq, Nat.mod_eq_of_lt h2, Nat.zero_mod] at h
    cases h
  inv a ha := ⟨_, zm_inv a ha⟩
instance : DecidableEq (Zm n) := fun a b => if h : a.v = b.v then isTrue (Zm.ext h) else isFalse fun e => h (e ▸ rfl)
end
end Go.Proofs.YtcedljbapgmdmaaGreat.Alg

/- DERIVED. The identities of the curve, on commutative rings. -/
set_option linter.all false
namespace Go.Proofs.YtcedljbapgmdmaaGreat.Alg
open CR E
variable {K : Type} [CR K]
theorem ec_on (x y l d : K) (h0 : (l * (y + (y + (l * d)))) = (((x * x) + (x * (x + d))) + ((x + d) * (x + d)))) : ((((l * (x - (((l * l) - x) - (x + d)))) - y) * ((l * (x - (((l * l) - x) - (x + d)))) - y)) - (((((l * l) - x) - (x + d)) * (((l * l) - x) - (x + d))) * (((l * l) - x) - (x + d)))) = ((y * y) - ((x * x) * x)) := by
  exact eq_of_sub (zero_of_rel (fun i => [x, y, l, d].getD i 0) 4 (((((v 2 * (v 0 - (((v 2 * v 2) - v 0) - (v 0 + v 3)))) - v 1) * ((v 2 * (v 0 - (((v 2 * v 2) - v 0) - (v 0 + v 3)))) - v 1)) - (((((v 2 * v 2) - v 0) - (v 0 + v 3)) * (((v 2 * v 2) - v 0) - (v 0 + v 3))) * (((v 2 * v 2) - v 0) - (v 0 + v 3)))) - ((v 1 * v 1) - ((v 0 * v 0) * v 0))) [(((c (-1) * v 3) + ((v 2 * v 2) + (c (-3) * v 0))), (v 2 * (v 1 + (v 1 + (v 2 * v 3)))) - (((v 0 * v 0) + (v 0 * (v 0 + v 3))) + ((v 0 + v 3) * (v 0 + v 3))))] (all_cons (sub_of_eq h0) all_nil) (by decide +kernel))

theorem ec_back1 (x y l d : K)  : ((-l) * ((x + d) - (((l * l) - x) - (x + d)))) = ((-(y + (l * d))) - ((l * (x - (((l * l) - x) - (x + d)))) - y)) := by
  exact eq_of (fun i => [x, y, l, d].getD i 0) 4 (((-v 2) * ((v 0 + v 3) - (((v 2 * v 2) - v 0) - (v 0 + v 3))))) (((-(v 1 + (v 2 * v 3))) - ((v 2 * (v 0 - (((v 2 * v 2) - v 0) - (v 0 + v 3)))) - v 1))) (by decide +kernel)

theorem ec_back2 (x y l d : K) (h0 : (l * (y + (y + (l * d)))) = (((x * x) + (x * (x + d))) + ((x + d) * (x + d)))) : ((-l) * (((l * (x - (((l * l) - x) - (x + d)))) - y) + (-(y + (l * d))))) = ((((((l * l) - x) - (x + d)) * (((l * l) - x) - (x + d))) + ((((l * l) - x) - (x + d)) * (x + d))) + ((x + d) * (x + d))) := by
  exact eq_of_sub (zero_of_rel (fun i => [x, y, l, d].getD i 0) 4 (((-v 2) * (((v 2 * (v 0 - (((v 2 * v 2) - v 0) - (v 0 + v 3)))) - v 1) + (-(v 1 + (v 2 * v 3))))) - ((((((v 2 * v 2) - v 0) - (v 0 + v 3)) * (((v 2 * v 2) - v 0) - (v 0 + v 3))) + ((((v 2 * v 2) - v 0) - (v 0 + v 3)) * (v 0 + v 3))) + ((v 0 + v 3) * (v 0 + v 3)))) [(c 1, (v 2 * (v 1 + (v 1 + (v 2 * v 3)))) - (((v 0 * v 0) + (v 0 * (v 0 + v 3))) + ((v 0 + v 3) * (v 0 + v 3))))] (all_cons (sub_of_eq h0) all_nil) (by decide +kernel))

theorem ec_xAB (x y l m d e n k : K) (h0 : (l * ((y - (l * d)) + y)) = ((((x - d) * (x - d)) + ((x - d) * x)) + (x * x))) (h1 : (m * (y + (y + (m * e)))) = (((x * x) + (x * (x + e))) + ((x + e) * (x + e)))) (h2 : (n * ((x + e) - (((l * l) - (x - d)) - x))) = ((y + (m * e)) - ((l * ((x - d) - (((l * l) - (x - d)) - x))) - (y - (l * d))))) (h3 : (k * ((((m * m) - x) - (x + e)) - (x - d))) = (((m * (x - (((m * m) - x) - (x + e)))) - y) - (y - (l * d)))) : (((((n * n) - (((l * l) - (x - d)) - x)) - (x + e)) - (((k * k) - (x - d)) - (((m * m) - x) - (x + e)))) * ((((x + e) - (((l * l) - (x - d)) - x)) * ((x + e) - (((l * l) - (x - d)) - x))) * (((((m * m) - x) - (x + e)) - (x - d)) * ((((m * m) - x) - (x + e)) - (x - d))))) = 0 := by
  exact eq_of_sub (zero_of_rel (fun i => [x, y, l, m, d, e, n, k].getD i 0) 8 ((((((v 6 * v 6) - (((v 2 * v 2) - (v 0 - v 4)) - v 0)) - (v 0 + v 5)) - (((v 7 * v 7) - (v 0 - v 4)) - (((v 3 * v 3) - v 0) - (v 0 + v 5)))) * ((((v 0 + v 5) - (((v 2 * v 2) - (v 0 - v 4)) - v 0)) * ((v 0 + v 5) - (((v 2 * v 2) - (v 0 - v 4)) - v 0))) * (((((v 3 * v 3) - v 0) - (v 0 + v 5)) - (v 0 - v 4)) * ((((v 3 * v 3) - v 0) - (v 0 + v 5)) - (v 0 - v 4))))) - c 0) [(((((((c 4 * v 5) + ((c 4 * v 4) + (((c (-6) * v 3) * v 3) + (((c 2 * v 2) * v 2) + (c 12 * v 0))))) * v 5) + ((((c (-6) * v 4) + (((c (-4) * v 3) * v 3) + (((c (-6) * v 2) * v 2) + (c 30 * v 0)))) * v 4) + (((((((c 2 * v 3) * v 3) + (((c (-2) * v 2) * v 2) + (c (-6) * v 0))) * v 3) + (((((c 2 * v 2) * v 2) + (c (-6) * v 0)) * v 2) + (c (-8) * v 1))) * v 3) + ((((c 12 * v 0) * v 2) + (c 4 * v 1)) * v 2)))) * v 5) + ((((((c 2 * v 4) + (((c 3 * v 3) * v 3) + (((c 3 * v 2) * v 2) + (c (-18) * v 0)))) * v 4) + (((((((c (-2) * v 2) * v 3) + (((c 3 * v 2) * v 2) + (c (-15) * v 0))) * v 3) + ((c 6 * v 0) * v 2)) * v 3) + ((((((v 2 * v 2) + (c (-15) * v 0)) * v 2) + (c (-4) * v 1)) * v 2) + ((c 48 * v 0) * v 0)))) * v 4) + (((((((((((c (-2) * v 2) * v 2) + (c 6 * v 0)) * v 2) + (c 4 * v 1)) * v 3) + (((((c (-6) * v 0) * v 2) + (c (-2) * v 1)) * v 2) + ((c 9 * v 0) * v 0))) * v 3) + ((((((c 6 * v 0) * v 2) * v 2) + ((c (-18) * v 0) * v 0)) * v 2) + ((c (-12) * v 0) * v 1))) * v 3) + (((((((c (-2) * v 1) * v 2) + ((c 15 * v 0) * v 0)) * v 2) + ((c 12 * v 0) * v 1)) * v 2) + (((c (-18) * v 0) * v 0) * v 0))))), (v 2 * ((v 1 - (v 2 * v 4)) + v 1)) - ((((v 0 - v 4) * (v 0 - v 4)) + ((v 0 - v 4) * v 0)) + (v 0 * v 0))), (((((((c 2 * v 5) + ((c (-6) * v 4) + (((c (-3) * v 3) * v 3) + (((c (-3) * v 2) * v 2) + (c 18 * v 0))))) * v 5) + (((((c 6 * v 3) * v 3) + (c (-18) * v 0)) * v 4) + ((((((v 3 * v 3) + (((c 3 * v 2) * v 2) + (c (-15) * v 0))) * v 3) + (((((c (-2) * v 2) * v 2) + (c 6 * v 0)) * v 2) + (c (-4) * v 1))) * v 3) + (((((c (-15) * v 0) * v 2) + (c 8 * v 1)) * v 2) + ((c 36 * v 0) * v 0))))) * v 5) + (((((((((c 2 * v 2) * v 3) + (c 6 * v 0)) * v 3) + (((c (-6) * v 0) * v 2) + (c 4 * v 1))) * v 3) + ((c (-12) * v 0) * v 0)) * v 4) + (((((((((((c 2 * v 2) * v 2) + (c (-6) * v 0)) * v 2) + (c 2 * v 1)) * v 3) + (((((c 6 * v 0) * v 2) + (c (-4) * v 1)) * v 2) + ((c (-9) * v 0) * v 0))) * v 3) + (((((((c (-6) * v 0) * v 2) + (c 2 * v 1)) * v 2) + ((c 18 * v 0) * v 0)) * v 2) + ((c (-12) * v 0) * v 1))) * v 3) + ((((((c (-15) * v 0) * v 0) * v 2) + ((c 12 * v 0) * v 1)) * v 2) + (((c 18 * v 0) * v 0) * v 0))))), (v 3 * (v 1 + (v 1 + (v 3 * v 5)))) - (((v 0 * v 0) + (v 0 * (v 0 + v 5))) + ((v 0 + v 5) * (v 0 + v 5)))), ((((v 6 * ((v 0 + v 5) - (((v 2 * v 2) - (v 0 - v 4)) - v 0))) + ((v 1 + (v 3 * v 5)) - ((v 2 * ((v 0 - v 4) - (((v 2 * v 2) - (v 0 - v 4)) - v 0))) - (v 1 - (v 2 * v 4))))) * (((((v 3 * v 3) - v 0) - (v 0 + v 5)) - (v 0 - v 4)) * ((((v 3 * v 3) - v 0) - (v 0 + v 5)) - (v 0 - v 4)))), (v 6 * ((v 0 + v 5) - (((v 2 * v 2) - (v 0 - v 4)) - v 0))) - ((v 1 + (v 3 * v 5)) - ((v 2 * ((v 0 - v 4) - (((v 2 * v 2) - (v 0 - v 4)) - v 0))) - (v 1 - (v 2 * v 4))))), (((-((v 7 * ((((v 3 * v 3) - v 0) - (v 0 + v 5)) - (v 0 - v 4))) + (((v 3 * (v 0 - (((v 3 * v 3) - v 0) - (v 0 + v 5)))) - v 1) - (v 1 - (v 2 * v 4))))) * (((v 0 + v 5) - (((v 2 * v 2) - (v 0 - v 4)) - v 0)) * ((v 0 + v 5) - (((v 2 * v 2) - (v 0 - v 4)) - v 0)))), (v 7 * ((((v 3 * v 3) - v 0) - (v 0 + v 5)) - (v 0 - v 4))) - (((v 3 * (v 0 - (((v 3 * v 3) - v 0) - (v 0 + v 5)))) - v 1) - (v 1 - (v 2 * v 4))))] (all_cons (sub_of_eq h0) (all_cons (sub_of_eq h1) (all_cons (sub_of_eq h2) (all_cons (sub_of_eq h3) all_nil)))) (by decide +kernel))

theorem ec_yAB (x y l m d e n k : K) (h0 : (l * ((y - (l * d)) + y)) = ((((x - d) * (x - d)) + ((x - d) * x)) + (x * x))) (h1 : (m * (y + (y + (m * e)))) = (((x * x) + (x * (x + e))) + ((x + e) * (x + e)))) (h2 : (n * ((x + e) - (((l * l) - (x - d)) - x))) = ((y + (m * e)) - ((l * ((x - d) - (((l * l) - (x - d)) - x))) - (y - (l * d))))) (h3 : (k * ((((m * m) - x) - (x + e)) - (x - d))) = (((m * (x - (((m * m) - x) - (x + e)))) - y) - (y - (l * d)))) : ((((n * ((((l * l) - (x - d)) - x) - (((n * n) - (((l * l) - (x - d)) - x)) - (x + e)))) - ((l * ((x - d) - (((l * l) - (x - d)) - x))) - (y - (l * d)))) - ((k * ((x - d) - (((n * n) - (((l * l) - (x - d)) - x)) - (x + e)))) - (y - (l * d)))) * (((((x + e) - (((l * l) - (x - d)) - x)) * ((x + e) - (((l * l) - (x - d)) - x))) * ((x + e) - (((l * l) - (x - d)) - x))) * ((((m * m) - x) - (x + e)) - (x - d)))) = 0 := by
  exact eq_of_sub (zero_of_rel (fun i => [x, y, l, m, d, e, n, k].getD i 0) 8 (((((v 6 * ((((v 2 * v 2) - (v 0 - v 4)) - v 0) - (((v 6 * v 6) - (((v 2 * v 2) - (v 0 - v 4)) - v 0)) - (v 0 + v 5)))) - ((v 2 * ((v 0 - v 4) - (((v 2 * v 2) - (v 0 - v 4)) - v 0))) - (v 1 - (v 2 * v 4)))) - ((v 7 * ((v 0 - v 4) - (((v 6 * v 6) - (((v 2 * v 2) - (v 0 - v 4)) - v 0)) - (v 0 + v 5)))) - (v 1 - (v 2 * v 4)))) * (((((v 0 + v 5) - (((v 2 * v 2) - (v 0 - v 4)) - v 0)) * ((v 0 + v 5) - (((v 2 * v 2) - (v 0 - v 4)) - v 0))) * ((v 0 + v 5) - (((v 2 * v 2) - (v 0 - v 4)) - v 0))) * ((((v 3 * v 3) - v 0) - (v 0 + v 5)) - (v 0 - v 4)))) - c 0) [((((((((c (-4) * v 2) * v 5) + (((c 4 * v 3) * v 4) + (((((c 6 * v 2) * v 3) + (((c 2 * v 2) * v 2) + (c (-6) * v 0))) * v 3) + ((c (-18) * v 0) * v 2)))) * v 5) + ((((((c (-2) * v 3) + (c 4 * v 2)) * v 4) + ((((((c (-1) * v 3) + (c 3 * v 2)) * v 3) + ((v 2 * v 2) + (c 12 * v 0))) * v 3) + (((((c 7 * v 2) * v 2) + (c (-18) * v 0)) * v 2) + (c 4 * v 1)))) * v 4) + (((((((((c (-2) * v 2) * v 3) + (((c (-1) * v 2) * v 2) + (c 3 * v 0))) * v 3) + ((((c 3 * v 2) * v 2) + (c 3 * v 0)) * v 2)) * v 3) + (((((((c 3 * v 2) * v 2) + (c (-3) * v 0)) * v 2) + (c 12 * v 1)) * v 2) + ((c (-12) * v 0) * v 0))) * v 3) + (((((((((c 3 * v 2) * v 2) + (c (-15) * v 0)) * v 2) + (c 2 * v 1)) * v 2) + ((c (-12) * v 0) * v 0)) * v 2) + ((c (-6) * v 0) * v 1))))) * v 5) + (((((((c (-2) * v 2) * v 4) + ((((c (-2) * v 2) * v 3) * v 3) + (((((c (-4) * v 2) * v 2) + (c 18 * v 0)) * v 2) + (c (-2) * v 1)))) * v 4) + ((((((((c (-4) * v 2) * v 2) + (c 12 * v 0)) * v 2) + (c (-2) * v 1)) * v 3) * v 3) + (((((((((c (-2) * v 2) * v 2) + (c 24 * v 0)) * v 2) + (c 2 * v 1)) * v 2) + ((c (-48) * v 0) * v 0)) * v 2) + ((c 12 * v 0) * v 1)))) * v 4) + ((((((((c (-4) * v 1) * v 2) * v 3) + (((((((((c (-2) * v 2) * v 2) + (c 12 * v 0)) * v 2) + (c (-2) * v 1)) * v 2) + ((c (-12) * v 0) * v 0)) * v 2) + ((c 6 * v 0) * v 1))) * v 3) + (((c 12 * v 0) * v 1) * v 2)) * v 3) + (((((((((((c 6 * v 0) * v 2) + (c 4 * v 1)) * v 2) + ((c (-30) * v 0) * v 0)) * v 2) + ((c (-6) * v 0) * v 1)) * v 2) + (((c 4 * v 1) * v 1) + (((c 18 * v 0) * v 0) * v 0))) * v 2) + (((c (-12) * v 0) * v 0) * v 1))))), (v 2 * ((v 1 - (v 2 * v 4)) + v 1)) - ((((v 0 - v 4) * (v 0 - v 4)) + ((v 0 - v 4) * v 0)) + (v 0 * v 0))), ((((((((c 2 * v 3) * v 5) + ((((c (-4) * v 3) + (c 2 * v 2)) * v 4) + (((((c (-2) * v 3) * v 3) + (((c (-2) * v 2) * v 2) + (c 12 * v 0))) * v 3) + (((((c 2 * v 2) * v 2) + (c (-6) * v 0)) * v 2) + (c 2 * v 1))))) * v 5) + (((((((v 3 + (c (-5) * v 2)) * v 3) + (((c (-3) * v 2) * v 2) + (c (-6) * v 0))) * v 3) + (((((c (-3) * v 2) * v 2) + (c 12 * v 0)) * v 2) + (c (-4) * v 1))) * v 4) + ((((((((v 2 * v 2) + (c (-3) * v 0)) * v 3) + (((((c (-5) * v 2) * v 2) + (c 15 * v 0)) * v 2) + (c (-6) * v 1))) * v 3) + ((((((c (-3) * v 2) * v 2) + (c 3 * v 0)) * v 2) * v 2) + ((c 12 * v 0) * v 0))) * v 3) + (((((((((c (-3) * v 2) * v 2) + (c 21 * v 0)) * v 2) + (c (-10) * v 1)) * v 2) + ((c (-24) * v 0) * v 0)) * v 2) + ((c 12 * v 0) * v 1))))) * v 5) + (((((((((((c 2 * v 2) * v 2) + (c (-6) * v 0)) * v 2) + (c 2 * v 1)) * v 3) + ((c (-4) * v 1) * v 2)) * v 3) + ((((((c (-6) * v 0) * v 2) * v 2) + ((c 12 * v 0) * v 0)) * v 2) + ((c (-6) * v 0) * v 1))) * v 4) + (((((((((((((c 2 * v 2) * v 2) + (c (-12) * v 0)) * v 2) + (c 6 * v 1)) * v 2) + ((c 12 * v 0) * v 0)) * v 2) + ((c (-6) * v 0) * v 1)) * v 3) + ((((((c (-4) * v 1) * v 2) * v 2) + ((c 12 * v 0) * v 1)) * v 2) + ((c (-4) * v 1) * v 1))) * v 3) + ((((((((((c (-6) * v 0) * v 2) * v 2) + ((c 30 * v 0) * v 0)) * v 2) + ((c (-18) * v 0) * v 1)) * v 2) + (((c (-18) * v 0) * v 0) * v 0)) * v 2) + (((c 12 * v 0) * v 0) * v 1))))), (v 3 * (v 1 + (v 1 + (v 3 * v 5)))) - (((v 0 * v 0) + (v 0 * (v 0 + v 5))) + ((v 0 + v 5) * (v 0 + v 5)))), (((((((((v 2 * v 2) - (v 0 - v 4)) - v 0) * (((v 0 + v 5) - (((v 2 * v 2) - (v 0 - v 4)) - v 0)) * ((v 0 + v 5) - (((v 2 * v 2) - (v 0 - v 4)) - v 0)))) - ((((v 6 * v 6) - (((v 2 * v 2) - (v 0 - v 4)) - v 0)) - (v 0 + v 5)) * (((v 0 + v 5) - (((v 2 * v 2) - (v 0 - v 4)) - v 0)) * ((v 0 + v 5) - (((v 2 * v 2) - (v 0 - v 4)) - v 0))))) - (((v 1 + (v 3 * v 5)) - ((v 2 * ((v 0 - v 4) - (((v 2 * v 2) - (v 0 - v 4)) - v 0))) - (v 1 - (v 2 * v 4)))) * ((v 6 * ((v 0 + v 5) - (((v 2 * v 2) - (v 0 - v 4)) - v 0))) + ((v 1 + (v 3 * v 5)) - ((v 2 * ((v 0 - v 4) - (((v 2 * v 2) - (v 0 - v 4)) - v 0))) - (v 1 - (v 2 * v 4))))))) * ((((v 3 * v 3) - v 0) - (v 0 + v 5)) - (v 0 - v 4))) + (((((v 3 * (v 0 - (((v 3 * v 3) - v 0) - (v 0 + v 5)))) - v 1) - (v 1 - (v 2 * v 4))) * ((v 6 * ((v 0 + v 5) - (((v 2 * v 2) - (v 0 - v 4)) - v 0))) + ((v 1 + (v 3 * v 5)) - ((v 2 * ((v 0 - v 4) - (((v 2 * v 2) - (v 0 - v 4)) - v 0))) - (v 1 - (v 2 * v 4)))))) * ((v 0 + v 5) - (((v 2 * v 2) - (v 0 - v 4)) - v 0)))), (v 6 * ((v 0 + v 5) - (((v 2 * v 2) - (v 0 - v 4)) - v 0))) - ((v 1 + (v 3 * v 5)) - ((v 2 * ((v 0 - v 4) - (((v 2 * v 2) - (v 0 - v 4)) - v 0))) - (v 1 - (v 2 * v 4))))), ((-((((v 0 - v 4) - (((v 6 * v 6) - (((v 2 * v 2) - (v 0 - v 4)) - v 0)) - (v 0 + v 5))) * (((v 0 + v 5) - (((v 2 * v 2) - (v 0 - v 4)) - v 0)) * ((v 0 + v 5) - (((v 2 * v 2) - (v 0 - v 4)) - v 0)))) * ((v 0 + v 5) - (((v 2 * v 2) - (v 0 - v 4)) - v 0)))), (v 7 * ((((v 3 * v 3) - v 0) - (v 0 + v 5)) - (v 0 - v 4))) - (((v 3 * (v 0 - (((v 3 * v 3) - v 0) - (v 0 + v 5)))) - v 1) - (v 1 - (v 2 * v 4))))] (all_cons (sub_of_eq h0) (all_cons (sub_of_eq h1) (all_cons (sub_of_eq h2) (all_cons (sub_of_eq h3) all_nil)))) (by decide +kernel))

theorem ec_xAD (x y l m d e n k : K) (h0 : (l * ((y - (l * d)) + y)) = ((((x - d) * (x - d)) + ((x - d) * x)) + (x * x))) (h1 : (m * (y + (y + (m * e)))) = (((x * x) + (x * (x + e))) + ((x + e) * (x + e)))) (h2 : (n * ((x + e) - (((l * l) - (x - d)) - x))) = ((y + (m * e)) - ((l * ((x - d) - (((l * l) - (x - d)) - x))) - (y - (l * d))))) (h3 : (k * ((y - (l * d)) + ((m * (x - (((m * m) - x) - (x + e)))) - y))) = ((((x - d) * (x - d)) + ((x - d) * (((m * m) - x) - (x + e)))) + ((((m * m) - x) - (x + e)) * (((m * m) - x) - (x + e))))) : (((((n * n) - (((l * l) - (x - d)) - x)) - (x + e)) - (((k * k) - (x - d)) - (((m * m) - x) - (x + e)))) * ((((x + e) - (((l * l) - (x - d)) - x)) * ((x + e) - (((l * l) - (x - d)) - x))) * (((y - (l * d)) + ((m * (x - (((m * m) - x) - (x + e)))) - y)) * ((y - (l * d)) + ((m * (x - (((m * m) - x) - (x + e)))) - y))))) = 0 := by
  exact eq_of_sub (zero_of_rel (fun i => [x, y, l, m, d, e, n, k].getD i 0) 8 ((((((v 6 * v 6) - (((v 2 * v 2) - (v 0 - v 4)) - v 0)) - (v 0 + v 5)) - (((v 7 * v 7) - (v 0 - v 4)) - (((v 3 * v 3) - v 0) - (v 0 + v 5)))) * ((((v 0 + v 5) - (((v 2 * v 2) - (v 0 - v 4)) - v 0)) * ((v 0 + v 5) - (((v 2 * v 2) - (v 0 - v 4)) - v 0))) * (((v 1 - (v 2 * v 4)) + ((v 3 * (v 0 - (((v 3 * v 3) - v 0) - (v 0 + v 5)))) - v 1)) * ((v 1 - (v 2 * v 4)) + ((v 3 * (v 0 - (((v 3 * v 3) - v 0) - (v 0 + v 5)))) - v 1))))) - c 0) [(((((((((c (-2) * v 4) + (((c 4 * v 2) * v 3) + ((c 2 * v 2) * v 2))) * v 5) + ((((((c 6 * v 3) + (c 4 * v 2)) * v 3) + (c (-12) * v 0)) * v 4) + (((((((c (-8) * v 2) * v 3) + (c (-6) * v 0)) * v 3) + ((c 24 * v 0) * v 2)) * v 3) + (((c 6 * v 0) * v 2) * v 2)))) * v 5) + (((((((c (-2) * v 3) + (c (-4) * v 2)) * v 3) * v 4) + ((((((((c (-4) * v 3) + (c (-2) * v 2)) * v 3) + (((c (-4) * v 2) * v 2) + (c 30 * v 0))) * v 3) + ((((c (-6) * v 2) * v 2) + (c 24 * v 0)) * v 2)) * v 3) + ((c (-24) * v 0) * v 0))) * v 4) + (((((((((((c 4 * v 2) * v 3) + (((c (-2) * v 2) * v 2) + (c 6 * v 0))) * v 3) + ((((c 2 * v 2) * v 2) + (c (-30) * v 0)) * v 2)) * v 3) + (((((c 12 * v 0) * v 2) + (c (-4) * v 1)) * v 2) + ((c (-30) * v 0) * v 0))) * v 3) + ((((c (-4) * v 1) * v 2) + ((c 48 * v 0) * v 0)) * v 2)) * v 3) + ((((c 6 * v 0) * v 0) * v 2) * v 2)))) * v 5) + (((((((v 4 + (((c (-2) * v 3) * v 3) + (((c 3 * v 2) * v 2) + (c (-3) * v 0)))) * v 4) + ((((((((c 3 * v 3) + (c 4 * v 2)) * v 3) + ((c (-3) * v 2) * v 2)) * v 3) + ((c (-12) * v 0) * v 2)) * v 3) + (((((((c 2 * v 2) * v 2) + (c (-6) * v 0)) * v 2) + (c 2 * v 1)) * v 2) + ((c 3 * v 0) * v 0)))) * v 4) + (((((((((((c (-2) * v 2) * v 3) + (((c 3 * v 2) * v 2) + (c (-15) * v 0))) * v 3) + ((((c 4 * v 2) * v 2) + (c (-6) * v 0)) * v 2)) * v 3) + (((((((c (-1) * v 2) * v 2) + (c (-3) * v 0)) * v 2) + (c (-4) * v 1)) * v 2) + ((c 36 * v 0) * v 0))) * v 3) + (((((c (-12) * v 0) * v 2) * v 2) + ((c 36 * v 0) * v 0)) * v 2)) * v 3) + (((c (-18) * v 0) * v 0) * v 0))) * v 4) + (((((((((((((c (-2) * v 2) * v 2) + (c 6 * v 0)) * v 2) * v 3) + (((((c (-6) * v 0) * v 2) + (c 6 * v 1)) * v 2) + ((c 15 * v 0) * v 0))) * v 3) + (((((c 6 * v 0) * v 2) * v 2) + ((c (-30) * v 0) * v 0)) * v 2)) * v 3) + (((((((c (-2) * v 1) * v 2) + ((c 15 * v 0) * v 0)) * v 2) + ((c (-12) * v 0) * v 1)) * v 2) + (((c (-36) * v 0) * v 0) * v 0))) * v 3) + ((((c 36 * v 0) * v 0) * v 0) * v 2)) * v 3))), (v 2 * ((v 1 - (v 2 * v 4)) + v 1)) - ((((v 0 - v 4) * (v 0 - v 4)) + ((v 0 - v 4) * v 0)) + (v 0 * v 0))), ((((((((v 5 + (((c (-1) * v 3) * v 3) + (((c (-2) * v 2) * v 2) + (c 9 * v 0)))) * v 5) + (((((c (-4) * v 2) * v 3) + ((c (-2) * v 2) * v 2)) * v 4) + (((((((c (-1) * v 3) * v 3) + (((c 3 * v 2) * v 2) + (c (-6) * v 0))) * v 3) + (c 2 * v 1)) * v 3) + (((((v 2 * v 2) + (c (-12) * v 0)) * v 2) * v 2) + ((c 30 * v 0) * v 0))))) * v 5) + ((((((((c 2 * v 2) * v 3) * v 3) + ((((c 2 * v 2) * v 2) + (c (-12) * v 0)) * v 2)) * v 3) + ((c (-4) * v 1) * v 2)) * v 4) + ((((((((((v 3 * v 3) + (((c (-1) * v 2) * v 2) + (c (-3) * v 0))) * v 3) + (((((c (-2) * v 2) * v 2) + (c 6 * v 0)) * v 2) + (c (-4) * v 1))) * v 3) + ((((((c (-3) * v 2) * v 2) + (c 15 * v 0)) * v 2) * v 2) + ((c (-15) * v 0) * v 0))) * v 3) + (((((c 4 * v 1) * v 2) + ((c (-12) * v 0) * v 0)) * v 2) + ((c 12 * v 0) * v 1))) * v 3) + ((((((((c 3 * v 0) * v 2) + (c 4 * v 1)) * v 2) + ((c (-30) * v 0) * v 0)) * v 2) * v 2) + (((c 45 * v 0) * v 0) * v 0))))) * v 5) + (((((((((((((c 2 * v 2) * v 3) + ((c 2 * v 2) * v 2)) * v 3) + ((c (-6) * v 0) * v 2)) * v 3) + ((((c (-6) * v 0) * v 2) + (c 4 * v 1)) * v 2)) * v 3) + (((c 4 * v 1) * v 2) * v 2)) * v 3) + (((((c 6 * v 0) * v 0) * v 2) + ((c (-12) * v 0) * v 1)) * v 2)) * v 4) + (((((((((((((((c 2 * v 2) * v 2) + (c (-6) * v 0)) * v 2) + (c 2 * v 1)) * v 3) + ((((((c 2 * v 2) * v 2) + (c (-6) * v 0)) * v 2) * v 2) + ((c 3 * v 0) * v 0))) * v 3) + (((((((c (-6) * v 0) * v 2) + (c (-6) * v 1)) * v 2) + ((c 30 * v 0) * v 0)) * v 2) + ((c (-12) * v 0) * v 1))) * v 3) + (((((((c (-6) * v 0) * v 2) * v 2) + ((c 21 * v 0) * v 0)) * v 2) * v 2) + (((c (-18) * v 0) * v 0) * v 0))) * v 3) + ((((((((c 2 * v 1) * v 2) * v 2) + ((c 12 * v 0) * v 1)) * v 2) + (((c (-36) * v 0) * v 0) * v 0)) * v 2) + (((c 18 * v 0) * v 0) * v 1))) * v 3) + ((((((((c 3 * v 0) * v 0) * v 2) * v 2) + (((c (-18) * v 0) * v 0) * v 0)) * v 2) * v 2) + ((((c 27 * v 0) * v 0) * v 0) * v 0))))), (v 3 * (v 1 + (v 1 + (v 3 * v 5)))) - (((v 0 * v 0) + (v 0 * (v 0 + v 5))) + ((v 0 + v 5) * (v 0 + v 5)))), ((((v 6 * ((v 0 + v 5) - (((v 2 * v 2) - (v 0 - v 4)) - v 0))) + ((v 1 + (v 3 * v 5)) - ((v 2 * ((v 0 - v 4) - (((v 2 * v 2) - (v 0 - v 4)) - v 0))) - (v 1 - (v 2 * v 4))))) * (((v 1 - (v 2 * v 4)) + ((v 3 * (v 0 - (((v 3 * v 3) - v 0) - (v 0 + v 5)))) - v 1)) * ((v 1 - (v 2 * v 4)) + ((v 3 * (v 0 - (((v 3 * v 3) - v 0) - (v 0 + v 5)))) - v 1)))), (v 6 * ((v 0 + v 5) - (((v 2 * v 2) - (v 0 - v 4)) - v 0))) - ((v 1 + (v 3 * v 5)) - ((v 2 * ((v 0 - v 4) - (((v 2 * v 2) - (v 0 - v 4)) - v 0))) - (v 1 - (v 2 * v 4))))), (((-((v 7 * ((v 1 - (v 2 * v 4)) + ((v 3 * (v 0 - (((v 3 * v 3) - v 0) - (v 0 + v 5)))) - v 1))) + ((((v 0 - v 4) * (v 0 - v 4)) + ((v 0 - v 4) * (((v 3 * v 3) - v 0) - (v 0 + v 5)))) + ((((v 3 * v 3) - v 0) - (v 0 + v 5)) * (((v 3 * v 3) - v 0) - (v 0 + v 5)))))) * (((v 0 + v 5) - (((v 2 * v 2) - (v 0 - v 4)) - v 0)) * ((v 0 + v 5) - (((v 2 * v 2) - (v 0 - v 4)) - v 0)))), (v 7 * ((v 1 - (v 2 * v 4)) + ((v 3 * (v 0 - (((v 3 * v 3) - v 0) - (v 0 + v 5)))) - v 1))) - ((((v 0 - v 4) * (v 0 - v 4)) + ((v 0 - v 4) * (((v 3 * v 3) - v 0) - (v 0 + v 5)))) + ((((v 3 * v 3) - v 0) - (v 0 + v 5)) * (((v 3 * v 3) - v 0) - (v 0 + v 5)))))] (all_cons (sub_of_eq h0) (all_cons (sub_of_eq h1) (all_cons (sub_of_eq h2) (all_cons (sub_of_eq h3) all_nil)))) (by decide +kernel))

theorem ec_yAD (x y l m d e n k : K) (h0 : (l * ((y - (l * d)) + y)) = ((((x - d) * (x - d)) + ((x - d) * x)) + (x * x))) (h1 : (m * (y + (y + (m * e)))) = (((x * x) + (x * (x + e))) + ((x + e) * (x + e)))) (h2 : (n * ((x + e) - (((l * l) - (x - d)) - x))) = ((y + (m * e)) - ((l * ((x - d) - (((l * l) - (x - d)) - x))) - (y - (l * d))))) (h3 : (k * ((y - (l * d)) + ((m * (x - (((m * m) - x) - (x + e)))) - y))) = ((((x - d) * (x - d)) + ((x - d) * (((m * m) - x) - (x + e)))) + ((((m * m) - x) - (x + e)) * (((m * m) - x) - (x + e))))) : ((((n * ((((l * l) - (x - d)) - x) - (((n * n) - (((l * l) - (x - d)) - x)) - (x + e)))) - ((l * ((x - d) - (((l * l) - (x - d)) - x))) - (y - (l * d)))) - ((k * ((x - d) - (((n * n) - (((l * l) - (x - d)) - x)) - (x + e)))) - (y - (l * d)))) * (((((x + e) - (((l * l) - (x - d)) - x)) * ((x + e) - (((l * l) - (x - d)) - x))) * ((x + e) - (((l * l) - (x - d)) - x))) * ((y - (l * d)) + ((m * (x - (((m * m) - x) - (x + e)))) - y)))) = 0 := by
  exact eq_of_sub (zero_of_rel (fun i => [x, y, l, m, d, e, n, k].getD i 0) 8 (((((v 6 * ((((v 2 * v 2) - (v 0 - v 4)) - v 0) - (((v 6 * v 6) - (((v 2 * v 2) - (v 0 - v 4)) - v 0)) - (v 0 + v 5)))) - ((v 2 * ((v 0 - v 4) - (((v 2 * v 2) - (v 0 - v 4)) - v 0))) - (v 1 - (v 2 * v 4)))) - ((v 7 * ((v 0 - v 4) - (((v 6 * v 6) - (((v 2 * v 2) - (v 0 - v 4)) - v 0)) - (v 0 + v 5)))) - (v 1 - (v 2 * v 4)))) * (((((v 0 + v 5) - (((v 2 * v 2) - (v 0 - v 4)) - v 0)) * ((v 0 + v 5) - (((v 2 * v 2) - (v 0 - v 4)) - v 0))) * ((v 0 + v 5) - (((v 2 * v 2) - (v 0 - v 4)) - v 0))) * ((v 1 - (v 2 * v 4)) + ((v 3 * (v 0 - (((v 3 * v 3) - v 0) - (v 0 + v 5)))) - v 1)))) - c 0) [((((((((v 5 + ((c (-1) * v 4) + (((c 2 * v 2) * v 2) + (c 6 * v 0)))) * v 5) + ((((c 2 * v 4) + (((c (-2) * v 3) * v 3) + (c (-6) * v 0))) * v 4) + ((((((((c (-1) * v 3) + (c (-2) * v 2)) * v 3) + (((c (-4) * v 2) * v 2) + (c 6 * v 0))) * v 3) + (((c 2 * v 2) * v 2) * v 2)) * v 3) + (((((((c (-2) * v 2) * v 2) + (c 12 * v 0)) * v 2) + (c (-2) * v 1)) * v 2) + ((c 12 * v 0) * v 0))))) * v 5) + ((((((c (-1) * v 4) + (((v 3 + (c 2 * v 2)) * v 3) + (((c (-3) * v 2) * v 2) + (c 6 * v 0)))) * v 4) + (((((((v 3 + (c (-5) * v 2)) * v 3) + (c (-9) * v 0)) * v 3) + (((((c (-1) * v 2) * v 2) + (c 6 * v 0)) * v 2) + (c 2 * v 1))) * v 3) + (((((((c (-2) * v 2) * v 2) + (c 3 * v 0)) * v 2) + (c (-2) * v 1)) * v 2) + ((c (-9) * v 0) * v 0)))) * v 4) + (((((((((((c 2 * v 2) * v 3) + ((v 2 * v 2) + (c (-3) * v 0))) * v 3) + (((((c (-5) * v 2) * v 2) + (c 3 * v 0)) * v 2) + (c (-4) * v 1))) * v 3) + (((((((c (-1) * v 2) * v 2) + (c (-3) * v 0)) * v 2) + (c (-2) * v 1)) * v 2) + ((c 15 * v 0) * v 0))) * v 3) + (((((((((c (-3) * v 2) * v 2) + (c 21 * v 0)) * v 2) + (c (-6) * v 1)) * v 2) + ((c (-18) * v 0) * v 0)) * v 2) + ((c 6 * v 0) * v 1))) * v 3) + ((((((((c (-6) * v 0) * v 2) * v 2) + ((c 24 * v 0) * v 0)) * v 2) + ((c (-6) * v 0) * v 1)) * v 2) + (((c 9 * v 0) * v 0) * v 0))))) * v 5) + ((((((((c 2 * v 2) * v 2) * v 4) + ((((((c 2 * v 2) * v 3) * v 3) + ((c (-6) * v 0) * v 2)) * v 3) + ((((((c 4 * v 2) * v 2) + (c (-12) * v 0)) * v 2) + (c 6 * v 1)) * v 2))) * v 4) + (((((((((((c 4 * v 2) * v 2) + (c (-12) * v 0)) * v 2) + (c 2 * v 1)) * v 3) + ((c (-4) * v 1) * v 2)) * v 3) + ((((((c (-12) * v 0) * v 2) * v 2) + ((c 36 * v 0) * v 0)) * v 2) + ((c (-6) * v 0) * v 1))) * v 3) + (((((((((((c 2 * v 2) * v 2) + (c (-12) * v 0)) * v 2) + (c 6 * v 1)) * v 2) + ((c 12 * v 0) * v 0)) * v 2) + ((c (-18) * v 0) * v 1)) * v 2) + ((c 4 * v 1) * v 1)))) * v 4) + ((((((((((c 4 * v 1) * v 2) * v 3) + (((((((((c 2 * v 2) * v 2) + (c (-12) * v 0)) * v 2) + (c 2 * v 1)) * v 2) + ((c 12 * v 0) * v 0)) * v 2) + ((c (-6) * v 0) * v 1))) * v 3) + (((((c (-4) * v 1) * v 2) * v 2) * v 2) + ((c (-4) * v 1) * v 1))) * v 3) + ((((((((((c (-6) * v 0) * v 2) * v 2) + ((c 36 * v 0) * v 0)) * v 2) + ((c (-6) * v 0) * v 1)) * v 2) + (((c (-36) * v 0) * v 0) * v 0)) * v 2) + (((c 18 * v 0) * v 0) * v 1))) * v 3) + ((((((((c (-6) * v 0) * v 0) * v 2) * v 2) + (((c 18 * v 0) * v 0) * v 0)) * v 2) + (((c (-6) * v 0) * v 0) * v 1)) * v 2)))), (v 2 * ((v 1 - (v 2 * v 4)) + v 1)) - ((((v 0 - v 4) * (v 0 - v 4)) + ((v 0 - v 4) * v 0)) + (v 0 * v 0))), ((((((((v 5 + ((c (-2) * v 4) + (((c (-3) * v 3) * v 3) + (((c (-2) * v 2) * v 2) + (c 9 * v 0))))) * v 5) + ((((((c 3 * v 3) + (c (-2) * v 2)) * v 3) + (c (-9) * v 0)) * v 4) + (((((((c 2 * v 3) * v 3) + (((c 3 * v 2) * v 2) + (c (-15) * v 0))) * v 3) + (((((c (-4) * v 2) * v 2) + (c 12 * v 0)) * v 2) + (c (-6) * v 1))) * v 3) + (((((c (-9) * v 0) * v 2) + (c 2 * v 1)) * v 2) + ((c 24 * v 0) * v 0))))) * v 5) + ((((((((((c (-1) * v 3) + (c 5 * v 2)) * v 3) + (((c 3 * v 2) * v 2) + (c 6 * v 0))) * v 3) + (((((c 5 * v 2) * v 2) + (c (-18) * v 0)) * v 2) + (c 2 * v 1))) * v 3) + (((((v 2 * v 2) * v 2) + (c (-2) * v 1)) * v 2) + ((c (-9) * v 0) * v 0))) * v 4) + (((((((((((c (-1) * v 2) * v 2) + (c 3 * v 0)) * v 3) + (((((c 5 * v 2) * v 2) + (c (-15) * v 0)) * v 2) + (c 6 * v 1))) * v 3) + (((((((c 3 * v 2) * v 2) + (c (-3) * v 0)) * v 2) + (c 2 * v 1)) * v 2) + ((c (-15) * v 0) * v 0))) * v 3) + (((((((((c 5 * v 2) * v 2) + (c (-33) * v 0)) * v 2) + (c 6 * v 1)) * v 2) + ((c 54 * v 0) * v 0)) * v 2) + ((c (-24) * v 0) * v 1))) * v 3) + (((((((((v 2 * v 2) + (c (-3) * v 0)) * v 2) * v 2) + ((c (-15) * v 0) * v 0)) * v 2) + ((c 18 * v 0) * v 1)) * v 2) + (((c (-4) * v 1) * v 1) + (((c 18 * v 0) * v 0) * v 0)))))) * v 5) + (((((((((((((c (-2) * v 2) * v 2) + (c 6 * v 0)) * v 2) + (c (-2) * v 1)) * v 3) + ((c 4 * v 1) * v 2)) * v 3) + (((((((c 6 * v 0) * v 2) + (c 4 * v 1)) * v 2) + ((c (-18) * v 0) * v 0)) * v 2) + ((c 6 * v 0) * v 1))) * v 3) + (((((c 6 * v 0) * v 0) * v 2) + ((c (-12) * v 0) * v 1)) * v 2)) * v 4) + (((((((((((((((c (-2) * v 2) * v 2) + (c 12 * v 0)) * v 2) + (c (-6) * v 1)) * v 2) + ((c (-12) * v 0) * v 0)) * v 2) + ((c 6 * v 0) * v 1)) * v 3) + ((((((c 4 * v 1) * v 2) * v 2) + ((c (-12) * v 0) * v 1)) * v 2) + ((c 4 * v 1) * v 1))) * v 3) + (((((((((((c 6 * v 0) * v 2) + (c 4 * v 1)) * v 2) + ((c (-36) * v 0) * v 0)) * v 2) + ((c 6 * v 0) * v 1)) * v 2) + (((c 4 * v 1) * v 1) + (((c 36 * v 0) * v 0) * v 0))) * v 2) + (((c (-18) * v 0) * v 0) * v 1))) * v 3) + ((((((((((c 6 * v 0) * v 0) * v 2) + ((c (-12) * v 0) * v 1)) * v 2) + (((c (-18) * v 0) * v 0) * v 0)) * v 2) + (((c 42 * v 0) * v 0) * v 1)) * v 2) + (((c (-12) * v 0) * v 1) * v 1))))), (v 3 * (v 1 + (v 1 + (v 3 * v 5)))) - (((v 0 * v 0) + (v 0 * (v 0 + v 5))) + ((v 0 + v 5) * (v 0 + v 5)))), (((((((((v 2 * v 2) - (v 0 - v 4)) - v 0) * (((v 0 + v 5) - (((v 2 * v 2) - (v 0 - v 4)) - v 0)) * ((v 0 + v 5) - (((v 2 * v 2) - (v 0 - v 4)) - v 0)))) - ((((v 6 * v 6) - (((v 2 * v 2) - (v 0 - v 4)) - v 0)) - (v 0 + v 5)) * (((v 0 + v 5) - (((v 2 * v 2) - (v 0 - v 4)) - v 0)) * ((v 0 + v 5) - (((v 2 * v 2) - (v 0 - v 4)) - v 0))))) - (((v 1 + (v 3 * v 5)) - ((v 2 * ((v 0 - v 4) - (((v 2 * v 2) - (v 0 - v 4)) - v 0))) - (v 1 - (v 2 * v 4)))) * ((v 6 * ((v 0 + v 5) - (((v 2 * v 2) - (v 0 - v 4)) - v 0))) + ((v 1 + (v 3 * v 5)) - ((v 2 * ((v 0 - v 4) - (((v 2 * v 2) - (v 0 - v 4)) - v 0))) - (v 1 - (v 2 * v 4))))))) * ((v 1 - (v 2 * v 4)) + ((v 3 * (v 0 - (((v 3 * v 3) - v 0) - (v 0 + v 5)))) - v 1))) + ((((((v 0 - v 4) * (v 0 - v 4)) + ((v 0 - v 4) * (((v 3 * v 3) - v 0) - (v 0 + v 5)))) + ((((v 3 * v 3) - v 0) - (v 0 + v 5)) * (((v 3 * v 3) - v 0) - (v 0 + v 5)))) * ((v 6 * ((v 0 + v 5) - (((v 2 * v 2) - (v 0 - v 4)) - v 0))) + ((v 1 + (v 3 * v 5)) - ((v 2 * ((v 0 - v 4) - (((v 2 * v 2) - (v 0 - v 4)) - v 0))) - (v 1 - (v 2 * v 4)))))) * ((v 0 + v 5) - (((v 2 * v 2) - (v 0 - v 4)) - v 0)))), (v 6 * ((v 0 + v 5) - (((v 2 * v 2) - (v 0 - v 4)) - v 0))) - ((v 1 + (v 3 * v 5)) - ((v 2 * ((v 0 - v 4) - (((v 2 * v 2) - (v 0 - v 4)) - v 0))) - (v 1 - (v 2 * v 4))))), ((-((((v 0 - v 4) - (((v 6 * v 6) - (((v 2 * v 2) - (v 0 - v 4)) - v 0)) - (v 0 + v 5))) * (((v 0 + v 5) - (((v 2 * v 2) - (v 0 - v 4)) - v 0)) * ((v 0 + v 5) - (((v 2 * v 2) - (v 0 - v 4)) - v 0)))) * ((v 0 + v 5) - (((v 2 * v 2) - (v 0 - v 4)) - v 0)))), (v 7 * ((v 1 - (v 2 * v 4)) + ((v 3 * (v 0 - (((v 3 * v 3) - v 0) - (v 0 + v 5)))) - v 1))) - ((((v 0 - v 4) * (v 0 - v 4)) + ((v 0 - v 4) * (((v 3 * v 3) - v 0) - (v 0 + v 5)))) + ((((v 3 * v 3) - v 0) - (v 0 + v 5)) * (((v 3 * v 3) - v 0) - (v 0 + v 5)))))] (all_cons (sub_of_eq h0) (all_cons (sub_of_eq h1) (all_cons (sub_of_eq h2) (all_cons (sub_of_eq h3) all_nil)))) (by decide +kernel))

end Go.Proofs.YtcedljbapgmdmaaGreat.Alg

/- DERIVED. The group of a curve y y = x x x + b over a field. -/
set_option linter.all false
namespace Go.Proofs.YtcedljbapgmdmaaGreat.Alg
open CR

/-- A curve without points of order two, over a field where 1 + 1 isn't 0. -/
class Crv (K : Type) extends Fld K where
  b : K
  two : (1 : K) + 1 ≠ 0
  no2 : ∀ x : K, x * x * x + b ≠ 0

theorem r_opp {K : Type} [CR K] (a b : K) (h : a = -b) : b = -a := eq_of_sub (zero_of_rel (fun zz => [a, b].getD zz 0) 2 (Alg.E.v 1 - (-Alg.E.v 0)) [(Alg.E.c 1, Alg.E.v 0 - (-Alg.E.v 1))] (all_cons (sub_of_eq h) all_nil) (by decide +kernel))
theorem r_dd {K : Type} [CR K] (a b : K)  : -(a * b) = -a * b := eq_of (fun zz => [a, b].getD zz 0) 2 ((-(Alg.E.v 0 * Alg.E.v 1))) (((-Alg.E.v 0) * Alg.E.v 1)) (by decide +kernel)
theorem r_two {K : Type} [CR K] (a : K) : a + a = (1 + 1) * a := by rw [add_mul, one_mul]
theorem r_sl1 {K : Type} [CR K] (u v p q i l : K) (hi : (q - p) * i = 1) (hl : l = (v - u) * i) : l * (q - p) = v - u := eq_of_sub (zero_of_rel (fun zz => [u, v, p, q, i, l].getD zz 0) 6 ((Alg.E.v 5 * (Alg.E.v 3 - Alg.E.v 2)) - (Alg.E.v 1 - Alg.E.v 0)) [((Alg.E.v 1 - Alg.E.v 0), ((Alg.E.v 3 - Alg.E.v 2) * Alg.E.v 4) - Alg.E.c 1), ((Alg.E.v 3 - Alg.E.v 2), Alg.E.v 5 - ((Alg.E.v 1 - Alg.E.v 0) * Alg.E.v 4))] (all_cons (sub_of_eq hi) (all_cons (sub_of_eq hl) all_nil)) (by decide +kernel))
theorem r_sl2 {K : Type} [CR K] (u v p q b l : K) (h1 : u * u = p * p * p + b) (h2 : v * v = q * q * q + b) (hl : l * (q - p) = v - u) : (q - p) * (l * (u + v)) = (q - p) * (p * p + p * q + q * q) := eq_of_sub (zero_of_rel (fun zz => [u, v, p, q, b, l].getD zz 0) 6 (((Alg.E.v 3 - Alg.E.v 2) * (Alg.E.v 5 * (Alg.E.v 0 + Alg.E.v 1))) - ((Alg.E.v 3 - Alg.E.v 2) * (((Alg.E.v 2 * Alg.E.v 2) + (Alg.E.v 2 * Alg.E.v 3)) + (Alg.E.v 3 * Alg.E.v 3)))) [(Alg.E.c (-1), (Alg.E.v 0 * Alg.E.v 0) - (((Alg.E.v 2 * Alg.E.v 2) * Alg.E.v 2) + Alg.E.v 4)), (Alg.E.c 1, (Alg.E.v 1 * Alg.E.v 1) - (((Alg.E.v 3 * Alg.E.v 3) * Alg.E.v 3) + Alg.E.v 4)), ((Alg.E.v 0 + Alg.E.v 1), (Alg.E.v 5 * (Alg.E.v 3 - Alg.E.v 2)) - (Alg.E.v 1 - Alg.E.v 0))] (all_cons (sub_of_eq h1) (all_cons (sub_of_eq h2) (all_cons (sub_of_eq hl) all_nil))) (by decide +kernel))
theorem r_sl3 {K : Type} [CR K] (u p i l : K) (hi : (u + u) * i = 1) (hl : l = (p * p + p * p + p * p) * i) : l * (u + u) = p * p + p * p + p * p := eq_of_sub (zero_of_rel (fun zz => [u, p, i, l].getD zz 0) 4 ((Alg.E.v 3 * (Alg.E.v 0 + Alg.E.v 0)) - (((Alg.E.v 1 * Alg.E.v 1) + (Alg.E.v 1 * Alg.E.v 1)) + (Alg.E.v 1 * Alg.E.v 1))) [((((Alg.E.v 1 * Alg.E.v 1) + (Alg.E.v 1 * Alg.E.v 1)) + (Alg.E.v 1 * Alg.E.v 1)), ((Alg.E.v 0 + Alg.E.v 0) * Alg.E.v 2) - Alg.E.c 1), ((Alg.E.v 0 + Alg.E.v 0), Alg.E.v 3 - ((((Alg.E.v 1 * Alg.E.v 1) + (Alg.E.v 1 * Alg.E.v 1)) + (Alg.E.v 1 * Alg.E.v 1)) * Alg.E.v 2))] (all_cons (sub_of_eq hi) (all_cons (sub_of_eq hl) all_nil)) (by decide +kernel))
theorem r_un1 {K : Type} [CR K] (l m a c : K) (h1 : l * a = c) (h2 : m * a = c) : a * l = a * m := eq_of_sub (zero_of_rel (fun zz => [l, m, a, c].getD zz 0) 4 ((Alg.E.v 2 * Alg.E.v 0) - (Alg.E.v 2 * Alg.E.v 1)) [(Alg.E.c 1, (Alg.E.v 0 * Alg.E.v 2) - Alg.E.v 3), (Alg.E.c (-1), (Alg.E.v 1 * Alg.E.v 2) - Alg.E.v 3)] (all_cons (sub_of_eq h1) (all_cons (sub_of_eq h2) all_nil)) (by decide +kernel))
theorem r_zero_sub {K : Type} [CR K] (a l : K) (h : l = l) : l * (a - a) = 0 := eq_of_sub (zero_of_rel (fun zz => [a, l].getD zz 0) 2 ((Alg.E.v 1 * (Alg.E.v 0 - Alg.E.v 0)) - Alg.E.c 0) [(Alg.E.c 0, Alg.E.v 1 - Alg.E.v 1)] (all_cons (sub_of_eq h) all_nil) (by decide +kernel))
theorem r_cx {K : Type} [CR K] (l p q : K)  : l * l - p - q = l * l - q - p := eq_of (fun zz => [l, p, q].getD zz 0) 3 ((((Alg.E.v 0 * Alg.E.v 0) - Alg.E.v 1) - Alg.E.v 2)) ((((Alg.E.v 0 * Alg.E.v 0) - Alg.E.v 2) - Alg.E.v 1)) (by decide +kernel)
theorem r_cy {K : Type} [CR K] (l p q u v x : K) (h : l * (q - p) = v - u) : l * (p - x) - u = l * (q - x) - v := eq_of_sub (zero_of_rel (fun zz => [l, p, q, u, v, x].getD zz 0) 6 (((Alg.E.v 0 * (Alg.E.v 1 - Alg.E.v 5)) - Alg.E.v 3) - ((Alg.E.v 0 * (Alg.E.v 2 - Alg.E.v 5)) - Alg.E.v 4)) [(Alg.E.c (-1), (Alg.E.v 0 * (Alg.E.v 2 - Alg.E.v 1)) - (Alg.E.v 4 - Alg.E.v 3))] (all_cons (sub_of_eq h) all_nil) (by decide +kernel))
theorem r_cd {K : Type} [CR K] (l p q u v : K) (h : l * (q - p) = v - u) : l * (p - q) = u - v := eq_of_sub (zero_of_rel (fun zz => [l, p, q, u, v].getD zz 0) 5 ((Alg.E.v 0 * (Alg.E.v 1 - Alg.E.v 2)) - (Alg.E.v 3 - Alg.E.v 4)) [(Alg.E.c (-1), (Alg.E.v 0 * (Alg.E.v 2 - Alg.E.v 1)) - (Alg.E.v 4 - Alg.E.v 3))] (all_cons (sub_of_eq h) all_nil) (by decide +kernel))
theorem r_cr {K : Type} [CR K] (l p q u v : K) (h : l * (u + v) = p * p + p * q + q * q) : l * (v + u) = q * q + q * p + p * p := eq_of_sub (zero_of_rel (fun zz => [l, p, q, u, v].getD zz 0) 5 ((Alg.E.v 0 * (Alg.E.v 4 + Alg.E.v 3)) - (((Alg.E.v 2 * Alg.E.v 2) + (Alg.E.v 2 * Alg.E.v 1)) + (Alg.E.v 1 * Alg.E.v 1))) [(Alg.E.c 1, (Alg.E.v 0 * (Alg.E.v 3 + Alg.E.v 4)) - (((Alg.E.v 1 * Alg.E.v 1) + (Alg.E.v 1 * Alg.E.v 2)) + (Alg.E.v 2 * Alg.E.v 2)))] (all_cons (sub_of_eq h) all_nil) (by decide +kernel))
theorem r_nd {K : Type} [CR K] (l p q u v : K) (h : l * (q - p) = v - u) : -l * (q - p) = -v - -u := eq_of_sub (zero_of_rel (fun zz => [l, p, q, u, v].getD zz 0) 5 (((-Alg.E.v 0) * (Alg.E.v 2 - Alg.E.v 1)) - ((-Alg.E.v 4) - (-Alg.E.v 3))) [(Alg.E.c (-1), (Alg.E.v 0 * (Alg.E.v 2 - Alg.E.v 1)) - (Alg.E.v 4 - Alg.E.v 3))] (all_cons (sub_of_eq h) all_nil) (by decide +kernel))
theorem r_nr {K : Type} [CR K] (l p q u v : K) (h : l * (u + v) = p * p + p * q + q * q) : -l * (-u + -v) = p * p + p * q + q * q := eq_of_sub (zero_of_rel (fun zz => [l, p, q, u, v].getD zz 0) 5 (((-Alg.E.v 0) * ((-Alg.E.v 3) + (-Alg.E.v 4))) - (((Alg.E.v 1 * Alg.E.v 1) + (Alg.E.v 1 * Alg.E.v 2)) + (Alg.E.v 2 * Alg.E.v 2))) [(Alg.E.c 1, (Alg.E.v 0 * (Alg.E.v 3 + Alg.E.v 4)) - (((Alg.E.v 1 * Alg.E.v 1) + (Alg.E.v 1 * Alg.E.v 2)) + (Alg.E.v 2 * Alg.E.v 2)))] (all_cons (sub_of_eq h) all_nil) (by decide +kernel))
theorem r_nx {K : Type} [CR K] (l p q : K)  : -l * -l - p - q = l * l - p - q := eq_of (fun zz => [l, p, q].getD zz 0) 3 (((((-Alg.E.v 0) * (-Alg.E.v 0)) - Alg.E.v 1) - Alg.E.v 2)) ((((Alg.E.v 0 * Alg.E.v 0) - Alg.E.v 1) - Alg.E.v 2)) (by decide +kernel)
theorem r_ny {K : Type} [CR K] (l p x u : K)  : -l * (p - x) - -u = -(l * (p - x) - u) := eq_of (fun zz => [l, p, x, u].getD zz 0) 4 ((((-Alg.E.v 0) * (Alg.E.v 1 - Alg.E.v 2)) - (-Alg.E.v 3))) ((-((Alg.E.v 0 * (Alg.E.v 1 - Alg.E.v 2)) - Alg.E.v 3))) (by decide +kernel)
theorem r_bx {K : Type} [CR K] (l p q : K)  : -l * -l - (l * l - p - q) - q = p := eq_of (fun zz => [l, p, q].getD zz 0) 3 (((((-Alg.E.v 0) * (-Alg.E.v 0)) - (((Alg.E.v 0 * Alg.E.v 0) - Alg.E.v 1) - Alg.E.v 2)) - Alg.E.v 2)) (Alg.E.v 1) (by decide +kernel)
theorem r_by {K : Type} [CR K] (l p q u x : K) (h : x = l * l - p - q) : -l * (x - p) - (l * (p - x) - u) = u := eq_of_sub (zero_of_rel (fun zz => [l, p, q, u, x].getD zz 0) 5 ((((-Alg.E.v 0) * (Alg.E.v 4 - Alg.E.v 1)) - ((Alg.E.v 0 * (Alg.E.v 1 - Alg.E.v 4)) - Alg.E.v 3)) - Alg.E.v 3) [(Alg.E.c 0, Alg.E.v 4 - (((Alg.E.v 0 * Alg.E.v 0) - Alg.E.v 1) - Alg.E.v 2))] (all_cons (sub_of_eq h) all_nil) (by decide +kernel))
theorem r_sh {K : Type} [CR K] (l p q u v : K) (h : l * (q - p) = v - u) : v = u + l * (q - p) := eq_of_sub (zero_of_rel (fun zz => [l, p, q, u, v].getD zz 0) 5 (Alg.E.v 4 - (Alg.E.v 3 + (Alg.E.v 0 * (Alg.E.v 2 - Alg.E.v 1)))) [(Alg.E.c (-1), (Alg.E.v 0 * (Alg.E.v 2 - Alg.E.v 1)) - (Alg.E.v 4 - Alg.E.v 3))] (all_cons (sub_of_eq h) all_nil) (by decide +kernel))
theorem r_shq {K : Type} [CR K] (l p q u v : K) (h : l * (q - p) = v - u) : u = v - l * (q - p) := eq_of_sub (zero_of_rel (fun zz => [l, p, q, u, v].getD zz 0) 5 (Alg.E.v 3 - (Alg.E.v 4 - (Alg.E.v 0 * (Alg.E.v 2 - Alg.E.v 1)))) [(Alg.E.c 1, (Alg.E.v 0 * (Alg.E.v 2 - Alg.E.v 1)) - (Alg.E.v 4 - Alg.E.v 3))] (all_cons (sub_of_eq h) all_nil) (by decide +kernel))
theorem r_sub1 {K : Type} [CR K] (p q : K)  : q = p + (q - p) := eq_of (fun zz => [p, q].getD zz 0) 2 (Alg.E.v 1) ((Alg.E.v 0 + (Alg.E.v 1 - Alg.E.v 0))) (by decide +kernel)
theorem r_sub2 {K : Type} [CR K] (p q : K)  : p = q - (q - p) := eq_of (fun zz => [p, q].getD zz 0) 2 (Alg.E.v 0) ((Alg.E.v 1 - (Alg.E.v 1 - Alg.E.v 0))) (by decide +kernel)
theorem r_ndd {K : Type} [CR K] (a : K)  : - -a = a := eq_of (fun zz => [a].getD zz 0) 1 ((-(-Alg.E.v 0))) (Alg.E.v 0) (by decide +kernel)

section
variable {K : Type} [Crv K]
abbrev cb : K := Crv.b
theorem two_ne {a : K} (h : a + a = 0) : a = 0 := by
  rw [r_two] at h
  rcases mul_eq_zero h with h | h
  · exact absurd h Crv.two
  · exact h
def OnC (p : K × K) : Prop := p.2 * p.2 = p.1 * p.1 * p.1 + cb
def negP (p : K × K) : K × K := (p.1, -p.2)
/-- Opposite ones. -/
def Opp (p q : K × K) : Prop := p.1 = q.1 ∧ p.2 = -q.2
structure Sl (p q : K × K) (l : K) : Prop where
  d : l * (q.1 - p.1) = q.2 - p.2
  r : l * (p.2 + q.2) = p.1 * p.1 + p.1 * q.1 + q.1 * q.1
def third (p q : K × K) (l : K) : K × K := (l * l - p.1 - q.1, l * (p.1 - (l * l - p.1 - q.1)) - p.2)
theorem OnC.ne {p : K × K} (h : OnC p) : p.2 ≠ 0 := fun e => Crv.no2 p.1 (by
  have h : p.2 * p.2 = p.1 * p.1 * p.1 + cb := h
  rw [← h, e, zero_mul])
theorem OnC.ne2 {p : K × K} (h : OnC p) : p.2 + p.2 ≠ 0 := fun e => h.ne (two_ne e)
theorem OnC.neg {p : K × K} (h : OnC p) : OnC (negP p) := by
  show -p.2 * -p.2 = _
  rw [neg_mul, mul_neg, neg_neg]; exact h
theorem neg2 (p : K × K) : negP (negP p) = p := by unfold negP; rw [neg_neg]
theorem Opp.symm {p q : K × K} (h : Opp p q) : Opp q p := ⟨h.1.symm, r_opp _ _ h.2⟩
theorem Opp.eq {p q : K × K} (h : Opp p q) : q = negP p := by
  unfold negP
  exact Prod.ext h.1.symm h.symm.2
theorem opp_neg (p : K × K) : Opp p (negP p) := ⟨rfl, (neg_neg _).symm⟩
theorem OnC.same {p q : K × K} (hp : OnC p) (hq : OnC q) (h : p.1 = q.1) (hn : ¬Opp p q) : p = q := by
  have e : p.2 * p.2 = q.2 * q.2 := by
    have h1 : p.2 * p.2 = p.1 * p.1 * p.1 + cb := hp
    have h2 : q.2 * q.2 = q.1 * q.1 * q.1 + cb := hq
    rw [h1, h2, h]
  rcases sq_eq e with e | e
  · exact Prod.ext h e
  · exact absurd ⟨h, e⟩ hn
theorem sub_ne {a b : K} (h : a ≠ b) : b - a ≠ 0 := fun e => h (eq_of_sub e).symm
theorem sl_ex {p q : K × K} (hp : OnC p) (hq : OnC q) (hn : ¬Opp p q) : ∃ l, Sl p q l := by
  by_cases h : p.1 = q.1
  · obtain rfl := hp.same hq h hn
    obtain ⟨i, hi⟩ := Fld.inv (p.2 + p.2) hp.ne2
    refine ⟨(p.1 * p.1 + p.1 * p.1 + p.1 * p.1) * i, ?_, r_sl3 _ _ _ _ hi rfl⟩
    rw [r_zero_sub _ _ rfl, sub_self]
  · obtain ⟨i, hi⟩ := Fld.inv (q.1 - p.1) (sub_ne h)
    have h1 : (q.2 - p.2) * i * (q.1 - p.1) = q.2 - p.2 := r_sl1 _ _ _ _ _ _ hi rfl
    exact ⟨_, h1, mul_left_cancel (sub_ne h) (r_sl2 _ _ _ _ cb _ hp hq h1)⟩
theorem sl_un {p q : K × K} (hn : ¬Opp p q) {l m : K} (hl : Sl p q l) (hm : Sl p q m) : l = m := by
  by_cases h : q.1 - p.1 = 0
  · have e1 := eq_of_sub h
    have e2 : q.2 = p.2 := eq_of_sub (by rw [← hl.d, h, mul_zero])
    have hy : p.2 + q.2 ≠ 0 := fun e => hn ⟨e1.symm, eq_neg_of e⟩
    exact mul_left_cancel hy (r_un1 _ _ _ _ hl.r hm.r)
  · exact mul_left_cancel h (r_un1 _ _ _ _ hl.d hm.d)
theorem Sl.symm {p q : K × K} {l : K} (h : Sl p q l) : Sl q p l := ⟨r_cd _ _ _ _ _ h.d, r_cr _ _ _ _ _ h.r⟩
theorem third_symm {p q : K × K} {l : K} (h : Sl p q l) : third p q l = third q p l := by
  have e := r_cx l p.1 q.1
  refine Prod.ext e ?_
  show l * (p.1 - (l * l - p.1 - q.1)) - p.2 = l * (q.1 - (l * l - q.1 - p.1)) - q.2
  rw [← e]
  exact r_cy _ _ _ _ _ _ h.d
theorem Sl.neg {p q : K × K} {l : K} (h : Sl p q l) : Sl (negP p) (negP q) (-l) := ⟨r_nd _ _ _ _ _ h.d, r_nr _ _ _ _ _ h.r⟩
theorem third_neg (p q : K × K) (l : K) : third (negP p) (negP q) (-l) = negP (third p q l) := by
  have e := r_nx l p.1 q.1
  refine Prod.ext e ?_
  show -l * (p.1 - (-l * -l - p.1 - q.1)) - -p.2 = -(l * (p.1 - (l * l - p.1 - q.1)) - p.2)
  rw [e]
  exact r_ny _ _ _ _
/-- The second point by the first, and the slope. -/
theorem Sl.shape {p q : K × K} {l : K} (h : Sl p q l) : ∃ d : K, q = (p.1 + d, p.2 + l * d) := ⟨q.1 - p.1, Prod.ext (r_sub1 _ _) (r_sh _ _ _ _ _ h.d)⟩
theorem Sl.shape' {p q : K × K} {l : K} (h : Sl p q l) : ∃ d : K, p = (q.1 - d, q.2 - l * d) := ⟨q.1 - p.1, Prod.ext (r_sub2 _ _) (r_shq _ _ _ _ _ h.d)⟩
theorem r_on {K : Type} [CR K] (a b c d e : K) (h : a - b = c - d) (k : c = d + e) : a = b + e := eq_of_sub (zero_of_rel (fun zz => [a, b, c, d, e].getD zz 0) 5 (Alg.E.v 0 - (Alg.E.v 1 + Alg.E.v 4)) [(Alg.E.c 1, (Alg.E.v 0 - Alg.E.v 1) - (Alg.E.v 2 - Alg.E.v 3)), (Alg.E.c 1, Alg.E.v 2 - (Alg.E.v 3 + Alg.E.v 4))] (all_cons (sub_of_eq h) (all_cons (sub_of_eq k) all_nil)) (by decide +kernel))
theorem third_on {p q : K × K} {l : K} (hp : OnC p) (h : Sl p q l) : OnC (third p q l) := by
  obtain ⟨d, rfl⟩ := h.shape
  exact r_on _ _ _ _ _ (ec_on p.1 p.2 l d h.r) hp
theorem third_back {p q : K × K} {l : K} (h : Sl p q l) : Sl (third p q l) (negP q) (-l) := by
  obtain ⟨d, rfl⟩ := h.shape
  exact ⟨ec_back1 p.1 p.2 l d, ec_back2 p.1 p.2 l d h.r⟩
theorem third_third (p q : K × K) (l : K) : third (third p q l) (negP q) (-l) = p := by
  have e := r_bx l p.1 q.1
  refine Prod.ext e ?_
  show -l * ((l * l - p.1 - q.1) - (-l * -l - (l * l - p.1 - q.1) - q.1)) - (l * (p.1 - (l * l - p.1 - q.1)) - p.2) = p.2
  rw [e]
  exact r_by _ _ _ _ _ rfl
theorem r_tw {K : Type} [CR K] (a l p : K) (h : -l * (p - p) = -a - a) : a + a = 0 := eq_of_sub (zero_of_rel (fun zz => [a, l, p].getD zz 0) 3 ((Alg.E.v 0 + Alg.E.v 0) - Alg.E.c 0) [(Alg.E.c 1, ((-Alg.E.v 1) * (Alg.E.v 2 - Alg.E.v 2)) - ((-Alg.E.v 0) - Alg.E.v 0))] (all_cons (sub_of_eq h) all_nil) (by decide +kernel))
/-- A sum isn't its second part. -/
theorem third_ne {p q : K × K} {l : K} (hq : OnC q) (h : Sl p q l) : ¬Opp (third p q l) (negP q) := fun ho => by
  have h1 : third p q l = q := by rw [← neg2 q]; exact ho.symm.eq
  have h2 := (third_back h).d
  rw [h1] at h2
  exact hq.ne2 (r_tw _ _ _ h2)

/-! ## sums -/
open Classical in
noncomputable def slp (p q : K × K) : K := if h : ∃ l, Sl p q l then h.choose else 0
open Classical in
noncomputable def ad : Option (K × K) → Option (K × K) → Option (K × K)
  | none, q => q
  | some p, none => some p
  | some p, some q => if Opp p q then none else some (third p q (slp p q))
def ng : Option (K × K) → Option (K × K)
  | none => none
  | some p => some (negP p)
def OnO : Option (K × K) → Prop
  | none => True
  | some p => OnC p
open Classical in
theorem ad_opp {p q : K × K} (h : Opp p q) : ad (some p) (some q) = none := if_pos h
open Classical in
theorem ad_some {p q : K × K} (hn : ¬Opp p q) {l : K} (h : Sl p q l) : ad (some p) (some q) = some (third p q l) := by
  have e : slp p q = l := by
    unfold slp
    have hx : ∃ l, Sl p q l := ⟨l, h⟩
    rw [dif_pos hx]
    exact sl_un hn hx.choose_spec h
  show (if Opp p q then none else some (third p q (slp p q))) = _
  rw [if_neg hn, e]
theorem ad_none (p : Option (K × K)) : ad p none = p := by cases p <;> rfl
theorem none_ad (p : Option (K × K)) : ad none p = p := rfl
theorem ng_ng (p : Option (K × K)) : ng (ng p) = p := by
  cases p with
  | none => rfl
  | some p => show some (negP (negP p)) = _; rw [neg2]
theorem OnO.ng {p : Option (K × K)} (h : OnO p) : OnO (ng p) := by
  cases p with
  | none => trivial
  | some p => exact OnC.neg h
theorem OnO.ad {p q : Option (K × K)} (hp : OnO p) (hq : OnO q) : OnO (ad p q) := by
  cases p with
  | none => exact hq
  | some p => cases q with
    | none => exact hp
    | some q =>
      by_cases h : Opp p q
      · rw [ad_opp h]; trivial
      · obtain ⟨l, hl⟩ := sl_ex hp hq h
        rw [ad_some h hl]
        exact third_on hp hl
theorem ad_comm {p q : Option (K × K)} (hp : OnO p) (hq : OnO q) : ad p q = ad q p := by
  cases p with
  | none => rw [ad_none]; rfl
  | some p => cases q with
    | none => rfl
    | some q =>
      by_cases h : Opp p q
      · rw [ad_opp h, ad_opp h.symm]
      · obtain ⟨l, hl⟩ := sl_ex hp hq h
        rw [ad_some h hl, ad_some (fun h' => h h'.symm) hl.symm, third_symm hl]
theorem ad_ng (p : Option (K × K)) : ad p (ng p) = none := by
  cases p with
  | none => rfl
  | some p => exact ad_opp (opp_neg p)
theorem ng_ad {p q : Option (K × K)} (hp : OnO p) (hq : OnO q) : ng (ad p q) = ad (ng p) (ng q) := by
  cases p with
  | none => rfl
  | some p => cases q with
    | none => rfl
    | some q =>
      by_cases h : Opp p q
      · rw [ad_opp h]
        exact (ad_opp (p := negP p) (q := negP q) ⟨h.1, by show -p.2 = - -q.2; rw [h.2]⟩).symm
      · obtain ⟨l, hl⟩ := sl_ex hp hq h
        have h' : ¬Opp (negP p) (negP q) := fun h' => h ⟨h'.1, by have h2 : -p.2 = - -q.2 := h'.2; rw [← neg_neg p.2, h2, neg_neg]⟩
        rw [ad_some h hl]
        show some _ = ad (some (negP p)) (some (negP q))
        rw [ad_some h' hl.neg, third_neg]
/-- Undone. -/
theorem ad_back {p q : Option (K × K)} (hp : OnO p) (hq : OnO q) : ad (ad p q) (ng q) = p := by
  cases q with
  | none => rw [ad_none]; exact ad_none p
  | some q => cases p with
    | none => exact ad_ng (some q)
    | some p =>
      by_cases h : Opp p q
      · rw [ad_opp h]
        show some (negP q) = some p
        rw [← h.symm.eq]
      · obtain ⟨l, hl⟩ := sl_ex hp hq h
        rw [ad_some h hl]
        show ad (some (third p q l)) (some (negP q)) = _
        rw [ad_some (third_ne hq hl) (third_back hl), third_third]
theorem ad_cancel {p q r : Option (K × K)} (hp : OnO p) (hq : OnO q) (hr : OnO r) (h : ad p q = ad r q) : p = r := by
  rw [← ad_back hp hq, h, ad_back hr hq]
theorem ad_cancel' {p q r : Option (K × K)} (hp : OnO p) (hq : OnO q) (hr : OnO r) (h : ad q p = ad q r) : p = r := ad_cancel hp hq hr (by rw [ad_comm hp hq, h, ad_comm hq hr])

/-! ## any grouping -/
theorem r_fin {K : Type} [CR K] (a c : K) (h : a - c = 0) : a = c := eq_of_sub (zero_of_rel (fun zz => [a, c].getD zz 0) 2 (Alg.E.v 0 - Alg.E.v 1) [(Alg.E.c 1, (Alg.E.v 0 - Alg.E.v 1) - Alg.E.c 0)] (all_cons (sub_of_eq h) all_nil) (by decide +kernel))
theorem third_assoc {p q r : K × K} {l m n k : K} (hl : Sl p q l) (hm : Sl q r m) (hn : Sl (third p q l) r n) (hk : Sl p (third q r m) k) (hA : r.1 - (third p q l).1 ≠ 0)
    (hB : (third q r m).1 - p.1 ≠ 0 ∨ p.2 + (third q r m).2 ≠ 0) : third (third p q l) r n = third p (third q r m) k := by
  obtain ⟨x, y⟩ := q
  obtain ⟨d, rfl⟩ := hl.shape'
  obtain ⟨e, rfl⟩ := hm.shape
  have key : ∀ {X1 X2 Y1 : K}, X1 = X2 → Y1 = k * ((x - d) - X1) - (y - l * d) → (X1, Y1) = (X2, k * ((x - d) - X2) - (y - l * d)) := fun h1 h2 => by rw [h2, h1]
  rcases hB with hB | hB
  · refine key (eq_of_sub ?_) (eq_of_sub ?_)
    · rcases mul_eq_zero (ec_xAB x y l m d e n k hl.r hm.r hn.d hk.d) with h | h
      · exact h
      · exact absurd h (mul_ne (mul_ne hA hA) (mul_ne hB hB))
    · rcases mul_eq_zero (ec_yAB x y l m d e n k hl.r hm.r hn.d hk.d) with h | h
      · exact h
      · exact absurd h (mul_ne (mul_ne (mul_ne hA hA) hA) hB)
  · refine key (eq_of_sub ?_) (eq_of_sub ?_)
    · rcases mul_eq_zero (ec_xAD x y l m d e n k hl.r hm.r hn.d hk.r) with h | h
      · exact h
      · exact absurd h (mul_ne (mul_ne hA hA) (mul_ne hB hB))
    · rcases mul_eq_zero (ec_yAD x y l m d e n k hl.r hm.r hn.d hk.r) with h | h
      · exact h
      · exact absurd h (mul_ne (mul_ne (mul_ne hA hA) hA) hB)
/-- .. where the sum of the first two hasn't the third's x. -/
theorem assoc_1 {p q r : K × K} (hp : OnC p) (hq : OnC q) (hr : OnC r) (h1 : ¬Opp p q) (h2 : ¬Opp q r) {s t : K × K} (hs : ad (some p) (some q) = some s) (ht : ad (some q) (some r) = some t) (h4 : ¬Opp p t) (hA : s.1 ≠ r.1) :
    ad (some s) (some r) = ad (some p) (some t) := by
  obtain ⟨l, hl⟩ := sl_ex hp hq h1
  obtain ⟨m, hm⟩ := sl_ex hq hr h2
  rw [ad_some h1 hl] at hs
  rw [ad_some h2 hm] at ht
  cases hs; cases ht
  have h3 : ¬Opp (third p q l) r := fun h => hA h.1
  obtain ⟨n, hn⟩ := sl_ex (third_on hp hl) hr h3
  have hton := third_on hq hm
  obtain ⟨k, hk⟩ := sl_ex hp hton h4
  rw [ad_some h3 hn, ad_some h4 hk]
  congr 1
  refine third_assoc hl hm hn hk (sub_ne hA) ?_
  by_cases hB : p.1 = (third q r m).1
  · right
    have e := hp.same hton hB h4
    rw [← e]
    exact hp.ne2
  · exact .inl (sub_ne hB)
theorem ad_assoc {p q r : Option (K × K)} (hp : OnO p) (hq : OnO q) (hr : OnO r) : ad (ad p q) r = ad p (ad q r) := by
  cases hp0 : p with
  | none => rfl
  | some p' =>
  cases hq0 : q with
  | none => rfl
  | some q' =>
  cases hr0 : r with
  | none => rw [ad_none, ad_none]
  | some r' =>
  subst hp0 hq0 hr0
  by_cases h1 : Opp p' q'
  · have e : some q' = ng (some p') := by rw [h1.eq]; rfl
    rw [ad_opp h1, e, ad_comm (OnO.ng hp) hr, ad_comm hp (OnO.ad hr (OnO.ng hp))]
    have := ad_back hr (OnO.ng hp)
    rw [ng_ng] at this
    rw [this]; rfl
  by_cases h2 : Opp q' r'
  · have e : some r' = ng (some q') := by rw [h2.eq]; rfl
    rw [ad_opp h2, e, ad_back hp hq, ad_none]
  obtain ⟨l, hl⟩ := sl_ex hp hq h1
  obtain ⟨m, hm⟩ := sl_ex hq hr h2
  have hs := ad_some h1 hl
  have ht := ad_some h2 hm
  have hson : OnC (third p' q' l) := third_on hp hl
  have hton : OnC (third q' r' m) := third_on hq hm
  generalize third p' q' l = s at *
  generalize third q' r' m = t at *
  by_cases h3 : Opp s r'
  · -- s is the third's opposite
    have e : some r' = ng (some s) := by rw [h3.eq]; rfl
    have e2 : ad (some q') (some r') = ng (some p') := by
      rw [e, ← hs, ng_ad hp hq, ad_comm hq (OnO.ad (OnO.ng hp) (OnO.ng hq))]
      have := ad_back (OnO.ng hp) (OnO.ng hq)
      rwa [ng_ng] at this
    rw [e2, ad_ng, hs, ad_opp h3]
  by_cases h4 : Opp p' t
  · have e : some p' = ng (some t) := by rw [h4.symm.eq]; rfl
    have e2 : ad (some p') (some q') = ng (some r') := by
      rw [e, ← ht, ng_ad hq hr, ad_comm (OnO.ng hq) (OnO.ng hr)]
      have := ad_back (OnO.ng hr) (OnO.ng hq)
      rwa [ng_ng] at this
    rw [e2, ht, ad_opp h4, ad_comm (OnO.ng hr) hr, ad_ng]
  rw [hs, ht]
  by_cases hA : s.1 = r'.1
  · have es := hson.same hr hA h3
    by_cases hB : t.1 = p'.1
    · -- the second would be its own opposite
      exfalso
      have et := hton.same hp hB fun h => h4 h.symm
      have b1 := ad_back hp hq
      rw [hs, es] at b1
      have b2 : ad (some r') (some q') = some p' := by rw [ad_comm hr hq, ht, et]
      have b3 := ad_cancel' (OnO.ng hq) hr hq (b1.trans b2.symm)
      have b4 : negP q' = q' := Option.some.inj b3
      have b5 : -q'.2 = q'.2 := congrArg Prod.snd b4
      exact OnC.ne2 hq (by have := add_neg q'.2; rwa [b5] at this)
    · have hs' : ad (some q') (some p') = some s := by rw [← hs, ad_comm hp hq]
      have ht' : ad (some r') (some q') = some t := by rw [← ht, ad_comm hq hr]
      have := assoc_1 hr hq hp (fun h => h2 h.symm) (fun h => h1 h.symm) ht' hs' (fun h => h3 h.symm) hB
      rw [ad_comm (p := some s) hson hr, ← this, ad_comm (p := some t) hton hp]
  · exact assoc_1 hp hq hr h1 h2 hs ht h4 hA
end
end Go.Proofs.YtcedljbapgmdmaaGreat.Alg

/- DERIVED. Points by three numbers. -/
set_option linter.all false
namespace Go.Proofs.YtcedljbapgmdmaaGreat.Alg
open CR

theorem j_e {K : Type} [CR K] (x y Z l : K) (h : l*(y+y) = x*x + x*x + x*x) : (((x*(Z*Z))*(x*(Z*Z)))+((x*(Z*Z))*(x*(Z*Z)))+((x*(Z*Z))*(x*(Z*Z)))) = l*((y*(Z*Z*Z))*Z + (y*(Z*Z*Z))*Z) := eq_of_sub (zero_of_rel (fun zz => [x, y, Z, l].getD zz 0) 4 (((((Alg.E.v 0 * (Alg.E.v 2 * Alg.E.v 2)) * (Alg.E.v 0 * (Alg.E.v 2 * Alg.E.v 2))) + ((Alg.E.v 0 * (Alg.E.v 2 * Alg.E.v 2)) * (Alg.E.v 0 * (Alg.E.v 2 * Alg.E.v 2)))) + ((Alg.E.v 0 * (Alg.E.v 2 * Alg.E.v 2)) * (Alg.E.v 0 * (Alg.E.v 2 * Alg.E.v 2)))) - (Alg.E.v 3 * (((Alg.E.v 1 * ((Alg.E.v 2 * Alg.E.v 2) * Alg.E.v 2)) * Alg.E.v 2) + ((Alg.E.v 1 * ((Alg.E.v 2 * Alg.E.v 2) * Alg.E.v 2)) * Alg.E.v 2)))) [((Alg.E.c 0 - (((Alg.E.v 2 * Alg.E.v 2) * Alg.E.v 2) * Alg.E.v 2)), (Alg.E.v 3 * (Alg.E.v 1 + Alg.E.v 1)) - (((Alg.E.v 0 * Alg.E.v 0) + (Alg.E.v 0 * Alg.E.v 0)) + (Alg.E.v 0 * Alg.E.v 0)))] (all_cons (sub_of_eq h) all_nil) (by decide +kernel))
theorem j_d {K : Type} [CR K] (x y Z : K)  : ((((x*(Z*Z))+((y*(Z*Z*Z))*(y*(Z*Z*Z))))*((x*(Z*Z))+((y*(Z*Z*Z))*(y*(Z*Z*Z)))) - ((x*(Z*Z))*(x*(Z*Z))) - (((y*(Z*Z*Z))*(y*(Z*Z*Z)))*((y*(Z*Z*Z))*(y*(Z*Z*Z)))))+(((x*(Z*Z))+((y*(Z*Z*Z))*(y*(Z*Z*Z))))*((x*(Z*Z))+((y*(Z*Z*Z))*(y*(Z*Z*Z)))) - ((x*(Z*Z))*(x*(Z*Z))) - (((y*(Z*Z*Z))*(y*(Z*Z*Z)))*((y*(Z*Z*Z))*(y*(Z*Z*Z)))))) = x*(((y*(Z*Z*Z))*Z + (y*(Z*Z*Z))*Z)*((y*(Z*Z*Z))*Z + (y*(Z*Z*Z))*Z)) := eq_of (fun zz => [x, y, Z].getD zz 0) 3 (((((((Alg.E.v 0 * (Alg.E.v 2 * Alg.E.v 2)) + ((Alg.E.v 1 * ((Alg.E.v 2 * Alg.E.v 2) * Alg.E.v 2)) * (Alg.E.v 1 * ((Alg.E.v 2 * Alg.E.v 2) * Alg.E.v 2)))) * ((Alg.E.v 0 * (Alg.E.v 2 * Alg.E.v 2)) + ((Alg.E.v 1 * ((Alg.E.v 2 * Alg.E.v 2) * Alg.E.v 2)) * (Alg.E.v 1 * ((Alg.E.v 2 * Alg.E.v 2) * Alg.E.v 2))))) - ((Alg.E.v 0 * (Alg.E.v 2 * Alg.E.v 2)) * (Alg.E.v 0 * (Alg.E.v 2 * Alg.E.v 2)))) - (((Alg.E.v 1 * ((Alg.E.v 2 * Alg.E.v 2) * Alg.E.v 2)) * (Alg.E.v 1 * ((Alg.E.v 2 * Alg.E.v 2) * Alg.E.v 2))) * ((Alg.E.v 1 * ((Alg.E.v 2 * Alg.E.v 2) * Alg.E.v 2)) * (Alg.E.v 1 * ((Alg.E.v 2 * Alg.E.v 2) * Alg.E.v 2))))) + (((((Alg.E.v 0 * (Alg.E.v 2 * Alg.E.v 2)) + ((Alg.E.v 1 * ((Alg.E.v 2 * Alg.E.v 2) * Alg.E.v 2)) * (Alg.E.v 1 * ((Alg.E.v 2 * Alg.E.v 2) * Alg.E.v 2)))) * ((Alg.E.v 0 * (Alg.E.v 2 * Alg.E.v 2)) + ((Alg.E.v 1 * ((Alg.E.v 2 * Alg.E.v 2) * Alg.E.v 2)) * (Alg.E.v 1 * ((Alg.E.v 2 * Alg.E.v 2) * Alg.E.v 2))))) - ((Alg.E.v 0 * (Alg.E.v 2 * Alg.E.v 2)) * (Alg.E.v 0 * (Alg.E.v 2 * Alg.E.v 2)))) - (((Alg.E.v 1 * ((Alg.E.v 2 * Alg.E.v 2) * Alg.E.v 2)) * (Alg.E.v 1 * ((Alg.E.v 2 * Alg.E.v 2) * Alg.E.v 2))) * ((Alg.E.v 1 * ((Alg.E.v 2 * Alg.E.v 2) * Alg.E.v 2)) * (Alg.E.v 1 * ((Alg.E.v 2 * Alg.E.v 2) * Alg.E.v 2))))))) ((Alg.E.v 0 * ((((Alg.E.v 1 * ((Alg.E.v 2 * Alg.E.v 2) * Alg.E.v 2)) * Alg.E.v 2) + ((Alg.E.v 1 * ((Alg.E.v 2 * Alg.E.v 2) * Alg.E.v 2)) * Alg.E.v 2)) * (((Alg.E.v 1 * ((Alg.E.v 2 * Alg.E.v 2) * Alg.E.v 2)) * Alg.E.v 2) + ((Alg.E.v 1 * ((Alg.E.v 2 * Alg.E.v 2) * Alg.E.v 2)) * Alg.E.v 2))))) (by decide +kernel)
theorem j_s {K : Type} [CR K] (x y Z : K)  : ((((x*(Z*Z))*((y*(Z*Z*Z))*(y*(Z*Z*Z))))+((x*(Z*Z))*((y*(Z*Z*Z))*(y*(Z*Z*Z)))))+(((x*(Z*Z))*((y*(Z*Z*Z))*(y*(Z*Z*Z))))+((x*(Z*Z))*((y*(Z*Z*Z))*(y*(Z*Z*Z)))))) = x*(((y*(Z*Z*Z))*Z + (y*(Z*Z*Z))*Z)*((y*(Z*Z*Z))*Z + (y*(Z*Z*Z))*Z)) := eq_of (fun zz => [x, y, Z].getD zz 0) 3 (((((Alg.E.v 0 * (Alg.E.v 2 * Alg.E.v 2)) * ((Alg.E.v 1 * ((Alg.E.v 2 * Alg.E.v 2) * Alg.E.v 2)) * (Alg.E.v 1 * ((Alg.E.v 2 * Alg.E.v 2) * Alg.E.v 2)))) + ((Alg.E.v 0 * (Alg.E.v 2 * Alg.E.v 2)) * ((Alg.E.v 1 * ((Alg.E.v 2 * Alg.E.v 2) * Alg.E.v 2)) * (Alg.E.v 1 * ((Alg.E.v 2 * Alg.E.v 2) * Alg.E.v 2))))) + (((Alg.E.v 0 * (Alg.E.v 2 * Alg.E.v 2)) * ((Alg.E.v 1 * ((Alg.E.v 2 * Alg.E.v 2) * Alg.E.v 2)) * (Alg.E.v 1 * ((Alg.E.v 2 * Alg.E.v 2) * Alg.E.v 2)))) + ((Alg.E.v 0 * (Alg.E.v 2 * Alg.E.v 2)) * ((Alg.E.v 1 * ((Alg.E.v 2 * Alg.E.v 2) * Alg.E.v 2)) * (Alg.E.v 1 * ((Alg.E.v 2 * Alg.E.v 2) * Alg.E.v 2))))))) ((Alg.E.v 0 * ((((Alg.E.v 1 * ((Alg.E.v 2 * Alg.E.v 2) * Alg.E.v 2)) * Alg.E.v 2) + ((Alg.E.v 1 * ((Alg.E.v 2 * Alg.E.v 2) * Alg.E.v 2)) * Alg.E.v 2)) * (((Alg.E.v 1 * ((Alg.E.v 2 * Alg.E.v 2) * Alg.E.v 2)) * Alg.E.v 2) + ((Alg.E.v 1 * ((Alg.E.v 2 * Alg.E.v 2) * Alg.E.v 2)) * Alg.E.v 2))))) (by decide +kernel)
theorem j_c {K : Type} [CR K] (x y Z : K)  : (((((y*(Z*Z*Z))*(y*(Z*Z*Z)))*((y*(Z*Z*Z))*(y*(Z*Z*Z))))+(((y*(Z*Z*Z))*(y*(Z*Z*Z)))*((y*(Z*Z*Z))*(y*(Z*Z*Z)))))+((((y*(Z*Z*Z))*(y*(Z*Z*Z)))*((y*(Z*Z*Z))*(y*(Z*Z*Z))))+(((y*(Z*Z*Z))*(y*(Z*Z*Z)))*((y*(Z*Z*Z))*(y*(Z*Z*Z))))))+(((((y*(Z*Z*Z))*(y*(Z*Z*Z)))*((y*(Z*Z*Z))*(y*(Z*Z*Z))))+(((y*(Z*Z*Z))*(y*(Z*Z*Z)))*((y*(Z*Z*Z))*(y*(Z*Z*Z)))))+((((y*(Z*Z*Z))*(y*(Z*Z*Z)))*((y*(Z*Z*Z))*(y*(Z*Z*Z))))+(((y*(Z*Z*Z))*(y*(Z*Z*Z)))*((y*(Z*Z*Z))*(y*(Z*Z*Z)))))) = y*(((y*(Z*Z*Z))*Z + (y*(Z*Z*Z))*Z)*((y*(Z*Z*Z))*Z + (y*(Z*Z*Z))*Z)*((y*(Z*Z*Z))*Z + (y*(Z*Z*Z))*Z)) := eq_of (fun zz => [x, y, Z].getD zz 0) 3 (((((((Alg.E.v 1 * ((Alg.E.v 2 * Alg.E.v 2) * Alg.E.v 2)) * (Alg.E.v 1 * ((Alg.E.v 2 * Alg.E.v 2) * Alg.E.v 2))) * ((Alg.E.v 1 * ((Alg.E.v 2 * Alg.E.v 2) * Alg.E.v 2)) * (Alg.E.v 1 * ((Alg.E.v 2 * Alg.E.v 2) * Alg.E.v 2)))) + (((Alg.E.v 1 * ((Alg.E.v 2 * Alg.E.v 2) * Alg.E.v 2)) * (Alg.E.v 1 * ((Alg.E.v 2 * Alg.E.v 2) * Alg.E.v 2))) * ((Alg.E.v 1 * ((Alg.E.v 2 * Alg.E.v 2) * Alg.E.v 2)) * (Alg.E.v 1 * ((Alg.E.v 2 * Alg.E.v 2) * Alg.E.v 2))))) + ((((Alg.E.v 1 * ((Alg.E.v 2 * Alg.E.v 2) * Alg.E.v 2)) * (Alg.E.v 1 * ((Alg.E.v 2 * Alg.E.v 2) * Alg.E.v 2))) * ((Alg.E.v 1 * ((Alg.E.v 2 * Alg.E.v 2) * Alg.E.v 2)) * (Alg.E.v 1 * ((Alg.E.v 2 * Alg.E.v 2) * Alg.E.v 2)))) + (((Alg.E.v 1 * ((Alg.E.v 2 * Alg.E.v 2) * Alg.E.v 2)) * (Alg.E.v 1 * ((Alg.E.v 2 * Alg.E.v 2) * Alg.E.v 2))) * ((Alg.E.v 1 * ((Alg.E.v 2 * Alg.E.v 2) * Alg.E.v 2)) * (Alg.E.v 1 * ((Alg.E.v 2 * Alg.E.v 2) * Alg.E.v 2)))))) + (((((Alg.E.v 1 * ((Alg.E.v 2 * Alg.E.v 2) * Alg.E.v 2)) * (Alg.E.v 1 * ((Alg.E.v 2 * Alg.E.v 2) * Alg.E.v 2))) * ((Alg.E.v 1 * ((Alg.E.v 2 * Alg.E.v 2) * Alg.E.v 2)) * (Alg.E.v 1 * ((Alg.E.v 2 * Alg.E.v 2) * Alg.E.v 2)))) + (((Alg.E.v 1 * ((Alg.E.v 2 * Alg.E.v 2) * Alg.E.v 2)) * (Alg.E.v 1 * ((Alg.E.v 2 * Alg.E.v 2) * Alg.E.v 2))) * ((Alg.E.v 1 * ((Alg.E.v 2 * Alg.E.v 2) * Alg.E.v 2)) * (Alg.E.v 1 * ((Alg.E.v 2 * Alg.E.v 2) * Alg.E.v 2))))) + ((((Alg.E.v 1 * ((Alg.E.v 2 * Alg.E.v 2) * Alg.E.v 2)) * (Alg.E.v 1 * ((Alg.E.v 2 * Alg.E.v 2) * Alg.E.v 2))) * ((Alg.E.v 1 * ((Alg.E.v 2 * Alg.E.v 2) * Alg.E.v 2)) * (Alg.E.v 1 * ((Alg.E.v 2 * Alg.E.v 2) * Alg.E.v 2)))) + (((Alg.E.v 1 * ((Alg.E.v 2 * Alg.E.v 2) * Alg.E.v 2)) * (Alg.E.v 1 * ((Alg.E.v 2 * Alg.E.v 2) * Alg.E.v 2))) * ((Alg.E.v 1 * ((Alg.E.v 2 * Alg.E.v 2) * Alg.E.v 2)) * (Alg.E.v 1 * ((Alg.E.v 2 * Alg.E.v 2) * Alg.E.v 2)))))))) ((Alg.E.v 1 * (((((Alg.E.v 1 * ((Alg.E.v 2 * Alg.E.v 2) * Alg.E.v 2)) * Alg.E.v 2) + ((Alg.E.v 1 * ((Alg.E.v 2 * Alg.E.v 2) * Alg.E.v 2)) * Alg.E.v 2)) * (((Alg.E.v 1 * ((Alg.E.v 2 * Alg.E.v 2) * Alg.E.v 2)) * Alg.E.v 2) + ((Alg.E.v 1 * ((Alg.E.v 2 * Alg.E.v 2) * Alg.E.v 2)) * Alg.E.v 2))) * (((Alg.E.v 1 * ((Alg.E.v 2 * Alg.E.v 2) * Alg.E.v 2)) * Alg.E.v 2) + ((Alg.E.v 1 * ((Alg.E.v 2 * Alg.E.v 2) * Alg.E.v 2)) * Alg.E.v 2))))) (by decide +kernel)
theorem j_x {K : Type} [CR K] (l x W : K)  : (l*W)*(l*W) - (x*(W*W) + x*(W*W)) = (l*l - x - x)*(W*W) := eq_of (fun zz => [l, x, W].getD zz 0) 3 ((((Alg.E.v 0 * Alg.E.v 2) * (Alg.E.v 0 * Alg.E.v 2)) - ((Alg.E.v 1 * (Alg.E.v 2 * Alg.E.v 2)) + (Alg.E.v 1 * (Alg.E.v 2 * Alg.E.v 2))))) (((((Alg.E.v 0 * Alg.E.v 0) - Alg.E.v 1) - Alg.E.v 1) * (Alg.E.v 2 * Alg.E.v 2))) (by decide +kernel)
theorem j_x2 {K : Type} [CR K] (l x W : K)  : (l*W)*(l*W) - x*(W*W) - x*(W*W) = (l*l - x - x)*(W*W) := eq_of (fun zz => [l, x, W].getD zz 0) 3 (((((Alg.E.v 0 * Alg.E.v 2) * (Alg.E.v 0 * Alg.E.v 2)) - (Alg.E.v 1 * (Alg.E.v 2 * Alg.E.v 2))) - (Alg.E.v 1 * (Alg.E.v 2 * Alg.E.v 2)))) (((((Alg.E.v 0 * Alg.E.v 0) - Alg.E.v 1) - Alg.E.v 1) * (Alg.E.v 2 * Alg.E.v 2))) (by decide +kernel)
theorem j_y {K : Type} [CR K] (l x y X W : K)  : (l*W)*(x*(W*W) - X*(W*W)) - y*(W*W*W) = (l*(x - X) - y)*(W*W*W) := eq_of (fun zz => [l, x, y, X, W].getD zz 0) 5 ((((Alg.E.v 0 * Alg.E.v 4) * ((Alg.E.v 1 * (Alg.E.v 4 * Alg.E.v 4)) - (Alg.E.v 3 * (Alg.E.v 4 * Alg.E.v 4)))) - (Alg.E.v 2 * ((Alg.E.v 4 * Alg.E.v 4) * Alg.E.v 4)))) ((((Alg.E.v 0 * (Alg.E.v 1 - Alg.E.v 3)) - Alg.E.v 2) * ((Alg.E.v 4 * Alg.E.v 4) * Alg.E.v 4))) (by decide +kernel)
theorem j_z {K : Type} [CR K] (y Z : K)  : (y*(Z*Z*Z))*Z + (y*(Z*Z*Z))*Z = (y + y)*(Z*Z*(Z*Z)) := eq_of (fun zz => [y, Z].getD zz 0) 2 ((((Alg.E.v 0 * ((Alg.E.v 1 * Alg.E.v 1) * Alg.E.v 1)) * Alg.E.v 1) + ((Alg.E.v 0 * ((Alg.E.v 1 * Alg.E.v 1) * Alg.E.v 1)) * Alg.E.v 1))) (((Alg.E.v 0 + Alg.E.v 0) * ((Alg.E.v 1 * Alg.E.v 1) * (Alg.E.v 1 * Alg.E.v 1)))) (by decide +kernel)
theorem j_h {K : Type} [CR K] (x u A B : K)  : ((u*(B*B))*(A*A)) - ((x*(A*A))*(B*B)) = (u - x)*((A*B)*(A*B)) := eq_of (fun zz => [x, u, A, B].getD zz 0) 4 ((((Alg.E.v 1 * (Alg.E.v 3 * Alg.E.v 3)) * (Alg.E.v 2 * Alg.E.v 2)) - ((Alg.E.v 0 * (Alg.E.v 2 * Alg.E.v 2)) * (Alg.E.v 3 * Alg.E.v 3)))) (((Alg.E.v 1 - Alg.E.v 0) * ((Alg.E.v 2 * Alg.E.v 3) * (Alg.E.v 2 * Alg.E.v 3)))) (by decide +kernel)
theorem j_r {K : Type} [CR K] (y v A B : K)  : ((v*(B*B*B))*(A*A)*A) - ((y*(A*A*A))*(B*B)*B) = (v - y)*((A*B)*(A*B)*(A*B)) := eq_of (fun zz => [y, v, A, B].getD zz 0) 4 (((((Alg.E.v 1 * ((Alg.E.v 3 * Alg.E.v 3) * Alg.E.v 3)) * (Alg.E.v 2 * Alg.E.v 2)) * Alg.E.v 2) - (((Alg.E.v 0 * ((Alg.E.v 2 * Alg.E.v 2) * Alg.E.v 2)) * (Alg.E.v 3 * Alg.E.v 3)) * Alg.E.v 3))) (((Alg.E.v 1 - Alg.E.v 0) * (((Alg.E.v 2 * Alg.E.v 3) * (Alg.E.v 2 * Alg.E.v 3)) * (Alg.E.v 2 * Alg.E.v 3)))) (by decide +kernel)
theorem j_u {K : Type} [CR K] (x A B : K)  : ((x*(A*A))*(B*B)) = x*((A*B)*(A*B)) := eq_of (fun zz => [x, A, B].getD zz 0) 3 (((Alg.E.v 0 * (Alg.E.v 1 * Alg.E.v 1)) * (Alg.E.v 2 * Alg.E.v 2))) ((Alg.E.v 0 * ((Alg.E.v 1 * Alg.E.v 2) * (Alg.E.v 1 * Alg.E.v 2)))) (by decide +kernel)
theorem j_t {K : Type} [CR K] (y A B : K)  : ((y*(A*A*A))*(B*B)*B) = y*((A*B)*(A*B)*(A*B)) := eq_of (fun zz => [y, A, B].getD zz 0) 3 ((((Alg.E.v 0 * ((Alg.E.v 1 * Alg.E.v 1) * Alg.E.v 1)) * (Alg.E.v 2 * Alg.E.v 2)) * Alg.E.v 2)) ((Alg.E.v 0 * (((Alg.E.v 1 * Alg.E.v 2) * (Alg.E.v 1 * Alg.E.v 2)) * (Alg.E.v 1 * Alg.E.v 2)))) (by decide +kernel)
theorem j_rl {K : Type} [CR K] (x y u v D l : K) (h : l*(u - x) = v - y) : (v - y)*(D*D*D) = l*(D*((u - x)*(D*D))) := eq_of_sub (zero_of_rel (fun zz => [x, y, u, v, D, l].getD zz 0) 6 (((Alg.E.v 3 - Alg.E.v 1) * ((Alg.E.v 4 * Alg.E.v 4) * Alg.E.v 4)) - (Alg.E.v 5 * (Alg.E.v 4 * ((Alg.E.v 2 - Alg.E.v 0) * (Alg.E.v 4 * Alg.E.v 4))))) [((Alg.E.c 0 - ((Alg.E.v 4 * Alg.E.v 4) * Alg.E.v 4)), (Alg.E.v 5 * (Alg.E.v 2 - Alg.E.v 0)) - (Alg.E.v 3 - Alg.E.v 1))] (all_cons (sub_of_eq h) all_nil) (by decide +kernel))
theorem j_ax {K : Type} [CR K] (l x u D H W : K) (h : H = (u - x)*(D*D)) (k : W = D*H) : (l*W)*(l*W) - H*H*H - (x*(D*D)*(H*H) + x*(D*D)*(H*H)) = (l*l - x - u)*(W*W) := eq_of_sub (zero_of_rel (fun zz => [l, x, u, D, H, W].getD zz 0) 6 (((((Alg.E.v 0 * Alg.E.v 5) * (Alg.E.v 0 * Alg.E.v 5)) - ((Alg.E.v 4 * Alg.E.v 4) * Alg.E.v 4)) - (((Alg.E.v 1 * (Alg.E.v 3 * Alg.E.v 3)) * (Alg.E.v 4 * Alg.E.v 4)) + ((Alg.E.v 1 * (Alg.E.v 3 * Alg.E.v 3)) * (Alg.E.v 4 * Alg.E.v 4)))) - ((((Alg.E.v 0 * Alg.E.v 0) - Alg.E.v 1) - Alg.E.v 2) * (Alg.E.v 5 * Alg.E.v 5))) [((Alg.E.c 0 - (Alg.E.v 4 * Alg.E.v 4)), Alg.E.v 4 - ((Alg.E.v 2 - Alg.E.v 1) * (Alg.E.v 3 * Alg.E.v 3))), (((Alg.E.v 1 + Alg.E.v 2) * (Alg.E.v 5 + (Alg.E.v 3 * Alg.E.v 4))), Alg.E.v 5 - (Alg.E.v 3 * Alg.E.v 4))] (all_cons (sub_of_eq h) (all_cons (sub_of_eq k) all_nil)) (by decide +kernel))
theorem j_w {K : Type} [CR K] (x D H W : K) (k : W = D*H) : x*(D*D)*(H*H) = x*(W*W) := eq_of_sub (zero_of_rel (fun zz => [x, D, H, W].getD zz 0) 4 (((Alg.E.v 0 * (Alg.E.v 1 * Alg.E.v 1)) * (Alg.E.v 2 * Alg.E.v 2)) - (Alg.E.v 0 * (Alg.E.v 3 * Alg.E.v 3))) [((Alg.E.c 0 - (Alg.E.v 0 * (Alg.E.v 3 + (Alg.E.v 1 * Alg.E.v 2)))), Alg.E.v 3 - (Alg.E.v 1 * Alg.E.v 2))] (all_cons (sub_of_eq k) all_nil) (by decide +kernel))
theorem j_ay {K : Type} [CR K] (l x y X D H W : K) (k : W = D*H) : (l*W)*(x*(W*W) - X*(W*W)) - y*(D*D*D)*(H*H*H) = (l*(x - X) - y)*(W*W*W) := eq_of_sub (zero_of_rel (fun zz => [l, x, y, X, D, H, W].getD zz 0) 7 ((((Alg.E.v 0 * Alg.E.v 6) * ((Alg.E.v 1 * (Alg.E.v 6 * Alg.E.v 6)) - (Alg.E.v 3 * (Alg.E.v 6 * Alg.E.v 6)))) - ((Alg.E.v 2 * ((Alg.E.v 4 * Alg.E.v 4) * Alg.E.v 4)) * ((Alg.E.v 5 * Alg.E.v 5) * Alg.E.v 5))) - (((Alg.E.v 0 * (Alg.E.v 1 - Alg.E.v 3)) - Alg.E.v 2) * ((Alg.E.v 6 * Alg.E.v 6) * Alg.E.v 6))) [((Alg.E.v 2 * (((Alg.E.v 6 * Alg.E.v 6) + (Alg.E.v 6 * (Alg.E.v 4 * Alg.E.v 5))) + ((Alg.E.v 4 * Alg.E.v 5) * (Alg.E.v 4 * Alg.E.v 5)))), Alg.E.v 6 - (Alg.E.v 4 * Alg.E.v 5))] (all_cons (sub_of_eq k) all_nil) (by decide +kernel))
theorem j_ass {K : Type} [CR K] (a b c : K)  : a - b - c - c = a - b - (c + c) := eq_of (fun zz => [a, b, c].getD zz 0) 3 ((((Alg.E.v 0 - Alg.E.v 1) - Alg.E.v 2) - Alg.E.v 2)) (((Alg.E.v 0 - Alg.E.v 1) - (Alg.E.v 2 + Alg.E.v 2))) (by decide +kernel)
theorem j_ss {K : Type} [CR K] (a b : K)  : a - b - b = a - (b + b) := eq_of (fun zz => [a, b].getD zz 0) 2 (((Alg.E.v 0 - Alg.E.v 1) - Alg.E.v 1)) ((Alg.E.v 0 - (Alg.E.v 1 + Alg.E.v 1))) (by decide +kernel)
theorem j_eqx {K : Type} [CR K] (x u A B : K)  : ((x*(A*A))*(B*B)) = x*((A*B)*(A*B)) := eq_of (fun zz => [x, u, A, B].getD zz 0) 4 (((Alg.E.v 0 * (Alg.E.v 2 * Alg.E.v 2)) * (Alg.E.v 3 * Alg.E.v 3))) ((Alg.E.v 0 * ((Alg.E.v 2 * Alg.E.v 3) * (Alg.E.v 2 * Alg.E.v 3)))) (by decide +kernel)
theorem j_xx {K : Type} [CR K] (x u D : K) (h : x*(D*D) = u*(D*D)) : (x - u)*(D*D) = 0 := eq_of_sub (zero_of_rel (fun zz => [x, u, D].getD zz 0) 3 (((Alg.E.v 0 - Alg.E.v 1) * (Alg.E.v 2 * Alg.E.v 2)) - Alg.E.c 0) [(Alg.E.c 1, (Alg.E.v 0 * (Alg.E.v 2 * Alg.E.v 2)) - (Alg.E.v 1 * (Alg.E.v 2 * Alg.E.v 2)))] (all_cons (sub_of_eq h) all_nil) (by decide +kernel))
theorem j_yy {K : Type} [CR K] (y v D : K) (h : y*(D*D*D) = v*(D*D*D)) : (y - v)*(D*D*D) = 0 := eq_of_sub (zero_of_rel (fun zz => [y, v, D].getD zz 0) 3 (((Alg.E.v 0 - Alg.E.v 1) * ((Alg.E.v 2 * Alg.E.v 2) * Alg.E.v 2)) - Alg.E.c 0) [(Alg.E.c 1, (Alg.E.v 0 * ((Alg.E.v 2 * Alg.E.v 2) * Alg.E.v 2)) - (Alg.E.v 1 * ((Alg.E.v 2 * Alg.E.v 2) * Alg.E.v 2)))] (all_cons (sub_of_eq h) all_nil) (by decide +kernel))
theorem j_e1 {K : Type} [CR K] (x A B : K)  : (x*(A*A))*(B*B) = x*((A*B)*(A*B)) := eq_of (fun zz => [x, A, B].getD zz 0) 3 (((Alg.E.v 0 * (Alg.E.v 1 * Alg.E.v 1)) * (Alg.E.v 2 * Alg.E.v 2))) ((Alg.E.v 0 * ((Alg.E.v 1 * Alg.E.v 2) * (Alg.E.v 1 * Alg.E.v 2)))) (by decide +kernel)
theorem j_e2 {K : Type} [CR K] (x A B : K)  : (x*(A*A))*(B*B) = x*((B*A)*(B*A)) := eq_of (fun zz => [x, A, B].getD zz 0) 3 (((Alg.E.v 0 * (Alg.E.v 1 * Alg.E.v 1)) * (Alg.E.v 2 * Alg.E.v 2))) ((Alg.E.v 0 * ((Alg.E.v 2 * Alg.E.v 1) * (Alg.E.v 2 * Alg.E.v 1)))) (by decide +kernel)
theorem j_f1 {K : Type} [CR K] (y A B : K)  : (y*(A*A*A))*((B*B)*B) = y*((A*B)*(A*B)*(A*B)) := eq_of (fun zz => [y, A, B].getD zz 0) 3 (((Alg.E.v 0 * ((Alg.E.v 1 * Alg.E.v 1) * Alg.E.v 1)) * ((Alg.E.v 2 * Alg.E.v 2) * Alg.E.v 2))) ((Alg.E.v 0 * (((Alg.E.v 1 * Alg.E.v 2) * (Alg.E.v 1 * Alg.E.v 2)) * (Alg.E.v 1 * Alg.E.v 2)))) (by decide +kernel)
theorem j_f2 {K : Type} [CR K] (y A B : K)  : (y*(A*A*A))*((B*B)*B) = y*((B*A)*(B*A)*(B*A)) := eq_of (fun zz => [y, A, B].getD zz 0) 3 (((Alg.E.v 0 * ((Alg.E.v 1 * Alg.E.v 1) * Alg.E.v 1)) * ((Alg.E.v 2 * Alg.E.v 2) * Alg.E.v 2))) ((Alg.E.v 0 * (((Alg.E.v 2 * Alg.E.v 1) * (Alg.E.v 2 * Alg.E.v 1)) * (Alg.E.v 2 * Alg.E.v 1)))) (by decide +kernel)
theorem j_n {K : Type} [CR K] (y Z : K)  : -(y*(Z*Z*Z)) = -y*(Z*Z*Z) := eq_of (fun zz => [y, Z].getD zz 0) 2 ((-(Alg.E.v 0 * ((Alg.E.v 1 * Alg.E.v 1) * Alg.E.v 1)))) (((-Alg.E.v 0) * ((Alg.E.v 1 * Alg.E.v 1) * Alg.E.v 1))) (by decide +kernel)
theorem j_ix {K : Type} [CR K] (x Z i : K) (h : Z*i = 1) : (x*(Z*Z))*(i*i) = x := eq_of_sub (zero_of_rel (fun zz => [x, Z, i].getD zz 0) 3 (((Alg.E.v 0 * (Alg.E.v 1 * Alg.E.v 1)) * (Alg.E.v 2 * Alg.E.v 2)) - Alg.E.v 0) [((Alg.E.v 0 * ((Alg.E.v 1 * Alg.E.v 2) + Alg.E.c 1)), (Alg.E.v 1 * Alg.E.v 2) - Alg.E.c 1)] (all_cons (sub_of_eq h) all_nil) (by decide +kernel))
theorem j_iy {K : Type} [CR K] (y Z i : K) (h : Z*i = 1) : (y*(Z*Z*Z))*(i*i)*i = y := eq_of_sub (zero_of_rel (fun zz => [y, Z, i].getD zz 0) 3 ((((Alg.E.v 0 * ((Alg.E.v 1 * Alg.E.v 1) * Alg.E.v 1)) * (Alg.E.v 2 * Alg.E.v 2)) * Alg.E.v 2) - Alg.E.v 0) [((Alg.E.v 0 * ((((Alg.E.v 1 * Alg.E.v 2) * (Alg.E.v 1 * Alg.E.v 2)) + (Alg.E.v 1 * Alg.E.v 2)) + Alg.E.c 1)), (Alg.E.v 1 * Alg.E.v 2) - Alg.E.c 1)] (all_cons (sub_of_eq h) all_nil) (by decide +kernel))

section
variable {K : Type} [Crv K]
/-- Three numbers stand for a point. -/
def Rep (P : K × K × K) : Option (K × K) → Prop
  | none => P.2.2 = 0
  | some q => P.2.2 ≠ 0 ∧ P.1 = q.1 * (P.2.2 * P.2.2) ∧ P.2.1 = q.2 * (P.2.2 * P.2.2 * P.2.2)
theorem rep_z {P : K × K × K} {A : Option (K × K)} (h : Rep P A) : P.2.2 = 0 ↔ A = none := by
  cases A with
  | none => exact ⟨fun _ => rfl, fun _ => h⟩
  | some q => exact ⟨fun e => absurd e h.1, fun e => by cases e⟩
theorem rep_un {P : K × K × K} {A B : Option (K × K)} (h : Rep P A) (k : Rep P B) : A = B := by
  cases A with
  | none => exact ((rep_z k).1 h).symm
  | some p => cases B with
    | none => exact (rep_z h).1 k
    | some q =>
      have h1 : p.1 * (P.2.2 * P.2.2) = q.1 * (P.2.2 * P.2.2) := h.2.1.symm.trans k.2.1
      have h2 : p.2 * (P.2.2 * P.2.2 * P.2.2) = q.2 * (P.2.2 * P.2.2 * P.2.2) := h.2.2.symm.trans k.2.2
      congr 1
      exact Prod.ext (mul_right_cancel (mul_ne h.1 h.1) h1) (mul_right_cancel (mul_ne (mul_ne h.1 h.1) h.1) h2)
theorem rep_neg {P : K × K × K} {A : Option (K × K)} (h : Rep P A) : Rep (P.1, -P.2.1, P.2.2) (ng A) := by
  cases A with
  | none => exact h
  | some q => exact ⟨h.1, h.2.1, by show -P.2.1 = -q.2 * _; rw [h.2.2]; exact j_n _ _⟩
/-- Twice, as the program has it. -/
def jdbl (P : K × K × K) : K × K × K :=
  let a := P.1 * P.1
  let b := P.2.1 * P.2.1
  let c := b * b
  let t := P.1 + b
  let d0 := t * t - a - c
  let d := d0 + d0
  let e := a + a + a
  let x := e * e - (d + d)
  let c2 := c + c
  let c4 := c2 + c2
  let z := P.2.1 * P.2.2
  (x, e * (d - x) - (c4 + c4), z + z)
/-- Twice, as the document has it. -/
def kdbl (P : K × K × K) : K × K × K :=
  let a := P.1 * P.1
  let b := P.2.1 * P.2.1
  let s0 := P.1 * b
  let s1 := s0 + s0
  let s := s1 + s1
  let m := a + a + a
  let x := m * m - s - s
  let c0 := b * b
  let c1 := c0 + c0
  let c2 := c1 + c1
  let z := P.2.1 * P.2.2
  (x, m * (s - x) - (c2 + c2), z + z)
theorem dbl_ad {q : K × K} (hq : OnC q) : ∃ l, l * (q.2 + q.2) = q.1 * q.1 + q.1 * q.1 + q.1 * q.1 ∧ ad (some q) (some q) = some (third q q l) := by
  have hn : ¬Opp q q := fun h => hq.ne2 (by have h2 := h.2; have := add_neg q.2; rwa [← h2] at this)
  obtain ⟨l, hl⟩ := sl_ex hq hq hn
  exact ⟨l, hl.r, ad_some hn hl⟩
theorem rep_jdbl {P : K × K × K} {A : Option (K × K)} (h : Rep P A) (hA : OnO A) : Rep (jdbl P) (ad A A) := by
  obtain ⟨X, Y, Z⟩ := P
  cases A with
  | none =>
    have h : Z = 0 := h
    show Y * Z + Y * Z = 0
    rw [h, mul_zero, add_zero]
  | some q =>
    obtain ⟨x, y⟩ := q
    obtain ⟨hz0, hX0, hY0⟩ := h
    have hz : Z ≠ 0 := hz0
    have hX : X = x * (Z * Z) := hX0
    have hY : Y = y * (Z * Z * Z) := hY0
    clear hz0 hX0 hY0
    obtain ⟨l, hl, e⟩ := dbl_ad hA
    rw [e]
    subst hX hY
    have e1 := j_e x y Z l hl
    have e2 := j_d x y Z
    have e3 := j_c x y Z
    have e4 := j_z y Z
    have hW : ((y*(Z*Z*Z))*Z + (y*(Z*Z*Z))*Z) ≠ 0 := by
      rw [e4]
      exact mul_ne (OnC.ne2 (p := (x, y)) hA) (mul_ne (mul_ne hz hz) (mul_ne hz hz))
    refine ⟨hW, ?_, ?_⟩
    · show (((x*(Z*Z))*(x*(Z*Z)))+((x*(Z*Z))*(x*(Z*Z)))+((x*(Z*Z))*(x*(Z*Z)))) * (((x*(Z*Z))*(x*(Z*Z)))+((x*(Z*Z))*(x*(Z*Z)))+((x*(Z*Z))*(x*(Z*Z)))) - (((((x*(Z*Z))+((y*(Z*Z*Z))*(y*(Z*Z*Z))))*((x*(Z*Z))+((y*(Z*Z*Z))*(y*(Z*Z*Z)))) - ((x*(Z*Z))*(x*(Z*Z))) - (((y*(Z*Z*Z))*(y*(Z*Z*Z)))*((y*(Z*Z*Z))*(y*(Z*Z*Z)))))+(((x*(Z*Z))+((y*(Z*Z*Z))*(y*(Z*Z*Z))))*((x*(Z*Z))+((y*(Z*Z*Z))*(y*(Z*Z*Z)))) - ((x*(Z*Z))*(x*(Z*Z))) - (((y*(Z*Z*Z))*(y*(Z*Z*Z)))*((y*(Z*Z*Z))*(y*(Z*Z*Z)))))) + ((((x*(Z*Z))+((y*(Z*Z*Z))*(y*(Z*Z*Z))))*((x*(Z*Z))+((y*(Z*Z*Z))*(y*(Z*Z*Z)))) - ((x*(Z*Z))*(x*(Z*Z))) - (((y*(Z*Z*Z))*(y*(Z*Z*Z)))*((y*(Z*Z*Z))*(y*(Z*Z*Z)))))+(((x*(Z*Z))+((y*(Z*Z*Z))*(y*(Z*Z*Z))))*((x*(Z*Z))+((y*(Z*Z*Z))*(y*(Z*Z*Z)))) - ((x*(Z*Z))*(x*(Z*Z))) - (((y*(Z*Z*Z))*(y*(Z*Z*Z)))*((y*(Z*Z*Z))*(y*(Z*Z*Z))))))) = (l * l - x - x) * (((y*(Z*Z*Z))*Z + (y*(Z*Z*Z))*Z) * ((y*(Z*Z*Z))*Z + (y*(Z*Z*Z))*Z))
      rw [e1, e2]; exact j_x _ _ _
    · show (((x*(Z*Z))*(x*(Z*Z)))+((x*(Z*Z))*(x*(Z*Z)))+((x*(Z*Z))*(x*(Z*Z)))) * (((((x*(Z*Z))+((y*(Z*Z*Z))*(y*(Z*Z*Z))))*((x*(Z*Z))+((y*(Z*Z*Z))*(y*(Z*Z*Z)))) - ((x*(Z*Z))*(x*(Z*Z))) - (((y*(Z*Z*Z))*(y*(Z*Z*Z)))*((y*(Z*Z*Z))*(y*(Z*Z*Z)))))+(((x*(Z*Z))+((y*(Z*Z*Z))*(y*(Z*Z*Z))))*((x*(Z*Z))+((y*(Z*Z*Z))*(y*(Z*Z*Z)))) - ((x*(Z*Z))*(x*(Z*Z))) - (((y*(Z*Z*Z))*(y*(Z*Z*Z)))*((y*(Z*Z*Z))*(y*(Z*Z*Z)))))) - ((((x*(Z*Z))*(x*(Z*Z)))+((x*(Z*Z))*(x*(Z*Z)))+((x*(Z*Z))*(x*(Z*Z)))) * (((x*(Z*Z))*(x*(Z*Z)))+((x*(Z*Z))*(x*(Z*Z)))+((x*(Z*Z))*(x*(Z*Z)))) - (((((x*(Z*Z))+((y*(Z*Z*Z))*(y*(Z*Z*Z))))*((x*(Z*Z))+((y*(Z*Z*Z))*(y*(Z*Z*Z)))) - ((x*(Z*Z))*(x*(Z*Z))) - (((y*(Z*Z*Z))*(y*(Z*Z*Z)))*((y*(Z*Z*Z))*(y*(Z*Z*Z)))))+(((x*(Z*Z))+((y*(Z*Z*Z))*(y*(Z*Z*Z))))*((x*(Z*Z))+((y*(Z*Z*Z))*(y*(Z*Z*Z)))) - ((x*(Z*Z))*(x*(Z*Z))) - (((y*(Z*Z*Z))*(y*(Z*Z*Z)))*((y*(Z*Z*Z))*(y*(Z*Z*Z)))))) + ((((x*(Z*Z))+((y*(Z*Z*Z))*(y*(Z*Z*Z))))*((x*(Z*Z))+((y*(Z*Z*Z))*(y*(Z*Z*Z)))) - ((x*(Z*Z))*(x*(Z*Z))) - (((y*(Z*Z*Z))*(y*(Z*Z*Z)))*((y*(Z*Z*Z))*(y*(Z*Z*Z)))))+(((x*(Z*Z))+((y*(Z*Z*Z))*(y*(Z*Z*Z))))*((x*(Z*Z))+((y*(Z*Z*Z))*(y*(Z*Z*Z)))) - ((x*(Z*Z))*(x*(Z*Z))) - (((y*(Z*Z*Z))*(y*(Z*Z*Z)))*((y*(Z*Z*Z))*(y*(Z*Z*Z))))))))) - ((((((y*(Z*Z*Z))*(y*(Z*Z*Z)))*((y*(Z*Z*Z))*(y*(Z*Z*Z))))+(((y*(Z*Z*Z))*(y*(Z*Z*Z)))*((y*(Z*Z*Z))*(y*(Z*Z*Z)))))+((((y*(Z*Z*Z))*(y*(Z*Z*Z)))*((y*(Z*Z*Z))*(y*(Z*Z*Z))))+(((y*(Z*Z*Z))*(y*(Z*Z*Z)))*((y*(Z*Z*Z))*(y*(Z*Z*Z)))))) + (((((y*(Z*Z*Z))*(y*(Z*Z*Z)))*((y*(Z*Z*Z))*(y*(Z*Z*Z))))+(((y*(Z*Z*Z))*(y*(Z*Z*Z)))*((y*(Z*Z*Z))*(y*(Z*Z*Z)))))+((((y*(Z*Z*Z))*(y*(Z*Z*Z)))*((y*(Z*Z*Z))*(y*(Z*Z*Z))))+(((y*(Z*Z*Z))*(y*(Z*Z*Z)))*((y*(Z*Z*Z))*(y*(Z*Z*Z))))))) = (l * (x - (l * l - x - x)) - y) * (((y*(Z*Z*Z))*Z + (y*(Z*Z*Z))*Z) * ((y*(Z*Z*Z))*Z + (y*(Z*Z*Z))*Z) * ((y*(Z*Z*Z))*Z + (y*(Z*Z*Z))*Z))
      rw [e1, e2, e3, j_x]; exact j_y _ _ _ _ _
theorem rep_kdbl {P : K × K × K} {A : Option (K × K)} (h : Rep P A) (hA : OnO A) : Rep (kdbl P) (ad A A) := by
  obtain ⟨X, Y, Z⟩ := P
  cases A with
  | none =>
    have h : Z = 0 := h
    show Y * Z + Y * Z = 0
    rw [h, mul_zero, add_zero]
  | some q =>
    obtain ⟨x, y⟩ := q
    obtain ⟨hz0, hX0, hY0⟩ := h
    have hz : Z ≠ 0 := hz0
    have hX : X = x * (Z * Z) := hX0
    have hY : Y = y * (Z * Z * Z) := hY0
    clear hz0 hX0 hY0
    obtain ⟨l, hl, e⟩ := dbl_ad hA
    rw [e]
    subst hX hY
    have e1 := j_e x y Z l hl
    have e2 := j_s x y Z
    have e3 := j_c x y Z
    have e4 := j_z y Z
    have hW : ((y*(Z*Z*Z))*Z + (y*(Z*Z*Z))*Z) ≠ 0 := by
      rw [e4]
      exact mul_ne (OnC.ne2 (p := (x, y)) hA) (mul_ne (mul_ne hz hz) (mul_ne hz hz))
    refine ⟨hW, ?_, ?_⟩
    · show (((x*(Z*Z))*(x*(Z*Z)))+((x*(Z*Z))*(x*(Z*Z)))+((x*(Z*Z))*(x*(Z*Z)))) * (((x*(Z*Z))*(x*(Z*Z)))+((x*(Z*Z))*(x*(Z*Z)))+((x*(Z*Z))*(x*(Z*Z)))) - ((((x*(Z*Z))*((y*(Z*Z*Z))*(y*(Z*Z*Z))))+((x*(Z*Z))*((y*(Z*Z*Z))*(y*(Z*Z*Z)))))+(((x*(Z*Z))*((y*(Z*Z*Z))*(y*(Z*Z*Z))))+((x*(Z*Z))*((y*(Z*Z*Z))*(y*(Z*Z*Z)))))) - ((((x*(Z*Z))*((y*(Z*Z*Z))*(y*(Z*Z*Z))))+((x*(Z*Z))*((y*(Z*Z*Z))*(y*(Z*Z*Z)))))+(((x*(Z*Z))*((y*(Z*Z*Z))*(y*(Z*Z*Z))))+((x*(Z*Z))*((y*(Z*Z*Z))*(y*(Z*Z*Z)))))) = (l * l - x - x) * (((y*(Z*Z*Z))*Z + (y*(Z*Z*Z))*Z) * ((y*(Z*Z*Z))*Z + (y*(Z*Z*Z))*Z))
      rw [e1, e2]; exact j_x2 _ _ _
    · show (((x*(Z*Z))*(x*(Z*Z)))+((x*(Z*Z))*(x*(Z*Z)))+((x*(Z*Z))*(x*(Z*Z)))) * (((((x*(Z*Z))*((y*(Z*Z*Z))*(y*(Z*Z*Z))))+((x*(Z*Z))*((y*(Z*Z*Z))*(y*(Z*Z*Z)))))+(((x*(Z*Z))*((y*(Z*Z*Z))*(y*(Z*Z*Z))))+((x*(Z*Z))*((y*(Z*Z*Z))*(y*(Z*Z*Z)))))) - ((((x*(Z*Z))*(x*(Z*Z)))+((x*(Z*Z))*(x*(Z*Z)))+((x*(Z*Z))*(x*(Z*Z)))) * (((x*(Z*Z))*(x*(Z*Z)))+((x*(Z*Z))*(x*(Z*Z)))+((x*(Z*Z))*(x*(Z*Z)))) - ((((x*(Z*Z))*((y*(Z*Z*Z))*(y*(Z*Z*Z))))+((x*(Z*Z))*((y*(Z*Z*Z))*(y*(Z*Z*Z)))))+(((x*(Z*Z))*((y*(Z*Z*Z))*(y*(Z*Z*Z))))+((x*(Z*Z))*((y*(Z*Z*Z))*(y*(Z*Z*Z)))))) - ((((x*(Z*Z))*((y*(Z*Z*Z))*(y*(Z*Z*Z))))+((x*(Z*Z))*((y*(Z*Z*Z))*(y*(Z*Z*Z)))))+(((x*(Z*Z))*((y*(Z*Z*Z))*(y*(Z*Z*Z))))+((x*(Z*Z))*((y*(Z*Z*Z))*(y*(Z*Z*Z)))))))) - ((((((y*(Z*Z*Z))*(y*(Z*Z*Z)))*((y*(Z*Z*Z))*(y*(Z*Z*Z))))+(((y*(Z*Z*Z))*(y*(Z*Z*Z)))*((y*(Z*Z*Z))*(y*(Z*Z*Z)))))+((((y*(Z*Z*Z))*(y*(Z*Z*Z)))*((y*(Z*Z*Z))*(y*(Z*Z*Z))))+(((y*(Z*Z*Z))*(y*(Z*Z*Z)))*((y*(Z*Z*Z))*(y*(Z*Z*Z)))))) + (((((y*(Z*Z*Z))*(y*(Z*Z*Z)))*((y*(Z*Z*Z))*(y*(Z*Z*Z))))+(((y*(Z*Z*Z))*(y*(Z*Z*Z)))*((y*(Z*Z*Z))*(y*(Z*Z*Z)))))+((((y*(Z*Z*Z))*(y*(Z*Z*Z)))*((y*(Z*Z*Z))*(y*(Z*Z*Z))))+(((y*(Z*Z*Z))*(y*(Z*Z*Z)))*((y*(Z*Z*Z))*(y*(Z*Z*Z))))))) = (l * (x - (l * l - x - x)) - y) * (((y*(Z*Z*Z))*Z + (y*(Z*Z*Z))*Z) * ((y*(Z*Z*Z))*Z + (y*(Z*Z*Z))*Z) * ((y*(Z*Z*Z))*Z + (y*(Z*Z*Z))*Z))
      rw [e1, e2, e3, j_x2]; exact j_y _ _ _ _ _
/-! ## sums -/
def jH (P Q : K × K × K) : K := Q.1 * (P.2.2 * P.2.2) - P.1 * (Q.2.2 * Q.2.2)
def jR (P Q : K × K × K) : K := Q.2.1 * (P.2.2 * P.2.2) * P.2.2 - P.2.1 * (Q.2.2 * Q.2.2) * Q.2.2
def jadd (P Q : K × K × K) : K × K × K :=
  let b := Q.2.2 * Q.2.2
  let u := P.1 * b
  let s := P.2.1 * b * Q.2.2
  let h := jH P Q
  let r := jR P Q
  let h2 := h * h
  let h3 := h2 * h
  let w := u * h2
  let x := r * r - h3 - (w + w)
  (x, r * (w - x) - s * h3, P.2.2 * Q.2.2 * h)
theorem jH_eq {P Q : K × K × K} {p q : K × K} (hP : Rep P (some p)) (hQ : Rep Q (some q)) : jH P Q = (q.1 - p.1) * (P.2.2 * Q.2.2 * (P.2.2 * Q.2.2)) := by
  unfold jH
  rw [hP.2.1, hQ.2.1]
  exact j_h _ _ _ _
theorem jR_eq {P Q : K × K × K} {p q : K × K} (hP : Rep P (some p)) (hQ : Rep Q (some q)) : jR P Q = (q.2 - p.2) * (P.2.2 * Q.2.2 * (P.2.2 * Q.2.2) * (P.2.2 * Q.2.2)) := by
  unfold jR
  rw [hP.2.2, hQ.2.2]
  exact j_r _ _ _ _
theorem jH_zero {P Q : K × K × K} {p q : K × K} (hP : Rep P (some p)) (hQ : Rep Q (some q)) (h : jH P Q = 0) : p.1 = q.1 := by
  rw [jH_eq hP hQ] at h
  have hD := mul_ne hP.1 hQ.1
  rcases mul_eq_zero h with h | h
  · exact (eq_of_sub h).symm
  · exact absurd h (mul_ne hD hD)
theorem jR_zero {P Q : K × K × K} {p q : K × K} (hP : Rep P (some p)) (hQ : Rep Q (some q)) : jR P Q = 0 ↔ p.2 = q.2 := by
  rw [jR_eq hP hQ]
  have hD := mul_ne hP.1 hQ.1
  constructor
  · intro h
    rcases mul_eq_zero h with h | h
    · exact (eq_of_sub h).symm
    · exact absurd h (mul_ne (mul_ne hD hD) hD)
  · intro h; rw [h, sub_self, zero_mul]
theorem rep_jadd {P Q : K × K × K} {p q : K × K} (hP : Rep P (some p)) (hQ : Rep Q (some q)) (hp : OnC p) (hq : OnC q) (hH : jH P Q ≠ 0) : Rep (jadd P Q) (ad (some p) (some q)) := by
  have e1 := jH_eq hP hQ
  have e2 := jR_eq hP hQ
  have hx : p.1 ≠ q.1 := fun h => hH (by rw [e1, h, sub_self, zero_mul])
  have hn : ¬Opp p q := fun h => hx h.1
  obtain ⟨l, hl⟩ := sl_ex hp hq hn
  rw [ad_some hn hl]
  obtain ⟨X, Y, A⟩ := P
  obtain ⟨U, V, B⟩ := Q
  obtain ⟨x, y⟩ := p
  obtain ⟨u, v⟩ := q
  obtain ⟨hA, hX, hY⟩ := hP
  obtain ⟨hB, hU, hV⟩ := hQ
  have hX : X = x * (A * A) := hX
  have hY : Y = y * (A * A * A) := hY
  have hl1 : l * (u - x) = v - y := hl.d
  have e3 : X * (B * B) = x * (A * B * (A * B)) := by rw [hX]; exact j_u _ _ _
  have e4 : Y * (B * B) * B = y * (A * B * (A * B) * (A * B)) := by rw [hY]; exact j_t _ _ _
  have e5 : jR (X, Y, A) (U, V, B) = l * (A * B * jH (X, Y, A) (U, V, B)) := by
    rw [e2, e1]
    exact j_rl x y u v (A * B) l hl1
  generalize hh : jH (X, Y, A) (U, V, B) = H at *
  have e1 : H = (u - x) * (A * B * (A * B)) := e1
  have ex : jR (X, Y, A) (U, V, B) * jR (X, Y, A) (U, V, B) - H * H * H - (X * (B * B) * (H * H) + X * (B * B) * (H * H)) = (l * l - x - u) * (A * B * H * (A * B * H)) := by
    rw [e5, e3]
    exact j_ax l x u (A * B) H _ e1 rfl
  refine ⟨?_, ?_, ?_⟩
  · show A * B * jH (X, Y, A) (U, V, B) ≠ 0
    rw [hh]
    exact mul_ne (mul_ne hA hB) hH
  · show jR (X, Y, A) (U, V, B) * jR (X, Y, A) (U, V, B) - jH (X, Y, A) (U, V, B) * jH (X, Y, A) (U, V, B) * jH (X, Y, A) (U, V, B) - (X * (B * B) * (jH (X, Y, A) (U, V, B) * jH (X, Y, A) (U, V, B)) + X * (B * B) * (jH (X, Y, A) (U, V, B) * jH (X, Y, A) (U, V, B))) = (l * l - x - u) * (A * B * jH (X, Y, A) (U, V, B) * (A * B * jH (X, Y, A) (U, V, B)))
    rw [hh]
    exact ex
  · show jR (X, Y, A) (U, V, B) * (X * (B * B) * (jH (X, Y, A) (U, V, B) * jH (X, Y, A) (U, V, B)) - (jR (X, Y, A) (U, V, B) * jR (X, Y, A) (U, V, B) - jH (X, Y, A) (U, V, B) * jH (X, Y, A) (U, V, B) * jH (X, Y, A) (U, V, B) - (X * (B * B) * (jH (X, Y, A) (U, V, B) * jH (X, Y, A) (U, V, B)) + X * (B * B) * (jH (X, Y, A) (U, V, B) * jH (X, Y, A) (U, V, B))))) - Y * (B * B) * B * (jH (X, Y, A) (U, V, B) * jH (X, Y, A) (U, V, B) * jH (X, Y, A) (U, V, B)) = (l * (x - (l * l - x - u)) - y) * (A * B * jH (X, Y, A) (U, V, B) * (A * B * jH (X, Y, A) (U, V, B)) * (A * B * jH (X, Y, A) (U, V, B)))
    rw [hh, ex, e5, e3, e4, j_w x (A * B) H _ rfl]
    exact j_ay l x y (l * l - x - u) (A * B) H _ rfl
/-- Are both the same? -/
theorem rep_eq {P Q : K × K × K} {p q : K × K} (hP : Rep P (some p)) (hQ : Rep Q (some q)) :
    (P.1 * (Q.2.2 * Q.2.2) = Q.1 * (P.2.2 * P.2.2) ∧ P.2.1 * (Q.2.2 * Q.2.2 * Q.2.2) = Q.2.1 * (P.2.2 * P.2.2 * P.2.2)) ↔ p = q := by
  have hD := mul_ne hP.1 hQ.1
  constructor
  · rintro ⟨h1, h2⟩
    rw [hP.2.1, hQ.2.1, j_e1, j_e2] at h1
    rw [hP.2.2, hQ.2.2, j_f1, j_f2] at h2
    exact Prod.ext (mul_right_cancel (mul_ne hD hD) h1) (mul_right_cancel (mul_ne (mul_ne hD hD) hD) h2)
  · rintro rfl
    rw [hP.2.1, hQ.2.1, hP.2.2, hQ.2.2]
    exact ⟨by rw [j_e1, j_e2], by rw [j_f1, j_f2]⟩
theorem rep_xy {P : K × K × K} {p : K × K} (hP : Rep P (some p)) {i : K} (hi : P.2.2 * i = 1) : P.1 * (i * i) = p.1 ∧ P.2.1 * (i * i) * i = p.2 := by
  rw [hP.2.1, hP.2.2]
  exact ⟨j_ix _ _ _ hi, j_iy _ _ _ hi⟩
end
end Go.Proofs.YtcedljbapgmdmaaGreat.Alg

/- DERIVED. The program's elements and points: the field's, and the curve's. -/
set_option linter.all false
namespace Go.Proofs.YtcedljbapgmdmaaGreat.Alg
open CR Go.Proofs.YtcedljbapgmdmaaGreat.En

theorem pw_add {K : Type} [CR K] (a : K) (m : Nat) : ∀ n, pw a (m + n) = pw a m * pw a n
  | 0 => (mul_one _).symm
  | n + 1 => by
    show pw a (m + n) * a = pw a m * (pw a n * a)
    rw [pw_add a m n, mul_assoc]
theorem pw_mul {K : Type} [CR K] (a : K) (m : Nat) : ∀ n, pw a (m * n) = pw (pw a m) n
  | 0 => rfl
  | n + 1 => by
    show pw a (m * n + m) = pw (pw a m) n * pw a m
    rw [pw_add, pw_mul a m n]
theorem pw_one {K : Type} [CR K] (a : K) : pw a 1 = a := one_mul a
theorem pw_two {K : Type} [CR K] (a : K) : pw a 2 = a * a := by show pw a 1 * a = _; rw [pw_one]

theorem pN_pr : Pr pN := pr_p
instance : IsPr pN := ⟨pN_pr⟩
/-- No number's third power is the opposite of 4. -/
theorem no_cube (a : Nat) : (a * a * a + 4) % pN ≠ 0 := fun h => by
  have hd : ¬pN ∣ a := fun hd => by
    have h1 : (a * a * a + 4) % pN = 4 % pN := by
      obtain ⟨c, rfl⟩ := hd
      rw [Nat.mul_assoc, Nat.mul_assoc, Nat.mul_add_mod]
    rw [h1] at h
    revert h
    decide +kernel
  have h2 := pN_pr.unit hd
  have h3 : (a * a * a) % pN = (pN - 4) % pN := by
    have h4 := Nat.div_add_mod (a * a * a + 4) pN
    rw [h] at h4
    have h5 : a * a * a = pN * ((a * a * a + 4) / pN - 1) + (pN - 4) := by
      have h6 : 1 ≤ (a * a * a + 4) / pN := Nat.one_le_iff_ne_zero.2 fun e => by rw [e] at h4; omega
      have h7 : 4 ≤ pN := by decide +kernel
      rw [Nat.mul_sub, Nat.mul_one]
      have h8 : pN ≤ pN * ((a * a * a + 4) / pN) := Nat.le_mul_of_pos_right _ h6
      omega
    rw [h5, Nat.mul_add_mod]
  have h4 : a ^ (pN - 1) % pN = (pN - 4) ^ ((pN - 1) / 3) % pN := by
    have e : a ^ (pN - 1) = (a * a * a) ^ ((pN - 1) / 3) := by
      rw [show a * a * a = a ^ 3 by rw [Nat.pow_succ, Nat.pow_succ, Nat.pow_succ, Nat.pow_zero, Nat.one_mul], ← Nat.pow_mul]
      congr 1
    rw [e, Nat.pow_mod, h3, ← Nat.pow_mod]
  have hlt : (pN - 1) / 3 < 2 ^ 381 := by decide +kernel
  rw [h4, ← pm_eq hlt] at h2
  revert h2
  decide +kernel
abbrev KF := Zm pN
noncomputable instance : Crv KF where
  b := zr 4
  two h := absurd (zr_eq.1 ((zr_add 1 1).symm.trans h) : (1 + 1) % pN = 0 % pN) (by decide +kernel)
  no2 x := by
    revert x
    refine zr_ind fun a h => ?_
    rw [zr_mul, zr_mul, zr_add, ← zr_zero, zr_eq, Nat.zero_mod] at h
    exact no_cube a h

/-! ## elements -/
def za (a : Fe) : KF := zr (fv a)
theorem zr_mod (a : Nat) : (zr (a % pN) : KF) = zr a := zr_eq.2 (Nat.mod_mod _ _)
theorem za_mul (a b : Fe) : za (fmul a b) = za a * za b := by unfold za; rw [fv_mul, zr_mod, zr_mul]
theorem za_add (a b : Fe) : za (fadd a b) = za a + za b := by unfold za; rw [fv_add, zr_mod, zr_add]
theorem za_sub (a b : Fe) : za (fsub a b) = za a - za b := by unfold za; rw [fv_sub, zr_mod, zr_sub]
theorem fv_zE : fv (ofSix 0 0 0 0 0 0) % pN = 0 := by decide +kernel
theorem za_zE : za zE = 0 := by unfold za; rw [← zr_zero, zr_eq, Nat.zero_mod]; exact fv_zE
theorem za_neg (a : Fe) : za (fneg a) = -za a := by
  unfold fneg
  rw [za_sub, show za (ofSix 0 0 0 0 0 0) = 0 from za_zE, sub_def, zero_add]
theorem za_one : za fOne = 1 := by unfold za; rw [← zr_one, zr_eq]; decide +kernel
theorem za_fone : za fone = 1 := by unfold za; rw [← zr_one, zr_eq]; decide +kernel
theorem za_four : za four = Crv.b := by show zr _ = zr 4; rw [zr_eq]; decide +kernel
theorem isz_iff {a : Fe} : isz a = true ↔ za a = 0 := by
  unfold isz za
  rw [← zr_zero, zr_eq, Nat.zero_mod]
  exact ⟨Nat.eq_of_beq_eq_true, fun h => by rw [h]; rfl⟩
theorem isz_f {a : Fe} : isz a = false ↔ za a ≠ 0 := by
  rw [← Bool.not_eq_true, isz_iff]
theorem feq_za {a b : Fe} : feq a b = true ↔ za a = za b := by
  unfold feq za
  rw [zr_eq, Bool.and_true]
  exact ⟨Nat.eq_of_beq_eq_true, fun h => by rw [h]; exact Nat.beq_refl _⟩
/-! ## powers -/
def valD : List Nat → Nat → Nat
  | [], e => e
  | d :: l, e => valD l (16 * e + d)
theorem za_tab (a : Fe) : ∀ n, za (tabF a n) = pw (za a) n
  | 0 => za_fone
  | n + 1 => by rw [tabF, za_mul, za_tab a n]; rfl
theorem za_dig (a o : Fe) : ∀ d, za (digF a o d) = za o * pw (za a) d
  | 0 => (mul_one _).symm
  | d + 1 => by rw [digF, za_mul, za_tab]
theorem za_sq4 (o : Fe) : za (sq4 o) = pw (za o) 16 := by
  unfold sq4
  simp only [za_mul]
  rw [show (16 : Nat) = 2 * 2 * 2 * 2 from rfl, pw_mul, pw_mul, pw_mul, pw_two, pw_two, pw_two, pw_two]
theorem za_powG (a : Fe) : ∀ (l : List Nat) (o : Fe) (e : Nat), za o = pw (za a) e → za (powG a l o) = pw (za a) (valD l e)
  | [], o, e, h => h
  | d :: l, o, e, h => by
    refine za_powG a l _ _ ?_
    rw [za_dig, za_sq4, h, ← pw_mul, Nat.mul_comm e 16, ← pw_add]
theorem za_pow (a : Fe) (l : List Nat) : za (powF a l) = pw (za a) (valD l 0) := by
  cases l with
  | nil => exact za_fone
  | cons d l =>
    refine za_powG a l _ _ ?_
    rw [za_dig, za_fone, one_mul, Nat.mul_zero, Nat.zero_add]
theorem less2_val : valD (hexD sLess2) 0 = pN - 2 := by decide +kernel
theorem za_inv {a : Fe} (h : za a ≠ 0) : za a * za (invF a) = 1 := by
  unfold invF
  rw [za_pow, less2_val]
  exact zm_inv _ h
/-! ## points -/
def z3 (p : Pt) : KF × KF × KF := (za p.1, za p.2.1, za p.2.2)
def RepF (p : Pt) (A : Option (KF × KF)) : Prop := Rep (z3 p) A
theorem RepF.none {p : Pt} {A : Option (KF × KF)} (h : RepF p A) : isz p.2.2 = true ↔ A = none := isz_iff.trans (rep_z h)
theorem rep_zPt : RepF zPt none := za_zE
theorem rep_negF {p : Pt} {A : Option (KF × KF)} (h : RepF p A) : RepF (negF p) (ng A) := by
  have := rep_neg h
  unfold RepF z3 negF
  simp only [za_neg]
  exact this
theorem rep_dblF {p : Pt} {A : Option (KF × KF)} (h : RepF p A) (hA : OnO A) : RepF (dblF p) (ad A A) := by
  have e : z3 (dblF p) = jdbl (z3 p) := by
    unfold z3 dblF jdbl
    simp only [za_add, za_mul, za_sub]
  unfold RepF
  rw [e]
  exact rep_jdbl h hA
theorem za_H (p q : Pt) : za (addH p q) = jH (z3 p) (z3 q) := by
  unfold addH jH z3
  simp only [za_mul, za_sub]
theorem za_R (p q : Pt) : za (addR p q) = jR (z3 p) (z3 q) := by
  unfold addR jR z3
  simp only [za_mul, za_sub]
theorem z3_addN (p q : Pt) : z3 (addN p q) = jadd (z3 p) (z3 q) := by
  unfold z3 addN jadd
  simp only [za_add, za_mul, za_sub, za_H, za_R]
  rfl
theorem rep_paddF {p q : Pt} {A B : Option (KF × KF)} (hp : RepF p A) (hq : RepF q B) (hA : OnO A) (hB : OnO B) : RepF (paddF p q) (ad A B) := by
  unfold paddF
  cases h1 : isz p.2.2 with
  | true =>
    obtain rfl := hp.none.1 h1
    rw [cond_true]
    exact hq
  | false =>
    rw [cond_false]
    cases h2 : isz q.2.2 with
    | true =>
      obtain rfl := hq.none.1 h2
      rw [cond_true, ad_none]
      exact hp
    | false =>
      rw [cond_false]
      cases A with
      | none => rw [hp.none.2 rfl] at h1; cases h1
      | some a =>
      cases B with
      | none => rw [hq.none.2 rfl] at h2; cases h2
      | some b =>
      cases h3 : isz (addH p q) with
      | true =>
        have h3 := isz_iff.1 h3
        rw [za_H] at h3
        have hx := jH_zero hp hq h3
        rw [cond_true]
        cases h4 : isz (addR p q) with
        | true =>
          have h4 := isz_iff.1 h4
          rw [za_R] at h4
          have hy := (jR_zero hp hq).1 h4
          obtain rfl : a = b := Prod.ext hx hy
          exact rep_dblF hp hA
        | false =>
          have h4 := isz_f.1 h4
          rw [za_R] at h4
          have hy : a.2 ≠ b.2 := fun e => h4 ((jR_zero hp hq).2 e)
          have ho : Opp a b := by
            by_cases h : Opp a b
            · exact h
            · exact absurd (congrArg Prod.snd (OnC.same hA hB hx h)) hy
          rw [cond_false, ad_opp ho]
          exact rep_zPt
      | false =>
        have h3 := isz_f.1 h3
        rw [za_H] at h3
        rw [cond_false]
        unfold RepF
        rw [z3_addN]
        exact rep_jadd hp hq hA hB h3
theorem rep_ceqF {p q : Pt} {A B : Option (KF × KF)} (hp : RepF p A) (hq : RepF q B) : ceqF p q = true ↔ A = B := by
  unfold ceqF
  cases A with
  | none =>
    rw [hp.none.2 rfl, Bool.true_or, cond_true]
    cases B with
    | none => rw [hq.none.2 rfl]; simp
    | some b =>
      have : isz q.2.2 = false := isz_f.2 hq.1
      rw [this]; simp
  | some a =>
    have h1 : isz p.2.2 = false := isz_f.2 hp.1
    rw [h1, Bool.false_or]
    cases B with
    | none => rw [hq.none.2 rfl]; simp
    | some b =>
      have h2 : isz q.2.2 = false := isz_f.2 hq.1
      rw [h2, cond_false, Bool.and_eq_true]
      unfold ceqX ceqY
      rw [feq_za, feq_za]
      simp only [za_mul]
      refine (rep_eq hp hq).trans ⟨fun h => by rw [h], fun h => Option.some.inj h⟩
theorem rep_gxy {p : Pt} {a : KF × KF} (h : RepF p (some a)) : za (gxyX p) = a.1 ∧ za (gxyY p) = a.2 := by
  have h1 : isz p.2.2 = false := isz_f.2 h.1
  unfold gxyX gxyY xyX xyY
  rw [h1, cond_false, cond_false]
  simp only [za_mul]
  exact rep_xy h (za_inv h.1)
theorem affT_iff {x y : Fe} : affT x y = true ↔ OnC (za x, za y) := by
  unfold affT sideF
  rw [feq_za]
  simp only [za_mul, za_add, za_four]
  exact Iff.rfl
theorem rep_one (x y : Fe) : RepF (x, y, fOne) (some (za x, za y)) := by
  refine ⟨?_, ?_, ?_⟩
  · show za fOne ≠ 0
    rw [za_one]; exact Fld.one_ne
  · show za x = za x * (za fOne * za fOne)
    rw [za_one, mul_one, mul_one]
  · show za y = za y * (za fOne * za fOne * za fOne)
    rw [za_one, mul_one, mul_one, mul_one]
end Go.Proofs.YtcedljbapgmdmaaGreat.Alg

/- DERIVED. The document's points: the curve's. -/
set_option linter.all false
namespace Go.Proofs.YtcedljbapgmdmaaGreat.Alg
open CR Go.Proofs.YtcedljbapgmdmaaGreat.En

theorem x_ii {K : Type} [CR K] (x Z i : K) (h : Z*i = 1) : x*(i*i)*(Z*Z) = x := eq_of_sub (zero_of_rel (fun zz => [x, Z, i].getD zz 0) 3 (((Alg.E.v 0 * (Alg.E.v 2 * Alg.E.v 2)) * (Alg.E.v 1 * Alg.E.v 1)) - Alg.E.v 0) [((Alg.E.v 0 * ((Alg.E.v 1 * Alg.E.v 2) + Alg.E.c 1)), (Alg.E.v 1 * Alg.E.v 2) - Alg.E.c 1)] (all_cons (sub_of_eq h) all_nil) (by decide +kernel))
theorem x_iii {K : Type} [CR K] (y Z i : K) (h : Z*i = 1) : y*(i*i*i)*(Z*Z*Z) = y := eq_of_sub (zero_of_rel (fun zz => [y, Z, i].getD zz 0) 3 (((Alg.E.v 0 * ((Alg.E.v 2 * Alg.E.v 2) * Alg.E.v 2)) * ((Alg.E.v 1 * Alg.E.v 1) * Alg.E.v 1)) - Alg.E.v 0) [((Alg.E.v 0 * ((((Alg.E.v 1 * Alg.E.v 2) * (Alg.E.v 1 * Alg.E.v 2)) + (Alg.E.v 1 * Alg.E.v 2)) + Alg.E.c 1)), (Alg.E.v 1 * Alg.E.v 2) - Alg.E.c 1)] (all_cons (sub_of_eq h) all_nil) (by decide +kernel))
/-- An element without an imaginary part. -/
def Rl (x : E2) : Prop := isz x.2 = true
theorem rl_zE (a : Fe) : Rl (a, zE) := isz_iff.2 za_zE
theorem rl_add {x y : E2} (hx : Rl x) (hy : Rl y) : Rl (eadd x y) := isz_iff.2 (by show za (fadd x.2 y.2) = 0; rw [za_add, isz_iff.1 hx, isz_iff.1 hy, add_zero])
theorem rl_sub {x y : E2} (hx : Rl x) (hy : Rl y) : Rl (esub x y) := isz_iff.2 (by show za (fsub x.2 y.2) = 0; rw [za_sub, isz_iff.1 hx, isz_iff.1 hy, sub_self])
theorem rl_neg {x : E2} (hx : Rl x) : Rl (eneg x) := isz_iff.2 (by show za (fneg x.2) = 0; rw [za_neg, isz_iff.1 hx, neg_zero])
theorem emul_rl {x y : E2} (hx : Rl x) (hy : Rl y) : emul x y = (fmul x.1 y.1, zE) := by
  unfold emul
  rw [show isz x.2 = true from hx, show isz y.2 = true from hy]
  rfl
theorem rl_mul {x y : E2} (hx : Rl x) (hy : Rl y) : Rl (emul x y) := by rw [emul_rl hx hy]; exact rl_zE _
def zc (x : E2) : KF := za x.1
/-- An element that stands for a number. -/
structure RZ (x : E2) (k : KF) : Prop where
  r : Rl x
  e : zc x = k
theorem rz_mul {x y : E2} {k l : KF} (hx : RZ x k) (hy : RZ y l) : RZ (emul x y) (k * l) := ⟨rl_mul hx.r hy.r, by rw [emul_rl hx.r hy.r, ← hx.e, ← hy.e]; exact za_mul _ _⟩
theorem rz_add {x y : E2} {k l : KF} (hx : RZ x k) (hy : RZ y l) : RZ (eadd x y) (k + l) := ⟨rl_add hx.r hy.r, by rw [← hx.e, ← hy.e]; exact za_add _ _⟩
theorem rz_sub {x y : E2} {k l : KF} (hx : RZ x k) (hy : RZ y l) : RZ (esub x y) (k - l) := ⟨rl_sub hx.r hy.r, by rw [← hx.e, ← hy.e]; exact za_sub _ _⟩
theorem rz_neg {x : E2} {k : KF} (hx : RZ x k) : RZ (eneg x) (-k) := ⟨rl_neg hx.r, by rw [← hx.e]; exact za_neg _⟩
theorem rz_z {x : E2} {k : KF} (h : RZ x k) : eisz x = true ↔ k = 0 := by
  unfold eisz
  rw [show isz x.2 = true from h.r, Bool.and_true, isz_iff, ← h.e]
  exact Iff.rfl
theorem rz_f {x : E2} {k : KF} (h : RZ x k) : eisz x = false ↔ k ≠ 0 := by rw [← Bool.not_eq_true, rz_z h]
theorem rz_re (a : Fe) : RZ (a, zE) (za a) := ⟨rl_zE a, rfl⟩
structure RC (p : C3) (P : KF × KF × KF) : Prop where
  x : RZ p.1 P.1
  y : RZ p.2.1 P.2.1
  z : RZ p.2.2 P.2.2
theorem rc_neg {p : C3} {P : KF × KF × KF} (h : RC p P) : RC (cnegF p) (P.1, -P.2.1, P.2.2) := ⟨h.x, rz_neg h.y, h.z⟩
theorem rc_dbl {p : C3} {P : KF × KF × KF} (h : RC p P) : RC (cdblN p) (kdbl P) := by
  have a := rz_mul h.x h.x
  have b := rz_mul h.y h.y
  have s0 := rz_mul h.x b
  have s1 := rz_add s0 s0
  have s := rz_add s1 s1
  have m := rz_add (rz_add a a) a
  have x := rz_sub (rz_sub (rz_mul m m) s) s
  have c0 := rz_mul b b
  have c1 := rz_add c0 c0
  have c2 := rz_add c1 c1
  have c := rz_add c2 c2
  have z := rz_mul h.y h.z
  exact ⟨x, rz_sub (rz_mul m (rz_sub s x)) c, rz_add z z⟩
theorem rc_H {p q : C3} {P Q : KF × KF × KF} (h : RC p P) (k : RC q Q) : RZ (caddH p q) (jH P Q) := rz_sub (rz_mul k.x (rz_mul h.z h.z)) (rz_mul h.x (rz_mul k.z k.z))
theorem rc_R {p q : C3} {P Q : KF × KF × KF} (h : RC p P) (k : RC q Q) : RZ (caddR p q) (jR P Q) := rz_sub (rz_mul (rz_mul k.y (rz_mul h.z h.z)) h.z) (rz_mul (rz_mul h.y (rz_mul k.z k.z)) k.z)
theorem rc_add {p q : C3} {P Q : KF × KF × KF} (hp : RC p P) (hq : RC q Q) : RC (caddN p q) (jadd P Q) := by
  have qz := rz_mul hq.z hq.z
  have u := rz_mul hp.x qz
  have s := rz_mul (rz_mul hp.y qz) hq.z
  have h := rc_H hp hq
  have r := rc_R hp hq
  have h2 := rz_mul h h
  have h3 := rz_mul h2 h
  have w := rz_mul u h2
  have x := rz_sub (rz_sub (rz_sub (rz_mul r r) h3) w) w
  rw [j_ass] at x
  exact ⟨x, rz_sub (rz_mul r (rz_sub w x)) (rz_mul s h3), rz_mul (rz_mul hp.z hq.z) h⟩
/-- The document's three numbers stand for a point. -/
def RepC (p : C3) (A : Option (KF × KF)) : Prop := ∃ P, RC p P ∧ Rep P A
theorem RepC.none {p : C3} {A : Option (KF × KF)} (h : RepC p A) : eisz p.2.2 = true ↔ A = none := by
  obtain ⟨P, h1, h2⟩ := h
  exact (rz_z h1.z).trans (rep_z h2)
theorem rep_cz : RepC cz none := ⟨(za zE, za zE, za zE), ⟨rz_re _, rz_re _, rz_re _⟩, za_zE⟩
theorem rep_cneg {p : C3} {A : Option (KF × KF)} (h : RepC p A) : RepC (cnegF p) (ng A) := by
  obtain ⟨P, h1, h2⟩ := h
  exact ⟨_, rc_neg h1, rep_neg h2⟩
theorem rep_cdbl {p : C3} {A : Option (KF × KF)} (h : RepC p A) (hA : OnO A) : RepC (cdbl p) (ad A A) := by
  unfold cdbl
  cases A with
  | none => rw [h.none.2 rfl, Bool.true_or, cond_true]; exact rep_cz
  | some a =>
    obtain ⟨P, h1, h2⟩ := h
    have hz : P.2.2 ≠ 0 := h2.1
    have e1 : eisz p.2.2 = false := (rz_f h1.z).2 hz
    have e2 : eisz p.2.1 = false := (rz_f h1.y).2 (by
      rw [h2.2.2]
      exact mul_ne (OnC.ne hA) (mul_ne (mul_ne hz hz) hz))
    rw [e1, e2, Bool.or_self, cond_false]
    exact ⟨_, rc_dbl h1, rep_kdbl h2 hA⟩
theorem rep_cadd {p q : C3} {A B : Option (KF × KF)} (hp : RepC p A) (hq : RepC q B) (hA : OnO A) (hB : OnO B) : RepC (cadd p q) (ad A B) := by
  cases h1 : eisz p.2.2 with
  | true =>
    have e := hp.none.1 h1
    subst e
    exact Eq.mpr (congrArg (fun x => RepC x (ad none B)) (cadd_1 h1)) hq
  | false =>
    cases h2 : eisz q.2.2 with
    | true =>
      have e := hq.none.1 h2
      subst e
      exact Eq.mpr ((congrArg (fun x => RepC x (ad A none)) (cadd_2 h1 h2)).trans (congrArg (RepC p) (ad_none A))) hp
    | false =>
      cases A with
      | none => exact absurd (hp.none.2 rfl) (by rw [h1]; exact Bool.noConfusion)
      | some a =>
      cases B with
      | none => exact absurd (hq.none.2 rfl) (by rw [h2]; exact Bool.noConfusion)
      | some b =>
      have hp0 := hp
      obtain ⟨P, p1, p2⟩ := hp
      obtain ⟨Q, q1, q2⟩ := hq
      have hH := rc_H p1 q1
      have hR := rc_R p1 q1
      cases h3 : eisz (caddH p q) with
      | true =>
        have hx := jH_zero p2 q2 ((rz_z hH).1 h3)
        cases h4 : eisz (caddR p q) with
        | true =>
          have hy := (jR_zero p2 q2).1 ((rz_z hR).1 h4)
          have e : a = b := Prod.ext hx hy
          subst e
          exact Eq.mpr (congrArg (fun x => RepC x (ad (some a) (some a))) (cadd_3 h1 h2 h3 h4)) (rep_cdbl hp0 hA)
        | false =>
          have hy : a.2 ≠ b.2 := fun e => (rz_f hR).1 h4 ((jR_zero p2 q2).2 e)
          have ho : Opp a b := by
            by_cases h : Opp a b
            · exact h
            · exact absurd (congrArg Prod.snd (OnC.same hA hB hx h)) hy
          exact Eq.mpr ((congrArg (fun x => RepC x (ad (some a) (some b))) (cadd_4 h1 h2 h3 h4)).trans (congrArg (RepC cz) (ad_opp ho))) rep_cz
      | false =>
        exact Eq.mpr (congrArg (fun x => RepC x (ad (some a) (some b))) (cadd_5 h1 h2 h3)) ⟨_, rc_add p1 q1, rep_jadd p2 q2 hA hB ((rz_f hH).1 h3)⟩
theorem ad_none_iff {A B : Option (KF × KF)} (hA : OnO A) (hB : OnO B) : ad A (ng B) = none ↔ A = B := by
  constructor
  · intro h
    have e := ad_back hA (OnO.ng hB)
    rw [h, ng_ng] at e
    exact e.symm
  · rintro rfl; exact ad_ng A
theorem rep_eqR {r q : C3} {A B : Option (KF × KF)} (hr : RepC r A) (hq : RepC q B) (hA : OnO A) (hB : OnO B) : eqR r q = true ↔ A = B := by
  have h := rep_cadd hr (rep_cneg hq) hA (OnO.ng hB)
  exact h.none.trans (ad_none_iff hA hB)
theorem ron_affT (x y : Fe) : ronF (x, zE) (y, zE) false = affT x y := by
  unfold ronF
  rw [emul_rl (rl_zE _) (rl_zE _), emul_rl (rl_zE _) (rl_zE _), emul_rl (rl_zE _) (rl_zE _)]
  unfold eB
  rw [cond_false]
  show eeq (fmul y y, zE) (fadd (fmul (fmul x x) x) four, fadd zE (fmul zE ftwo)) = _
  have hz : Nat.beq (fv zE % pN) (fv (fadd zE (fmul zE ftwo)) % pN) = true := by decide +kernel
  unfold eeq
  rw [hz]
  simp only [Bool.and_true]
  unfold affT feq sideF
  rw [Bool.and_true]
theorem rep_refs {p : Pt} {A : Option (KF × KF)} (h : RepF p A) : RepC (refsF p) A := by
  cases A with
  | none =>
    rw [refs_t (h.none.2 rfl)]
    exact rep_cz
  | some a =>
    rw [refs_f (isz_f.2 h.1)]
    obtain ⟨h1, h2⟩ := rep_gxy h
    have := rep_one (gxyX p) (gxyY p)
    rw [h1, h2] at this
    exact ⟨_, ⟨rz_re _, rz_re _, rz_re _⟩, this⟩
theorem rep_onF {p : Pt} {A : Option (KF × KF)} (h : RepF p A) : onF p = true ↔ OnO A := by
  cases A with
  | none => rw [on_t (h.none.2 rfl)]; exact ⟨fun _ => trivial, fun _ => rfl⟩
  | some a =>
    rw [on_f (isz_f.2 h.1), ron_affT, affT_iff]
    obtain ⟨h1, h2⟩ := rep_gxy h
    rw [h1, h2]
    exact Iff.rfl
theorem rep_sameF {p : Pt} {q : C3} {A B : Option (KF × KF)} (hp : RepF p A) (hq : RepC q B) (hA : OnO A) (hB : OnO B) : sameF p q = true ↔ A = B := by
  rw [same_t ((rep_onF hp).2 hA)]
  exact rep_eqR (rep_refs hp) hq hA hB
/-- Every three numbers stand for something. -/
theorem rep_ex (p : Pt) : ∃ A, RepF p A := by
  by_cases h : za p.2.2 = 0
  · exact ⟨none, h⟩
  · obtain ⟨i, hi⟩ := Fld.inv _ h
    refine ⟨some (za p.1 * (i * i), za p.2.1 * (i * i * i)), h, ?_, ?_⟩
    · show za p.1 = za p.1 * (i * i) * (za p.2.2 * za p.2.2)
      exact (x_ii _ _ _ hi).symm
    · show za p.2.1 = za p.2.1 * (i * i * i) * (za p.2.2 * za p.2.2 * za p.2.2)
      exact (x_iii _ _ _ hi).symm
end Go.Proofs.YtcedljbapgmdmaaGreat.Alg

/- DERIVED. The law's points are the curve's; what the law of sums asks. -/
set_option linter.all false
namespace Go.Proofs.YtcedljbapgmdmaaGreat.Alg
open CR Go.Proofs.YtcedljbapgmdmaaGreat.En

/-- Three numbers that stand for a point of the curve. -/
def Onp (P : Pt) : Prop := ∃ A, RepF P A ∧ OnO A
theorem onp_zero : Onp zPt := ⟨none, rep_zPt, trivial⟩
theorem onp_neg {P : Pt} (h : Onp P) : Onp (negF P) := by
  obtain ⟨A, h1, h2⟩ := h
  exact ⟨_, rep_negF h1, OnO.ng h2⟩
theorem onp_dbl {P : Pt} (h : Onp P) : Onp (dblF P) := by
  obtain ⟨A, h1, h2⟩ := h
  exact ⟨_, rep_dblF h1 h2, OnO.ad h2 h2⟩
theorem onp_add {P Q : Pt} (h : Onp P) (k : Onp Q) : Onp (paddF P Q) := by
  obtain ⟨A, h1, h2⟩ := h
  obtain ⟨B, k1, k2⟩ := k
  exact ⟨_, rep_paddF h1 k1 h2 k2, OnO.ad h2 k2⟩
theorem onp_xy {x y : Fe} (h : affT x y = true) : Onp (x, y, fOne) := ⟨_, rep_one x y, affT_iff.1 h⟩
theorem gen_aff : affT fGx fGy = true := by decide +kernel
theorem gen_eq : genF = (fGx, fGy, fOne) := by unfold genF affF; rw [gen_aff, cond_true]
theorem onp_gen : Onp genF := by rw [gen_eq]; exact onp_xy gen_aff
theorem onp_step {P R : Pt} (hP : Onp P) (hR : Onp R) (t : Bool) : Onp (stepP P R t) := by
  cases t
  · exact onp_dbl hR
  · exact onp_add (onp_dbl hR) hP
theorem onp_mulL {P : Pt} (hP : Onp P) : ∀ (l : List Bool) (R : Pt), Onp R → Onp (l.foldl (stepP P) R)
  | [], R, h => h
  | t :: l, R, h => onp_mulL hP l _ (onp_step hP h t)
theorem onp_mul {P : Pt} (hP : Onp P) (n : Nat) (f : Nat → Int) : Onp (mulF P n f) := onp_mulL hP _ _ onp_zero
theorem affT_neg {x y : Fe} (h : affT x y = true) : affT x (fneg y) = true := by
  rw [affT_iff] at h ⊢
  rw [za_neg]
  exact OnC.neg h
theorem rt_aff {a : Fe} (h : liftT a = true) : affT a (rtF (sideF a)) = true := h
theorem sq_aff {a : Fe} (h : liftT a = true) : affT a (sqF (sideF a)) = true := by
  have h0 : rtT (sideF a) = true := h
  unfold sqF
  rw [h0, cond_true]
  cases lgF (rtF (sideF a)) with
  | true => rw [cond_true]; exact affT_neg (rt_aff h)
  | false => rw [cond_false]; exact rt_aff h
theorem onp_lift (s : Bool) (a : Fe) : Onp (liftF s a) := by
  unfold liftF
  cases h : liftT a with
  | false => rw [cond_false]; exact onp_zero
  | true =>
    rw [cond_true]
    cases s with
    | false => rw [cond_false]; exact onp_xy (sq_aff h)
    | true => rw [cond_true]; exact onp_xy (affT_neg (sq_aff h))
theorem onp_scn (s : Bool) (a : Fe) : ∀ k j, Onp (scnF s a k j)
  | 0, _ => onp_gen
  | k + 1, j => by
    rw [scnF]
    cases liftT (itA j a) with
    | true => rw [cond_true]; exact onp_lift _ _
    | false => rw [cond_false]; exact onp_scn s a k (j + 1)
theorem onp_point (n : Nat) (f : Nat → Int) (m : Nat) (g : Nat → Int) (z : Int) : Onp (pointF n f m g z) := by
  have hg : Onp (mulF (genF.1, genF.2.1, genF.2.2) n f) := onp_mul onp_gen n f
  unfold pointF
  cases plcF z == 0 with
  | true => rw [cond_true]; exact hg
  | false =>
    rw [cond_false]
    cases plcF z == 1 with
    | false => rw [cond_false]; exact onp_scn _ _ _ _
    | true =>
      rw [cond_true]
      cases decide ((0 : Int) < (n : Int)) && (f 0 == 0) with
      | true => rw [cond_true]; exact onp_zero
      | false => rw [cond_false]; exact onp_neg hg
theorem bool_iff {a b : Bool} {p : Prop} (h : a = true ↔ p) (k : b = true ↔ p) : (a == b) = true := by
  rw [beq_iff_eq]
  cases a <;> cases b <;> simp_all
/-- What the law of sums asks. -/
theorem adQ_ok {P Q : Pt} (hP : Onp P) (hQ : Onp Q) : adQ P Q := by
  obtain ⟨A, a1, a2⟩ := hP
  obtain ⟨B, b1, b2⟩ := hQ
  have r1 := rep_refs a1
  have r2 := rep_refs b1
  have hAB := OnO.ad a2 b2
  refine ⟨?_, ?_, ?_, ?_, ?_, ?_⟩
  · exact (rep_sameF (rep_paddF a1 b1 a2 b2) (rep_cadd r1 r2 a2 b2) hAB hAB).2 rfl
  · exact (rep_sameF (rep_paddF b1 a1 b2 a2) (rep_cadd r1 r2 a2 b2) (OnO.ad b2 a2) hAB).2 (ad_comm b2 a2)
  · exact (rep_sameF (rep_dblF a1 a2) (rep_cdbl r1 a2) (OnO.ad a2 a2) (OnO.ad a2 a2)).2 rfl
  · exact (rep_sameF (rep_negF a1) (rep_cneg r1) (OnO.ng a2) (OnO.ng a2)).2 rfl
  · exact bool_iff (rep_ceqF a1 b1) (rep_eqR r1 r2 a2 b2)
  · exact bool_iff a1.none r1.none
end Go.Proofs.YtcedljbapgmdmaaGreat.Alg

/- DERIVED. So many times a point. -/
set_option linter.all false
namespace Go.Proofs.YtcedljbapgmdmaaGreat.Alg
open CR

section
variable {K : Type} [Crv K]
/-- n times a point. -/
noncomputable def nm (A : Option (K × K)) : Nat → Option (K × K)
  | 0 => none
  | n + 1 => ad (nm A n) A
theorem nm_on {A : Option (K × K)} (h : OnO A) : ∀ n, OnO (nm A n)
  | 0 => trivial
  | n + 1 => OnO.ad (nm_on h n) h
theorem nm_none : ∀ n, nm (none : Option (K × K)) n = none
  | 0 => rfl
  | n + 1 => by rw [nm, nm_none n]; rfl
theorem nm_one (A : Option (K × K)) : nm A 1 = A := rfl
theorem nm_add {A : Option (K × K)} (h : OnO A) (m : Nat) : ∀ n, nm A (m + n) = ad (nm A m) (nm A n)
  | 0 => (ad_none _).symm
  | n + 1 => by
    show ad (nm A (m + n)) A = ad (nm A m) (ad (nm A n) A)
    rw [nm_add h m n, ad_assoc (nm_on h m) (nm_on h n) h]
theorem nm_mul {A : Option (K × K)} (h : OnO A) (m : Nat) : ∀ n, nm A (m * n) = nm (nm A m) n
  | 0 => rfl
  | n + 1 => by
    show nm A (m * n + m) = ad (nm (nm A m) n) (nm A m)
    rw [nm_add h, nm_mul h m n]
theorem ad_swap {A B C D : Option (K × K)} (a : OnO A) (b : OnO B) (c : OnO C) (d : OnO D) : ad (ad A B) (ad C D) = ad (ad A C) (ad B D) := by
  rw [ad_assoc a b (OnO.ad c d), ← ad_assoc b c d, ad_comm b c, ad_assoc c b d, ← ad_assoc a c (OnO.ad b d)]
theorem nm_ad {A B : Option (K × K)} (a : OnO A) (b : OnO B) : ∀ n, nm (ad A B) n = ad (nm A n) (nm B n)
  | 0 => rfl
  | n + 1 => by
    rw [nm, nm_ad a b n, nm, nm]
    exact ad_swap (nm_on a n) (nm_on b n) a b
theorem nm_ng {A : Option (K × K)} (a : OnO A) : ∀ n, nm (ng A) n = ng (nm A n)
  | 0 => rfl
  | n + 1 => by rw [nm, nm_ng a n, nm, ng_ad (nm_on a n) a]
theorem nm_two (A : Option (K × K)) : nm A 2 = ad A A := rfl
theorem nm_swap {A : Option (K × K)} (h : OnO A) (m n : Nat) : nm (nm A m) n = nm (nm A n) m := by
  rw [← nm_mul h, ← nm_mul h, Nat.mul_comm]
theorem nm_mod {A : Option (K × K)} (h : OnO A) {r : Nat} (hr : nm A r = none) (n : Nat) : nm A (n % r) = nm A n := by
  have e := nm_add h (r * (n / r)) (n % r)
  rw [Nat.div_add_mod, nm_mul h r, hr, nm_none] at e
  exact e.symm
/-! ## bits -/
/-- The number of bits, the highest first. -/
def bit1 (v : Nat) (b : Bool) : Nat := match b with
  | true => 2 * v + 1
  | false => 2 * v
def bitN : List Bool → Nat → Nat
  | [], v => v
  | b :: l, v => bitN l (bit1 v b)
theorem bitN_false : ∀ (k : Nat) (l : List Bool), bitN (List.replicate k false ++ l) 0 = bitN l 0
  | 0, l => rfl
  | k + 1, l => by rw [List.replicate_succ, List.cons_append]; show bitN (List.replicate k false ++ l) (2 * 0) = _; exact bitN_false k l
/-- One step: twice, and once more. -/
noncomputable def stA (A R : Option (K × K)) (t : Bool) : Option (K × K) := match t with
  | true => ad (ad R R) A
  | false => ad R R
theorem st_nm {A : Option (K × K)} (h : OnO A) : ∀ (l : List Bool) (v : Nat), l.foldl (stA A) (nm A v) = nm A (bitN l v)
  | [], v => rfl
  | b :: l, v => by
    rw [List.foldl_cons, bitN]
    have e : stA A (nm A v) b = nm A (bit1 v b) := by
      cases b with
      | true => show ad (ad (nm A v) (nm A v)) A = nm A (2 * v + 1); rw [Nat.two_mul, nm, nm_add h]
      | false => show ad (nm A v) (nm A v) = nm A (2 * v); rw [Nat.two_mul, nm_add h]
    rw [e]
    exact st_nm h l _
end
end Go.Proofs.YtcedljbapgmdmaaGreat.Alg

/- DERIVED. So many times a point: the program's and the document's. -/
set_option linter.all false
namespace Go.Proofs.YtcedljbapgmdmaaGreat.Alg
open CR Go.Proofs.YtcedljbapgmdmaaGreat.En

/-- The number of bytes, as the bits say. -/
def numB (n : Nat) (f : Nat → Int) : Nat := bitN (upto (bitAt f) (8 * n)) 0
theorem rep_stepP {P R : Pt} {A B : Option (KF × KF)} (hP : RepF P A) (hR : RepF R B) (hA : OnO A) (hB : OnO B) (t : Bool) : RepF (stepP P R t) (stA A B t) := by
  cases t with
  | true => exact rep_paddF (rep_dblF hR hB) hP (OnO.ad hB hB) hA
  | false => exact rep_dblF hR hB
theorem stA_on {A B : Option (KF × KF)} (hA : OnO A) (hB : OnO B) (t : Bool) : OnO (stA A B t) := by
  cases t with
  | true => exact OnO.ad (OnO.ad hB hB) hA
  | false => exact OnO.ad hB hB
theorem rep_foldP {P : Pt} {A : Option (KF × KF)} (hP : RepF P A) (hA : OnO A) : ∀ (l : List Bool) (R : Pt) (B : Option (KF × KF)), RepF R B → OnO B → RepF (l.foldl (stepP P) R) (l.foldl (stA A) B)
  | [], R, B, h, _ => h
  | t :: l, R, B, h, hB => rep_foldP hP hA l _ _ (rep_stepP hP h hA hB t) (stA_on hA hB t)
theorem rep_mulF {P : Pt} {A : Option (KF × KF)} (hP : RepF P A) (hA : OnO A) (n : Nat) (f : Nat → Int) : RepF (mulF P n f) (nm A (numB n f)) := by
  have h := rep_foldP hP hA (upto (bitAt f) (8 * n)) zPt none rep_zPt trivial
  have e := st_nm hA (upto (bitAt f) (8 * n)) 0
  rw [show nm A 0 = none from rfl] at e
  rw [e] at h
  exact h
theorem rep_cstp {p r : C3} {A B : Option (KF × KF)} (hp : RepC p A) (hr : RepC r B) (hA : OnO A) (hB : OnO B) (t : Bool) : RepC (cstp p r t) (stA A B t) := by
  unfold cstp
  cases t with
  | true =>
    rw [cond_true]
    exact rep_cadd (p := c6 (cdbl (c6 r))) (q := c6 p) (rep_cdbl (p := c6 r) hr hB) hp (OnO.ad hB hB) hA
  | false =>
    rw [cond_false]
    exact rep_cdbl (p := c6 r) hr hB
theorem rep_cmL {p : C3} {A : Option (KF × KF)} (hp : RepC p A) (hA : OnO A) (f : Nat → Int) : ∀ k, RepC (cmL p f k) (nm A (bitN (upto (bitAt f) k) 0))
  | 0 => rep_cz
  | k + 1 => by
    have ih := rep_cmL hp hA f k
    have h := rep_cstp hp ih hA (nm_on hA _) (bitAt f k)
    have e := st_nm hA (upto (bitAt f) (k + 1)) 0
    have e0 := st_nm hA (upto (bitAt f) k) 0
    rw [upto_succ, List.foldl_append, e0] at e
    rw [cmL, upto_succ, ← e]
    exact h
/-! ## noughts ahead -/
theorem upto_add {α : Type} (f : Nat → α) (m : Nat) : ∀ n, upto f (m + n) = upto f m ++ upto (fun k => f (m + k)) n
  | 0 => by simp [upto]
  | n + 1 => by rw [← Nat.add_assoc, upto_succ, upto_add f m n, upto_succ, List.append_assoc]
theorem upto_congr {α : Type} {f g : Nat → α} : ∀ n, (∀ k, k < n → f k = g k) → upto f n = upto g n
  | 0, _ => rfl
  | n + 1, h => by rw [upto_succ, upto_succ, upto_congr n fun k hk => h k (by omega), h n (by omega)]
theorem upto_const {α : Type} (a : α) : ∀ n, upto (fun _ => a) n = List.replicate n a
  | 0 => rfl
  | n + 1 => by rw [upto_succ, upto_const a n, List.replicate_succ']
theorem bit_zero : bitAt (fun _ => 0) 0 = false := by decide +kernel
theorem bitAt_zero {f : Nat → Int} {k : Nat} (h : f (k / 8) = 0) : bitAt f k = false := by
  unfold bitAt
  rw [h, Int.zero_ediv]
  decide +kernel
/-- Two noughts ahead say nothing. -/
theorem numB_two (n : Nat) {f g : Nat → Int} (h0 : g 0 = 0) (h1 : g 1 = 0) (h : ∀ j, j < n → g (2 + j) = f j) : numB (2 + n) g = numB n f := by
  unfold numB
  rw [show 8 * (2 + n) = 16 + 8 * n by omega, upto_add]
  have e1 : upto (bitAt g) 16 = List.replicate 16 false := by
    rw [← upto_const]
    refine upto_congr 16 fun k hk => bitAt_zero ?_
    rcases (show k / 8 = 0 ∨ k / 8 = 1 by omega) with e | e <;> rw [e] <;> assumption
  have e2 : upto (fun k => bitAt g (16 + k)) (8 * n) = upto (bitAt f) (8 * n) := upto_congr _ fun k hk => by
    unfold bitAt
    rw [show (16 + k) / 8 = 2 + k / 8 by omega, show (16 + k) % 8 = k % 8 by omega, h _ (by omega)]
  rw [e1, e2, bitN_false]
end Go.Proofs.YtcedljbapgmdmaaGreat.Alg

/- DERIVED. Roots: the document's and the program's. -/
set_option linter.all false
namespace Go.Proofs.YtcedljbapgmdmaaGreat.Alg
open CR Go.Proofs.YtcedljbapgmdmaaGreat.En

theorem frone_r : fv frone * rN % pN = 1 % pN := by decide +kernel
theorem mo_num (x : Fe) : mo (fv (fmul x frone)) = (za x).v := by
  rw [fv_mul, mo_red]
  unfold mo
  rw [Nat.mod_mul_mod, Nat.mul_assoc, cg_mul (rfl : fv x % pN = fv x % pN) frone_r, Nat.mul_one]
  rfl
theorem halfE_v : mo (fv halfE) = (pN - 1) / 2 := by decide +kernel
theorem lgF_v (x : Fe) : lgF x = decide ((pN - 1) / 2 < (za x).v) := by unfold lgF lessF; rw [mo_num, halfE_v]
theorem lgR_v (x : Fe) : lgR x = decide ((pN - 1) / 2 < (za x).v) := by unfold lgR lessF; rw [mo_num, mo_rawF (by rw [shB_val]; decide +kernel), shB_val]
theorem lgR_lgF {x y : Fe} (h : za x = za y) : lgR x = lgF y := by rw [lgR_v, lgF_v, h]
theorem pN_odd' : pN % 2 = 1 := by decide +kernel
theorem za_nv (x : Fe) : (za (fneg x)).v = (pN - (za x).v) % pN := by rw [za_neg]; rfl
theorem lg_neg {x : Fe} (h : lgR x = true) : lgR (fneg x) = false := by
  rw [lgR_v] at h ⊢
  have h := of_decide_eq_true h
  have hl := (za x).lt
  have := pN_odd'
  rw [za_nv, Nat.mod_eq_of_lt (by omega)]
  exact decide_eq_false (by omega)
/-- A root isn't large. -/
theorem lgR_sq (a : Fe) : lgR (sqR a) = false := by
  unfold sqR
  generalize rtR a = r
  cases h : feq (fmul r r) a with
  | false => rw [sqRr_f h, lgR_v, za_zE]; decide +kernel
  | true => cases k : lgR r with
    | false => rw [sqRr_s h k]; exact k
    | true => rw [sqRr_l h k]; exact lg_neg k
theorem bitN_snoc : ∀ (l : List Bool) (v : Nat) (b : Bool), bitN (l ++ [b]) v = bit1 (bitN l v) b
  | [], v, b => rfl
  | x :: l, v, b => by
    show bitN (l ++ [b]) (bit1 v x) = bit1 (bitN l (bit1 v x)) b
    exact bitN_snoc l _ b
theorem za_rpL (a : Fe) (f : Nat → Int) : ∀ k, za (rpL a f k) = pw (za a) (bitN (upto (bitAt f) k) 0)
  | 0 => za_fone
  | k + 1 => by
    rw [rpL, upto_succ, bitN_snoc]
    have ih := za_rpL a f k
    unfold rpS
    cases bitAt f k with
    | true =>
      rw [cond_true, za_mul, za_mul, ih]
      show _ = pw (za a) (2 * _ + 1)
      rw [Nat.two_mul]
      show _ = pw (za a) (_ + _) * za a
      rw [pw_add]
    | false =>
      rw [cond_false, za_mul, ih]
      show _ = pw (za a) (2 * _)
      rw [Nat.two_mul, pw_add]
theorem shA_val : bitN (upto (bitAt shAf) 384) 0 = (pN + 1) / 4 := by decide +kernel
theorem quarter_val : valD (hexD sQuarter) 0 = (pN + 1) / 4 := by decide +kernel
theorem za_rpN {a : Fe} {f : Nat → Int} {k n : Nat} (h : bitN (upto (bitAt f) k) 0 = n) : za (rpL a f k) = pw (za a) n := by rw [← h]; exact za_rpL a f k
theorem za_rtR (a : Fe) : za (rtR a) = pw (za a) ((pN + 1) / 4) := za_rpN shA_val
theorem za_rtF (a : Fe) : za (rtF a) = pw (za a) ((pN + 1) / 4) := by unfold rtF; rw [za_pow, quarter_val]
theorem rt_za {a b : Fe} (h : za a = za b) : za (rtR a) = za (rtF b) := by rw [za_rtR, za_rtF, h]
theorem rtRT_iff (a : Fe) : rtRT a = true ↔ za (rtR a) * za (rtR a) = za a := by unfold rtRT; rw [feq_za, za_mul]
theorem rtT_iff (a : Fe) : rtT a = true ↔ za (rtF a) * za (rtF a) = za a := by unfold rtT; rw [feq_za, za_mul]
theorem bool_eq {a b : Bool} {p : Prop} (h : a = true ↔ p) (k : b = true ↔ p) : a = b := beq_iff_eq.1 (bool_iff h k)
theorem rt_eq {a b : Fe} (h : za a = za b) : rtRT a = rtT b := bool_eq (rtRT_iff a) ((rtT_iff b).trans (by rw [rt_za h, h]))
theorem sq_za {a b : Fe} (h : za a = za b) : za (sqR a) = za (sqF b) := by
  have h1 := rt_eq h
  have h2 := rt_za h
  unfold sqF
  rw [← h1]
  unfold sqR
  have h0 : rtRT a = feq (fmul (rtR a) (rtR a)) a := rfl
  rw [h0]
  rw [h0] at h1
  generalize rtR a = r at *
  cases e : feq (fmul r r) a with
  | false => rw [sqRr_f e, cond_false]
  | true =>
    rw [cond_true, ← lgR_lgF h2]
    cases k : lgR r with
    | false => rw [sqRr_s e k, cond_false]; exact h2
    | true => rw [sqRr_l e k, cond_true, za_neg, za_neg, h2]
theorem sqR_ok {a : Fe} (h : rtRT a = true) : za (sqR a) * za (sqR a) = za a := by
  have h1 := (rtRT_iff a).1 h
  have h0 : rtRT a = feq (fmul (rtR a) (rtR a)) a := rfl
  rw [h0] at h
  unfold sqR
  generalize rtR a = r at *
  cases k : lgR r with
  | false => rw [sqRr_s h k]; exact h1
  | true => rw [sqRr_l h k, za_neg, neg_mul, mul_neg, neg_neg]; exact h1
theorem eeq_iff {x y : E2} : eeq x y = true ↔ za x.1 = za y.1 ∧ za x.2 = za y.2 := by
  unfold eeq
  rw [Bool.and_eq_true, Bool.and_true]
  have h : ∀ a b : Fe, Nat.beq (fv a % pN) (fv b % pN) = true ↔ za a = za b := fun a b => by
    rw [← feq_za]; unfold feq; rw [Bool.and_true]
  rw [h, h]
theorem sqE_t' {a x o q : Fe} (ho : isz o = true) (hq : za q = za zE) (h : za x * za x = za a) : eeq (emul (x, o) (x, o)) (a, q) = true := by
  rw [emul_rl (x := (x, o)) (y := (x, o)) ho ho, eeq_iff]
  exact ⟨by show za (fmul x x) = za a; rw [za_mul]; exact h, hq.symm⟩
theorem sqE_t {a : Fe} (h : rtRT a = true) : eeq (emul (sqR a, zE) (sqR a, zE)) (a, zE) = true := sqE_t' (rl_zE a) rfl (sqR_ok h)
theorem pw_zero {n : Nat} (h : 0 < n) : pw (0 : KF) n = 0 := by
  obtain ⟨k, rfl⟩ : ∃ k, n = k + 1 := ⟨n - 1, by omega⟩
  exact mul_zero _
theorem rtRT_zero {a : Fe} (h : za a = 0) : rtRT a = true := by
  have hz : ∀ n, 0 < n → pw (za a) n = 0 := fun n hn => by rw [h]; exact pw_zero hn
  have h1 : za (rtR a) = 0 := (za_rtR a).trans (hz _ (by decide +kernel))
  exact (rtRT_iff a).2 (by rw [h1, h, mul_zero])
theorem im_zero {a y o q : Fe} (ho : za o = 0) (hy : isz y = true) (e : eeq (emul (o, y) (o, y)) (a, q) = true) : za a = 0 := by
  rw [emul_rl (x := (o, y)) (y := (o, y)) hy hy, eeq_iff] at e
  have e1 : za (fmul o o) = za a := e.1
  rw [za_mul, ho, mul_zero] at e1
  exact e1.symm
theorem sqE_n' {a y o q : Fe} {t : Bool} (ht : za a = 0 → t = true) (ho : za o = 0) (h : t = false) (e : eeq (emul (o, y) (o, y)) (a, q) = true) : isz y = false := by
  cases hy : isz y with
  | false => rfl
  | true =>
    have h2 := ht (im_zero ho hy e)
    rw [h] at h2
    cases h2
theorem sqE_n {a y : Fe} (h : rtRT a = false) (e : eeq (emul (zE, y) (zE, y)) (a, zE) = true) : isz y = false := sqE_n' (fun h => rtRT_zero h) za_zE h e
end Go.Proofs.YtcedljbapgmdmaaGreat.Alg

/- DERIVED. The document's root of an element without an imaginary part. -/
set_option linter.all false
namespace Go.Proofs.YtcedljbapgmdmaaGreat.En
open Go Go.RowKit Go.Proofs.YtcedljbapgmdmaaGreat.Alg

noncomputable abbrev SRe (l : List (FuncId × Nat × Nat × Bool)) (ps : List (ConP Tryz.prog Fe)) : Sig Fe := sigOf (P := Tryz.prog) ([conRFAdd, conRFSub, conRFMul, conRFNeg, conRFIsZero, conRSqrt, conREMul, conREAdd, conRENeg, conRELarge, conRB, conRAt] ++ ps) [] [] (I := noIF) [] msF (advP (dcf l) [] [])
theorem SRe_ok (l : List (FuncId × Nat × Nat × Bool)) (ps : List (ConP Tryz.prog Fe)) : SigOk Tryz.prog (SRe l ps) := sigOf_ok _ [] [] [] msF_ok _ noIF_ok
set_option maxRecDepth 100000 in
theorem entRESqrt : ∀ args w, (callFunc 70 args).run Tryz.prog w = .ok (.enter 70 args) w := ent_of (f := 70) (P := Tryz.prog) rfl rfl rfl
abbrev zO : Fe := ofSix 0 0 0 0 0 0
abbrev z6' (l : List (LV Fe)) : List (LV Fe) := .int .u64 0 :: .int .u64 0 :: .int .u64 0 :: .int .u64 0 :: .int .u64 0 :: .int .u64 0 :: l
set_option maxRecDepth 100000 in
theorem es1V (a : Fe) : (callF Tryz.prog (SRe [(70, 3, 5, true), (70, 16, 4, false), (70, 18, 1, false)] []) 60 70 [bF [a, zE]] []).map (fun r => (r.1, r.2.2)) = some (.tup [.agg (.abs (sqR a) :: z6' []), .bool true],
    some ((rtRT a = true ∧ true = true) ∧ true = true ∧ (!eeq (emul (sqR a, zO) (sqR a, zO)) (a, zE)) = false ∧ elgR (sqR a, zO) = false ∧ true = true)) := by kernel_rfl
set_option maxRecDepth 100000 in
theorem es2V (a : Fe) : (callF Tryz.prog (SRe [(70, 3, 5, false), (70, 16, 4, true)] []) 60 70 [bF [a, zE]] []).map (fun r => (r.1, r.2.2)) = some (.tup [.agg (z6' (z6' [])), .bool false],
    some ((rtRT a = false ∧ true = true) ∧ true = true ∧ true = true ∧ true = true ∧ (!eeq (emul (zO, sqR (fneg a)) (zO, sqR (fneg a))) (a, zE)) = true ∧ true = true)) := by kernel_rfl
set_option maxRecDepth 100000 in
theorem es3V (a : Fe) : (callF Tryz.prog (SRe [(70, 3, 5, false), (70, 16, 4, false), (70, 18, 1, false)] []) 60 70 [bF [a, zE]] []).map (fun r => (r.1, r.2.2)) = some (.tup [.agg (z6' [.abs (sqR (fneg a))]), .bool true],
    some ((rtRT a = false ∧ true = true) ∧ true = true ∧ true = true ∧ true = true ∧ (!eeq (emul (zO, sqR (fneg a)) (zO, sqR (fneg a))) (a, zE)) = false ∧ elgR (zO, sqR (fneg a)) = false ∧ true = true)) := by kernel_rfl
set_option maxRecDepth 100000 in
theorem es4V (a : Fe) : (callF Tryz.prog (SRe [(70, 3, 5, false), (70, 16, 4, false), (70, 18, 1, true)] []) 60 70 [bF [a, zE]] []).map (fun r => (r.1, r.2.2)) = some (.tup [eV (eneg (zO, sqR (fneg a))), .bool true],
    some ((rtRT a = false ∧ true = true) ∧ true = true ∧ true = true ∧ true = true ∧ (!eeq (emul (zO, sqR (fneg a)) (zO, sqR (fneg a))) (a, zE)) = false ∧ elgR (zO, sqR (fneg a)) = true ∧ true = true ∧ true = true)) := by kernel_rfl
end Go.Proofs.YtcedljbapgmdmaaGreat.En

/- DERIVED. The document's root of an element without an imaginary part: the contract; the point of its x. -/
set_option linter.all false
namespace Go.Proofs.YtcedljbapgmdmaaGreat.En
open Go Go.RowKit Go.Proofs.YtcedljbapgmdmaaGreat.Alg

theorem za_mo {a b : Fe} (h : za a = za b) : mo (fv a) = mo (fv b) := by
  have h : fv a % pN = fv b % pN := zr_eq.1 h
  rw [← mo_red, h, mo_red]
theorem za_cells {a b : Fe} (h : za a = za b) : (Ab.cells a : List Value) = Ab.cells b := by
  show [Value.int .u64 (lm (mo (fv a)) 0), .int .u64 (lm (mo (fv a)) 1), .int .u64 (lm (mo (fv a)) 2), .int .u64 (lm (mo (fv a)) 3), .int .u64 (lm (mo (fv a)) 4), .int .u64 (lm (mo (fv a)) 5)] = [Value.int .u64 (lm (mo (fv b)) 0), .int .u64 (lm (mo (fv b)) 1), .int .u64 (lm (mo (fv b)) 2), .int .u64 (lm (mo (fv b)) 3), .int .u64 (lm (mo (fv b)) 4), .int .u64 (lm (mo (fv b)) 5)]
  rw [za_mo h]
theorem real_tr {a b : Fe} (h : isz b = true) (ρ : Key → Loc) : LV.tr ρ (bF [a, b] : LV Fe) = LV.tr ρ (bF [a, zE]) := by
  show Value.agg (LV.cells ρ (.abs a : LV Fe) ++ (Ab.cells b ++ [])).toArray = Value.agg (LV.cells ρ (.abs a : LV Fe) ++ (Ab.cells zE ++ [])).toArray
  rw [za_cells ((isz_iff.1 h).trans za_zE.symm)]
/-- A contract of one element without an imaginary part, and bools behind it. -/
def realFn (k : Nat) (val : List Bool → Fe → Option (LV Fe)) (vs : List (LV Fe)) : Option (LV Fe) := match vs with
  | u :: l => match pA [2] [u], bools l with
    | some [[a, b]], some s => match isz b with
      | true => val s a
      | false => none
    | _, _ => none
  | [] => none
where bools : List (LV Fe) → Option (List Bool)
  | [] => some []
  | .bool b :: l => match bools l with
    | some r => some (b :: r)
    | none => none
  | _ :: _ => none
theorem bools_eq : ∀ {l : List (LV Fe)} {s : List Bool}, realFn.bools l = some s → l = s.map fun b => .bool b
  | [], s, h => by cases h; rfl
  | v :: l, s, h => by
    cases v with
    | bool b =>
      simp only [realFn.bools] at h
      split at h
      · rename_i r hr; cases h; rw [bools_eq hr]; rfl
      · cases h
    | _ => cases h
theorem realFn_some {k : Nat} {val : List Bool → Fe → Option (LV Fe)} {vs : List (LV Fe)} {v : LV Fe} (h : realFn k val vs = some v) : ∃ a s, val s a = some v ∧ ∀ ρ : Key → Loc, trs ρ vs = trs ρ (bF [a, zE] :: s.map fun b => .bool b) := by
  unfold realFn at h
  split at h
  · rename_i u l
    split at h
    · rename_i a b s hu hs
      split at h
      · rename_i hb
        refine ⟨a, s, h, fun ρ => ?_⟩
        have e := (pA_trs _ _ _ hu).2 ρ
        rw [bools_eq hs]
        simp only [trs] at e ⊢
        have e1 : LV.tr ρ u = LV.tr ρ (bF [a, b]) := by
          have := e
          simp only [bA, List.map_cons, List.map_nil, trs] at this
          injection this
        rw [e1, real_tr hb]
      · cases h
    · cases h
  · cases h
noncomputable def mkReal (f : FuncId) (ent : ∀ args w, (callFunc f args).run Tryz.prog w = .ok (.enter f args) w) (val : List Bool → Fe → Option (LV Fe)) (run : ∀ {s a v}, val s a = some v → Runs f (bF [a, zE] :: s.map fun b => .bool b) v) : ConP Tryz.prog Fe where
  f := f
  fn := realFn 0 val
  ent := ent
  kin vs v h p := by
    obtain ⟨a, s, h1, _⟩ := realFn_some h
    exact pv_kin p v (run h1).plain
  call vs v h ρ w := by
    obtain ⟨a, s, h1, h2⟩ := realFn_some h
    rw [h2 ρ]
    exact (run h1).run ρ w
def imR (a : Fe) : Bool := eeq (emul (zE, sqR (fneg a)) (zE, sqR (fneg a))) (a, zE)
def imS (y : Fe) : E2 := bif elgR (zE, y) then eneg (zE, y) else (zE, y)
def sqE (a : Fe) : E2 := bif rtRT a then (sqR a, zE) else bif imR a then imS (sqR (fneg a)) else (zE, zE)
def sqT (a : Fe) : Bool := bif rtRT a then true else imR a
theorem imS_t {y : Fe} (h : elgR (zE, y) = true) : imS y = eneg (zE, y) := by unfold imS; rw [h, cond_true]
theorem imS_f {y : Fe} (h : elgR (zE, y) = false) : imS y = (zE, y) := by unfold imS; rw [h, cond_false]
theorem sqE_1 {a : Fe} (h : rtRT a = true) : sqE a = (sqR a, zE) := by unfold sqE; rw [h, cond_true]
theorem sqT_1 {a : Fe} (h : rtRT a = true) : sqT a = true := by unfold sqT; rw [h, cond_true]
theorem sqE_2 {a : Fe} (h : rtRT a = false) (k : imR a = false) : sqE a = (zE, zE) := by unfold sqE; rw [h, k, cond_false, cond_false]
theorem sqT_2 {a : Fe} (h : rtRT a = false) : sqT a = imR a := by unfold sqT; rw [h, cond_false]
theorem sqE_3 {a : Fe} (h : rtRT a = false) (k : imR a = true) : sqE a = imS (sqR (fneg a)) := by unfold sqE; rw [h, k, cond_false, cond_true]
theorem z12_tr (ρ : Key → Loc) : LV.tr ρ (.agg (z6' (z6' [])) : LV Fe) = LV.tr ρ (eV (zE, zE)) := by kernel_rfl
theorem zy_tr (y : Fe) (ρ : Key → Loc) : LV.tr ρ (.agg (z6' [.abs y]) : LV Fe) = LV.tr ρ (eV (zE, y)) := congrArg (fun l : List Value => Value.agg l.toArray) (zE_cells ρ [.abs y])
theorem tup_tr {ρ : Key → Loc} {u v : LV Fe} {b : Bool} (h : LV.tr ρ u = LV.tr ρ v) : LV.tr ρ (.tup [u, .bool b] : LV Fe) = LV.tr ρ (.tup [v, .bool b] : LV Fe) := by
  show Value.tuple #[LV.tr ρ u, .bool b] = Value.tuple #[LV.tr ρ v, .bool b]
  rw [h]
theorem elg_sq (a : Fe) : elgR (sqR a, zO) = false := by rw [elg_t (x := (sqR a, zO)) (isz_iff.2 za_zE)]; exact lgR_sq a
theorem es_runs (a : Fe) : Runs 70 [bF [a, zE]] (.tup [eV (sqE a), .bool (sqT a)]) := by
  cases h : rtRT a with
  | true =>
    rw [sqE_1 h, sqT_1 h]
    exact (Runs.of (SRe_ok _ _) rfl (es1V a) ⟨⟨h, rfl⟩, rfl, congrArg not (sqE_t h), elg_sq a, rfl⟩ rfl rfl).as rfl fun ρ => tup_tr (pad0_tr _ ρ)
  | false => cases k : imR a with
    | false =>
      rw [sqE_2 h k, sqT_2 h, k]
      exact (Runs.of (SRe_ok _ _) rfl (es2V a) ⟨⟨h, rfl⟩, rfl, rfl, rfl, congrArg not k, rfl⟩ rfl rfl).as rfl fun ρ => tup_tr (z12_tr ρ)
    | true =>
      rw [sqE_3 h k, sqT_2 h, k]
      cases g : elgR (zE, sqR (fneg a)) with
      | false =>
        rw [imS_f g]
        exact (Runs.of (SRe_ok _ _) rfl (es3V a) ⟨⟨h, rfl⟩, rfl, rfl, rfl, congrArg not k, g, rfl⟩ rfl rfl).as rfl fun ρ => tup_tr (zy_tr _ ρ)
      | true =>
        rw [imS_t g]
        exact Runs.of (SRe_ok _ _) rfl (es4V a) ⟨⟨h, rfl⟩, rfl, rfl, rfl, congrArg not k, g, rfl, rfl⟩ rfl rfl
def esVal : List Bool → Fe → Option (LV Fe)
  | [], a => some (.tup [eV (sqE a), .bool (sqT a)])
  | _, _ => none
theorem esVal_runs {s : List Bool} {a : Fe} {v : LV Fe} (h : esVal s a = some v) : Runs 70 (bF [a, zE] :: s.map fun b => .bool b) v := by
  unfold esVal at h
  split at h
  · cases h; exact es_runs a
  · cases h
noncomputable def conRESqrt : ConP Tryz.prog Fe := mkReal 70 entRESqrt esVal esVal_runs
end Go.Proofs.YtcedljbapgmdmaaGreat.En

/- DERIVED. The document's point of an x without an imaginary part. -/
set_option linter.all false
namespace Go.Proofs.YtcedljbapgmdmaaGreat.En
open Go Go.RowKit Go.Proofs.YtcedljbapgmdmaaGreat.Alg

set_option maxRecDepth 100000 in
theorem entRLift : ∀ args w, (callFunc 26 args).run Tryz.prog w = .ok (.enter 26 args) w := ent_of (f := 26) (P := Tryz.prog) rfl rfl rfl
--@run rl0V (a : Fe) (s : Bool) := callF Tryz.prog (SRe [(26, 1, 11, false), (26, 2, 5, true)] [conRESqrt]) 60 26 [bF [a, zE], .bool s, .bool false] [] => .tup [z36, .bool false]
--@[
set_option maxRecDepth 100000 in
def rl0V_G (a : Fe) (s : Bool) : Prop := (sqT (fadd (fmul (fmul a a) a) four) = false ∧ true = true) ∧ isz (Prod.snd (sqE (fadd (fmul (fmul a a) a) four))) = true ∧ true = true
set_option maxRecDepth 100000 in
theorem rl0V (a : Fe) (s : Bool) : (callF Tryz.prog (SRe [(26, 1, 11, false), (26, 2, 5, true)] [conRESqrt]) 60 26 [bF [a, zE], .bool s, .bool false] []).map (fun r => (r.1, r.2.2)) = some (.tup [z36, .bool false], some (rl0V_G a s)) := by kernel_rfl
--@]
--@run rl1V (a : Fe) := callF Tryz.prog (SRe [(26, 1, 11, true), (26, 2, 5, true), (26, 6, 1, false)] [conRESqrt]) 60 26 [bF [a, zE], .bool false, .bool false] [] => .tup [cV ((a, zE), sqE (sideF a), eOne), .bool true]
--@[
set_option maxRecDepth 100000 in
def rl1V_G (a : Fe) : Prop := (sqT (fadd (fmul (fmul a a) a) four) = true ∧ true = true) ∧ isz (Prod.snd (sqE (fadd (fmul (fmul a a) a) four))) = true ∧ elgR (Prod.fst (sqE (fadd (fmul (fmul a a) a) four)), Prod.snd (sqE (fadd (fmul (fmul a a) a) four))) = false ∧ true = true
set_option maxRecDepth 100000 in
theorem rl1V (a : Fe) : (callF Tryz.prog (SRe [(26, 1, 11, true), (26, 2, 5, true), (26, 6, 1, false)] [conRESqrt]) 60 26 [bF [a, zE], .bool false, .bool false] []).map (fun r => (r.1, r.2.2)) = some (.tup [cV ((a, zE), sqE (sideF a), eOne), .bool true], some (rl1V_G a)) := by kernel_rfl
--@]
--@run rl2V (a : Fe) := callF Tryz.prog (SRe [(26, 1, 11, true), (26, 2, 5, true), (26, 6, 1, false)] [conRESqrt]) 60 26 [bF [a, zE], .bool true, .bool false] [] => .tup [cV ((a, zE), eneg (sqE (sideF a)), eOne), .bool true]
--@[
set_option maxRecDepth 100000 in
def rl2V_G (a : Fe) : Prop := (sqT (fadd (fmul (fmul a a) a) four) = true ∧ true = true) ∧ isz (Prod.snd (sqE (fadd (fmul (fmul a a) a) four))) = true ∧ elgR (Prod.fst (sqE (fadd (fmul (fmul a a) a) four)), Prod.snd (sqE (fadd (fmul (fmul a a) a) four))) = false ∧ true = true ∧ true = true
set_option maxRecDepth 100000 in
theorem rl2V (a : Fe) : (callF Tryz.prog (SRe [(26, 1, 11, true), (26, 2, 5, true), (26, 6, 1, false)] [conRESqrt]) 60 26 [bF [a, zE], .bool true, .bool false] []).map (fun r => (r.1, r.2.2)) = some (.tup [cV ((a, zE), eneg (sqE (sideF a)), eOne), .bool true], some (rl2V_G a)) := by kernel_rfl
--@]
--@run rl3V (a : Fe) (s : Bool) := callF Tryz.prog (SRe [(26, 1, 11, true), (26, 2, 5, false)] [conRESqrt]) 60 26 [bF [a, zE], .bool s, .bool false] [] => .tup [z36, .bool false]
--@[
set_option maxRecDepth 100000 in
def rl3V_G (a : Fe) (s : Bool) : Prop := (sqT (fadd (fmul (fmul a a) a) four) = true ∧ true = true) ∧ isz (Prod.snd (sqE (fadd (fmul (fmul a a) a) four))) = false ∧ true = true
set_option maxRecDepth 100000 in
theorem rl3V (a : Fe) (s : Bool) : (callF Tryz.prog (SRe [(26, 1, 11, true), (26, 2, 5, false)] [conRESqrt]) 60 26 [bF [a, zE], .bool s, .bool false] []).map (fun r => (r.1, r.2.2)) = some (.tup [z36, .bool false], some (rl3V_G a s)) := by kernel_rfl
--@]
def rlF (s : Bool) (a : Fe) : C3 := bif rtRT (sideF a) then ((a, zE), (bif s then eneg (sqE (sideF a)) else sqE (sideF a)), eOne) else cz
theorem rlF_0 {s : Bool} {a : Fe} (h : rtRT (sideF a) = false) : rlF s a = cz := by unfold rlF; rw [h, cond_false]
theorem rlF_1 {a : Fe} (h : rtRT (sideF a) = true) : rlF false a = ((a, zE), sqE (sideF a), eOne) := by unfold rlF; rw [h, cond_true, cond_false]
theorem rlF_2 {a : Fe} (h : rtRT (sideF a) = true) : rlF true a = ((a, zE), eneg (sqE (sideF a)), eOne) := by unfold rlF; rw [h, cond_true, cond_true]
theorem isE_1 {b : Fe} (h : rtRT b = true) : isz (sqE b).2 = true := by rw [sqE_1 h]; exact isz_iff.2 za_zE
theorem elE_1 {b : Fe} (h : rtRT b = true) : elgR ((sqE b).1, (sqE b).2) = false := by rw [sqE_1 h]; exact elg_sq b
theorem isE_2 {b : Fe} (h : rtRT b = false) (k : imR b = false) : isz (sqE b).2 = true := by rw [sqE_2 h k]; exact isz_iff.2 za_zE
theorem isE_3 {b : Fe} (h : rtRT b = false) (k : imR b = true) : isz (sqE b).2 = false := by
  rw [sqE_3 h k]
  have hy : isz (sqR (fneg b)) = false := sqE_n h k
  generalize sqR (fneg b) = y at *
  cases g : elgR (zE, y) with
  | false => rw [imS_f g]; exact hy
  | true =>
    rw [imS_t g]
    show isz (fneg y) = false
    rw [isz_f] at hy ⊢
    rw [za_neg]
    exact fun e => hy (by rw [← neg_neg (za y), e]; exact neg_zero)
theorem rl_runs (s : Bool) (a : Fe) : Runs 26 [bF [a, zE], .bool s, .bool false] (.tup [cV (rlF s a), .bool (rtRT (sideF a))]) := by
  cases h : rtRT (sideF a) with
  | true => cases s with
    | false =>
      rw [rlF_1 h]
      exact .of (SRe_ok _ _) rfl (rl1V a) ⟨⟨sqT_1 h, rfl⟩, isE_1 h, elE_1 h, rfl⟩ rfl rfl
    | true =>
      rw [rlF_2 h]
      exact .of (SRe_ok _ _) rfl (rl2V a) ⟨⟨sqT_1 h, rfl⟩, isE_1 h, elE_1 h, rfl, rfl⟩ rfl rfl
  | false =>
    rw [rlF_0 h]
    cases k : imR (sideF a) with
    | false => exact (Runs.of (SRe_ok _ _) rfl (rl0V a s) ⟨⟨(sqT_2 h).trans k, rfl⟩, isE_2 h k, rfl⟩ rfl rfl).as rfl fun ρ => tup_tr (z36_tr ρ)
    | true => exact (Runs.of (SRe_ok _ _) rfl (rl3V a s) ⟨⟨(sqT_2 h).trans k, rfl⟩, isE_3 h k, rfl⟩ rfl rfl).as rfl fun ρ => tup_tr (z36_tr ρ)
def rlVal : List Bool → Fe → Option (LV Fe)
  | [s, false], a => some (.tup [cV (rlF s a), .bool (rtRT (sideF a))])
  | _, _ => none
theorem rlVal_runs {s : List Bool} {a : Fe} {v : LV Fe} (h : rlVal s a = some v) : Runs 26 (bF [a, zE] :: s.map fun b => .bool b) v := by
  unfold rlVal at h
  split at h
  · cases h; exact rl_runs _ a
  · cases h
noncomputable def conRLift : ConP Tryz.prog Fe := mkReal 26 entRLift rlVal rlVal_runs
end Go.Proofs.YtcedljbapgmdmaaGreat.En
