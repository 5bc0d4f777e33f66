/- DERIVED. Texts laid together: QBE FZ QFZ HA HB HC HD HE HF HG HH HI HJ QHK HK HL HM HN HO QHO QGA QHL QHM QHN QHA QHR QHU QHS QHT HR HU HP HQ HV HW VT1. -/
import Derived.Test.YtonmjdnkcngfjaaGreatZaE
/- DERIVED. The second group's written numbers; its curve's right side. -/
set_option linter.all false
namespace Go.Proofs.YtonmjdnkcngfjaaGreat.En
open Go Go.RowKit

def sQ0 : List UInt8 := [50, 52, 97, 97, 50, 98, 50, 102, 48, 56, 102, 48, 97, 57, 49, 50, 54, 48, 56, 48, 53, 50, 55, 50, 100, 99, 53, 49, 48, 53, 49, 99, 54, 101, 52, 55, 97, 100, 52, 102, 97, 52, 48, 51, 98, 48, 50, 98, 52, 53, 49, 48, 98, 54, 52, 55, 97, 101, 51, 100, 49, 55, 55, 48, 98, 97, 99, 48, 51, 50, 54, 97, 56, 48, 53, 98, 98, 101, 102, 100, 52, 56, 48, 53, 54, 99, 56, 99, 49, 50, 49, 98, 100, 98, 56]
def fQ0 : Fe := fmul (ofSix 15312334153293348280 841050694974028783 12993178926126977399 14331714969349929730 2740446039084699729 165123225776229009) ftwo
def sQ1 : List UInt8 := [49, 51, 101, 48, 50, 98, 54, 48, 53, 50, 55, 49, 57, 102, 54, 48, 55, 100, 97, 99, 100, 51, 97, 48, 56, 56, 50, 55, 52, 102, 54, 53, 53, 57, 54, 98, 100, 48, 100, 48, 57, 57, 50, 48, 98, 54, 49, 97, 98, 53, 100, 97, 54, 49, 98, 98, 100, 99, 55, 102, 53, 48, 52, 57, 51, 51, 52, 99, 102, 49, 49, 50, 49, 51, 57, 52, 53, 100, 53, 55, 101, 53, 97, 99, 55, 100, 48, 53, 53, 100, 48, 52, 50, 98, 55, 101]
def fQ1 : Fe := fmul (ofSix 16549740192668593022 3696594454104530263 13103893525273989193 6443473286224459290 9055845637167730533 1432192374203850592) ftwo
def sQ2 : List UInt8 := [99, 101, 53, 100, 53, 50, 55, 55, 50, 55, 100, 54, 101, 49, 49, 56, 99, 99, 57, 99, 100, 99, 54, 100, 97, 50, 101, 51, 53, 49, 97, 97, 100, 102, 100, 57, 98, 97, 97, 56, 99, 98, 100, 100, 51, 97, 55, 54, 100, 52, 50, 57, 97, 54, 57, 53, 49, 54, 48, 100, 49, 50, 99, 57, 50, 51, 97, 99, 57, 99, 99, 51, 98, 97, 99, 97, 50, 56, 57, 101, 49, 57, 51, 53, 52, 56, 54, 48, 56, 98, 56, 50, 56, 48, 49]
def fQ2 : Fe := fmul (ofSix 16254428414758889473 10536956157198377609 7873024875724591404 12537348094477325223 10144865889576432922 929383263523139089) ftwo
def sQ3 : List UInt8 := [54, 48, 54, 99, 52, 97, 48, 50, 101, 97, 55, 51, 52, 99, 99, 51, 50, 97, 99, 100, 50, 98, 48, 50, 98, 99, 50, 56, 98, 57, 57, 99, 98, 51, 101, 50, 56, 55, 101, 56, 53, 97, 55, 54, 51, 97, 102, 50, 54, 55, 52, 57, 50, 97, 98, 53, 55, 50, 101, 57, 57, 97, 98, 51, 102, 51, 55, 48, 100, 50, 55, 53, 99, 101, 99, 49, 100, 97, 49, 97, 97, 97, 57, 48, 55, 53, 102, 102, 48, 53, 102, 55, 57, 98, 101]
def fQ3 : Fe := fmul (ofSix 12297368366147926462 4555124010822409633 2771000935339432363 14645187562128761775 3651525051980876697 434250606344352972) ftwo
def sQ4 : List UInt8 := []
def fQ4 : Fe := fmul (ofSix 0 0 0 0 0 0) ftwo
def sQ5 : List UInt8 := [49, 97, 48, 49, 49, 49, 101, 97, 51, 57, 55, 102, 101, 54, 57, 57, 101, 99, 48, 50, 52, 48, 56, 54, 54, 51, 100, 52, 100, 101, 56, 53, 97, 97, 48, 100, 56, 53, 55, 100, 56, 57, 55, 53, 57, 97, 100, 52, 56, 57, 55, 100, 50, 57, 54, 53, 48, 102, 98, 56, 53, 102, 57, 98, 52, 48, 57, 52, 50, 55, 101, 98, 52, 102, 52, 57, 102, 102, 102, 100, 56, 98, 102, 100, 48, 48, 48, 48, 48, 48, 48, 48, 97, 97, 97, 100]
def fQ5 : Fe := fmul (ofSix 10087218740379822765 4653388206581612541 9907120269317136283 12253596935368579796 17006226088849104517 1873798617647539865) ftwo
def sQ6 : List UInt8 := [49, 51, 53, 50, 48, 51, 101, 54, 48, 49, 56, 48, 97, 54, 56, 101, 101, 50, 101, 57, 99, 52, 52, 56, 100, 55, 55, 97, 50, 99, 100, 57, 49, 99, 51, 100, 101, 100, 100, 57, 51, 48, 98, 49, 99, 102, 54, 48, 101, 102, 51, 57, 54, 52, 56, 57, 102, 54, 49, 101, 98, 52, 53, 101, 51, 48, 52, 52, 54, 54, 99, 102, 51, 101, 54, 55, 102, 97, 48, 97, 102, 49, 101, 101, 55, 98, 48, 52, 49, 50, 49, 98, 100, 101, 97, 50]
def fQ6 : Fe := fmul (ofSix 17433006465011670690 3478017852528130570 17237919592439788638 2035044123721977696 16350815739277094105 1392179521213474446) ftwo
def sQ7 : List UInt8 := [54, 97, 102, 48, 101, 48, 52, 51, 55, 102, 102, 52, 48, 48, 98, 54, 56, 51, 49, 101, 51, 54, 100, 54, 98, 100, 49, 55, 102, 102, 101, 52, 56, 51, 57, 53, 100, 97, 98, 99, 50, 100, 51, 52, 51, 53, 101, 55, 55, 102, 55, 54, 101, 49, 55, 48, 48, 57, 50, 52, 49, 99, 53, 101, 101, 54, 55, 57, 57, 50, 102, 55, 50, 101, 99, 48, 53, 102, 52, 99, 56, 49, 48, 56, 52, 102, 98, 101, 100, 101, 51, 99, 99, 48, 57]
def fQ7 : Fe := fmul (ofSix 14416168624775744521 17178867732698629620 8644499054833844677 5204293836692734814 7508032112903159806 481619096434065419) ftwo
set_option maxRecDepth 100000 in
def tq0V_G  : Prop := (true = true ∧ true = true ∧ true = true ∧ true = true ∧ true = true ∧ true = true) ∧ (true = true ∧ true = true ∧ true = true ∧ true = true ∧ true = true ∧ true = true) ∧ (true = true ∧ true = true ∧ true = true ∧ true = true ∧ true = true ∧ true = true) ∧ (true = true ∧ true = true ∧ true = true ∧ true = true ∧ true = true ∧ true = true) ∧ (true = true ∧ true = true ∧ true = true ∧ true = true ∧ true = true ∧ true = true) ∧ (true = true ∧ true = true ∧ true = true ∧ true = true ∧ true = true ∧ true = true) ∧ (true = true ∧ true = true ∧ true = true ∧ true = true ∧ true = true ∧ true = true) ∧ (true = true ∧ true = true ∧ true = true ∧ true = true ∧ true = true ∧ true = true) ∧ (true = true ∧ true = true ∧ true = true ∧ true = true ∧ true = true ∧ true = true) ∧ (true = true ∧ true = true ∧ true = true ∧ true = true ∧ true = true ∧ true = true) ∧ (true = true ∧ true = true ∧ true = true ∧ true = true ∧ true = true ∧ true = true) ∧ (true = true ∧ true = true ∧ true = true ∧ true = true ∧ true = true ∧ true = true) ∧ (true = true ∧ true = true ∧ true = true ∧ true = true ∧ true = true ∧ true = true) ∧ (true = true ∧ true = true ∧ true = true ∧ true = true ∧ true = true ∧ true = true) ∧ (true = true ∧ true = true ∧ true = true ∧ true = true ∧ true = true ∧ true = true) ∧ (true = true ∧ true = true ∧ true = true ∧ true = true ∧ true = true ∧ true = true) ∧ (true = true ∧ true = true ∧ true = true ∧ true = true ∧ true = true ∧ true = true) ∧ (true = true ∧ true = true ∧ true = true ∧ true = true ∧ true = true ∧ true = true) ∧ (true = true ∧ true = true ∧ true = true ∧ true = true ∧ true = true ∧ true = true) ∧ (true = true ∧ true = true ∧ true = true ∧ true = true ∧ true = true ∧ true = true) ∧ (true = true ∧ true = true ∧ true = true ∧ true = true ∧ true = true ∧ true = true) ∧ (true = true ∧ true = true ∧ true = true ∧ true = true ∧ true = true ∧ true = true) ∧ (true = true ∧ true = true ∧ true = true ∧ true = true ∧ true = true ∧ true = true) ∧ (true = true ∧ true = true ∧ true = true ∧ true = true ∧ true = true ∧ true = true) ∧ (true = true ∧ true = true ∧ true = true ∧ true = true ∧ true = true ∧ true = true) ∧ (true = true ∧ true = true ∧ true = true ∧ true = true ∧ true = true ∧ true = true) ∧ (true = true ∧ true = true ∧ true = true ∧ true = true ∧ true = true ∧ true = true) ∧ (true = true ∧ true = true ∧ true = true ∧ true = true ∧ true = true ∧ true = true) ∧ (true = true ∧ true = true ∧ true = true ∧ true = true ∧ true = true ∧ true = true) ∧ (true = true ∧ true = true ∧ true = true ∧ true = true ∧ true = true ∧ true = true) ∧ (true = true ∧ true = true ∧ true = true ∧ true = true ∧ true = true ∧ true = true) ∧ (true = true ∧ true = true ∧ true = true ∧ true = true ∧ true = true ∧ true = true) ∧ (true = true ∧ true = true ∧ true = true ∧ true = true ∧ true = true ∧ true = true) ∧ (true = true ∧ true = true ∧ true = true ∧ true = true ∧ true = true ∧ true = true) ∧ (true = true ∧ true = true ∧ true = true ∧ true = true ∧ true = true ∧ true = true) ∧ (true = true ∧ true = true ∧ true = true ∧ true = true ∧ true = true ∧ true = true) ∧ (true = true ∧ true = true ∧ true = true ∧ true = true ∧ true = true ∧ true = true) ∧ (true = true ∧ true = true ∧ true = true ∧ true = true ∧ true = true ∧ true = true) ∧ (true = true ∧ true = true ∧ true = true ∧ true = true ∧ true = true ∧ true = true) ∧ (true = true ∧ true = true ∧ true = true ∧ true = true ∧ true = true ∧ true = true) ∧ (true = true ∧ true = true ∧ true = true ∧ true = true ∧ true = true ∧ true = true) ∧ (true = true ∧ true = true ∧ true = true ∧ true = true ∧ true = true ∧ true = true) ∧ (true = true ∧ true = true ∧ true = true ∧ true = true ∧ true = true ∧ true = true) ∧ (true = true ∧ true = true ∧ true = true ∧ true = true ∧ true = true ∧ true = true) ∧ (true = true ∧ true = true ∧ true = true ∧ true = true ∧ true = true ∧ true = true) ∧ (true = true ∧ true = true ∧ true = true ∧ true = true ∧ true = true ∧ true = true) ∧ (true = true ∧ true = true ∧ true = true ∧ true = true ∧ true = true ∧ true = true) ∧ (true = true ∧ true = true ∧ true = true ∧ true = true ∧ true = true ∧ true = true) ∧ (true = true ∧ true = true ∧ true = true ∧ true = true ∧ true = true ∧ true = true) ∧ (true = true ∧ true = true ∧ true = true ∧ true = true ∧ true = true ∧ true = true) ∧ (true = true ∧ true = true ∧ true = true ∧ true = true ∧ true = true ∧ true = true) ∧ (true = true ∧ true = true ∧ true = true ∧ true = true ∧ true = true ∧ true = true) ∧ (true = true ∧ true = true ∧ true = true ∧ true = true ∧ true = true ∧ true = true) ∧ (true = true ∧ true = true ∧ true = true ∧ true = true ∧ true = true ∧ true = true) ∧ (true = true ∧ true = true ∧ true = true ∧ true = true ∧ true = true ∧ true = true) ∧ (true = true ∧ true = true ∧ true = true ∧ true = true ∧ true = true ∧ true = true) ∧ (true = true ∧ true = true ∧ true = true ∧ true = true ∧ true = true ∧ true = true) ∧ (true = true ∧ true = true ∧ true = true ∧ true = true ∧ true = true ∧ true = true) ∧ (true = true ∧ true = true ∧ true = true ∧ true = true ∧ true = true ∧ true = true) ∧ (true = true ∧ true = true ∧ true = true ∧ true = true ∧ true = true ∧ true = true) ∧ (true = true ∧ true = true ∧ true = true ∧ true = true ∧ true = true ∧ true = true) ∧ (true = true ∧ true = true ∧ true = true ∧ true = true ∧ true = true ∧ true = true) ∧ (true = true ∧ true = true ∧ true = true ∧ true = true ∧ true = true ∧ true = true) ∧ (true = true ∧ true = true ∧ true = true ∧ true = true ∧ true = true ∧ true = true) ∧ (true = true ∧ true = true ∧ true = true ∧ true = true ∧ true = true ∧ true = true) ∧ (true = true ∧ true = true ∧ true = true ∧ true = true ∧ true = true ∧ true = true) ∧ (true = true ∧ true = true ∧ true = true ∧ true = true ∧ true = true ∧ true = true) ∧ (true = true ∧ true = true ∧ true = true ∧ true = true ∧ true = true ∧ true = true) ∧ (true = true ∧ true = true ∧ true = true ∧ true = true ∧ true = true ∧ true = true) ∧ (true = true ∧ true = true ∧ true = true ∧ true = true ∧ true = true ∧ true = true) ∧ (true = true ∧ true = true ∧ true = true ∧ true = true ∧ true = true ∧ true = true) ∧ (true = true ∧ true = true ∧ true = true ∧ true = true ∧ true = true ∧ true = true) ∧ (true = true ∧ true = true ∧ true = true ∧ true = true ∧ true = true ∧ true = true) ∧ (true = true ∧ true = true ∧ true = true ∧ true = true ∧ true = true ∧ true = true) ∧ (true = true ∧ true = true ∧ true = true ∧ true = true ∧ true = true ∧ true = true) ∧ (true = true ∧ true = true ∧ true = true ∧ true = true ∧ true = true ∧ true = true) ∧ (true = true ∧ true = true ∧ true = true ∧ true = true ∧ true = true ∧ true = true) ∧ (true = true ∧ true = true ∧ true = true ∧ true = true ∧ true = true ∧ true = true) ∧ (true = true ∧ true = true ∧ true = true ∧ true = true ∧ true = true ∧ true = true) ∧ (true = true ∧ true = true ∧ true = true ∧ true = true ∧ true = true ∧ true = true) ∧ (true = true ∧ true = true ∧ true = true ∧ true = true ∧ true = true ∧ true = true) ∧ (true = true ∧ true = true ∧ true = true ∧ true = true ∧ true = true ∧ true = true) ∧ (true = true ∧ true = true ∧ true = true ∧ true = true ∧ true = true ∧ true = true) ∧ (true = true ∧ true = true ∧ true = true ∧ true = true ∧ true = true ∧ true = true) ∧ (true = true ∧ true = true ∧ true = true ∧ true = true ∧ true = true ∧ true = true) ∧ (true = true ∧ true = true ∧ true = true ∧ true = true ∧ true = true ∧ true = true) ∧ (true = true ∧ true = true ∧ true = true ∧ true = true ∧ true = true ∧ true = true) ∧ (true = true ∧ true = true ∧ true = true ∧ true = true ∧ true = true ∧ true = true) ∧ (true = true ∧ true = true ∧ true = true ∧ true = true ∧ true = true ∧ true = true) ∧ (true = true ∧ true = true ∧ true = true ∧ true = true ∧ true = true ∧ true = true) ∧ (true = true ∧ true = true ∧ true = true ∧ true = true ∧ true = true ∧ true = true) ∧ (true = true ∧ true = true ∧ true = true ∧ true = true ∧ true = true ∧ true = true) ∧ (true = true ∧ true = true ∧ true = true ∧ true = true ∧ true = true ∧ true = true) ∧ (true = true ∧ true = true ∧ true = true ∧ true = true ∧ true = true ∧ true = true) ∧ (true = true ∧ true = true ∧ true = true ∧ true = true ∧ true = true ∧ true = true) ∧ true = true
set_option maxRecDepth 100000 in
theorem tq0V  : (callF Tryz.prog (SGa noD [conMade]) 300 111 [.str ⟨⟨sQ0⟩⟩] []).map (fun r => (r.1, r.2.2)) = some (.agg [.abs fQ0], some (tq0V_G )) := by kernel_rfl
set_option maxRecDepth 100000 in
theorem tq0V_ok  : condOk (some (tq0V_G )) := by unfold tq0V_G condOk; and_intros <;> rfl
set_option maxRecDepth 100000 in
def tq1V_G  : Prop := (true = true ∧ true = true ∧ true = true ∧ true = true ∧ true = true ∧ true = true) ∧ (true = true ∧ true = true ∧ true = true ∧ true = true ∧ true = true ∧ true = true) ∧ (true = true ∧ true = true ∧ true = true ∧ true = true ∧ true = true ∧ true = true) ∧ (true = true ∧ true = true ∧ true = true ∧ true = true ∧ true = true ∧ true = true) ∧ (true = true ∧ true = true ∧ true = true ∧ true = true ∧ true = true ∧ true = true) ∧ (true = true ∧ true = true ∧ true = true ∧ true = true ∧ true = true ∧ true = true) ∧ (true = true ∧ true = true ∧ true = true ∧ true = true ∧ true = true ∧ true = true) ∧ (true = true ∧ true = true ∧ true = true ∧ true = true ∧ true = true ∧ true = true) ∧ (true = true ∧ true = true ∧ true = true ∧ true = true ∧ true = true ∧ true = true) ∧ (true = true ∧ true = true ∧ true = true ∧ true = true ∧ true = true ∧ true = true) ∧ (true = true ∧ true = true ∧ true = true ∧ true = true ∧ true = true ∧ true = true) ∧ (true = true ∧ true = true ∧ true = true ∧ true = true ∧ true = true ∧ true = true) ∧ (true = true ∧ true = true ∧ true = true ∧ true = true ∧ true = true ∧ true = true) ∧ (true = true ∧ true = true ∧ true = true ∧ true = true ∧ true = true ∧ true = true) ∧ (true = true ∧ true = true ∧ true = true ∧ true = true ∧ true = true ∧ true = true) ∧ (true = true ∧ true = true ∧ true = true ∧ true = true ∧ true = true ∧ true = true) ∧ (true = true ∧ true = true ∧ true = true ∧ true = true ∧ true = true ∧ true = true) ∧ (true = true ∧ true = true ∧ true = true ∧ true = true ∧ true = true ∧ true = true) ∧ (true = true ∧ true = true ∧ true = true ∧ true = true ∧ true = true ∧ true = true) ∧ (true = true ∧ true = true ∧ true = true ∧ true = true ∧ true = true ∧ true = true) ∧ (true = true ∧ true = true ∧ true = true ∧ true = true ∧ true = true ∧ true = true) ∧ (true = true ∧ true = true ∧ true = true ∧ true = true ∧ true = true ∧ true = true) ∧ (true = true ∧ true = true ∧ true = true ∧ true = true ∧ true = true ∧ true = true) ∧ (true = true ∧ true = true ∧ true = true ∧ true = true ∧ true = true ∧ true = true) ∧ (true = true ∧ true = true ∧ true = true ∧ true = true ∧ true = true ∧ true = true) ∧ (true = true ∧ true = true ∧ true = true ∧ true = true ∧ true = true ∧ true = true) ∧ (true = true ∧ true = true ∧ true = true ∧ true = true ∧ true = true ∧ true = true) ∧ (true = true ∧ true = true ∧ true = true ∧ true = true ∧ true = true ∧ true = true) ∧ (true = true ∧ true = true ∧ true = true ∧ true = true ∧ true = true ∧ true = true) ∧ (true = true ∧ true = true ∧ true = true ∧ true = true ∧ true = true ∧ true = true) ∧ (true = true ∧ true = true ∧ true = true ∧ true = true ∧ true = true ∧ true = true) ∧ (true = true ∧ true = true ∧ true = true ∧ true = true ∧ true = true ∧ true = true) ∧ (true = true ∧ true = true ∧ true = true ∧ true = true ∧ true = true ∧ true = true) ∧ (true = true ∧ true = true ∧ true = true ∧ true = true ∧ true = true ∧ true = true) ∧ (true = true ∧ true = true ∧ true = true ∧ true = true ∧ true = true ∧ true = true) ∧ (true = true ∧ true = true ∧ true = true ∧ true = true ∧ true = true ∧ true = true) ∧ (true = true ∧ true = true ∧ true = true ∧ true = true ∧ true = true ∧ true = true) ∧ (true = true ∧ true = true ∧ true = true ∧ true = true ∧ true = true ∧ true = true) ∧ (true = true ∧ true = true ∧ true = true ∧ true = true ∧ true = true ∧ true = true) ∧ (true = true ∧ true = true ∧ true = true ∧ true = true ∧ true = true ∧ true = true) ∧ (true = true ∧ true = true ∧ true = true ∧ true = true ∧ true = true ∧ true = true) ∧ (true = true ∧ true = true ∧ true = true ∧ true = true ∧ true = true ∧ true = true) ∧ (true = true ∧ true = true ∧ true = true ∧ true = true ∧ true = true ∧ true = true) ∧ (true = true ∧ true = true ∧ true = true ∧ true = true ∧ true = true ∧ true = true) ∧ (true = true ∧ true = true ∧ true = true ∧ true = true ∧ true = true ∧ true = true) ∧ (true = true ∧ true = true ∧ true = true ∧ true = true ∧ true = true ∧ true = true) ∧ (true = true ∧ true = true ∧ true = true ∧ true = true ∧ true = true ∧ true = true) ∧ (true = true ∧ true = true ∧ true = true ∧ true = true ∧ true = true ∧ true = true) ∧ (true = true ∧ true = true ∧ true = true ∧ true = true ∧ true = true ∧ true = true) ∧ (true = true ∧ true = true ∧ true = true ∧ true = true ∧ true = true ∧ true = true) ∧ (true = true ∧ true = true ∧ true = true ∧ true = true ∧ true = true ∧ true = true) ∧ (true = true ∧ true = true ∧ true = true ∧ true = true ∧ true = true ∧ true = true) ∧ (true = true ∧ true = true ∧ true = true ∧ true = true ∧ true = true ∧ true = true) ∧ (true = true ∧ true = true ∧ true = true ∧ true = true ∧ true = true ∧ true = true) ∧ (true = true ∧ true = true ∧ true = true ∧ true = true ∧ true = true ∧ true = true) ∧ (true = true ∧ true = true ∧ true = true ∧ true = true ∧ true = true ∧ true = true) ∧ (true = true ∧ true = true ∧ true = true ∧ true = true ∧ true = true ∧ true = true) ∧ (true = true ∧ true = true ∧ true = true ∧ true = true ∧ true = true ∧ true = true) ∧ (true = true ∧ true = true ∧ true = true ∧ true = true ∧ true = true ∧ true = true) ∧ (true = true ∧ true = true ∧ true = true ∧ true = true ∧ true = true ∧ true = true) ∧ (true = true ∧ true = true ∧ true = true ∧ true = true ∧ true = true ∧ true = true) ∧ (true = true ∧ true = true ∧ true = true ∧ true = true ∧ true = true ∧ true = true) ∧ (true = true ∧ true = true ∧ true = true ∧ true = true ∧ true = true ∧ true = true) ∧ (true = true ∧ true = true ∧ true = true ∧ true = true ∧ true = true ∧ true = true) ∧ (true = true ∧ true = true ∧ true = true ∧ true = true ∧ true = true ∧ true = true) ∧ (true = true ∧ true = true ∧ true = true ∧ true = true ∧ true = true ∧ true = true) ∧ (true = true ∧ true = true ∧ true = true ∧ true = true ∧ true = true ∧ true = true) ∧ (true = true ∧ true = true ∧ true = true ∧ true = true ∧ true = true ∧ true = true) ∧ (true = true ∧ true = true ∧ true = true ∧ true = true ∧ true = true ∧ true = true) ∧ (true = true ∧ true = true ∧ true = true ∧ true = true ∧ true = true ∧ true = true) ∧ (true = true ∧ true = true ∧ true = true ∧ true = true ∧ true = true ∧ true = true) ∧ (true = true ∧ true = true ∧ true = true ∧ true = true ∧ true = true ∧ true = true) ∧ (true = true ∧ true = true ∧ true = true ∧ true = true ∧ true = true ∧ true = true) ∧ (true = true ∧ true = true ∧ true = true ∧ true = true ∧ true = true ∧ true = true) ∧ (true = true ∧ true = true ∧ true = true ∧ true = true ∧ true = true ∧ true = true) ∧ (true = true ∧ true = true ∧ true = true ∧ true = true ∧ true = true ∧ true = true) ∧ (true = true ∧ true = true ∧ true = true ∧ true = true ∧ true = true ∧ true = true) ∧ (true = true ∧ true = true ∧ true = true ∧ true = true ∧ true = true ∧ true = true) ∧ (true = true ∧ true = true ∧ true = true ∧ true = true ∧ true = true ∧ true = true) ∧ (true = true ∧ true = true ∧ true = true ∧ true = true ∧ true = true ∧ true = true) ∧ (true = true ∧ true = true ∧ true = true ∧ true = true ∧ true = true ∧ true = true) ∧ (true = true ∧ true = true ∧ true = true ∧ true = true ∧ true = true ∧ true = true) ∧ (true = true ∧ true = true ∧ true = true ∧ true = true ∧ true = true ∧ true = true) ∧ (true = true ∧ true = true ∧ true = true ∧ true = true ∧ true = true ∧ true = true) ∧ (true = true ∧ true = true ∧ true = true ∧ true = true ∧ true = true ∧ true = true) ∧ (true = true ∧ true = true ∧ true = true ∧ true = true ∧ true = true ∧ true = true) ∧ (true = true ∧ true = true ∧ true = true ∧ true = true ∧ true = true ∧ true = true) ∧ (true = true ∧ true = true ∧ true = true ∧ true = true ∧ true = true ∧ true = true) ∧ (true = true ∧ true = true ∧ true = true ∧ true = true ∧ true = true ∧ true = true) ∧ (true = true ∧ true = true ∧ true = true ∧ true = true ∧ true = true ∧ true = true) ∧ (true = true ∧ true = true ∧ true = true ∧ true = true ∧ true = true ∧ true = true) ∧ (true = true ∧ true = true ∧ true = true ∧ true = true ∧ true = true ∧ true = true) ∧ (true = true ∧ true = true ∧ true = true ∧ true = true ∧ true = true ∧ true = true) ∧ (true = true ∧ true = true ∧ true = true ∧ true = true ∧ true = true ∧ true = true) ∧ (true = true ∧ true = true ∧ true = true ∧ true = true ∧ true = true ∧ true = true) ∧ (true = true ∧ true = true ∧ true = true ∧ true = true ∧ true = true ∧ true = true) ∧ true = true
set_option maxRecDepth 100000 in
theorem tq1V  : (callF Tryz.prog (SGa noD [conMade]) 300 111 [.str ⟨⟨sQ1⟩⟩] []).map (fun r => (r.1, r.2.2)) = some (.agg [.abs fQ1], some (tq1V_G )) := by kernel_rfl
set_option maxRecDepth 100000 in
theorem tq1V_ok  : condOk (some (tq1V_G )) := by unfold tq1V_G condOk; and_intros <;> rfl
set_option maxRecDepth 100000 in
def tq2V_G  : Prop := (true = true ∧ true = true ∧ true = true ∧ true = true ∧ true = true ∧ true = true) ∧ (true = true ∧ true = true ∧ true = true ∧ true = true ∧ true = true ∧ true = true) ∧ (true = true ∧ true = true ∧ true = true ∧ true = true ∧ true = true ∧ true = true) ∧ (true = true ∧ true = true ∧ true = true ∧ true = true ∧ true = true ∧ true = true) ∧ (true = true ∧ true = true ∧ true = true ∧ true = true ∧ true = true ∧ true = true) ∧ (true = true ∧ true = true ∧ true = true ∧ true = true ∧ true = true ∧ true = true) ∧ (true = true ∧ true = true ∧ true = true ∧ true = true ∧ true = true ∧ true = true) ∧ (true = true ∧ true = true ∧ true = true ∧ true = true ∧ true = true ∧ true = true) ∧ (true = true ∧ true = true ∧ true = true ∧ true = true ∧ true = true ∧ true = true) ∧ (true = true ∧ true = true ∧ true = true ∧ true = true ∧ true = true ∧ true = true) ∧ (true = true ∧ true = true ∧ true = true ∧ true = true ∧ true = true ∧ true = true) ∧ (true = true ∧ true = true ∧ true = true ∧ true = true ∧ true = true ∧ true = true) ∧ (true = true ∧ true = true ∧ true = true ∧ true = true ∧ true = true ∧ true = true) ∧ (true = true ∧ true = true ∧ true = true ∧ true = true ∧ true = true ∧ true = true) ∧ (true = true ∧ true = true ∧ true = true ∧ true = true ∧ true = true ∧ true = true) ∧ (true = true ∧ true = true ∧ true = true ∧ true = true ∧ true = true ∧ true = true) ∧ (true = true ∧ true = true ∧ true = true ∧ true = true ∧ true = true ∧ true = true) ∧ (true = true ∧ true = true ∧ true = true ∧ true = true ∧ true = true ∧ true = true) ∧ (true = true ∧ true = true ∧ true = true ∧ true = true ∧ true = true ∧ true = true) ∧ (true = true ∧ true = true ∧ true = true ∧ true = true ∧ true = true ∧ true = true) ∧ (true = true ∧ true = true ∧ true = true ∧ true = true ∧ true = true ∧ true = true) ∧ (true = true ∧ true = true ∧ true = true ∧ true = true ∧ true = true ∧ true = true) ∧ (true = true ∧ true = true ∧ true = true ∧ true = true ∧ true = true ∧ true = true) ∧ (true = true ∧ true = true ∧ true = true ∧ true = true ∧ true = true ∧ true = true) ∧ (true = true ∧ true = true ∧ true = true ∧ true = true ∧ true = true ∧ true = true) ∧ (true = true ∧ true = true ∧ true = true ∧ true = true ∧ true = true ∧ true = true) ∧ (true = true ∧ true = true ∧ true = true ∧ true = true ∧ true = true ∧ true = true) ∧ (true = true ∧ true = true ∧ true = true ∧ true = true ∧ true = true ∧ true = true) ∧ (true = true ∧ true = true ∧ true = true ∧ true = true ∧ true = true ∧ true = true) ∧ (true = true ∧ true = true ∧ true = true ∧ true = true ∧ true = true ∧ true = true) ∧ (true = true ∧ true = true ∧ true = true ∧ true = true ∧ true = true ∧ true = true) ∧ (true = true ∧ true = true ∧ true = true ∧ true = true ∧ true = true ∧ true = true) ∧ (true = true ∧ true = true ∧ true = true ∧ true = true ∧ true = true ∧ true = true) ∧ (true = true ∧ true = true ∧ true = true ∧ true = true ∧ true = true ∧ true = true) ∧ (true = true ∧ true = true ∧ true = true ∧ true = true ∧ true = true ∧ true = true) ∧ (true = true ∧ true = true ∧ true = true ∧ true = true ∧ true = true ∧ true = true) ∧ (true = true ∧ true = true ∧ true = true ∧ true = true ∧ true = true ∧ true = true) ∧ (true = true ∧ true = true ∧ true = true ∧ true = true ∧ true = true ∧ true = true) ∧ (true = true ∧ true = true ∧ true = true ∧ true = true ∧ true = true ∧ true = true) ∧ (true = true ∧ true = true ∧ true = true ∧ true = true ∧ true = true ∧ true = true) ∧ (true = true ∧ true = true ∧ true = true ∧ true = true ∧ true = true ∧ true = true) ∧ (true = true ∧ true = true ∧ true = true ∧ true = true ∧ true = true ∧ true = true) ∧ (true = true ∧ true = true ∧ true = true ∧ true = true ∧ true = true ∧ true = true) ∧ (true = true ∧ true = true ∧ true = true ∧ true = true ∧ true = true ∧ true = true) ∧ (true = true ∧ true = true ∧ true = true ∧ true = true ∧ true = true ∧ true = true) ∧ (true = true ∧ true = true ∧ true = true ∧ true = true ∧ true = true ∧ true = true) ∧ (true = true ∧ true = true ∧ true = true ∧ true = true ∧ true = true ∧ true = true) ∧ (true = true ∧ true = true ∧ true = true ∧ true = true ∧ true = true ∧ true = true) ∧ (true = true ∧ true = true ∧ true = true ∧ true = true ∧ true = true ∧ true = true) ∧ (true = true ∧ true = true ∧ true = true ∧ true = true ∧ true = true ∧ true = true) ∧ (true = true ∧ true = true ∧ true = true ∧ true = true ∧ true = true ∧ true = true) ∧ (true = true ∧ true = true ∧ true = true ∧ true = true ∧ true = true ∧ true = true) ∧ (true = true ∧ true = true ∧ true = true ∧ true = true ∧ true = true ∧ true = true) ∧ (true = true ∧ true = true ∧ true = true ∧ true = true ∧ true = true ∧ true = true) ∧ (true = true ∧ true = true ∧ true = true ∧ true = true ∧ true = true ∧ true = true) ∧ (true = true ∧ true = true ∧ true = true ∧ true = true ∧ true = true ∧ true = true) ∧ (true = true ∧ true = true ∧ true = true ∧ true = true ∧ true = true ∧ true = true) ∧ (true = true ∧ true = true ∧ true = true ∧ true = true ∧ true = true ∧ true = true) ∧ (true = true ∧ true = true ∧ true = true ∧ true = true ∧ true = true ∧ true = true) ∧ (true = true ∧ true = true ∧ true = true ∧ true = true ∧ true = true ∧ true = true) ∧ (true = true ∧ true = true ∧ true = true ∧ true = true ∧ true = true ∧ true = true) ∧ (true = true ∧ true = true ∧ true = true ∧ true = true ∧ true = true ∧ true = true) ∧ (true = true ∧ true = true ∧ true = true ∧ true = true ∧ true = true ∧ true = true) ∧ (true = true ∧ true = true ∧ true = true ∧ true = true ∧ true = true ∧ true = true) ∧ (true = true ∧ true = true ∧ true = true ∧ true = true ∧ true = true ∧ true = true) ∧ (true = true ∧ true = true ∧ true = true ∧ true = true ∧ true = true ∧ true = true) ∧ (true = true ∧ true = true ∧ true = true ∧ true = true ∧ true = true ∧ true = true) ∧ (true = true ∧ true = true ∧ true = true ∧ true = true ∧ true = true ∧ true = true) ∧ (true = true ∧ true = true ∧ true = true ∧ true = true ∧ true = true ∧ true = true) ∧ (true = true ∧ true = true ∧ true = true ∧ true = true ∧ true = true ∧ true = true) ∧ (true = true ∧ true = true ∧ true = true ∧ true = true ∧ true = true ∧ true = true) ∧ (true = true ∧ true = true ∧ true = true ∧ true = true ∧ true = true ∧ true = true) ∧ (true = true ∧ true = true ∧ true = true ∧ true = true ∧ true = true ∧ true = true) ∧ (true = true ∧ true = true ∧ true = true ∧ true = true ∧ true = true ∧ true = true) ∧ (true = true ∧ true = true ∧ true = true ∧ true = true ∧ true = true ∧ true = true) ∧ (true = true ∧ true = true ∧ true = true ∧ true = true ∧ true = true ∧ true = true) ∧ (true = true ∧ true = true ∧ true = true ∧ true = true ∧ true = true ∧ true = true) ∧ (true = true ∧ true = true ∧ true = true ∧ true = true ∧ true = true ∧ true = true) ∧ (true = true ∧ true = true ∧ true = true ∧ true = true ∧ true = true ∧ true = true) ∧ (true = true ∧ true = true ∧ true = true ∧ true = true ∧ true = true ∧ true = true) ∧ (true = true ∧ true = true ∧ true = true ∧ true = true ∧ true = true ∧ true = true) ∧ (true = true ∧ true = true ∧ true = true ∧ true = true ∧ true = true ∧ true = true) ∧ (true = true ∧ true = true ∧ true = true ∧ true = true ∧ true = true ∧ true = true) ∧ (true = true ∧ true = true ∧ true = true ∧ true = true ∧ true = true ∧ true = true) ∧ (true = true ∧ true = true ∧ true = true ∧ true = true ∧ true = true ∧ true = true) ∧ (true = true ∧ true = true ∧ true = true ∧ true = true ∧ true = true ∧ true = true) ∧ (true = true ∧ true = true ∧ true = true ∧ true = true ∧ true = true ∧ true = true) ∧ (true = true ∧ true = true ∧ true = true ∧ true = true ∧ true = true ∧ true = true) ∧ (true = true ∧ true = true ∧ true = true ∧ true = true ∧ true = true ∧ true = true) ∧ (true = true ∧ true = true ∧ true = true ∧ true = true ∧ true = true ∧ true = true) ∧ (true = true ∧ true = true ∧ true = true ∧ true = true ∧ true = true ∧ true = true) ∧ (true = true ∧ true = true ∧ true = true ∧ true = true ∧ true = true ∧ true = true) ∧ (true = true ∧ true = true ∧ true = true ∧ true = true ∧ true = true ∧ true = true) ∧ (true = true ∧ true = true ∧ true = true ∧ true = true ∧ true = true ∧ true = true) ∧ (true = true ∧ true = true ∧ true = true ∧ true = true ∧ true = true ∧ true = true) ∧ true = true
set_option maxRecDepth 100000 in
theorem tq2V  : (callF Tryz.prog (SGa noD [conMade]) 300 111 [.str ⟨⟨sQ2⟩⟩] []).map (fun r => (r.1, r.2.2)) = some (.agg [.abs fQ2], some (tq2V_G )) := by kernel_rfl
set_option maxRecDepth 100000 in
theorem tq2V_ok  : condOk (some (tq2V_G )) := by unfold tq2V_G condOk; and_intros <;> rfl
set_option maxRecDepth 100000 in
def tq3V_G  : Prop := (true = true ∧ true = true ∧ true = true ∧ true = true ∧ true = true ∧ true = true) ∧ (true = true ∧ true = true ∧ true = true ∧ true = true ∧ true = true ∧ true = true) ∧ (true = true ∧ true = true ∧ true = true ∧ true = true ∧ true = true ∧ true = true) ∧ (true = true ∧ true = true ∧ true = true ∧ true = true ∧ true = true ∧ true = true) ∧ (true = true ∧ true = true ∧ true = true ∧ true = true ∧ true = true ∧ true = true) ∧ (true = true ∧ true = true ∧ true = true ∧ true = true ∧ true = true ∧ true = true) ∧ (true = true ∧ true = true ∧ true = true ∧ true = true ∧ true = true ∧ true = true) ∧ (true = true ∧ true = true ∧ true = true ∧ true = true ∧ true = true ∧ true = true) ∧ (true = true ∧ true = true ∧ true = true ∧ true = true ∧ true = true ∧ true = true) ∧ (true = true ∧ true = true ∧ true = true ∧ true = true ∧ true = true ∧ true = true) ∧ (true = true ∧ true = true ∧ true = true ∧ true = true ∧ true = true ∧ true = true) ∧ (true = true ∧ true = true ∧ true = true ∧ true = true ∧ true = true ∧ true = true) ∧ (true = true ∧ true = true ∧ true = true ∧ true = true ∧ true = true ∧ true = true) ∧ (true = true ∧ true = true ∧ true = true ∧ true = true ∧ true = true ∧ true = true) ∧ (true = true ∧ true = true ∧ true = true ∧ true = true ∧ true = true ∧ true = true) ∧ (true = true ∧ true = true ∧ true = true ∧ true = true ∧ true = true ∧ true = true) ∧ (true = true ∧ true = true ∧ true = true ∧ true = true ∧ true = true ∧ true = true) ∧ (true = true ∧ true = true ∧ true = true ∧ true = true ∧ true = true ∧ true = true) ∧ (true = true ∧ true = true ∧ true = true ∧ true = true ∧ true = true ∧ true = true) ∧ (true = true ∧ true = true ∧ true = true ∧ true = true ∧ true = true ∧ true = true) ∧ (true = true ∧ true = true ∧ true = true ∧ true = true ∧ true = true ∧ true = true) ∧ (true = true ∧ true = true ∧ true = true ∧ true = true ∧ true = true ∧ true = true) ∧ (true = true ∧ true = true ∧ true = true ∧ true = true ∧ true = true ∧ true = true) ∧ (true = true ∧ true = true ∧ true = true ∧ true = true ∧ true = true ∧ true = true) ∧ (true = true ∧ true = true ∧ true = true ∧ true = true ∧ true = true ∧ true = true) ∧ (true = true ∧ true = true ∧ true = true ∧ true = true ∧ true = true ∧ true = true) ∧ (true = true ∧ true = true ∧ true = true ∧ true = true ∧ true = true ∧ true = true) ∧ (true = true ∧ true = true ∧ true = true ∧ true = true ∧ true = true ∧ true = true) ∧ (true = true ∧ true = true ∧ true = true ∧ true = true ∧ true = true ∧ true = true) ∧ (true = true ∧ true = true ∧ true = true ∧ true = true ∧ true = true ∧ true = true) ∧ (true = true ∧ true = true ∧ true = true ∧ true = true ∧ true = true ∧ true = true) ∧ (true = true ∧ true = true ∧ true = true ∧ true = true ∧ true = true ∧ true = true) ∧ (true = true ∧ true = true ∧ true = true ∧ true = true ∧ true = true ∧ true = true) ∧ (true = true ∧ true = true ∧ true = true ∧ true = true ∧ true = true ∧ true = true) ∧ (true = true ∧ true = true ∧ true = true ∧ true = true ∧ true = true ∧ true = true) ∧ (true = true ∧ true = true ∧ true = true ∧ true = true ∧ true = true ∧ true = true) ∧ (true = true ∧ true = true ∧ true = true ∧ true = true ∧ true = true ∧ true = true) ∧ (true = true ∧ true = true ∧ true = true ∧ true = true ∧ true = true ∧ true = true) ∧ (true = true ∧ true = true ∧ true = true ∧ true = true ∧ true = true ∧ true = true) ∧ (true = true ∧ true = true ∧ true = true ∧ true = true ∧ true = true ∧ true = true) ∧ (true = true ∧ true = true ∧ true = true ∧ true = true ∧ true = true ∧ true = true) ∧ (true = true ∧ true = true ∧ true = true ∧ true = true ∧ true = true ∧ true = true) ∧ (true = true ∧ true = true ∧ true = true ∧ true = true ∧ true = true ∧ true = true) ∧ (true = true ∧ true = true ∧ true = true ∧ true = true ∧ true = true ∧ true = true) ∧ (true = true ∧ true = true ∧ true = true ∧ true = true ∧ true = true ∧ true = true) ∧ (true = true ∧ true = true ∧ true = true ∧ true = true ∧ true = true ∧ true = true) ∧ (true = true ∧ true = true ∧ true = true ∧ true = true ∧ true = true ∧ true = true) ∧ (true = true ∧ true = true ∧ true = true ∧ true = true ∧ true = true ∧ true = true) ∧ (true = true ∧ true = true ∧ true = true ∧ true = true ∧ true = true ∧ true = true) ∧ (true = true ∧ true = true ∧ true = true ∧ true = true ∧ true = true ∧ true = true) ∧ (true = true ∧ true = true ∧ true = true ∧ true = true ∧ true = true ∧ true = true) ∧ (true = true ∧ true = true ∧ true = true ∧ true = true ∧ true = true ∧ true = true) ∧ (true = true ∧ true = true ∧ true = true ∧ true = true ∧ true = true ∧ true = true) ∧ (true = true ∧ true = true ∧ true = true ∧ true = true ∧ true = true ∧ true = true) ∧ (true = true ∧ true = true ∧ true = true ∧ true = true ∧ true = true ∧ true = true) ∧ (true = true ∧ true = true ∧ true = true ∧ true = true ∧ true = true ∧ true = true) ∧ (true = true ∧ true = true ∧ true = true ∧ true = true ∧ true = true ∧ true = true) ∧ (true = true ∧ true = true ∧ true = true ∧ true = true ∧ true = true ∧ true = true) ∧ (true = true ∧ true = true ∧ true = true ∧ true = true ∧ true = true ∧ true = true) ∧ (true = true ∧ true = true ∧ true = true ∧ true = true ∧ true = true ∧ true = true) ∧ (true = true ∧ true = true ∧ true = true ∧ true = true ∧ true = true ∧ true = true) ∧ (true = true ∧ true = true ∧ true = true ∧ true = true ∧ true = true ∧ true = true) ∧ (true = true ∧ true = true ∧ true = true ∧ true = true ∧ true = true ∧ true = true) ∧ (true = true ∧ true = true ∧ true = true ∧ true = true ∧ true = true ∧ true = true) ∧ (true = true ∧ true = true ∧ true = true ∧ true = true ∧ true = true ∧ true = true) ∧ (true = true ∧ true = true ∧ true = true ∧ true = true ∧ true = true ∧ true = true) ∧ (true = true ∧ true = true ∧ true = true ∧ true = true ∧ true = true ∧ true = true) ∧ (true = true ∧ true = true ∧ true = true ∧ true = true ∧ true = true ∧ true = true) ∧ (true = true ∧ true = true ∧ true = true ∧ true = true ∧ true = true ∧ true = true) ∧ (true = true ∧ true = true ∧ true = true ∧ true = true ∧ true = true ∧ true = true) ∧ (true = true ∧ true = true ∧ true = true ∧ true = true ∧ true = true ∧ true = true) ∧ (true = true ∧ true = true ∧ true = true ∧ true = true ∧ true = true ∧ true = true) ∧ (true = true ∧ true = true ∧ true = true ∧ true = true ∧ true = true ∧ true = true) ∧ (true = true ∧ true = true ∧ true = true ∧ true = true ∧ true = true ∧ true = true) ∧ (true = true ∧ true = true ∧ true = true ∧ true = true ∧ true = true ∧ true = true) ∧ (true = true ∧ true = true ∧ true = true ∧ true = true ∧ true = true ∧ true = true) ∧ (true = true ∧ true = true ∧ true = true ∧ true = true ∧ true = true ∧ true = true) ∧ (true = true ∧ true = true ∧ true = true ∧ true = true ∧ true = true ∧ true = true) ∧ (true = true ∧ true = true ∧ true = true ∧ true = true ∧ true = true ∧ true = true) ∧ (true = true ∧ true = true ∧ true = true ∧ true = true ∧ true = true ∧ true = true) ∧ (true = true ∧ true = true ∧ true = true ∧ true = true ∧ true = true ∧ true = true) ∧ (true = true ∧ true = true ∧ true = true ∧ true = true ∧ true = true ∧ true = true) ∧ (true = true ∧ true = true ∧ true = true ∧ true = true ∧ true = true ∧ true = true) ∧ (true = true ∧ true = true ∧ true = true ∧ true = true ∧ true = true ∧ true = true) ∧ (true = true ∧ true = true ∧ true = true ∧ true = true ∧ true = true ∧ true = true) ∧ (true = true ∧ true = true ∧ true = true ∧ true = true ∧ true = true ∧ true = true) ∧ (true = true ∧ true = true ∧ true = true ∧ true = true ∧ true = true ∧ true = true) ∧ (true = true ∧ true = true ∧ true = true ∧ true = true ∧ true = true ∧ true = true) ∧ (true = true ∧ true = true ∧ true = true ∧ true = true ∧ true = true ∧ true = true) ∧ (true = true ∧ true = true ∧ true = true ∧ true = true ∧ true = true ∧ true = true) ∧ (true = true ∧ true = true ∧ true = true ∧ true = true ∧ true = true ∧ true = true) ∧ (true = true ∧ true = true ∧ true = true ∧ true = true ∧ true = true ∧ true = true) ∧ (true = true ∧ true = true ∧ true = true ∧ true = true ∧ true = true ∧ true = true) ∧ (true = true ∧ true = true ∧ true = true ∧ true = true ∧ true = true ∧ true = true) ∧ (true = true ∧ true = true ∧ true = true ∧ true = true ∧ true = true ∧ true = true) ∧ true = true
set_option maxRecDepth 100000 in
theorem tq3V  : (callF Tryz.prog (SGa noD [conMade]) 300 111 [.str ⟨⟨sQ3⟩⟩] []).map (fun r => (r.1, r.2.2)) = some (.agg [.abs fQ3], some (tq3V_G )) := by kernel_rfl
set_option maxRecDepth 100000 in
theorem tq3V_ok  : condOk (some (tq3V_G )) := by unfold tq3V_G condOk; and_intros <;> rfl
set_option maxRecDepth 100000 in
def tq4V_G  : Prop := true = true
set_option maxRecDepth 100000 in
theorem tq4V  : (callF Tryz.prog (SGa noD [conMade]) 300 111 [.str ⟨⟨sQ4⟩⟩] []).map (fun r => (r.1, r.2.2)) = some (.agg [.abs fQ4], some (tq4V_G )) := by kernel_rfl
set_option maxRecDepth 100000 in
theorem tq4V_ok  : condOk (some (tq4V_G )) := by unfold tq4V_G condOk; and_intros <;> rfl
set_option maxRecDepth 100000 in
def tq5V_G  : Prop := (true = true ∧ true = true ∧ true = true ∧ true = true ∧ true = true ∧ true = true) ∧ (true = true ∧ true = true ∧ true = true ∧ true = true ∧ true = true ∧ true = true) ∧ (true = true ∧ true = true ∧ true = true ∧ true = true ∧ true = true ∧ true = true) ∧ (true = true ∧ true = true ∧ true = true ∧ true = true ∧ true = true ∧ true = true) ∧ (true = true ∧ true = true ∧ true = true ∧ true = true ∧ true = true ∧ true = true) ∧ (true = true ∧ true = true ∧ true = true ∧ true = true ∧ true = true ∧ true = true) ∧ (true = true ∧ true = true ∧ true = true ∧ true = true ∧ true = true ∧ true = true) ∧ (true = true ∧ true = true ∧ true = true ∧ true = true ∧ true = true ∧ true = true) ∧ (true = true ∧ true = true ∧ true = true ∧ true = true ∧ true = true ∧ true = true) ∧ (true = true ∧ true = true ∧ true = true ∧ true = true ∧ true = true ∧ true = true) ∧ (true = true ∧ true = true ∧ true = true ∧ true = true ∧ true = true ∧ true = true) ∧ (true = true ∧ true = true ∧ true = true ∧ true = true ∧ true = true ∧ true = true) ∧ (true = true ∧ true = true ∧ true = true ∧ true = true ∧ true = true ∧ true = true) ∧ (true = true ∧ true = true ∧ true = true ∧ true = true ∧ true = true ∧ true = true) ∧ (true = true ∧ true = true ∧ true = true ∧ true = true ∧ true = true ∧ true = true) ∧ (true = true ∧ true = true ∧ true = true ∧ true = true ∧ true = true ∧ true = true) ∧ (true = true ∧ true = true ∧ true = true ∧ true = true ∧ true = true ∧ true = true) ∧ (true = true ∧ true = true ∧ true = true ∧ true = true ∧ true = true ∧ true = true) ∧ (true = true ∧ true = true ∧ true = true ∧ true = true ∧ true = true ∧ true = true) ∧ (true = true ∧ true = true ∧ true = true ∧ true = true ∧ true = true ∧ true = true) ∧ (true = true ∧ true = true ∧ true = true ∧ true = true ∧ true = true ∧ true = true) ∧ (true = true ∧ true = true ∧ true = true ∧ true = true ∧ true = true ∧ true = true) ∧ (true = true ∧ true = true ∧ true = true ∧ true = true ∧ true = true ∧ true = true) ∧ (true = true ∧ true = true ∧ true = true ∧ true = true ∧ true = true ∧ true = true) ∧ (true = true ∧ true = true ∧ true = true ∧ true = true ∧ true = true ∧ true = true) ∧ (true = true ∧ true = true ∧ true = true ∧ true = true ∧ true = true ∧ true = true) ∧ (true = true ∧ true = true ∧ true = true ∧ true = true ∧ true = true ∧ true = true) ∧ (true = true ∧ true = true ∧ true = true ∧ true = true ∧ true = true ∧ true = true) ∧ (true = true ∧ true = true ∧ true = true ∧ true = true ∧ true = true ∧ true = true) ∧ (true = true ∧ true = true ∧ true = true ∧ true = true ∧ true = true ∧ true = true) ∧ (true = true ∧ true = true ∧ true = true ∧ true = true ∧ true = true ∧ true = true) ∧ (true = true ∧ true = true ∧ true = true ∧ true = true ∧ true = true ∧ true = true) ∧ (true = true ∧ true = true ∧ true = true ∧ true = true ∧ true = true ∧ true = true) ∧ (true = true ∧ true = true ∧ true = true ∧ true = true ∧ true = true ∧ true = true) ∧ (true = true ∧ true = true ∧ true = true ∧ true = true ∧ true = true ∧ true = true) ∧ (true = true ∧ true = true ∧ true = true ∧ true = true ∧ true = true ∧ true = true) ∧ (true = true ∧ true = true ∧ true = true ∧ true = true ∧ true = true ∧ true = true) ∧ (true = true ∧ true = true ∧ true = true ∧ true = true ∧ true = true ∧ true = true) ∧ (true = true ∧ true = true ∧ true = true ∧ true = true ∧ true = true ∧ true = true) ∧ (true = true ∧ true = true ∧ true = true ∧ true = true ∧ true = true ∧ true = true) ∧ (true = true ∧ true = true ∧ true = true ∧ true = true ∧ true = true ∧ true = true) ∧ (true = true ∧ true = true ∧ true = true ∧ true = true ∧ true = true ∧ true = true) ∧ (true = true ∧ true = true ∧ true = true ∧ true = true ∧ true = true ∧ true = true) ∧ (true = true ∧ true = true ∧ true = true ∧ true = true ∧ true = true ∧ true = true) ∧ (true = true ∧ true = true ∧ true = true ∧ true = true ∧ true = true ∧ true = true) ∧ (true = true ∧ true = true ∧ true = true ∧ true = true ∧ true = true ∧ true = true) ∧ (true = true ∧ true = true ∧ true = true ∧ true = true ∧ true = true ∧ true = true) ∧ (true = true ∧ true = true ∧ true = true ∧ true = true ∧ true = true ∧ true = true) ∧ (true = true ∧ true = true ∧ true = true ∧ true = true ∧ true = true ∧ true = true) ∧ (true = true ∧ true = true ∧ true = true ∧ true = true ∧ true = true ∧ true = true) ∧ (true = true ∧ true = true ∧ true = true ∧ true = true ∧ true = true ∧ true = true) ∧ (true = true ∧ true = true ∧ true = true ∧ true = true ∧ true = true ∧ true = true) ∧ (true = true ∧ true = true ∧ true = true ∧ true = true ∧ true = true ∧ true = true) ∧ (true = true ∧ true = true ∧ true = true ∧ true = true ∧ true = true ∧ true = true) ∧ (true = true ∧ true = true ∧ true = true ∧ true = true ∧ true = true ∧ true = true) ∧ (true = true ∧ true = true ∧ true = true ∧ true = true ∧ true = true ∧ true = true) ∧ (true = true ∧ true = true ∧ true = true ∧ true = true ∧ true = true ∧ true = true) ∧ (true = true ∧ true = true ∧ true = true ∧ true = true ∧ true = true ∧ true = true) ∧ (true = true ∧ true = true ∧ true = true ∧ true = true ∧ true = true ∧ true = true) ∧ (true = true ∧ true = true ∧ true = true ∧ true = true ∧ true = true ∧ true = true) ∧ (true = true ∧ true = true ∧ true = true ∧ true = true ∧ true = true ∧ true = true) ∧ (true = true ∧ true = true ∧ true = true ∧ true = true ∧ true = true ∧ true = true) ∧ (true = true ∧ true = true ∧ true = true ∧ true = true ∧ true = true ∧ true = true) ∧ (true = true ∧ true = true ∧ true = true ∧ true = true ∧ true = true ∧ true = true) ∧ (true = true ∧ true = true ∧ true = true ∧ true = true ∧ true = true ∧ true = true) ∧ (true = true ∧ true = true ∧ true = true ∧ true = true ∧ true = true ∧ true = true) ∧ (true = true ∧ true = true ∧ true = true ∧ true = true ∧ true = true ∧ true = true) ∧ (true = true ∧ true = true ∧ true = true ∧ true = true ∧ true = true ∧ true = true) ∧ (true = true ∧ true = true ∧ true = true ∧ true = true ∧ true = true ∧ true = true) ∧ (true = true ∧ true = true ∧ true = true ∧ true = true ∧ true = true ∧ true = true) ∧ (true = true ∧ true = true ∧ true = true ∧ true = true ∧ true = true ∧ true = true) ∧ (true = true ∧ true = true ∧ true = true ∧ true = true ∧ true = true ∧ true = true) ∧ (true = true ∧ true = true ∧ true = true ∧ true = true ∧ true = true ∧ true = true) ∧ (true = true ∧ true = true ∧ true = true ∧ true = true ∧ true = true ∧ true = true) ∧ (true = true ∧ true = true ∧ true = true ∧ true = true ∧ true = true ∧ true = true) ∧ (true = true ∧ true = true ∧ true = true ∧ true = true ∧ true = true ∧ true = true) ∧ (true = true ∧ true = true ∧ true = true ∧ true = true ∧ true = true ∧ true = true) ∧ (true = true ∧ true = true ∧ true = true ∧ true = true ∧ true = true ∧ true = true) ∧ (true = true ∧ true = true ∧ true = true ∧ true = true ∧ true = true ∧ true = true) ∧ (true = true ∧ true = true ∧ true = true ∧ true = true ∧ true = true ∧ true = true) ∧ (true = true ∧ true = true ∧ true = true ∧ true = true ∧ true = true ∧ true = true) ∧ (true = true ∧ true = true ∧ true = true ∧ true = true ∧ true = true ∧ true = true) ∧ (true = true ∧ true = true ∧ true = true ∧ true = true ∧ true = true ∧ true = true) ∧ (true = true ∧ true = true ∧ true = true ∧ true = true ∧ true = true ∧ true = true) ∧ (true = true ∧ true = true ∧ true = true ∧ true = true ∧ true = true ∧ true = true) ∧ (true = true ∧ true = true ∧ true = true ∧ true = true ∧ true = true ∧ true = true) ∧ (true = true ∧ true = true ∧ true = true ∧ true = true ∧ true = true ∧ true = true) ∧ (true = true ∧ true = true ∧ true = true ∧ true = true ∧ true = true ∧ true = true) ∧ (true = true ∧ true = true ∧ true = true ∧ true = true ∧ true = true ∧ true = true) ∧ (true = true ∧ true = true ∧ true = true ∧ true = true ∧ true = true ∧ true = true) ∧ (true = true ∧ true = true ∧ true = true ∧ true = true ∧ true = true ∧ true = true) ∧ (true = true ∧ true = true ∧ true = true ∧ true = true ∧ true = true ∧ true = true) ∧ (true = true ∧ true = true ∧ true = true ∧ true = true ∧ true = true ∧ true = true) ∧ (true = true ∧ true = true ∧ true = true ∧ true = true ∧ true = true ∧ true = true) ∧ (true = true ∧ true = true ∧ true = true ∧ true = true ∧ true = true ∧ true = true) ∧ (true = true ∧ true = true ∧ true = true ∧ true = true ∧ true = true ∧ true = true) ∧ true = true
set_option maxRecDepth 100000 in
theorem tq5V  : (callF Tryz.prog (SGa noD [conMade]) 300 111 [.str ⟨⟨sQ5⟩⟩] []).map (fun r => (r.1, r.2.2)) = some (.agg [.abs fQ5], some (tq5V_G )) := by kernel_rfl
set_option maxRecDepth 100000 in
theorem tq5V_ok  : condOk (some (tq5V_G )) := by unfold tq5V_G condOk; and_intros <;> rfl
set_option maxRecDepth 100000 in
def tq6V_G  : Prop := (true = true ∧ true = true ∧ true = true ∧ true = true ∧ true = true ∧ true = true) ∧ (true = true ∧ true = true ∧ true = true ∧ true = true ∧ true = true ∧ true = true) ∧ (true = true ∧ true = true ∧ true = true ∧ true = true ∧ true = true ∧ true = true) ∧ (true = true ∧ true = true ∧ true = true ∧ true = true ∧ true = true ∧ true = true) ∧ (true = true ∧ true = true ∧ true = true ∧ true = true ∧ true = true ∧ true = true) ∧ (true = true ∧ true = true ∧ true = true ∧ true = true ∧ true = true ∧ true = true) ∧ (true = true ∧ true = true ∧ true = true ∧ true = true ∧ true = true ∧ true = true) ∧ (true = true ∧ true = true ∧ true = true ∧ true = true ∧ true = true ∧ true = true) ∧ (true = true ∧ true = true ∧ true = true ∧ true = true ∧ true = true ∧ true = true) ∧ (true = true ∧ true = true ∧ true = true ∧ true = true ∧ true = true ∧ true = true) ∧ (true = true ∧ true = true ∧ true = true ∧ true = true ∧ true = true ∧ true = true) ∧ (true = true ∧ true = true ∧ true = true ∧ true = true ∧ true = true ∧ true = true) ∧ (true = true ∧ true = true ∧ true = true ∧ true = true ∧ true = true ∧ true = true) ∧ (true = true ∧ true = true ∧ true = true ∧ true = true ∧ true = true ∧ true = true) ∧ (true = true ∧ true = true ∧ true = true ∧ true = true ∧ true = true ∧ true = true) ∧ (true = true ∧ true = true ∧ true = true ∧ true = true ∧ true = true ∧ true = true) ∧ (true = true ∧ true = true ∧ true = true ∧ true = true ∧ true = true ∧ true = true) ∧ (true = true ∧ true = true ∧ true = true ∧ true = true ∧ true = true ∧ true = true) ∧ (true = true ∧ true = true ∧ true = true ∧ true = true ∧ true = true ∧ true = true) ∧ (true = true ∧ true = true ∧ true = true ∧ true = true ∧ true = true ∧ true = true) ∧ (true = true ∧ true = true ∧ true = true ∧ true = true ∧ true = true ∧ true = true) ∧ (true = true ∧ true = true ∧ true = true ∧ true = true ∧ true = true ∧ true = true) ∧ (true = true ∧ true = true ∧ true = true ∧ true = true ∧ true = true ∧ true = true) ∧ (true = true ∧ true = true ∧ true = true ∧ true = true ∧ true = true ∧ true = true) ∧ (true = true ∧ true = true ∧ true = true ∧ true = true ∧ true = true ∧ true = true) ∧ (true = true ∧ true = true ∧ true = true ∧ true = true ∧ true = true ∧ true = true) ∧ (true = true ∧ true = true ∧ true = true ∧ true = true ∧ true = true ∧ true = true) ∧ (true = true ∧ true = true ∧ true = true ∧ true = true ∧ true = true ∧ true = true) ∧ (true = true ∧ true = true ∧ true = true ∧ true = true ∧ true = true ∧ true = true) ∧ (true = true ∧ true = true ∧ true = true ∧ true = true ∧ true = true ∧ true = true) ∧ (true = true ∧ true = true ∧ true = true ∧ true = true ∧ true = true ∧ true = true) ∧ (true = true ∧ true = true ∧ true = true ∧ true = true ∧ true = true ∧ true = true) ∧ (true = true ∧ true = true ∧ true = true ∧ true = true ∧ true = true ∧ true = true) ∧ (true = true ∧ true = true ∧ true = true ∧ true = true ∧ true = true ∧ true = true) ∧ (true = true ∧ true = true ∧ true = true ∧ true = true ∧ true = true ∧ true = true) ∧ (true = true ∧ true = true ∧ true = true ∧ true = true ∧ true = true ∧ true = true) ∧ (true = true ∧ true = true ∧ true = true ∧ true = true ∧ true = true ∧ true = true) ∧ (true = true ∧ true = true ∧ true = true ∧ true = true ∧ true = true ∧ true = true) ∧ (true = true ∧ true = true ∧ true = true ∧ true = true ∧ true = true ∧ true = true) ∧ (true = true ∧ true = true ∧ true = true ∧ true = true ∧ true = true ∧ true = true) ∧ (true = true ∧ true = true ∧ true = true ∧ true = true ∧ true = true ∧ true = true) ∧ (true = true ∧ true = true ∧ true = true ∧ true = true ∧ true = true ∧ true = true) ∧ (true = true ∧ true = true ∧ true = true ∧ true = true ∧ true = true ∧ true = true) ∧ (true = true ∧ true = true ∧ true = true ∧ true = true ∧ true = true ∧ true = true) ∧ (true = true ∧ true = true ∧ true = true ∧ true = true ∧ true = true ∧ true = true) ∧ (true = true ∧ true = true ∧ true = true ∧ true = true ∧ true = true ∧ true = true) ∧ (true = true ∧ true = true ∧ true = true ∧ true = true ∧ true = true ∧ true = true) ∧ (true = true ∧ true = true ∧ true = true ∧ true = true ∧ true = true ∧ true = true) ∧ (true = true ∧ true = true ∧ true = true ∧ true = true ∧ true = true ∧ true = true) ∧ (true = true ∧ true = true ∧ true = true ∧ true = true ∧ true = true ∧ true = true) ∧ (true = true ∧ true = true ∧ true = true ∧ true = true ∧ true = true ∧ true = true) ∧ (true = true ∧ true = true ∧ true = true ∧ true = true ∧ true = true ∧ true = true) ∧ (true = true ∧ true = true ∧ true = true ∧ true = true ∧ true = true ∧ true = true) ∧ (true = true ∧ true = true ∧ true = true ∧ true = true ∧ true = true ∧ true = true) ∧ (true = true ∧ true = true ∧ true = true ∧ true = true ∧ true = true ∧ true = true) ∧ (true = true ∧ true = true ∧ true = true ∧ true = true ∧ true = true ∧ true = true) ∧ (true = true ∧ true = true ∧ true = true ∧ true = true ∧ true = true ∧ true = true) ∧ (true = true ∧ true = true ∧ true = true ∧ true = true ∧ true = true ∧ true = true) ∧ (true = true ∧ true = true ∧ true = true ∧ true = true ∧ true = true ∧ true = true) ∧ (true = true ∧ true = true ∧ true = true ∧ true = true ∧ true = true ∧ true = true) ∧ (true = true ∧ true = true ∧ true = true ∧ true = true ∧ true = true ∧ true = true) ∧ (true = true ∧ true = true ∧ true = true ∧ true = true ∧ true = true ∧ true = true) ∧ (true = true ∧ true = true ∧ true = true ∧ true = true ∧ true = true ∧ true = true) ∧ (true = true ∧ true = true ∧ true = true ∧ true = true ∧ true = true ∧ true = true) ∧ (true = true ∧ true = true ∧ true = true ∧ true = true ∧ true = true ∧ true = true) ∧ (true = true ∧ true = true ∧ true = true ∧ true = true ∧ true = true ∧ true = true) ∧ (true = true ∧ true = true ∧ true = true ∧ true = true ∧ true = true ∧ true = true) ∧ (true = true ∧ true = true ∧ true = true ∧ true = true ∧ true = true ∧ true = true) ∧ (true = true ∧ true = true ∧ true = true ∧ true = true ∧ true = true ∧ true = true) ∧ (true = true ∧ true = true ∧ true = true ∧ true = true ∧ true = true ∧ true = true) ∧ (true = true ∧ true = true ∧ true = true ∧ true = true ∧ true = true ∧ true = true) ∧ (true = true ∧ true = true ∧ true = true ∧ true = true ∧ true = true ∧ true = true) ∧ (true = true ∧ true = true ∧ true = true ∧ true = true ∧ true = true ∧ true = true) ∧ (true = true ∧ true = true ∧ true = true ∧ true = true ∧ true = true ∧ true = true) ∧ (true = true ∧ true = true ∧ true = true ∧ true = true ∧ true = true ∧ true = true) ∧ (true = true ∧ true = true ∧ true = true ∧ true = true ∧ true = true ∧ true = true) ∧ (true = true ∧ true = true ∧ true = true ∧ true = true ∧ true = true ∧ true = true) ∧ (true = true ∧ true = true ∧ true = true ∧ true = true ∧ true = true ∧ true = true) ∧ (true = true ∧ true = true ∧ true = true ∧ true = true ∧ true = true ∧ true = true) ∧ (true = true ∧ true = true ∧ true = true ∧ true = true ∧ true = true ∧ true = true) ∧ (true = true ∧ true = true ∧ true = true ∧ true = true ∧ true = true ∧ true = true) ∧ (true = true ∧ true = true ∧ true = true ∧ true = true ∧ true = true ∧ true = true) ∧ (true = true ∧ true = true ∧ true = true ∧ true = true ∧ true = true ∧ true = true) ∧ (true = true ∧ true = true ∧ true = true ∧ true = true ∧ true = true ∧ true = true) ∧ (true = true ∧ true = true ∧ true = true ∧ true = true ∧ true = true ∧ true = true) ∧ (true = true ∧ true = true ∧ true = true ∧ true = true ∧ true = true ∧ true = true) ∧ (true = true ∧ true = true ∧ true = true ∧ true = true ∧ true = true ∧ true = true) ∧ (true = true ∧ true = true ∧ true = true ∧ true = true ∧ true = true ∧ true = true) ∧ (true = true ∧ true = true ∧ true = true ∧ true = true ∧ true = true ∧ true = true) ∧ (true = true ∧ true = true ∧ true = true ∧ true = true ∧ true = true ∧ true = true) ∧ (true = true ∧ true = true ∧ true = true ∧ true = true ∧ true = true ∧ true = true) ∧ (true = true ∧ true = true ∧ true = true ∧ true = true ∧ true = true ∧ true = true) ∧ (true = true ∧ true = true ∧ true = true ∧ true = true ∧ true = true ∧ true = true) ∧ (true = true ∧ true = true ∧ true = true ∧ true = true ∧ true = true ∧ true = true) ∧ (true = true ∧ true = true ∧ true = true ∧ true = true ∧ true = true ∧ true = true) ∧ (true = true ∧ true = true ∧ true = true ∧ true = true ∧ true = true ∧ true = true) ∧ true = true
set_option maxRecDepth 100000 in
theorem tq6V  : (callF Tryz.prog (SGa noD [conMade]) 300 111 [.str ⟨⟨sQ6⟩⟩] []).map (fun r => (r.1, r.2.2)) = some (.agg [.abs fQ6], some (tq6V_G )) := by kernel_rfl
set_option maxRecDepth 100000 in
theorem tq6V_ok  : condOk (some (tq6V_G )) := by unfold tq6V_G condOk; and_intros <;> rfl
set_option maxRecDepth 100000 in
def tq7V_G  : Prop := (true = true ∧ true = true ∧ true = true ∧ true = true ∧ true = true ∧ true = true) ∧ (true = true ∧ true = true ∧ true = true ∧ true = true ∧ true = true ∧ true = true) ∧ (true = true ∧ true = true ∧ true = true ∧ true = true ∧ true = true ∧ true = true) ∧ (true = true ∧ true = true ∧ true = true ∧ true = true ∧ true = true ∧ true = true) ∧ (true = true ∧ true = true ∧ true = true ∧ true = true ∧ true = true ∧ true = true) ∧ (true = true ∧ true = true ∧ true = true ∧ true = true ∧ true = true ∧ true = true) ∧ (true = true ∧ true = true ∧ true = true ∧ true = true ∧ true = true ∧ true = true) ∧ (true = true ∧ true = true ∧ true = true ∧ true = true ∧ true = true ∧ true = true) ∧ (true = true ∧ true = true ∧ true = true ∧ true = true ∧ true = true ∧ true = true) ∧ (true = true ∧ true = true ∧ true = true ∧ true = true ∧ true = true ∧ true = true) ∧ (true = true ∧ true = true ∧ true = true ∧ true = true ∧ true = true ∧ true = true) ∧ (true = true ∧ true = true ∧ true = true ∧ true = true ∧ true = true ∧ true = true) ∧ (true = true ∧ true = true ∧ true = true ∧ true = true ∧ true = true ∧ true = true) ∧ (true = true ∧ true = true ∧ true = true ∧ true = true ∧ true = true ∧ true = true) ∧ (true = true ∧ true = true ∧ true = true ∧ true = true ∧ true = true ∧ true = true) ∧ (true = true ∧ true = true ∧ true = true ∧ true = true ∧ true = true ∧ true = true) ∧ (true = true ∧ true = true ∧ true = true ∧ true = true ∧ true = true ∧ true = true) ∧ (true = true ∧ true = true ∧ true = true ∧ true = true ∧ true = true ∧ true = true) ∧ (true = true ∧ true = true ∧ true = true ∧ true = true ∧ true = true ∧ true = true) ∧ (true = true ∧ true = true ∧ true = true ∧ true = true ∧ true = true ∧ true = true) ∧ (true = true ∧ true = true ∧ true = true ∧ true = true ∧ true = true ∧ true = true) ∧ (true = true ∧ true = true ∧ true = true ∧ true = true ∧ true = true ∧ true = true) ∧ (true = true ∧ true = true ∧ true = true ∧ true = true ∧ true = true ∧ true = true) ∧ (true = true ∧ true = true ∧ true = true ∧ true = true ∧ true = true ∧ true = true) ∧ (true = true ∧ true = true ∧ true = true ∧ true = true ∧ true = true ∧ true = true) ∧ (true = true ∧ true = true ∧ true = true ∧ true = true ∧ true = true ∧ true = true) ∧ (true = true ∧ true = true ∧ true = true ∧ true = true ∧ true = true ∧ true = true) ∧ (true = true ∧ true = true ∧ true = true ∧ true = true ∧ true = true ∧ true = true) ∧ (true = true ∧ true = true ∧ true = true ∧ true = true ∧ true = true ∧ true = true) ∧ (true = true ∧ true = true ∧ true = true ∧ true = true ∧ true = true ∧ true = true) ∧ (true = true ∧ true = true ∧ true = true ∧ true = true ∧ true = true ∧ true = true) ∧ (true = true ∧ true = true ∧ true = true ∧ true = true ∧ true = true ∧ true = true) ∧ (true = true ∧ true = true ∧ true = true ∧ true = true ∧ true = true ∧ true = true) ∧ (true = true ∧ true = true ∧ true = true ∧ true = true ∧ true = true ∧ true = true) ∧ (true = true ∧ true = true ∧ true = true ∧ true = true ∧ true = true ∧ true = true) ∧ (true = true ∧ true = true ∧ true = true ∧ true = true ∧ true = true ∧ true = true) ∧ (true = true ∧ true = true ∧ true = true ∧ true = true ∧ true = true ∧ true = true) ∧ (true = true ∧ true = true ∧ true = true ∧ true = true ∧ true = true ∧ true = true) ∧ (true = true ∧ true = true ∧ true = true ∧ true = true ∧ true = true ∧ true = true) ∧ (true = true ∧ true = true ∧ true = true ∧ true = true ∧ true = true ∧ true = true) ∧ (true = true ∧ true = true ∧ true = true ∧ true = true ∧ true = true ∧ true = true) ∧ (true = true ∧ true = true ∧ true = true ∧ true = true ∧ true = true ∧ true = true) ∧ (true = true ∧ true = true ∧ true = true ∧ true = true ∧ true = true ∧ true = true) ∧ (true = true ∧ true = true ∧ true = true ∧ true = true ∧ true = true ∧ true = true) ∧ (true = true ∧ true = true ∧ true = true ∧ true = true ∧ true = true ∧ true = true) ∧ (true = true ∧ true = true ∧ true = true ∧ true = true ∧ true = true ∧ true = true) ∧ (true = true ∧ true = true ∧ true = true ∧ true = true ∧ true = true ∧ true = true) ∧ (true = true ∧ true = true ∧ true = true ∧ true = true ∧ true = true ∧ true = true) ∧ (true = true ∧ true = true ∧ true = true ∧ true = true ∧ true = true ∧ true = true) ∧ (true = true ∧ true = true ∧ true = true ∧ true = true ∧ true = true ∧ true = true) ∧ (true = true ∧ true = true ∧ true = true ∧ true = true ∧ true = true ∧ true = true) ∧ (true = true ∧ true = true ∧ true = true ∧ true = true ∧ true = true ∧ true = true) ∧ (true = true ∧ true = true ∧ true = true ∧ true = true ∧ true = true ∧ true = true) ∧ (true = true ∧ true = true ∧ true = true ∧ true = true ∧ true = true ∧ true = true) ∧ (true = true ∧ true = true ∧ true = true ∧ true = true ∧ true = true ∧ true = true) ∧ (true = true ∧ true = true ∧ true = true ∧ true = true ∧ true = true ∧ true = true) ∧ (true = true ∧ true = true ∧ true = true ∧ true = true ∧ true = true ∧ true = true) ∧ (true = true ∧ true = true ∧ true = true ∧ true = true ∧ true = true ∧ true = true) ∧ (true = true ∧ true = true ∧ true = true ∧ true = true ∧ true = true ∧ true = true) ∧ (true = true ∧ true = true ∧ true = true ∧ true = true ∧ true = true ∧ true = true) ∧ (true = true ∧ true = true ∧ true = true ∧ true = true ∧ true = true ∧ true = true) ∧ (true = true ∧ true = true ∧ true = true ∧ true = true ∧ true = true ∧ true = true) ∧ (true = true ∧ true = true ∧ true = true ∧ true = true ∧ true = true ∧ true = true) ∧ (true = true ∧ true = true ∧ true = true ∧ true = true ∧ true = true ∧ true = true) ∧ (true = true ∧ true = true ∧ true = true ∧ true = true ∧ true = true ∧ true = true) ∧ (true = true ∧ true = true ∧ true = true ∧ true = true ∧ true = true ∧ true = true) ∧ (true = true ∧ true = true ∧ true = true ∧ true = true ∧ true = true ∧ true = true) ∧ (true = true ∧ true = true ∧ true = true ∧ true = true ∧ true = true ∧ true = true) ∧ (true = true ∧ true = true ∧ true = true ∧ true = true ∧ true = true ∧ true = true) ∧ (true = true ∧ true = true ∧ true = true ∧ true = true ∧ true = true ∧ true = true) ∧ (true = true ∧ true = true ∧ true = true ∧ true = true ∧ true = true ∧ true = true) ∧ (true = true ∧ true = true ∧ true = true ∧ true = true ∧ true = true ∧ true = true) ∧ (true = true ∧ true = true ∧ true = true ∧ true = true ∧ true = true ∧ true = true) ∧ (true = true ∧ true = true ∧ true = true ∧ true = true ∧ true = true ∧ true = true) ∧ (true = true ∧ true = true ∧ true = true ∧ true = true ∧ true = true ∧ true = true) ∧ (true = true ∧ true = true ∧ true = true ∧ true = true ∧ true = true ∧ true = true) ∧ (true = true ∧ true = true ∧ true = true ∧ true = true ∧ true = true ∧ true = true) ∧ (true = true ∧ true = true ∧ true = true ∧ true = true ∧ true = true ∧ true = true) ∧ (true = true ∧ true = true ∧ true = true ∧ true = true ∧ true = true ∧ true = true) ∧ (true = true ∧ true = true ∧ true = true ∧ true = true ∧ true = true ∧ true = true) ∧ (true = true ∧ true = true ∧ true = true ∧ true = true ∧ true = true ∧ true = true) ∧ (true = true ∧ true = true ∧ true = true ∧ true = true ∧ true = true ∧ true = true) ∧ (true = true ∧ true = true ∧ true = true ∧ true = true ∧ true = true ∧ true = true) ∧ (true = true ∧ true = true ∧ true = true ∧ true = true ∧ true = true ∧ true = true) ∧ (true = true ∧ true = true ∧ true = true ∧ true = true ∧ true = true ∧ true = true) ∧ (true = true ∧ true = true ∧ true = true ∧ true = true ∧ true = true ∧ true = true) ∧ (true = true ∧ true = true ∧ true = true ∧ true = true ∧ true = true ∧ true = true) ∧ (true = true ∧ true = true ∧ true = true ∧ true = true ∧ true = true ∧ true = true) ∧ (true = true ∧ true = true ∧ true = true ∧ true = true ∧ true = true ∧ true = true) ∧ (true = true ∧ true = true ∧ true = true ∧ true = true ∧ true = true ∧ true = true) ∧ (true = true ∧ true = true ∧ true = true ∧ true = true ∧ true = true ∧ true = true) ∧ (true = true ∧ true = true ∧ true = true ∧ true = true ∧ true = true ∧ true = true) ∧ (true = true ∧ true = true ∧ true = true ∧ true = true ∧ true = true ∧ true = true) ∧ (true = true ∧ true = true ∧ true = true ∧ true = true ∧ true = true ∧ true = true) ∧ (true = true ∧ true = true ∧ true = true ∧ true = true ∧ true = true ∧ true = true) ∧ true = true
set_option maxRecDepth 100000 in
theorem tq7V  : (callF Tryz.prog (SGa noD [conMade]) 300 111 [.str ⟨⟨sQ7⟩⟩] []).map (fun r => (r.1, r.2.2)) = some (.agg [.abs fQ7], some (tq7V_G )) := by kernel_rfl
set_option maxRecDepth 100000 in
theorem tq7V_ok  : condOk (some (tq7V_G )) := by unfold tq7V_G condOk; and_intros <;> rfl
def textQ (s : List UInt8) : Option Fe := bif eqBs s sQ0 then some fQ0 else bif eqBs s sQ1 then some fQ1 else bif eqBs s sQ2 then some fQ2 else bif eqBs s sQ3 then some fQ3 else bif eqBs s sQ4 then some fQ4 else bif eqBs s sQ5 then some fQ5 else bif eqBs s sQ6 then some fQ6 else bif eqBs s sQ7 then some fQ7 else none
def textQn : List (LV Fe) → Option (LV Fe)
  | [.str s] => match textQ s.data.toList with
    | some a => some (.agg [.abs a])
    | none => none
  | _ => none
theorem textQ_some {s : List UInt8} {a : Fe} (h : textQ s = some a) : (s = sQ0 ∧ a = fQ0) ∨ (s = sQ1 ∧ a = fQ1) ∨ (s = sQ2 ∧ a = fQ2) ∨ (s = sQ3 ∧ a = fQ3) ∨ (s = sQ4 ∧ a = fQ4) ∨ (s = sQ5 ∧ a = fQ5) ∨ (s = sQ6 ∧ a = fQ6) ∨ (s = sQ7 ∧ a = fQ7) := by
  unfold textQ at h
  cases e0 : eqBs s sQ0 with
  | true => rw [e0, cond_true] at h; cases h; exact .inl ⟨eqBs_list e0, rfl⟩
  | false =>
    rw [e0, cond_false] at h
    cases e1 : eqBs s sQ1 with
    | true => rw [e1, cond_true] at h; cases h; exact .inr (.inl ⟨eqBs_list e1, rfl⟩)
    | false =>
      rw [e1, cond_false] at h
      cases e2 : eqBs s sQ2 with
      | true => rw [e2, cond_true] at h; cases h; exact .inr (.inr (.inl ⟨eqBs_list e2, rfl⟩))
      | false =>
        rw [e2, cond_false] at h
        cases e3 : eqBs s sQ3 with
        | true => rw [e3, cond_true] at h; cases h; exact .inr (.inr (.inr (.inl ⟨eqBs_list e3, rfl⟩)))
        | false =>
          rw [e3, cond_false] at h
          cases e4 : eqBs s sQ4 with
          | true => rw [e4, cond_true] at h; cases h; exact .inr (.inr (.inr (.inr (.inl ⟨eqBs_list e4, rfl⟩))))
          | false =>
            rw [e4, cond_false] at h
            cases e5 : eqBs s sQ5 with
            | true => rw [e5, cond_true] at h; cases h; exact .inr (.inr (.inr (.inr (.inr (.inl ⟨eqBs_list e5, rfl⟩)))))
            | false =>
              rw [e5, cond_false] at h
              cases e6 : eqBs s sQ6 with
              | true => rw [e6, cond_true] at h; cases h; exact .inr (.inr (.inr (.inr (.inr (.inr (.inl ⟨eqBs_list e6, rfl⟩))))))
              | false =>
                rw [e6, cond_false] at h
                cases e7 : eqBs s sQ7 with
                | true => rw [e7, cond_true] at h; cases h; exact .inr (.inr (.inr (.inr (.inr (.inr (.inr (⟨eqBs_list e7, rfl⟩)))))))
                | false =>
                  rw [e7, cond_false] at h
                  cases h
theorem textQn_runs {vs : List (LV Fe)} {v : LV Fe} (h : textQn vs = some v) : Calls2 111 vs v := by
  unfold textQn at h
  split at h
  · rename_i s
    have es : ∀ l, s.data.toList = l → s = ⟨⟨l⟩⟩ := fun l e => by subst e; rfl
    split at h
    · rename_i a ha
      cases h
      rcases textQ_some ha with ⟨e, rfl⟩ | ⟨e, rfl⟩ | ⟨e, rfl⟩ | ⟨e, rfl⟩ | ⟨e, rfl⟩ | ⟨e, rfl⟩ | ⟨e, rfl⟩ | ⟨e, rfl⟩ <;> rw [es _ e]
      · exact .of (SGa_ok _ _) rfl tq0V tq0V_ok
      · exact .of (SGa_ok _ _) rfl tq1V tq1V_ok
      · exact .of (SGa_ok _ _) rfl tq2V tq2V_ok
      · exact .of (SGa_ok _ _) rfl tq3V tq3V_ok
      · exact .of (SGa_ok _ _) rfl tq4V tq4V_ok
      · exact .of (SGa_ok _ _) rfl tq5V tq5V_ok
      · exact .of (SGa_ok _ _) rfl tq6V tq6V_ok
      · exact .of (SGa_ok _ _) rfl tq7V tq7V_ok
    · cases h
  · cases h
noncomputable def conTextQ : ConP Tryz.prog Fe where
  f := 111
  fn := textQn
  ent := entText
  kin vs v h p := pv_kin p _ (textQn_runs h).plain
  call vs v h ρ w := (textQn_runs h).run ρ w
set_option maxRecDepth 100000 in
def t20V_G  : Prop := true = true
set_option maxRecDepth 100000 in
theorem t20V  : (callF Tryz.prog (SGa noD [conTextQ]) 60 61 [.str ⟨⟨sQ0⟩⟩, .str ⟨⟨sQ1⟩⟩] []).map (fun r => (r.1, r.2.2)) = some (eV (fQ0, fQ1), some (t20V_G )) := by kernel_rfl
set_option maxRecDepth 100000 in
theorem t20V_ok  : condOk (some (t20V_G )) := by unfold t20V_G condOk; and_intros <;> rfl
set_option maxRecDepth 100000 in
def t21V_G  : Prop := true = true
set_option maxRecDepth 100000 in
theorem t21V  : (callF Tryz.prog (SGa noD [conTextQ]) 60 61 [.str ⟨⟨sQ2⟩⟩, .str ⟨⟨sQ3⟩⟩] []).map (fun r => (r.1, r.2.2)) = some (eV (fQ2, fQ3), some (t21V_G )) := by kernel_rfl
set_option maxRecDepth 100000 in
theorem t21V_ok  : condOk (some (t21V_G )) := by unfold t21V_G condOk; and_intros <;> rfl
set_option maxRecDepth 100000 in
def t22V_G  : Prop := true = true
set_option maxRecDepth 100000 in
theorem t22V  : (callF Tryz.prog (SGa noD [conTextQ]) 60 61 [.str ⟨⟨sQ4⟩⟩, .str ⟨⟨sQ5⟩⟩] []).map (fun r => (r.1, r.2.2)) = some (eV (fQ4, fQ5), some (t22V_G )) := by kernel_rfl
set_option maxRecDepth 100000 in
theorem t22V_ok  : condOk (some (t22V_G )) := by unfold t22V_G condOk; and_intros <;> rfl
set_option maxRecDepth 100000 in
def t23V_G  : Prop := true = true
set_option maxRecDepth 100000 in
theorem t23V  : (callF Tryz.prog (SGa noD [conTextQ]) 60 61 [.str ⟨⟨sQ6⟩⟩, .str ⟨⟨sQ7⟩⟩] []).map (fun r => (r.1, r.2.2)) = some (eV (fQ6, fQ7), some (t23V_G )) := by kernel_rfl
set_option maxRecDepth 100000 in
theorem t23V_ok  : condOk (some (t23V_G )) := by unfold t23V_G condOk; and_intros <;> rfl
set_option maxRecDepth 100000 in
theorem entQText : ∀ args w, (callFunc 61 args).run Tryz.prog w = .ok (.enter 61 args) w := ent_of (f := 61) (P := Tryz.prog) rfl rfl rfl
set_option maxRecDepth 100000 in
theorem entQOne : ∀ args w, (callFunc 86 args).run Tryz.prog w = .ok (.enter 86 args) w := ent_of (f := 86) (P := Tryz.prog) rfl rfl rfl
set_option maxRecDepth 100000 in
theorem entQGOne : ∀ args w, (callFunc 53 args).run Tryz.prog w = .ok (.enter 53 args) w := ent_of (f := 53) (P := Tryz.prog) rfl rfl rfl
set_option maxRecDepth 100000 in
theorem entQSide : ∀ args w, (callFunc 52 args).run Tryz.prog w = .ok (.enter 52 args) w := ent_of (f := 52) (P := Tryz.prog) rfl rfl rfl
set_option maxRecDepth 100000 in
def qonV_G  : Prop := true = true
set_option maxRecDepth 100000 in
theorem qonV  : (callF Tryz.prog (SGa noD [conOf]) 60 86 [] []).map (fun r => (r.1, r.2.2)) = some (.agg [.abs fOne, .int .u64 0, .int .u64 0, .int .u64 0, .int .u64 0, .int .u64 0, .int .u64 0], some (qonV_G )) := by kernel_rfl
set_option maxRecDepth 100000 in
theorem qonV_ok  : condOk (some (qonV_G )) := by unfold qonV_G condOk; and_intros <;> rfl
theorem qon_runs : Runs 86 [] (eV (fOne, zE)) := (Runs.of (SGa_ok _ _) rfl qonV qonV_ok rfl rfl).as rfl (pad0_tr _)
noncomputable def conQOne : ConP Tryz.prog Fe := mk0 86 entQOne (eV (fOne, zE)) qon_runs
set_option maxRecDepth 100000 in
def qgoV_G  : Prop := true = true
set_option maxRecDepth 100000 in
theorem qgoV  : (callF Tryz.prog (SGa noD [conQOne]) 60 53 [] []).map (fun r => (r.1, r.2.2)) = some (eV (fOne, zE), some (qgoV_G )) := by kernel_rfl
set_option maxRecDepth 100000 in
theorem qgoV_ok  : condOk (some (qgoV_G )) := by unfold qgoV_G condOk; and_intros <;> rfl
theorem qgo_runs : Runs 53 [] (eV (fOne, zE)) := .of (SGa_ok _ _) rfl qgoV qgoV_ok rfl rfl
def sideQ (x : E2) : E2 := eadd (emulN (qsq x) x) (qsc (qxi (fOne, zE)) four)
set_option maxRecDepth 100000 in
def qsdV_G (a b : Fe) : Prop := true = true
set_option maxRecDepth 100000 in
theorem qsdV (a b : Fe) : (callF Tryz.prog (SGa noD [conOf, conQOne, conQSq, conQMul, conQAdd, conQXi, conQSc]) 60 52 [bF [a, b]] []).map (fun r => (r.1, r.2.2)) = some (eV (sideQ (a, b)), some (qsdV_G a b)) := by kernel_rfl
set_option maxRecDepth 100000 in
theorem qsdV_ok (a b : Fe) : condOk (some (qsdV_G a b)) := by unfold qsdV_G condOk; and_intros <;> rfl
theorem qsd_runs (a b : Fe) : Runs 52 [bF [a, b]] (eV (sideQ (a, b))) := .of (SGa_ok _ _) rfl (qsdV a b) (qsdV_ok a b) rfl rfl
end Go.Proofs.YtonmjdnkcngfjaaGreat.En

/- DERIVED. The first group's points as contracts. -/
set_option linter.all false
namespace Go.Proofs.YtonmjdnkcngfjaaGreat.En
open Go Go.RowKit

/-- Told beside the tests: which functions aren't walked in place, which regions' loads read what the region doesn't write. -/
def advP (d : FuncId → Nat → Nat → Option Bool) (ils : List FuncId) (pls : List (FuncId × Nat)) : Adv :=
  { advF d with il := fun f => !memK ils f, pl := fun f r => pls.any fun x => Nat.beq x.1 f && Nat.beq x.2 r }
noncomputable abbrev psH : List (ConP Tryz.prog Fe) := [conInv, conCXY, conMade, conSqC, conNumber, conOf, conText]
noncomputable abbrev SGb (d : FuncId → Nat → Nat → Option Bool) (ps : List (ConP Tryz.prog Fe)) : Sig Fe := SGa d (psH ++ ps)
def sideF (x : Fe) : Fe := fadd (fmul (fmul x x) x) four
noncomputable def conSide : ConP Tryz.prog Fe := conFSquare
noncomputable def conGOne : ConP Tryz.prog Fe := conFSquare
/-! ## a point of its numbers -/
def affT (x y : Fe) : Bool := feq (fmul y y) (sideF x)
def affF (x y : Fe) : Pt := bif affT x y then (x, y, fOne) else zPt
noncomputable def conAff : ConP Tryz.prog Fe := conFSquare
/-! ## its numbers -/
def gxyX (p : Pt) : Fe := bif isz p.2.2 then zE else xyX p
def gxyY (p : Pt) : Fe := bif isz p.2.2 then zE else xyY p
abbrev z6V : LV Fe := .agg [.int .u64 0, .int .u64 0, .int .u64 0, .int .u64 0, .int .u64 0, .int .u64 0]
theorem z6_tr (ρ : Key → Loc) : LV.tr ρ z6V = LV.tr ρ (.agg [.abs zE] : LV Fe) := by kernel_rfl
noncomputable def conGXY : ConP Tryz.prog Fe := conFSquare
/-! ## the generator; times u -/
def genF : Pt := affF fGx fGy
noncomputable def conGen : ConP Tryz.prog Fe := conFSquare
def uBytes (j : Nat) : Int := ([210, 1, 0, 0, 0, 1, 0, 0] : List Int).getD j 0
/-- u times; the kernel doesn't open it. -/
noncomputable def mlu (a b c : Fe) : Pt := Classical.choose (p := fun q => q = mulF (a, b, c) 8 uBytes) ⟨_, rfl⟩
theorem mlu_eq (a b c : Fe) : mlu a b c = mulF (a, b, c) 8 uBytes := Classical.choose_spec (p := fun q => q = mulF (a, b, c) 8 uBytes) ⟨_, rfl⟩
end Go.Proofs.YtonmjdnkcngfjaaGreat.En

/- DERIVED. The first group's points as contracts. -/
set_option linter.all false
namespace Go.Proofs.YtonmjdnkcngfjaaGreat.En2
open Go Go.RowKit Go.Proofs.YtonmjdnkcngfjaaGreat.En Go.Proofs.YtonmjdnkcngfjaaGreat.Alg

noncomputable abbrev psH : List (ConP Tryz.prog Fe) := [conInv, conCXY]
noncomputable abbrev SGb (d : FuncId → Nat → Nat → Option Bool) (ps : List (ConP Tryz.prog Fe)) : Sig Fe := SGa d (psH ++ ps)
noncomputable abbrev SGm (A : Adv) (ps : List (ConP Tryz.prog Fe)) : Sig Fe := sigOf (P := Tryz.prog) ([conFAdd, conFSub, conFMul, conFSquare, conFNeg, conFIsZero, conFEqual, conTwice] ++ (psG ++ (psH ++ ps))) [] [conCMul] (I := noIF) [] msF A
theorem SGm_ok (A : Adv) (ps : List (ConP Tryz.prog Fe)) : SigOk Tryz.prog (SGm A ps) := sigOf_ok _ [] [conCMul] [] msF_ok _ noIF_ok
def four : Fe := (En.four, En.four)
def fOne : Fe := (En.fOne, En.zE)
def sideF (x : Fe) : Fe := fadd (fmul (fmul x x) x) four
theorem q_f1 {K : Type} [CR K] (o u t : K) (h : o = 1) (k : u = 0) : (o - u) * t = t := eq_of_sub (zero_of_rel (fun zz => [o, u, t].getD zz 0) 3 (((Alg.E.v 0 - Alg.E.v 1) * Alg.E.v 2) - Alg.E.v 2) [(Alg.E.v 2, Alg.E.v 0 - Alg.E.c 1), ((Alg.E.c 0 - Alg.E.v 2), Alg.E.v 1 - Alg.E.c 0)] (all_cons (sub_of_eq h) (all_cons (sub_of_eq k) all_nil)) (by decide +kernel))
theorem q_f2 {K : Type} [CR K] (o u t : K) (h : o = 1) (k : u = 0) : (o + u) * t = t := eq_of_sub (zero_of_rel (fun zz => [o, u, t].getD zz 0) 3 (((Alg.E.v 0 + Alg.E.v 1) * Alg.E.v 2) - Alg.E.v 2) [(Alg.E.v 2, Alg.E.v 0 - Alg.E.c 1), (Alg.E.v 2, Alg.E.v 1 - Alg.E.c 0)] (all_cons (sub_of_eq h) (all_cons (sub_of_eq k) all_nil)) (by decide +kernel))
theorem emulN_cg {u v : Fe} (x : Fe) (h1 : za u.1 = za v.1) (h2 : za u.2 = za v.2) : za (emulN u x).1 = za (emulN v x).1 ∧ za (emulN u x).2 = za (emulN v x).2 := by
  constructor
  · show za (En.fsub (En.fmul u.1 x.1) (En.fmul u.2 x.2)) = za (En.fsub (En.fmul v.1 x.1) (En.fmul v.2 x.2))
    simp only [za_mul, za_sub, h1, h2]
  · show za (En.fsub (En.fsub (En.fmul (En.fadd u.1 u.2) (En.fadd x.1 x.2)) (En.fmul u.1 x.1)) (En.fmul u.2 x.2)) = za (En.fsub (En.fsub (En.fmul (En.fadd v.1 v.2) (En.fadd x.1 x.2)) (En.fmul v.1 x.1)) (En.fmul v.2 x.2))
    simp only [za_mul, za_sub, za_add, h1, h2]
theorem side_cg (x : Fe) : za (sideQ x).1 = za (sideF x).1 ∧ za (sideQ x).2 = za (sideF x).2 := by
  obtain ⟨e1, e2⟩ := emulN_cg x (qsq_1 x) (qsq_2 x)
  constructor
  · show za (En.fadd (emulN (qsq x) x).1 (En.fmul (En.fsub En.fOne En.zE) En.four)) = za (En.fadd (emulN (fmul x x) x).1 En.four)
    rw [za_add, za_add, e1, za_mul, za_sub, q_f1 _ _ _ za_one za_zE]
  · show za (En.fadd (emulN (qsq x) x).2 (En.fmul (En.fadd En.fOne En.zE) En.four)) = za (En.fadd (emulN (fmul x x) x).2 En.four)
    rw [za_add, za_add, e2, za_mul, za_add, q_f2 _ _ _ za_one za_zE]
noncomputable def conSide : ConP Tryz.prog Fe := mkP 52 entQSide [1] (fun x => .agg [.abs (sideF x)]) fun x => .up (qsd_runs x.1 x.2) rfl (fun _ => rfl) (fun ρ => za_tr (side_cg x).1 (side_cg x).2 ρ)
noncomputable def conGOne : ConP Tryz.prog Fe := mk0 53 entQGOne (.agg [.abs fOne]) (.up qgo_runs rfl (fun _ => rfl) (fun _ => rfl))
noncomputable def conQ1 : ConP Tryz.prog Fe := mk0 86 entQOne (.agg [.abs fOne]) (.up qon_runs rfl (fun _ => rfl) (fun _ => rfl))
/-! ## a point of its numbers -/
def affT (x y : Fe) : Bool := feq (fmul y y) (sideF x)
def affF (x y : Fe) : Pt := bif affT x y then (x, y, fOne) else zPt
set_option maxRecDepth 100000 in
theorem entAff : ∀ args w, (callFunc 13 args).run Tryz.prog w = .ok (.enter 13 args) w := ent_of (f := 13) (P := Tryz.prog) rfl rfl rfl
set_option maxRecDepth 100000 in
def af1V_G (a b : Fe) : Prop := feq (fmul b b) (sideF a) = true ∧ true = true
set_option maxRecDepth 100000 in
theorem af1V (a b : Fe) : (callF Tryz.prog (SGb (dci 13 [(1, 4, true)]) [conSide, conGOne]) 60 13 [bF [a], bF [b]] []).map (fun r => (r.1, r.2.2)) = some (.tup [ptV (a, b, fOne), .bool true], some (af1V_G a b)) := by kernel_rfl
set_option maxRecDepth 100000 in
def af2V_G (a b : Fe) : Prop := feq (fmul b b) (sideF a) = false ∧ true = true
set_option maxRecDepth 100000 in
theorem af2V (a b : Fe) : (callF Tryz.prog (SGb (dci 13 [(1, 4, false)]) [conSide, conGOne]) 60 13 [bF [a], bF [b]] []).map (fun r => (r.1, r.2.2)) = some (.tup [.agg zB, .bool false], some (af2V_G a b)) := by kernel_rfl
theorem aff_runs (a b : Fe) : Runs 13 [bF [a], bF [b]] (.tup [ptV (affF a b), .bool (affT a b)]) := by
  cases h : affT a b with
  | true =>
    rw [show affF a b = (a, b, fOne) by unfold affF; rw [h]; rfl]
    unfold affT at h
    exact .of (SGa_ok _ _) rfl (af1V a b) (by unfold condOk af1V_G; and_intros <;> first | with_reducible rfl | assumption) rfl rfl
  | false =>
    rw [show affF a b = zPt by unfold affF; rw [h]; rfl]
    unfold affT at h
    refine (Runs.of (SGa_ok _ _) rfl (af2V a b) (by unfold condOk af2V_G; and_intros <;> first | with_reducible rfl | assumption) rfl rfl).as rfl fun ρ => ?_
    exact congrArg (fun v : Value => Value.tuple #[v, .bool false]) (zPt_tr ρ)
noncomputable def conAff : ConP Tryz.prog Fe := mkP 13 entAff [1, 1] (fun a b => .tup [ptV (affF a b), .bool (affT a b)]) aff_runs
/-! ## its numbers -/
def gxyX (p : Pt) : Fe := bif isz p.2.2 then zE else xyX p
def gxyY (p : Pt) : Fe := bif isz p.2.2 then zE else xyY p
set_option maxRecDepth 100000 in
theorem entGXY : ∀ args w, (callFunc 17 args).run Tryz.prog w = .ok (.enter 17 args) w := ent_of (f := 17) (P := Tryz.prog) rfl rfl rfl
abbrev z6V : LV Fe := .agg [.int .u64 0, .int .u64 0, .int .u64 0, .int .u64 0, .int .u64 0, .int .u64 0, .int .u64 0, .int .u64 0, .int .u64 0, .int .u64 0, .int .u64 0, .int .u64 0]
theorem z6_tr (ρ : Key → En.Loc) : LV.tr ρ z6V = LV.tr ρ (.agg [.abs zE] : LV Fe) := by kernel_rfl
set_option maxRecDepth 100000 in
def gx1V_G (a b c : Fe) : Prop := isz c = true ∧ true = true ∧ true = true
set_option maxRecDepth 100000 in
theorem gx1V (a b c : Fe) : (callF Tryz.prog (SGb (dci 17 [(1, 1, true)]) []) 60 17 [bF [a, b, c]] []).map (fun r => (r.1, r.2.2)) = some (.tup [z6V, z6V, .bool false], some (gx1V_G a b c)) := by kernel_rfl
set_option maxRecDepth 100000 in
def gx2V_G (a b c : Fe) : Prop := isz c = false ∧ (true = true ∧ true = true) ∧ true = true ∧ true = true
set_option maxRecDepth 100000 in
theorem gx2V (a b c : Fe) : (callF Tryz.prog (SGm (advP (dci 17 [(1, 1, false)]) [62] [(17, 4)]) []) 60 17 [bF [a, b, c]] []).map (fun r => (r.1, r.2.2)) = some (.tup [.agg [.abs (xyX (a, b, c))], .agg [.abs (xyY (a, b, c))], .bool true], some (gx2V_G a b c)) := by kernel_rfl
theorem gxy_runs (a b c : Fe) : Runs 17 [bF [a, b, c]] (.tup [.agg [.abs (gxyX (a, b, c))], .agg [.abs (gxyY (a, b, c))], .bool (!isz c)]) := by
  cases h : isz c with
  | true =>
    rw [show gxyX (a, b, c) = zE by unfold gxyX; rw [h]; rfl, show gxyY (a, b, c) = zE by unfold gxyY; rw [h]; rfl]
    refine (Runs.of (SGa_ok _ _) rfl (gx1V a b c) (by unfold condOk gx1V_G; and_intros <;> first | with_reducible rfl | assumption) rfl rfl).as rfl fun ρ => ?_
    show Value.tuple #[LV.tr ρ z6V, LV.tr ρ z6V, .bool false] = Value.tuple #[LV.tr ρ (.agg [.abs zE] : LV Fe), LV.tr ρ (.agg [.abs zE] : LV Fe), .bool false]
    rw [z6_tr]
  | false =>
    rw [show gxyX (a, b, c) = xyX (a, b, c) by unfold gxyX; rw [h]; rfl, show gxyY (a, b, c) = xyY (a, b, c) by unfold gxyY; rw [h]; rfl]
    exact .of (SGm_ok _ _) rfl (gx2V a b c) (by unfold condOk gx2V_G; and_intros <;> first | with_reducible rfl | assumption) rfl rfl
noncomputable def conGXY : ConP Tryz.prog Fe := mkP 17 entGXY [3] (fun a b c => .tup [.agg [.abs (gxyX (a, b, c))], .agg [.abs (gxyY (a, b, c))], .bool (!isz c)]) gxy_runs
/-! ## the generator; times u -/
set_option maxRecDepth 100000 in
theorem entGen : ∀ args w, (callFunc 20 args).run Tryz.prog w = .ok (.enter 20 args) w := ent_of (f := 20) (P := Tryz.prog) rfl rfl rfl
def fGx : Fe := (fQ0, fQ1)
def fGy : Fe := (fQ2, fQ3)
def fPsx : Fe := (fQ4, fQ5)
def fPsy : Fe := (fQ6, fQ7)
def text2 (s t : List UInt8) : Option Fe := bif eqBs s sQ0 && eqBs t sQ1 then some fGx else bif eqBs s sQ2 && eqBs t sQ3 then some fGy else bif eqBs s sQ4 && eqBs t sQ5 then some fPsx else bif eqBs s sQ6 && eqBs t sQ7 then some fPsy else none
theorem eqBs2 {s t a b : List UInt8} (h : (eqBs s a && eqBs t b) = true) : s = a ∧ t = b := by
  rw [Bool.and_eq_true] at h
  exact ⟨eqBs_list h.1, eqBs_list h.2⟩
theorem text2_some {s t : List UInt8} {a : Fe} (h : text2 s t = some a) : (s = sQ0 ∧ t = sQ1) ∧ a = fGx ∨ (s = sQ2 ∧ t = sQ3) ∧ a = fGy ∨ (s = sQ4 ∧ t = sQ5) ∧ a = fPsx ∨ (s = sQ6 ∧ t = sQ7) ∧ a = fPsy := by
  unfold text2 at h
  cases e0 : eqBs s sQ0 && eqBs t sQ1 with
  | true => rw [e0, cond_true] at h; cases h; exact .inl ⟨eqBs2 e0, rfl⟩
  | false =>
    rw [e0, cond_false] at h
    cases e1 : eqBs s sQ2 && eqBs t sQ3 with
    | true => rw [e1, cond_true] at h; cases h; exact .inr (.inl ⟨eqBs2 e1, rfl⟩)
    | false =>
      rw [e1, cond_false] at h
      cases e2 : eqBs s sQ4 && eqBs t sQ5 with
      | true => rw [e2, cond_true] at h; cases h; exact .inr (.inr (.inl ⟨eqBs2 e2, rfl⟩))
      | false =>
        rw [e2, cond_false] at h
        cases e3 : eqBs s sQ6 && eqBs t sQ7 with
        | true => rw [e3, cond_true] at h; cases h; exact .inr (.inr (.inr ⟨eqBs2 e3, rfl⟩))
        | false => rw [e3, cond_false] at h; cases h
def text2Fn : List (LV Fe) → Option (LV Fe)
  | [.str s, .str t] => match text2 s.data.toList t.data.toList with
    | some a => some (.agg [.abs a])
    | none => none
  | _ => none
theorem text2Fn_runs {vs : List (LV Fe)} {v : LV Fe} (h : text2Fn vs = some v) : plainB v = true ∧ ∀ (ρ : Key → En.Loc) (w : World), Calls Tryz.prog 61 (trs ρ vs).toArray w fun e w' => e = .returned (LV.tr ρ v) ∧ Below w.heap.size w w' := by
  unfold text2Fn at h
  split at h
  · rename_i s t
    have es : ∀ (s : ByteArray) l, s.data.toList = l → s = ⟨⟨l⟩⟩ := fun s l e => by subst e; rfl
    split at h
    · rename_i a ha
      cases h
      refine ⟨rfl, fun ρ w => ?_⟩
      rcases text2_some ha with ⟨⟨e, k⟩, rfl⟩ | ⟨⟨e, k⟩, rfl⟩ | ⟨⟨e, k⟩, rfl⟩ | ⟨⟨e, k⟩, rfl⟩ <;> rw [es _ _ e, es _ _ k]
      · exact En.plain_callF (En.SGa_ok _ _) rfl t20V t20V_ok (fun _ _ => rfl) ⟨trivial, trivial, trivial⟩ (fun _ _ => rfl) ρ w
      · exact En.plain_callF (En.SGa_ok _ _) rfl t21V t21V_ok (fun _ _ => rfl) ⟨trivial, trivial, trivial⟩ (fun _ _ => rfl) ρ w
      · exact En.plain_callF (En.SGa_ok _ _) rfl t22V t22V_ok (fun _ _ => rfl) ⟨trivial, trivial, trivial⟩ (fun _ _ => rfl) ρ w
      · exact En.plain_callF (En.SGa_ok _ _) rfl t23V t23V_ok (fun _ _ => rfl) ⟨trivial, trivial, trivial⟩ (fun _ _ => rfl) ρ w
    · cases h
  · cases h
noncomputable def conText : ConP Tryz.prog Fe where
  f := 61
  fn := text2Fn
  ent := entQText
  kin vs v h p := pv_kin p _ (text2Fn_runs h).1
  call vs v h ρ w := (text2Fn_runs h).2 ρ w
set_option maxRecDepth 100000 in
def genV_G  : Prop := true = true ∧ true = true
set_option maxRecDepth 100000 in
theorem genV  : (callF Tryz.prog (SGb noD [conAff, conText]) 60 20 [] []).map (fun r => (r.1, r.2.2)) = some (ptV (affF fGx fGy), some (genV_G )) := by kernel_rfl
set_option maxRecDepth 100000 in
theorem genV_ok  : condOk (some (genV_G )) := by unfold genV_G condOk; and_intros <;> rfl
def genF : Pt := affF fGx fGy
noncomputable def conGen : ConP Tryz.prog Fe := mk0 20 entGen (ptV genF) (.of (SGa_ok _ _) rfl genV genV_ok rfl rfl)
def uBytes (j : Nat) : Int := ([210, 1, 0, 0, 0, 1, 0, 0] : List Int).getD j 0
/-- u times; the kernel doesn't open it. -/
noncomputable def mlu (a b c : Fe) : Pt := Classical.choose (p := fun q => q = mulF (a, b, c) 8 uBytes) ⟨_, rfl⟩
theorem mlu_eq (a b c : Fe) : mlu a b c = mulF (a, b, c) 8 uBytes := Classical.choose_spec (p := fun q => q = mulF (a, b, c) 8 uBytes) ⟨_, rfl⟩
set_option maxRecDepth 100000 in
def mluV_G (a b c : Fe) : Prop := (Bys.c { us := [LV.rows 8 1 fun (j : Nat) => [LV.int (A := Fe) IntKind.u8 (En.byteOf (A := Fe) (List.getD (List.set (List.set (List.set (List.set (List.set (List.set (List.set (List.set (List.replicate 8 (units (A := Fe) (LV.int IntKind.u8 ((0 : Int))))) 0 (units (A := Fe) (LV.int IntKind.u8 ((210 : Int))))) 1 (units (A := Fe) (LV.int IntKind.u8 ((1 : Int))))) 2 (units (A := Fe) (LV.int IntKind.u8 ((0 : Int))))) 3 (units (A := Fe) (LV.int IntKind.u8 ((0 : Int))))) 4 (units (A := Fe) (LV.int IntKind.u8 ((0 : Int))))) 5 (units (A := Fe) (LV.int IntKind.u8 ((1 : Int))))) 6 (units (A := Fe) (LV.int IntKind.u8 ((0 : Int))))) 7 (units (A := Fe) (LV.int IntKind.u8 ((0 : Int))))) j []))]], n := 8, f := fun (j : Nat) => En.byteOf (A := Fe) (List.getD (List.set (List.set (List.set (List.set (List.set (List.set (List.set (List.set (List.replicate 8 (units (A := Fe) (LV.int IntKind.u8 ((0 : Int))))) 0 (units (A := Fe) (LV.int IntKind.u8 ((210 : Int))))) 1 (units (A := Fe) (LV.int IntKind.u8 ((1 : Int))))) 2 (units (A := Fe) (LV.int IntKind.u8 ((0 : Int))))) 3 (units (A := Fe) (LV.int IntKind.u8 ((0 : Int))))) 4 (units (A := Fe) (LV.int IntKind.u8 ((0 : Int))))) 5 (units (A := Fe) (LV.int IntKind.u8 ((1 : Int))))) 6 (units (A := Fe) (LV.int IntKind.u8 ((0 : Int))))) 7 (units (A := Fe) (LV.int IntKind.u8 ((0 : Int))))) j []), c := ∀ (j : Nat), j < 8 → Like (A := Fe) (List.getD (List.set (List.set (List.set (List.set (List.set (List.set (List.set (List.set (List.replicate 8 (units (A := Fe) (LV.int IntKind.u8 ((0 : Int))))) 0 (units (A := Fe) (LV.int IntKind.u8 ((210 : Int))))) 1 (units (A := Fe) (LV.int IntKind.u8 ((1 : Int))))) 2 (units (A := Fe) (LV.int IntKind.u8 ((0 : Int))))) 3 (units (A := Fe) (LV.int IntKind.u8 ((0 : Int))))) 4 (units (A := Fe) (LV.int IntKind.u8 ((0 : Int))))) 5 (units (A := Fe) (LV.int IntKind.u8 ((1 : Int))))) 6 (units (A := Fe) (LV.int IntKind.u8 ((0 : Int))))) 7 (units (A := Fe) (LV.int IntKind.u8 ((0 : Int))))) j []) [LV.int IntKind.u8 (En.byteOf (A := Fe) (List.getD (List.set (List.set (List.set (List.set (List.set (List.set (List.set (List.set (List.replicate 8 (units (A := Fe) (LV.int IntKind.u8 ((0 : Int))))) 0 (units (A := Fe) (LV.int IntKind.u8 ((210 : Int))))) 1 (units (A := Fe) (LV.int IntKind.u8 ((1 : Int))))) 2 (units (A := Fe) (LV.int IntKind.u8 ((0 : Int))))) 3 (units (A := Fe) (LV.int IntKind.u8 ((0 : Int))))) 4 (units (A := Fe) (LV.int IntKind.u8 ((0 : Int))))) 5 (units (A := Fe) (LV.int IntKind.u8 ((1 : Int))))) 6 (units (A := Fe) (LV.int IntKind.u8 ((0 : Int))))) 7 (units (A := Fe) (LV.int IntKind.u8 ((0 : Int))))) j []))] } ∧ 8 = 8 ∧ rngB (Bys.f { us := [LV.rows 8 1 fun (j : Nat) => [LV.int (A := Fe) IntKind.u8 (En.byteOf (A := Fe) (List.getD (List.set (List.set (List.set (List.set (List.set (List.set (List.set (List.set (List.replicate 8 (units (A := Fe) (LV.int IntKind.u8 ((0 : Int))))) 0 (units (A := Fe) (LV.int IntKind.u8 ((210 : Int))))) 1 (units (A := Fe) (LV.int IntKind.u8 ((1 : Int))))) 2 (units (A := Fe) (LV.int IntKind.u8 ((0 : Int))))) 3 (units (A := Fe) (LV.int IntKind.u8 ((0 : Int))))) 4 (units (A := Fe) (LV.int IntKind.u8 ((0 : Int))))) 5 (units (A := Fe) (LV.int IntKind.u8 ((1 : Int))))) 6 (units (A := Fe) (LV.int IntKind.u8 ((0 : Int))))) 7 (units (A := Fe) (LV.int IntKind.u8 ((0 : Int))))) j []))]], n := 8, f := fun (j : Nat) => En.byteOf (A := Fe) (List.getD (List.set (List.set (List.set (List.set (List.set (List.set (List.set (List.set (List.replicate 8 (units (A := Fe) (LV.int IntKind.u8 ((0 : Int))))) 0 (units (A := Fe) (LV.int IntKind.u8 ((210 : Int))))) 1 (units (A := Fe) (LV.int IntKind.u8 ((1 : Int))))) 2 (units (A := Fe) (LV.int IntKind.u8 ((0 : Int))))) 3 (units (A := Fe) (LV.int IntKind.u8 ((0 : Int))))) 4 (units (A := Fe) (LV.int IntKind.u8 ((0 : Int))))) 5 (units (A := Fe) (LV.int IntKind.u8 ((1 : Int))))) 6 (units (A := Fe) (LV.int IntKind.u8 ((0 : Int))))) 7 (units (A := Fe) (LV.int IntKind.u8 ((0 : Int))))) j []), c := ∀ (j : Nat), j < 8 → Like (A := Fe) (List.getD (List.set (List.set (List.set (List.set (List.set (List.set (List.set (List.set (List.replicate 8 (units (A := Fe) (LV.int IntKind.u8 ((0 : Int))))) 0 (units (A := Fe) (LV.int IntKind.u8 ((210 : Int))))) 1 (units (A := Fe) (LV.int IntKind.u8 ((1 : Int))))) 2 (units (A := Fe) (LV.int IntKind.u8 ((0 : Int))))) 3 (units (A := Fe) (LV.int IntKind.u8 ((0 : Int))))) 4 (units (A := Fe) (LV.int IntKind.u8 ((0 : Int))))) 5 (units (A := Fe) (LV.int IntKind.u8 ((1 : Int))))) 6 (units (A := Fe) (LV.int IntKind.u8 ((0 : Int))))) 7 (units (A := Fe) (LV.int IntKind.u8 ((0 : Int))))) j []) [LV.int IntKind.u8 (En.byteOf (A := Fe) (List.getD (List.set (List.set (List.set (List.set (List.set (List.set (List.set (List.set (List.replicate 8 (units (A := Fe) (LV.int IntKind.u8 ((0 : Int))))) 0 (units (A := Fe) (LV.int IntKind.u8 ((210 : Int))))) 1 (units (A := Fe) (LV.int IntKind.u8 ((1 : Int))))) 2 (units (A := Fe) (LV.int IntKind.u8 ((0 : Int))))) 3 (units (A := Fe) (LV.int IntKind.u8 ((0 : Int))))) 4 (units (A := Fe) (LV.int IntKind.u8 ((0 : Int))))) 5 (units (A := Fe) (LV.int IntKind.u8 ((1 : Int))))) 6 (units (A := Fe) (LV.int IntKind.u8 ((0 : Int))))) 7 (units (A := Fe) (LV.int IntKind.u8 ((0 : Int))))) j []))] }) 0 8 ∧ 64 ≤ 140737488351232) ∧ true = true
set_option maxRecDepth 100000 in
theorem mluV (a b c : Fe) : (callF Tryz.prog (SGm (advP noD [62] []) []) 60 129 [bF [a, b, c]] []).map (fun r => (r.1, r.2.2)) = some (ptV (mulF (a, b, c) 8 uBytes), some (mluV_G a b c)) := by kernel_rfl
end Go.Proofs.YtonmjdnkcngfjaaGreat.En2

/- DERIVED. Times u; is a point one of the group. -/
set_option linter.all false
namespace Go.Proofs.YtonmjdnkcngfjaaGreat.En
open Go Go.RowKit

noncomputable def conMulU : ConP Tryz.prog Fe := conFSquare
noncomputable def muu (a b c : Fe) : Pt := mlu (mlu a b c).1 (mlu a b c).2.1 (mlu a b c).2.2
noncomputable def igF (a b c : Fe) : Bool := ceqF (fmul a fThird, b, c) ((negF ((muu a b c).1, (muu a b c).2.1, (muu a b c).2.2)).1, (negF ((muu a b c).1, (muu a b c).2.1, (muu a b c).2.2)).2.1, (negF ((muu a b c).1, (muu a b c).2.1, (muu a b c).2.2)).2.2)
noncomputable def inGrpF (p : Pt) : Bool := bif isz p.2.2 then true else igF p.1 p.2.1 p.2.2
theorem inGrp_t {p : Pt} (h : isz p.2.2 = true) : inGrpF p = true := by unfold inGrpF; rw [h, cond_true]
theorem inGrp_f {p : Pt} (h : isz p.2.2 = false) : inGrpF p = igF p.1 p.2.1 p.2.2 := by unfold inGrpF; rw [h, cond_false]
noncomputable def conInGrp : ConP Tryz.prog Fe := conFSquare
end Go.Proofs.YtonmjdnkcngfjaaGreat.En

/- DERIVED. A number's bytes. -/
set_option linter.all false
namespace Go.Proofs.YtonmjdnkcngfjaaGreat.En
open Go Go.RowKit

def lbF (t : Nat → Int) (i : Nat) : Int := IntKind.u8.wrap ((t ((47 - i) / 8)).fdiv (2 ^ (8 * ((47 - i) % 8))))
def bytL {A : Type} (f : Nat → Int) : List (LV A) := (List.range 48).map fun i => .int .u8 (f i)
set_option maxRecDepth 100000 in
def lbG_G (t : Nat → Int) : Prop := (true = true ∧ true = true ∧ true = true ∧ true = true ∧ true = true ∧ true = true) ∧ (true = true ∧ true = true ∧ true = true ∧ true = true ∧ true = true ∧ true = true) ∧ (true = true ∧ true = true ∧ true = true ∧ true = true ∧ true = true ∧ true = true) ∧ (true = true ∧ true = true ∧ true = true ∧ true = true ∧ true = true ∧ true = true) ∧ (true = true ∧ true = true ∧ true = true ∧ true = true ∧ true = true ∧ true = true) ∧ (true = true ∧ true = true ∧ true = true ∧ true = true ∧ true = true ∧ true = true) ∧ (true = true ∧ true = true ∧ true = true ∧ true = true ∧ true = true ∧ true = true) ∧ (true = true ∧ true = true ∧ true = true ∧ true = true ∧ true = true ∧ true = true) ∧ (true = true ∧ true = true ∧ true = true ∧ true = true ∧ true = true ∧ true = true) ∧ (true = true ∧ true = true ∧ true = true ∧ true = true ∧ true = true ∧ true = true) ∧ (true = true ∧ true = true ∧ true = true ∧ true = true ∧ true = true ∧ true = true) ∧ (true = true ∧ true = true ∧ true = true ∧ true = true ∧ true = true ∧ true = true) ∧ (true = true ∧ true = true ∧ true = true ∧ true = true ∧ true = true ∧ true = true) ∧ (true = true ∧ true = true ∧ true = true ∧ true = true ∧ true = true ∧ true = true) ∧ (true = true ∧ true = true ∧ true = true ∧ true = true ∧ true = true ∧ true = true) ∧ (true = true ∧ true = true ∧ true = true ∧ true = true ∧ true = true ∧ true = true) ∧ (true = true ∧ true = true ∧ true = true ∧ true = true ∧ true = true ∧ true = true) ∧ (true = true ∧ true = true ∧ true = true ∧ true = true ∧ true = true ∧ true = true) ∧ (true = true ∧ true = true ∧ true = true ∧ true = true ∧ true = true ∧ true = true) ∧ (true = true ∧ true = true ∧ true = true ∧ true = true ∧ true = true ∧ true = true) ∧ (true = true ∧ true = true ∧ true = true ∧ true = true ∧ true = true ∧ true = true) ∧ (true = true ∧ true = true ∧ true = true ∧ true = true ∧ true = true ∧ true = true) ∧ (true = true ∧ true = true ∧ true = true ∧ true = true ∧ true = true ∧ true = true) ∧ (true = true ∧ true = true ∧ true = true ∧ true = true ∧ true = true ∧ true = true) ∧ (true = true ∧ true = true ∧ true = true ∧ true = true ∧ true = true ∧ true = true) ∧ (true = true ∧ true = true ∧ true = true ∧ true = true ∧ true = true ∧ true = true) ∧ (true = true ∧ true = true ∧ true = true ∧ true = true ∧ true = true ∧ true = true) ∧ (true = true ∧ true = true ∧ true = true ∧ true = true ∧ true = true ∧ true = true) ∧ (true = true ∧ true = true ∧ true = true ∧ true = true ∧ true = true ∧ true = true) ∧ (true = true ∧ true = true ∧ true = true ∧ true = true ∧ true = true ∧ true = true) ∧ (true = true ∧ true = true ∧ true = true ∧ true = true ∧ true = true ∧ true = true) ∧ (true = true ∧ true = true ∧ true = true ∧ true = true ∧ true = true ∧ true = true) ∧ (true = true ∧ true = true ∧ true = true ∧ true = true ∧ true = true ∧ true = true) ∧ (true = true ∧ true = true ∧ true = true ∧ true = true ∧ true = true ∧ true = true) ∧ (true = true ∧ true = true ∧ true = true ∧ true = true ∧ true = true ∧ true = true) ∧ (true = true ∧ true = true ∧ true = true ∧ true = true ∧ true = true ∧ true = true) ∧ (true = true ∧ true = true ∧ true = true ∧ true = true ∧ true = true ∧ true = true) ∧ (true = true ∧ true = true ∧ true = true ∧ true = true ∧ true = true ∧ true = true) ∧ (true = true ∧ true = true ∧ true = true ∧ true = true ∧ true = true ∧ true = true) ∧ (true = true ∧ true = true ∧ true = true ∧ true = true ∧ true = true ∧ true = true) ∧ (true = true ∧ true = true ∧ true = true ∧ true = true ∧ true = true ∧ true = true) ∧ (true = true ∧ true = true ∧ true = true ∧ true = true ∧ true = true ∧ true = true) ∧ (true = true ∧ true = true ∧ true = true ∧ true = true ∧ true = true ∧ true = true) ∧ (true = true ∧ true = true ∧ true = true ∧ true = true ∧ true = true ∧ true = true) ∧ (true = true ∧ true = true ∧ true = true ∧ true = true ∧ true = true ∧ true = true) ∧ (true = true ∧ true = true ∧ true = true ∧ true = true ∧ true = true ∧ true = true) ∧ (true = true ∧ true = true ∧ true = true ∧ true = true ∧ true = true ∧ true = true) ∧ (true = true ∧ true = true ∧ true = true ∧ true = true ∧ true = true ∧ true = true) ∧ true = true
set_option maxRecDepth 100000 in
theorem lbG (t : Nat → Int) : (callF Tryz.prog (SF fun _ _ _ => none) 300 65 [.agg (lim t)] []).map (fun r => r.2.2) = some (some ((lbG_G t))) := by kernel_rfl
set_option maxRecDepth 100000 in
theorem lbV (t : Nat → Int) : (callF Tryz.prog (SF fun _ _ _ => none) 300 65 [.agg (lim t)] []).map (fun r => (r.1, r.2.2)) = some (.agg (bytL (lbF t)), some (lbG_G t)) := by kernel_rfl
end Go.Proofs.YtonmjdnkcngfjaaGreat.En

/- DERIVED. A number's bytes: the contract. -/
set_option linter.all false
namespace Go.Proofs.YtonmjdnkcngfjaaGreat.En
open Go Go.RowKit

theorem mid_byte (X s : Nat) (hs : s + 8 ≤ 64) : X % 18446744073709551616 / 2 ^ s % 256 = X / 2 ^ s % 256 := by
  have h : (18446744073709551616 : Nat) = 2 ^ s * 2 ^ (64 - s) := by
    rw [← Nat.pow_add, show s + (64 - s) = 64 by omega]
  rw [h, Nat.mod_mul_right_div_self]
  exact Nat.mod_mod_of_dvd _ ⟨2 ^ (64 - s - 8), by rw [show (256 : Nat) = 2 ^ 8 from rfl, ← Nat.pow_add]; congr 1; omega⟩
theorem lbF_lm (m i : Nat) (hi : i < 48) : lbF (lm m) i = ((m / 256 ^ (47 - i) % 256 : Nat) : Int) := by
  unfold lbF lm lmN
  have h1 := Nat.mod_lt (47 - i) (show 0 < 8 by omega)
  have h2 := Nat.div_add_mod (47 - i) 8
  generalize (47 - i) / 8 = q at *
  generalize hr : (47 - i) % 8 = r at *
  have e : (256 : Nat) ^ (47 - i) = BB ^ q * 2 ^ (8 * r) := by
    rw [← h2, show (256 : Nat) = 2 ^ 8 from rfl, show BB = 2 ^ 64 from rfl, ← Nat.pow_mul, ← Nat.pow_mul, ← Nat.pow_add]
    congr 1
    omega
  have e2 : (((m / BB ^ q % BB : Nat) : Int)).fdiv (2 ^ (8 * r)) = ((m / BB ^ q % BB / 2 ^ (8 * r) : Nat) : Int) := by
    rw [show ((2 : Int) ^ (8 * r)) = (((2 : Nat) ^ (8 * r) : Nat) : Int) by rw [Int.natCast_pow]; rfl]
    exact Int.ofNat_fdiv _ _ ▸ rfl
  rw [e2, IntKind.wrap_u8]
  rw [e, ← Nat.div_div_eq_div_mul]
  have := mid_byte (m / BB ^ q) (8 * r) (by omega)
  have e3 : m / BB ^ q % BB = m / BB ^ q % 18446744073709551616 := rfl
  rw [e3]
  generalize m / BB ^ q % 18446744073709551616 / 2 ^ (8 * r) = u at *
  omega
theorem cells_bytL {A : Type} [Ab A] (ρ : Key → Loc) (f : Nat → Int) : cellsL ρ (bytL f : List (LV A)) = (List.range 48).map fun i => Value.int .u8 (f i) := by
  unfold bytL
  generalize List.range 48 = l
  induction l with
  | nil => rfl
  | cons i l ih => simp [cellsL, LV.cells, ih]
theorem plain_bytL {A : Type} [Ab A] (f : Nat → Int) : plainL (bytL f : List (LV A)) := by
  unfold bytL
  generalize List.range 48 = l
  induction l with
  | nil => trivial
  | cons i l ih => exact ⟨trivial, ih⟩
/-- The bytes of the number that an element is kept as, the highest first. -/
def byt (x : Fe) (i : Nat) : Int := ((mo (fv x) / 256 ^ (47 - i) % 256 : Nat) : Int)
theorem lbG_ok (t : Nat → Int) : condOk (some (lbG_G t)) := by unfold condOk lbG_G; and_intros <;> rfl
theorem lb_call (t : Nat → Int) (ρ : Key → Loc) (w : World) : Calls Tryz.prog 65 (trs ρ [(.agg (lim t) : LV Empty)]).toArray w fun e w' => e = .returned (LV.tr ρ (.agg (bytL (lbF t)) : LV Empty)) ∧ Below w.heap.size w w' :=
  plain_call (SF_ok _) rfl (lbV t) (lbG_ok t) (fun _ _ => rfl) ⟨⟨trivial, trivial, trivial, trivial, trivial, trivial, trivial⟩, trivial⟩ (fun ρ ρ' => by simp only [LV.tr, cells_bytL]) ρ w
set_option maxRecDepth 100000 in
theorem entLBytes : ∀ args w, (callFunc 65 args).run Tryz.prog w = .ok (.enter 65 args) w := ent_of (f := 65) (P := Tryz.prog) rfl rfl rfl
theorem lb_runs (a : Fe) : Runs 65 [bF [a]] (.agg (bytL (byt a))) := by
  refine ⟨rfl, fun ρ w => ?_⟩
  have := lb_call (lm (mo (fv a))) ρ w
  have e2 : trs ρ [bF [a]] = trs ρ [(.agg (lim (lm (mo (fv a)))) : LV Empty)] := by simp only [trs, bF, absL, tr_fe]
  rw [e2]
  have e3 : LV.tr ρ (.agg (bytL (lbF (lm (mo (fv a))))) : LV Empty) = LV.tr ρ (.agg (bytL (byt a)) : LV Fe) := by
    simp only [LV.tr, cells_bytL]
    rw [List.map_congr_left fun i hi => by rw [lbF_lm _ i (List.mem_range.1 hi)]]
    rfl
  rw [e3] at this
  exact this
noncomputable def conLBytes : ConP Tryz.prog Fe := mkP 65 entLBytes [1] (fun a => .agg (bytL (byt a))) lb_runs
set_option maxRecDepth 100000 in
theorem entFBytes : ∀ args w, (callFunc 108 args).run Tryz.prog w = .ok (.enter 108 args) w := ent_of (f := 108) (P := Tryz.prog) rfl rfl rfl
set_option maxRecDepth 100000 in
def fbyV_G (a : Fe) : Prop := true = true
set_option maxRecDepth 100000 in
theorem fbyV (a : Fe) : (callF Tryz.prog (SGb noD [conLBytes]) 60 108 [bF [a]] []).map (fun r => (r.1, r.2.2)) = some (.agg (bytL (byt (fmul a frone))), some (fbyV_G a)) := by kernel_rfl
set_option maxRecDepth 100000 in
theorem fbyV_ok (a : Fe) : condOk (some (fbyV_G a)) := by unfold fbyV_G condOk; and_intros <;> rfl
noncomputable def conFBytes : ConP Tryz.prog Fe := mkP 108 entFBytes [1] (fun a => .agg (bytL (byt (fmul a frone)))) fun a => .of (SGa_ok _ _) rfl (fbyV a) (fbyV_ok a) rfl rfl
end Go.Proofs.YtonmjdnkcngfjaaGreat.En

/- DERIVED. The document's number of 48 bytes. -/
set_option linter.all false
namespace Go.Proofs.YtonmjdnkcngfjaaGreat.En
open Go Go.RowKit

noncomputable abbrev SFr (g : Nat → Int) : Sig Empty := sigOf (P := Tryz.prog) [] [] [] (I := inOf [bytL g]) [] noMs (advF noD)
/-- Bytes put together, one after the other. -/
def orG (g : Nat → Int) (q : Nat) : Nat → Int
  | 0 => 0
  | r + 1 => bits .or .u64 (orG g q r) (IntKind.u64.wrap (IntKind.u64.wrap (g (40 - 8 * q + r)) * 2 ^ (8 * (7 - r))))
def frK (g : Nat → Int) (q : Nat) : Int := orG g q 8
set_option maxRecDepth 100000 in
def frG_G (g : Nat → Int) : Prop := (true = true ∧ true = true ∧ true = true ∧ true = true ∧ true = true ∧ true = true ∧ true = true) ∧ (true = true ∧ true = true ∧ true = true ∧ true = true ∧ true = true ∧ true = true ∧ true = true) ∧ (true = true ∧ true = true ∧ true = true ∧ true = true ∧ true = true ∧ true = true ∧ true = true) ∧ (true = true ∧ true = true ∧ true = true ∧ true = true ∧ true = true ∧ true = true ∧ true = true) ∧ (true = true ∧ true = true ∧ true = true ∧ true = true ∧ true = true ∧ true = true ∧ true = true) ∧ (true = true ∧ true = true ∧ true = true ∧ true = true ∧ true = true ∧ true = true ∧ true = true) ∧ (true = true ∧ true = true ∧ true = true ∧ true = true ∧ true = true ∧ true = true ∧ true = true) ∧ (true = true ∧ true = true ∧ true = true ∧ true = true ∧ true = true ∧ true = true ∧ true = true) ∧ (true = true ∧ true = true ∧ true = true ∧ true = true ∧ true = true ∧ true = true ∧ true = true) ∧ (true = true ∧ true = true ∧ true = true ∧ true = true ∧ true = true ∧ true = true ∧ true = true) ∧ (true = true ∧ true = true ∧ true = true ∧ true = true ∧ true = true ∧ true = true ∧ true = true) ∧ (true = true ∧ true = true ∧ true = true ∧ true = true ∧ true = true ∧ true = true ∧ true = true) ∧ (true = true ∧ true = true ∧ true = true ∧ true = true ∧ true = true ∧ true = true ∧ true = true) ∧ (true = true ∧ true = true ∧ true = true ∧ true = true ∧ true = true ∧ true = true ∧ true = true) ∧ (true = true ∧ true = true ∧ true = true ∧ true = true ∧ true = true ∧ true = true ∧ true = true) ∧ (true = true ∧ true = true ∧ true = true ∧ true = true ∧ true = true ∧ true = true ∧ true = true) ∧ (true = true ∧ true = true ∧ true = true ∧ true = true ∧ true = true ∧ true = true ∧ true = true) ∧ (true = true ∧ true = true ∧ true = true ∧ true = true ∧ true = true ∧ true = true ∧ true = true) ∧ (true = true ∧ true = true ∧ true = true ∧ true = true ∧ true = true ∧ true = true ∧ true = true) ∧ (true = true ∧ true = true ∧ true = true ∧ true = true ∧ true = true ∧ true = true ∧ true = true) ∧ (true = true ∧ true = true ∧ true = true ∧ true = true ∧ true = true ∧ true = true ∧ true = true) ∧ (true = true ∧ true = true ∧ true = true ∧ true = true ∧ true = true ∧ true = true ∧ true = true) ∧ (true = true ∧ true = true ∧ true = true ∧ true = true ∧ true = true ∧ true = true ∧ true = true) ∧ (true = true ∧ true = true ∧ true = true ∧ true = true ∧ true = true ∧ true = true ∧ true = true) ∧ (true = true ∧ true = true ∧ true = true ∧ true = true ∧ true = true ∧ true = true ∧ true = true) ∧ (true = true ∧ true = true ∧ true = true ∧ true = true ∧ true = true ∧ true = true ∧ true = true) ∧ (true = true ∧ true = true ∧ true = true ∧ true = true ∧ true = true ∧ true = true ∧ true = true) ∧ (true = true ∧ true = true ∧ true = true ∧ true = true ∧ true = true ∧ true = true ∧ true = true) ∧ (true = true ∧ true = true ∧ true = true ∧ true = true ∧ true = true ∧ true = true ∧ true = true) ∧ (true = true ∧ true = true ∧ true = true ∧ true = true ∧ true = true ∧ true = true ∧ true = true) ∧ (true = true ∧ true = true ∧ true = true ∧ true = true ∧ true = true ∧ true = true ∧ true = true) ∧ (true = true ∧ true = true ∧ true = true ∧ true = true ∧ true = true ∧ true = true ∧ true = true) ∧ (true = true ∧ true = true ∧ true = true ∧ true = true ∧ true = true ∧ true = true ∧ true = true) ∧ (true = true ∧ true = true ∧ true = true ∧ true = true ∧ true = true ∧ true = true ∧ true = true) ∧ (true = true ∧ true = true ∧ true = true ∧ true = true ∧ true = true ∧ true = true ∧ true = true) ∧ (true = true ∧ true = true ∧ true = true ∧ true = true ∧ true = true ∧ true = true ∧ true = true) ∧ (true = true ∧ true = true ∧ true = true ∧ true = true ∧ true = true ∧ true = true ∧ true = true) ∧ (true = true ∧ true = true ∧ true = true ∧ true = true ∧ true = true ∧ true = true ∧ true = true) ∧ (true = true ∧ true = true ∧ true = true ∧ true = true ∧ true = true ∧ true = true ∧ true = true) ∧ (true = true ∧ true = true ∧ true = true ∧ true = true ∧ true = true ∧ true = true ∧ true = true) ∧ (true = true ∧ true = true ∧ true = true ∧ true = true ∧ true = true ∧ true = true ∧ true = true) ∧ (true = true ∧ true = true ∧ true = true ∧ true = true ∧ true = true ∧ true = true ∧ true = true) ∧ (true = true ∧ true = true ∧ true = true ∧ true = true ∧ true = true ∧ true = true ∧ true = true) ∧ (true = true ∧ true = true ∧ true = true ∧ true = true ∧ true = true ∧ true = true ∧ true = true) ∧ (true = true ∧ true = true ∧ true = true ∧ true = true ∧ true = true ∧ true = true ∧ true = true) ∧ (true = true ∧ true = true ∧ true = true ∧ true = true ∧ true = true ∧ true = true ∧ true = true) ∧ (true = true ∧ true = true ∧ true = true ∧ true = true ∧ true = true ∧ true = true ∧ true = true) ∧ (true = true ∧ true = true ∧ true = true ∧ true = true ∧ true = true ∧ true = true ∧ true = true) ∧ true = true
set_option maxRecDepth 100000 in
theorem frG (g : Nat → Int) : (callF Tryz.prog (SFr g) 300 109 [.slice (.inp 0 0) 0 [] 48 48] []).map (fun r => r.2.2) = some (some ((frG_G g))) := by kernel_rfl
set_option maxRecDepth 100000 in
theorem frV (g : Nat → Int) : (callF Tryz.prog (SFr g) 300 109 [.slice (.inp 0 0) 0 [] 48 48] []).map (fun r => (r.1, r.2.2)) = some (.tup [.agg (lim (frK g)), .bool true], some (frG_G g)) := by kernel_rfl
end Go.Proofs.YtonmjdnkcngfjaaGreat.En

/- DERIVED. The document's number of 48 bytes: on numbers. -/
set_option linter.all false
namespace Go.Proofs.YtonmjdnkcngfjaaGreat.En
open Go Go.RowKit

/-- So many bytes from a place on, as a number, the highest first. -/
def nB (b : Nat → Nat) (s : Nat) : Nat → Nat
  | 0 => 0
  | r + 1 => nB b s r * 256 + b (s + r)
theorem nB_lt {b : Nat → Nat} (s : Nat) : ∀ r, (∀ j, s ≤ j → j < s + r → b j < 256) → nB b s r < 256 ^ r
  | 0, _ => by simp [nB]
  | r + 1, h => by
    have h1 := nB_lt s r fun j h1 h2 => h j h1 (by omega)
    have h2 := h (s + r) (by omega) (by omega)
    rw [nB, Nat.pow_succ]
    have : (nB b s r + 1) * 256 ≤ 256 ^ r * 256 := Nat.mul_le_mul_right _ h1
    omega
theorem nB_split (b : Nat → Nat) (s m : Nat) : ∀ n, nB b s (m + n) = nB b s m * 256 ^ n + nB b (s + m) n
  | 0 => by simp [nB]
  | n + 1 => by
    rw [← Nat.add_assoc, nB, nB_split b s m n, nB, Nat.pow_succ, Nat.add_mul, Nat.mul_assoc, Nat.add_assoc, Nat.add_assoc]
theorem orG_val {g : Nat → Int} {b : Nat → Nat} (hg : ∀ j, j < 48 → g j = (b j : Int)) (hb : ∀ j, j < 48 → b j < 256) {q : Nat} (hq : q < 6) : ∀ r, r ≤ 8 → orG g q r = ((nB b (40 - 8 * q) r * 2 ^ (8 * (8 - r)) : Nat) : Int)
  | 0, _ => by simp [orG, nB]
  | r + 1, hr => by
    have ih := orG_val hg hb hq r (by omega)
    have hlt := nB_lt (b := b) (40 - 8 * q) r fun j h1 h2 => hb j (by omega)
    have hbj := hb (40 - 8 * q + r) (by omega)
    have hY : b (40 - 8 * q + r) * 2 ^ (8 * (7 - r)) < 2 ^ (8 * (8 - r)) := by
      have : (2 : Nat) ^ (8 * (8 - r)) = 256 * 2 ^ (8 * (7 - r)) := by
        rw [show (256 : Nat) = 2 ^ 8 from rfl, ← Nat.pow_add]; congr 1; omega
      rw [this]
      exact Nat.mul_lt_mul_of_pos_right hbj (Nat.two_pow_pos _)
    have hX : nB b (40 - 8 * q) r * 2 ^ (8 * (8 - r)) < 18446744073709551616 := by
      have e : (18446744073709551616 : Nat) = 256 ^ r * 2 ^ (8 * (8 - r)) := by
        rw [show (256 : Nat) = 2 ^ 8 from rfl, ← Nat.pow_mul, ← Nat.pow_add, show 8 * r + 8 * (8 - r) = 64 by omega]
      rw [e]
      exact Nat.mul_lt_mul_of_pos_right hlt (Nat.two_pow_pos _)
    have hY2 : (2 : Nat) ^ (8 * (8 - r)) ≤ 18446744073709551616 := by
      rw [show (18446744073709551616 : Nat) = 2 ^ 64 from rfl]
      exact Nat.pow_le_pow_right (by omega) (by omega)
    rw [orG, ih, hg _ (by omega)]
    have w1 : IntKind.u64.wrap ((b (40 - 8 * q + r) : Nat) : Int) = ((b (40 - 8 * q + r) : Nat) : Int) := wuN _ (by omega)
    have w2 : IntKind.u64.wrap (((b (40 - 8 * q + r) : Nat) : Int) * 2 ^ (8 * (7 - r))) = ((b (40 - 8 * q + r) * 2 ^ (8 * (7 - r)) : Nat) : Int) := by
      rw [show ((2 : Int) ^ (8 * (7 - r))) = (((2 : Nat) ^ (8 * (7 - r)) : Nat) : Int) by rw [Int.natCast_pow]; rfl, ← Int.natCast_mul]
      exact wuN _ (by omega)
    rw [w1, w2, bits_or_u64_nat _ _ hX (by omega), Nat.mul_comm (nB b (40 - 8 * q) r), ← Nat.two_pow_add_eq_or_of_lt hY]
    congr 1
    have e : (2 : Nat) ^ (8 * (8 - r)) = 256 * 2 ^ (8 * (7 - r)) := by
      rw [show (256 : Nat) = 2 ^ 8 from rfl, ← Nat.pow_add]; congr 1; omega
    rw [e, nB, show 8 * (8 - (r + 1)) = 8 * (7 - r) by omega, Nat.add_mul, Nat.mul_comm (256 * 2 ^ (8 * (7 - r))), Nat.mul_assoc]
theorem frK_lm {g : Nat → Int} {b : Nat → Nat} (hg : ∀ j, j < 48 → g j = (b j : Int)) (hb : ∀ j, j < 48 → b j < 256) (q : Nat) (hq : q < 6) : frK g q = lm (nB b 0 48) q := by
  unfold frK
  rw [orG_val hg hb hq 8 (Nat.le_refl _)]
  simp only [Nat.sub_self, Nat.mul_zero, Nat.pow_zero, Nat.mul_one]
  unfold lm lmN
  congr 1
  have h1 := nB_split b 0 (40 - 8 * q) (8 + 8 * q)
  have h2 := nB_split b (0 + (40 - 8 * q)) 8 (8 * q)
  rw [show 40 - 8 * q + (8 + 8 * q) = 48 by omega] at h1
  rw [h1, h2, Nat.zero_add]
  have l1 := nB_lt (b := b) (40 - 8 * q) 8 fun j h1 h2 => hb j (by omega)
  have l2 := nB_lt (b := b) (40 - 8 * q + 8) (8 * q) fun j h1 h2 => hb j (by omega)
  have e : BB ^ q = 256 ^ (8 * q) := by
    rw [show BB = 256 ^ 8 by decide, ← Nat.pow_mul]
  have e2 : (256 : Nat) ^ (8 + 8 * q) = 256 ^ (8 * q) * BB := by
    rw [Nat.add_comm, Nat.pow_add, show BB = 256 ^ 8 by decide]
  rw [e, e2]
  generalize nB b (40 - 8 * q) 8 = u at *
  generalize nB b (40 - 8 * q + 8) (8 * q) = v at *
  generalize nB b 0 (40 - 8 * q) = t at *
  generalize (256 : Nat) ^ (8 * q) = D at *
  have hD : 0 < D := by omega
  rw [show t * (D * BB) + (u * D + v) = D * (t * BB + u) + v by rw [Nat.mul_add, ← Nat.mul_assoc D, Nat.mul_comm D t, Nat.mul_assoc t, Nat.mul_comm D u]; omega]
  rw [Nat.mul_add_div hD, Nat.div_eq_of_lt l2, Nat.add_zero, Nat.mul_add_mod_self_right, Nat.mod_eq_of_lt]
  have : (256 : Nat) ^ 8 = BB := by decide
  omega
/-- The digits of a number are its bytes. -/
theorem nB_digits (m : Nat) : ∀ r, r ≤ 48 → nB (fun i => m / 256 ^ (47 - i) % 256) 0 r = m / 256 ^ (48 - r) % 256 ^ r
  | 0, _ => by simp [nB, Nat.mod_one]
  | r + 1, hr => by
    rw [nB, nB_digits m r (by omega), Nat.zero_add]
    have e : m / 256 ^ (48 - r) = m / 256 ^ (47 - r) / 256 := by
      rw [Nat.div_div_eq_div_mul, ← Nat.pow_succ]; congr 2; omega
    rw [e, show 48 - (r + 1) = 47 - r by omega, Nat.pow_succ]
    generalize m / 256 ^ (47 - r) = X
    rw [Nat.mul_comm (256 ^ r) 256, Nat.mod_mul, Nat.mul_comm 256]
    omega
theorem mo_raw {N : Nat} (h : N < pN) : mo (N * rI % pN) = N := by
  have h1 : mo (N * rI % pN) % pN = N % pN := by
    rw [mo_red, mo_cg, Nat.mul_assoc, Nat.mul_comm rI, cg_mul (rfl : N % pN = N % pN) rI_cg, Nat.mul_one]
  rwa [mo_mod, Nat.mod_eq_of_lt h] at h1
end Go.Proofs.YtonmjdnkcngfjaaGreat.En

/- DERIVED. The document's number of 48 bytes: the contract. -/
set_option linter.all false
namespace Go.Proofs.YtonmjdnkcngfjaaGreat.En
open Go Go.RowKit

noncomputable abbrev SFf (g : Nat → Int) : Sig Fe := sigOf (P := Tryz.prog) [] [] [] (I := inOf [bytL g]) [] noMs (advF noD)
theorem SFf_ok (g : Nat → Int) : SigOk Tryz.prog (SFf g) := sigOf_ok [] [] [] [] (noMs_ok _) _ (inOf1_ok (plain_bytL g))
set_option maxRecDepth 100000 in
theorem frVF (g : Nat → Int) : (callF Tryz.prog (SFf g) 300 109 [.slice (.inp 0 0) 0 [] 48 48] []).map (fun r => (r.1, r.2.2)) = some (.tup [limA (frK g), .bool true], some (frG_G g)) := by kernel_rfl
theorem frG_ok (g : Nat → Int) : condOk (some (frG_G g)) := by unfold condOk frG_G; and_intros <;> rfl
end Go.Proofs.YtonmjdnkcngfjaaGreat.En

/- DERIVED. The document's number of 48 bytes: the contract. -/
set_option linter.all false
namespace Go.Proofs.YtonmjdnkcngfjaaGreat.En
open Go Go.RowKit

/-- The number of 48 bytes. -/
def beN (g : Nat → Int) : Nat := nB (fun j => (g j).toNat) 0 48
theorem frK_be {g : Nat → Int} (hg : rngB g 0 48) (q : Nat) (hq : q < 6) : frK g q = lm (beN g) q :=
  frK_lm (b := fun j => (g j).toNat) (fun j hj => by have := hg j hj; rw [Nat.zero_add] at this; show g j = (((g j).toNat : Nat) : Int); omega) (fun j hj => by have := hg j hj; rw [Nat.zero_add] at this; show (g j).toNat < 256; omega) q hq
/-- The element that is kept as this number. -/
def rawF (n : Nat) : Fe := mkF (n * rI % pN)
theorem fv_rawF (n : Nat) : fv (rawF n) = n * rI % pN := by unfold rawF; rw [fv_mk]
theorem mo_rawF {n : Nat} (h : n < pN) : mo (fv (rawF n)) = n := by rw [fv_rawF, mo_raw h]
theorem tup_fe {f : Nat → Int} {x : Fe} (ρ : Key → Loc) (h : ∀ q, q < 6 → f q = lm (mo (fv x)) q) : LV.tr ρ (.tup [limA f, .bool true] : LV Fe) = LV.tr ρ (.tup [.agg [.abs x], .bool true] : LV Fe) := by
  have e : LV.tr ρ (limA f : LV Fe) = LV.tr ρ (.agg [.abs x] : LV Fe) := by
    rw [tr_fe, ← lim_congr h]
    rfl
  show Value.tuple #[LV.tr ρ (limA f : LV Fe), .bool true] = Value.tuple #[LV.tr ρ (.agg [.abs x] : LV Fe), .bool true]
  rw [e]
theorem from_told {g : Nat → Int} (hg : rngB g 0 48) (hn : beN g < pN) : Told Tryz.prog 109 [bytL g] [.slice (.inp 0 0) 0 [] 48 48] (.tup [.agg [.abs (rawF (beN g))], .bool true]) [] := by
  refine told_below rfl fun ρ w ha => ?_
  have hk : ∀ t i, kinL (okKey ([] : Mem Fe) ρ) ((SFf g).inp t i) := fun t i => by
    show kinL _ (inOf [bytL g] t i)
    cases t with
    | succ t => trivial
    | zero => cases i with
      | zero => exact plainL_kin _ _ (plain_bytL g)
      | succ i => trivial
  have := calls_top (SFf_ok g) mixed (frVF g) (frG_ok g) ha.mem ha.kinV hk fun ρ ρ' => rfl
  have e2 := tup_fe (ρ := ρ) (f := frK g) (x := rawF (beN g)) fun q hq => by rw [mo_rawF hn]; exact frK_be hg q hq
  rw [e2] at this
  exact this
end Go.Proofs.YtonmjdnkcngfjaaGreat.En

/- DERIVED. The document's number of 48 bytes: the contract. -/
set_option linter.all false
namespace Go.Proofs.YtonmjdnkcngfjaaGreat.En
open Go Go.RowKit

def fromFn (I : Inp Fe) (vs : List (LV Fe)) (mem : Mem Fe) : Option (RdC Fe) := match vs with
  | [.slice k o q len cap] => match o, q with
    | 0, [] => match Nat.beq len 48, Nat.beq cap 48, at? I mem k with
      | true, true, some bl => match isDead bl.kd, flatI .u8 bl.us with
        | false, some l => match Nat.beq l.length 48 with
          | true => some ⟨[bytL fun j => l.getD j 0], [k], [.slice (.inp 0 0) 0 [] 48 48], .tup [.agg [.abs (rawF (beN fun j => l.getD j 0))], .bool true], [], rngB (fun j => l.getD j 0) 0 48 ∧ (beN fun j => l.getD j 0) < pN⟩
          | false => none
        | _, _ => none
      | _, _, _ => none
    | _, _ => none
  | _ => none
theorem bytL_list {l : List Int} (h : l.length = 48) : bytL (A := Fe) (fun j => l.getD j 0) = l.map fun x => .int .u8 x := by
  unfold bytL
  apply List.ext_getElem
  · simp [h]
  · intro i h1 h2
    have : i < l.length := by simpa using h2
    simp [this]
theorem from_ok : ∀ I vs mem r, fromFn I vs mem = some r → r.c → RdOk Tryz.prog 109 I vs mem r := by
  intro I vs mem r h hc
  unfold fromFn at h
  split at h
  · rename_i k o q len cap
    split at h
    · split at h
      · rename_i bl hl hcp hb
        split at h
        · rename_i l hd hf
          split at h
          · rename_i hlen
            cases h
            have hl := beqN hl
            have hcp := beqN hcp
            have hlen := beqN hlen
            subst hl; subst hcp
            obtain ⟨h1, h2⟩ := hc
            exact {
              args := rfl
              fit := ⟨⟨by simp [keyMap, ιOf], trivial⟩, trivial⟩
              len := rfl
              blk := fun j k' us hk hus => by
                match j with
                | 0 =>
                  cases hk; cases hus
                  exact ⟨bl, hb, hd, plain_bytL _, by rw [bytL_list hlen, ← flatI_some hf]; exact Like.refl _⟩
                | j + 1 => simp at hk
              told := from_told h1 h2
              fitv := (plain_ren _ _ _ (show LV.plain (.tup [.agg [.abs (rawF (beN fun j => l.getD j 0))], .bool true] : LV Fe) from ⟨⟨trivial, trivial⟩, trivial, trivial⟩)).2
              fitb := fun b hb => absurd hb List.not_mem_nil }
          · cases h
        · cases h
      · cases h
    · cases h
  · cases h
set_option maxRecDepth 100000 in
theorem entRFrom : ∀ args w, (callFunc 109 args).run Tryz.prog w = .ok (.enter 109 args) w := ent_of (f := 109) (P := Tryz.prog) rfl rfl rfl
noncomputable def conRFrom : ConC Tryz.prog Fe := conRd 109 entRFrom fromFn from_ok
end Go.Proofs.YtonmjdnkcngfjaaGreat.En

/- DERIVED. An element as the document's. -/
set_option linter.all false
namespace Go.Proofs.YtonmjdnkcngfjaaGreat.En
open Go Go.RowKit

noncomputable abbrev SPa (A : Adv) (ps : List (ConP Tryz.prog Fe)) : Sig Fe := sigOf (P := Tryz.prog) ([conFBytes, conROf] ++ ps) [] [conRFrom] (I := noIF) [] msF A
theorem SPa_ok (A : Adv) (ps : List (ConP Tryz.prog Fe)) : SigOk Tryz.prog (SPa A ps) := sigOf_ok _ [] [conRFrom] [] msF_ok _ noIF_ok
def bytI (x : Fe) (j : Nat) : Int := ((List.range 48).map (byt x)).getD j 0
def partRaw (a : Fe) : Fe := fmul (rawF (beN (bytI (fmul a frone)))) ftwo
def partC (a : Fe) : Prop := rngB (bytI (fmul a frone)) 0 48 ∧ beN (bytI (fmul a frone)) < pN
set_option maxRecDepth 100000 in
theorem paV (a : Fe) : (callF Tryz.prog (SPa (advP noD [109] []) []) 60 57 [bF [a]] []).map (fun r => (r.1, r.2.2)) = some (.agg [.abs (partRaw a)], some (true = true ∧ (true = true ∧ partC a ∧ true = true) ∧ true = true)) := by kernel_rfl
end Go.Proofs.YtonmjdnkcngfjaaGreat.En

/- DERIVED. An element as the document's: the contract. -/
set_option linter.all false
namespace Go.Proofs.YtonmjdnkcngfjaaGreat.En
open Go Go.RowKit

theorem nB_cg {b b' : Nat → Nat} (s : Nat) : ∀ r, (∀ j, s ≤ j → j < s + r → b j = b' j) → nB b s r = nB b' s r
  | 0, _ => rfl
  | r + 1, h => by rw [nB, nB, nB_cg s r fun j h1 h2 => h j h1 (by omega), h (s + r) (by omega) (by omega)]
theorem bytI_eq (x : Fe) (j : Nat) (hj : j < 48) : bytI x j = ((mo (fv x) / 256 ^ (47 - j) % 256 : Nat) : Int) := by
  unfold bytI
  rw [List.getD_eq_getElem?_getD, List.getElem?_map, List.getElem?_range hj]
  rfl
theorem p_lt : pN < 256 ^ 48 := by decide +kernel
theorem byt_digits (x : Fe) (r : Nat) (hr : r ≤ 48) : nB (fun j => (bytI x j).toNat) 0 r = mo (fv x) / 256 ^ (48 - r) % 256 ^ r := by
  rw [← nB_digits _ r hr]
  exact nB_cg 0 r fun j _ hj => by rw [bytI_eq x j (by omega), Int.toNat_natCast]
theorem mod48 {m n : Nat} (h : m < 256 ^ n) : m / 256 ^ (n - n) % 256 ^ n = m := by
  rw [Nat.sub_self, Nat.pow_zero, Nat.div_one, Nat.mod_eq_of_lt h]
theorem mo_lt48 (x : Fe) : mo (fv x) < 256 ^ 48 := Nat.lt_trans (mo_lt _) p_lt
theorem beN_byt (x : Fe) : beN (bytI x) = mo (fv x) := (byt_digits x 48 (Nat.le_refl _)).trans (mod48 (mo_lt48 x))
theorem partC_ok (a : Fe) : partC a := by
  refine ⟨fun j hj => ?_, by rw [beN_byt]; exact mo_lt _⟩
  rw [Nat.zero_add, bytI_eq _ j hj]
  have := Nat.mod_lt (mo (fv (fmul a frone)) / 256 ^ (47 - j)) (show 0 < 256 by omega)
  generalize mo (fv (fmul a frone)) / 256 ^ (47 - j) % 256 = u at *
  omega
theorem one_two : fv frone * fv ftwo % pN = 1 % pN := by decide +kernel
theorem partRaw_mo (a : Fe) : mo (fv (partRaw a)) = mo (fv a) := by
  have h1 : fv (rawF (beN (bytI (fmul a frone)))) % pN = fv (fmul a frone) % pN := mo_inj (by rw [mo_rawF (partC_ok a).2, beN_byt])
  unfold partRaw
  rw [fv_mul, mo_red, ← mo_red (_ * _), cg_mul h1 (rfl : fv ftwo % pN = fv ftwo % pN), fv_mul, Nat.mod_mul_mod, Nat.mul_assoc, cg_mul (rfl : fv a % pN = fv a % pN) one_two, Nat.mul_one, mo_red]
set_option maxRecDepth 100000 in
theorem entPart : ∀ args w, (callFunc 57 args).run Tryz.prog w = .ok (.enter 57 args) w := ent_of (f := 57) (P := Tryz.prog) rfl rfl rfl
theorem part_runs (a : Fe) : Runs 57 [bF [a]] (.agg [.abs a]) :=
  (Runs.of (SPa_ok _ _) rfl (paV a) ⟨rfl, ⟨rfl, partC_ok a, rfl⟩, rfl⟩ rfl rfl).as rfl fun ρ => by rw [tr_fe, tr_fe, partRaw_mo]
noncomputable def conPart : ConP Tryz.prog Fe := mkP 57 entPart [1] (fun a => .agg [.abs a]) part_runs
end Go.Proofs.YtonmjdnkcngfjaaGreat.En

/- DERIVED. An element of the second field as the document's. -/
set_option linter.all false
namespace Go.Proofs.YtonmjdnkcngfjaaGreat.En
open Go Go.RowKit

set_option maxRecDepth 100000 in
theorem entQRef : ∀ args w, (callFunc 15 args).run Tryz.prog w = .ok (.enter 15 args) w := ent_of (f := 15) (P := Tryz.prog) rfl rfl rfl
set_option maxRecDepth 100000 in
def qrfV_G (a b : Fe) : Prop := true = true
set_option maxRecDepth 100000 in
theorem qrfV (a b : Fe) : (callF Tryz.prog (SGa noD [conPart]) 60 15 [bF [a, b]] []).map (fun r => (r.1, r.2.2)) = some (eV (a, b), some (qrfV_G a b)) := by kernel_rfl
set_option maxRecDepth 100000 in
theorem qrfV_ok (a b : Fe) : condOk (some (qrfV_G a b)) := by unfold qrfV_G condOk; and_intros <;> rfl
theorem qrf_runs (a b : Fe) : Runs 15 [bF [a, b]] (eV (a, b)) := .of (SGa_ok _ _) rfl (qrfV a b) (qrfV_ok a b) rfl rfl
end Go.Proofs.YtonmjdnkcngfjaaGreat.En

/- DERIVED. An element of the document's extension. -/
set_option linter.all false
namespace Go.Proofs.YtonmjdnkcngfjaaGreat.En
open Go Go.RowKit

noncomputable def conRef : ConP Tryz.prog Fe := conFSquare
end Go.Proofs.YtonmjdnkcngfjaaGreat.En

/- DERIVED. A point as the document's. -/
set_option linter.all false
namespace Go.Proofs.YtonmjdnkcngfjaaGreat.En
open Go Go.RowKit

noncomputable abbrev psL : List (ConP Tryz.prog Fe) := [conGXY, conRef, conRAt, conROn, conAff, conGen, conInGrp]
def refsN (a b c : Fe) : C3 := ((gxyX (a, b, c), zE), (gxyY (a, b, c), zE), eOne)
def refsF (p : Pt) : C3 := bif isz p.2.2 then cz else refsN p.1 p.2.1 p.2.2
theorem refs_t {p : Pt} (h : isz p.2.2 = true) : refsF p = cz := by unfold refsF; rw [h, cond_true]
theorem refs_f {p : Pt} (h : isz p.2.2 = false) : refsF p = refsN p.1 p.2.1 p.2.2 := by unfold refsF; rw [h, cond_false]
noncomputable def conRefs : ConP Tryz.prog Fe := conFSquare
end Go.Proofs.YtonmjdnkcngfjaaGreat.En

/- DERIVED. Is a point on the curve. -/
set_option linter.all false
namespace Go.Proofs.YtonmjdnkcngfjaaGreat.En
open Go Go.RowKit

def onF (p : Pt) : Bool := bif isz p.2.2 then true else ronF (gxyX p, zE) (gxyY p, zE) false
theorem on_t {p : Pt} (h : isz p.2.2 = true) : onF p = true := by unfold onF; rw [h, cond_true]
theorem on_f {p : Pt} (h : isz p.2.2 = false) : onF p = ronF (gxyX p, zE) (gxyY p, zE) false := by unfold onF; rw [h, cond_false]
noncomputable def conOn : ConP Tryz.prog Fe := conFSquare
end Go.Proofs.YtonmjdnkcngfjaaGreat.En

/- DERIVED. Is a point the document's. -/
set_option linter.all false
namespace Go.Proofs.YtonmjdnkcngfjaaGreat.En
open Go Go.RowKit

def eqR (r q : C3) : Bool := eisz (cadd ((r.1.1, r.1.2), (r.2.1.1, r.2.1.2), (r.2.2.1, r.2.2.2)) (cnegF q)).2.2
def sameF (p : Pt) (q : C3) : Bool := bif onF p then eqR (refsF p) q else false
theorem same_t {p : Pt} {q : C3} (h : onF p = true) : sameF p q = eqR (refsF p) q := by unfold sameF; rw [h, cond_true]
theorem same_f {p : Pt} {q : C3} (h : onF p = false) : sameF p q = false := by unfold sameF; rw [h, cond_false]
noncomputable def conSame : ConP Tryz.prog Fe := conFSquare
end Go.Proofs.YtonmjdnkcngfjaaGreat.En

/- DERIVED. The document's generator of the first group. -/
set_option linter.all false
namespace Go.Proofs.YtonmjdnkcngfjaaGreat.En
open Go Go.RowKit

def rgenF : C3 := ((fGx, fmul zE ftwo), (fGy, fmul zE ftwo), eOne)
set_option maxRecDepth 100000 in
theorem entRGen : ∀ args w, (callFunc 48 args).run Tryz.prog w = .ok (.enter 48 args) w := ent_of (f := 48) (P := Tryz.prog) rfl rfl rfl
set_option maxRecDepth 100000 in
def rgnV_G  : Prop := (true = true ∧ true = true) ∧ (true = true ∧ true = true) ∧ true = true
set_option maxRecDepth 100000 in
theorem rgnV  : (callF Tryz.prog (SRC noD [conREOne]) 90 48 [.bool false] []).map (fun r => (r.1, r.2.2)) = some (cV rgenF, some (rgnV_G )) := by kernel_rfl
set_option maxRecDepth 100000 in
theorem rgnV_ok  : condOk (some (rgnV_G )) := by unfold rgnV_G condOk; and_intros <;> rfl
def rgnFn : List (LV Fe) → Option (LV Fe)
  | [.bool false] => some (cV rgenF)
  | _ => none
theorem rgnFn_runs {vs : List (LV Fe)} {v : LV Fe} (h : rgnFn vs = some v) : Runs 48 vs v := by
  unfold rgnFn at h
  split at h
  · cases h; exact .of (SRE_ok _ _) rfl rgnV rgnV_ok rfl rfl
  · cases h
noncomputable def conRGen : ConP Tryz.prog Fe := mkFn 48 entRGen rgnFn rgnFn_runs
end Go.Proofs.YtonmjdnkcngfjaaGreat.En

/- DERIVED. The document's generator of the second group. -/
set_option linter.all false
namespace Go.Proofs.YtonmjdnkcngfjaaGreat.En
open Go Go.RowKit

def rgenQ : C3 := ((fQ0, fQ1), (fQ2, fQ3), eOne)
set_option maxRecDepth 100000 in
def rgqV_G  : Prop := (true = true ∧ true = true) ∧ (true = true ∧ true = true) ∧ true = true
set_option maxRecDepth 100000 in
theorem rgqV  : (callF Tryz.prog (SRC noD [conREOne]) 90 48 [.bool true] []).map (fun r => (r.1, r.2.2)) = some (cV rgenQ, some (rgqV_G )) := by kernel_rfl
set_option maxRecDepth 100000 in
theorem rgqV_ok  : condOk (some (rgqV_G )) := by unfold rgqV_G condOk; and_intros <;> rfl
theorem rgq_runs : Runs 48 [.bool true] (cV rgenQ) := .of (SRE_ok _ _) rfl rgqV rgqV_ok rfl rfl
end Go.Proofs.YtonmjdnkcngfjaaGreat.En

/- DERIVED. The document's functions on chunks. -/
set_option linter.all false
namespace Go.Proofs.YtonmjdnkcngfjaaGreat.En2
open Go Go.RowKit Go.Proofs.YtonmjdnkcngfjaaGreat.En

theorem Runs.upC (c : ConP Tryz.prog En.Fe) (args1 : List (LV En.Fe)) (v1 : LV En.Fe) {args : List (LV Fe)} {v : LV Fe} (h : c.fn args1 = some v1) (hv : plainB v = true) (ha : ∀ ρ : Key → En.Loc, trs ρ args = trs ρ args1) (e : ∀ ρ : Key → En.Loc, LV.tr ρ v1 = LV.tr ρ v) : Runs c.f args v :=
  ⟨hv, fun ρ w => by rw [ha ρ, ← e ρ]; exact c.call args1 v1 h ρ w⟩
theorem cells6 (a b c d e f : En.Fe) (ρ : Key → En.Loc) : LV.tr ρ (.agg [.abs a, .abs b, .abs c, .abs d, .abs e, .abs f] : LV En.Fe) = LV.tr ρ (.agg [.abs (a, b), .abs (c, d), .abs (e, f)] : LV Fe) := by
  show Value.agg (Ab.cells a ++ (Ab.cells b ++ (Ab.cells c ++ (Ab.cells d ++ (Ab.cells e ++ (Ab.cells f ++ [])))))).toArray = Value.agg ((Ab.cells a ++ Ab.cells b) ++ ((Ab.cells c ++ Ab.cells d) ++ ((Ab.cells e ++ Ab.cells f) ++ []))).toArray
  generalize (Ab.cells a : List Value) = l1
  generalize (Ab.cells b : List Value) = l2
  generalize (Ab.cells c : List Value) = l3
  generalize (Ab.cells d : List Value) = l4
  generalize (Ab.cells e : List Value) = l5
  generalize (Ab.cells f : List Value) = l6
  simp only [List.append_assoc]
theorem cells2 (a b : En.Fe) (ρ : Key → En.Loc) : LV.tr ρ (.agg [.abs a, .abs b] : LV En.Fe) = LV.tr ρ (.agg [.abs (a, b)] : LV Fe) := by
  show Value.agg (Ab.cells a ++ (Ab.cells b ++ [])).toArray = Value.agg ((Ab.cells a ++ Ab.cells b) ++ []).toArray
  generalize (Ab.cells a : List Value) = l1
  generalize (Ab.cells b : List Value) = l2
  simp only [List.append_assoc]
theorem cV_tr (p : C3) (ρ : Key → En.Loc) : LV.tr ρ (cV p : LV En.Fe) = LV.tr ρ (ptV p : LV Fe) := cells6 p.1.1 p.1.2 p.2.1.1 p.2.1.2 p.2.2.1 p.2.2.2 ρ
def dn1 (x : Fe) : LV En.Fe := En.bF [x.1, x.2]
def dn3 (x y z : Fe) : LV En.Fe := En.bF [x.1, x.2, y.1, y.2, z.1, z.2]
theorem dn1_tr (x : Fe) (ρ : Key → En.Loc) : LV.tr ρ (bF [x] : LV Fe) = LV.tr ρ (dn1 x) := (cells2 x.1 x.2 ρ).symm
theorem dn3_tr (x y z : Fe) (ρ : Key → En.Loc) : LV.tr ρ (bF [x, y, z] : LV Fe) = LV.tr ρ (dn3 x y z) := (cells6 x.1 x.2 y.1 y.2 z.1 z.2 ρ).symm
theorem trs1 {u : LV Fe} {u' : LV En.Fe} {ρ : Key → En.Loc} (h : LV.tr ρ u = LV.tr ρ u') : trs ρ [u] = trs ρ [u'] := by simp only [trs, h]
theorem trs2 {u v : LV Fe} {u' v' : LV En.Fe} {ρ : Key → En.Loc} (h : LV.tr ρ u = LV.tr ρ u') (k : LV.tr ρ v = LV.tr ρ v') : trs ρ [u, v] = trs ρ [u', v'] := by simp only [trs, h, k]
theorem trs3 {u v w : LV Fe} {u' v' w' : LV En.Fe} {ρ : Key → En.Loc} (h : LV.tr ρ u = LV.tr ρ u') (k : LV.tr ρ v = LV.tr ρ v') (l : LV.tr ρ w = LV.tr ρ w') : trs ρ [u, v, w] = trs ρ [u', v', w'] := by simp only [trs, h, k, l]
noncomputable def conRef : ConP Tryz.prog Fe := mkP 15 entQRef [1] (fun x => .agg [.abs x]) fun x => .up (qrf_runs x.1 x.2) rfl (fun ρ => trs1 (dn1_tr x ρ)) (fun _ => rfl)
theorem RAt_fn (x y : Fe) : En.conRAt.fn [dn1 x, dn1 y] = some (cV (x, y, fOne)) := by kernel_rfl
theorem RAt_runs (x y : Fe) : Runs 83 [bF [x], bF [y]] (ptV (x, y, fOne)) := Runs.upC En.conRAt _ _ (RAt_fn x y) rfl (fun ρ => trs2 (dn1_tr x ρ) (dn1_tr y ρ)) (fun ρ => cV_tr (x, y, fOne) ρ)
noncomputable def conRAt : ConP Tryz.prog Fe := mkP 83 entRAt [1, 1] (fun x y => ptV (x, y, fOne)) RAt_runs
theorem RCNone_fn (x y z : Fe) : En.conRCNone.fn [dn3 x y z] = some (.bool (isz z)) := by kernel_rfl
theorem RCNone_runs (x y z : Fe) : Runs 43 [bF [x, y, z]] (.bool (isz z)) := Runs.upC En.conRCNone _ _ (RCNone_fn x y z) rfl (fun ρ => trs1 (dn3_tr x y z ρ)) (fun ρ => rfl)
noncomputable def conRCNone : ConP Tryz.prog Fe := mkP 43 entRCNone [3] (fun x y z => .bool (isz z)) RCNone_runs
theorem RCNeg_fn (x y z : Fe) : En.conRCNeg.fn [dn3 x y z] = some (cV (cnegF (x, y, z))) := by kernel_rfl
theorem RCNeg_runs (x y z : Fe) : Runs 41 [bF [x, y, z]] (ptV (cnegF (x, y, z))) := Runs.upC En.conRCNeg _ _ (RCNeg_fn x y z) rfl (fun ρ => trs1 (dn3_tr x y z ρ)) (fun ρ => cV_tr (cnegF (x, y, z)) ρ)
noncomputable def conRCNeg : ConP Tryz.prog Fe := mkP 41 entRCNeg [3] (fun x y z => ptV (cnegF (x, y, z))) RCNeg_runs
theorem RCDouble_fn (x y z : Fe) : En.conRCDouble.fn [dn3 x y z] = some (cV (cdbl (x, y, z))) := by kernel_rfl
theorem RCDouble_runs (x y z : Fe) : Runs 40 [bF [x, y, z]] (ptV (cdbl (x, y, z))) := Runs.upC En.conRCDouble _ _ (RCDouble_fn x y z) rfl (fun ρ => trs1 (dn3_tr x y z ρ)) (fun ρ => cV_tr (cdbl (x, y, z)) ρ)
noncomputable def conRCDouble : ConP Tryz.prog Fe := mkP 40 entRCDouble [3] (fun x y z => ptV (cdbl (x, y, z))) RCDouble_runs
theorem RCAdd_fn (x y z u v w : Fe) : En.conRCAdd.fn [dn3 x y z, dn3 u v w] = some (cV (cadd (x, y, z) (u, v, w))) := by kernel_rfl
theorem RCAdd_runs (x y z u v w : Fe) : Runs 38 [bF [x, y, z], bF [u, v, w]] (ptV (cadd (x, y, z) (u, v, w))) := Runs.upC En.conRCAdd _ _ (RCAdd_fn x y z u v w) rfl (fun ρ => trs2 (dn3_tr x y z ρ) (dn3_tr u v w ρ)) (fun ρ => cV_tr (cadd (x, y, z) (u, v, w)) ρ)
noncomputable def conRCAdd : ConP Tryz.prog Fe := mkP 38 entRCAdd [3, 3] (fun x y z u v w => ptV (cadd (x, y, z) (u, v, w))) RCAdd_runs
theorem RCEqual_fn (x y z u v w : Fe) : En.conRCEqual.fn [dn3 x y z, dn3 u v w] = some (.bool (isz (cadd (x, y, z) (cnegF (u, v, w))).2.2)) := by kernel_rfl
theorem RCEqual_runs (x y z u v w : Fe) : Runs 42 [bF [x, y, z], bF [u, v, w]] (.bool (isz (cadd (x, y, z) (cnegF (u, v, w))).2.2)) := Runs.upC En.conRCEqual _ _ (RCEqual_fn x y z u v w) rfl (fun ρ => trs2 (dn3_tr x y z ρ) (dn3_tr u v w ρ)) (fun ρ => rfl)
noncomputable def conRCEqual : ConP Tryz.prog Fe := mkP 42 entRCEqual [3, 3] (fun x y z u v w => .bool (isz (cadd (x, y, z) (cnegF (u, v, w))).2.2)) RCEqual_runs
theorem ROn_fn (s : Bool) (x y : Fe) : En.conROn.fn [dn1 x, dn1 y, .bool s] = some (.bool (ronF x y s)) := by kernel_rfl
theorem ROn_runs (s : Bool) (x y : Fe) : Runs 14 [bF [x], bF [y], .bool s] (.bool (ronF x y s)) := Runs.upC En.conROn _ _ (ROn_fn s x y) rfl (fun ρ => trs3 (dn1_tr x ρ) (dn1_tr y ρ) rfl) (fun _ => rfl)
noncomputable def conROn : ConP Tryz.prog Fe := mkPB 14 entROn [1, 1] (fun s x y => .bool (ronF x y s)) ROn_runs
def rgnFn : List (LV Fe) → Option (LV Fe)
  | [.bool true] => some (ptV rgenQ)
  | _ => none
theorem rgnFn_runs {vs : List (LV Fe)} {v : LV Fe} (h : rgnFn vs = some v) : Runs 48 vs v := by
  unfold rgnFn at h
  split at h
  · cases h; exact .up rgq_runs rfl (fun _ => rfl) (fun ρ => cV_tr rgenQ ρ)
  · cases h
noncomputable def conRGen : ConP Tryz.prog Fe := mkFn 48 entRGen rgnFn rgnFn_runs
end Go.Proofs.YtonmjdnkcngfjaaGreat.En2

/- DERIVED. A point as the document's. -/
set_option linter.all false
namespace Go.Proofs.YtonmjdnkcngfjaaGreat.En2
open Go Go.RowKit Go.Proofs.YtonmjdnkcngfjaaGreat.En

noncomputable abbrev psL : List (ConP Tryz.prog Fe) := [conGXY, conRef, conRAt, conROn, conAff, conGen]
def refsN (a b c : Fe) : Pt := (gxyX (a, b, c), gxyY (a, b, c), fOne)
set_option maxRecDepth 100000 in
theorem entRefs : ∀ args w, (callFunc 37 args).run Tryz.prog w = .ok (.enter 37 args) w := ent_of (f := 37) (P := Tryz.prog) rfl rfl rfl
set_option maxRecDepth 100000 in
def rf1V_G (a b c : Fe) : Prop := (true = true ∧ true = true) ∧ (!!isz c) = true ∧ true = true
set_option maxRecDepth 100000 in
theorem rf1V (a b c : Fe) : (callF Tryz.prog (SGb (dci 37 [(2, 1, true)]) psL) 60 37 [bF [a, b, c]] []).map (fun r => (r.1, r.2.2)) = some ((.agg zB), some (rf1V_G a b c)) := by kernel_rfl
set_option maxRecDepth 100000 in
def rf2V_G (a b c : Fe) : Prop := (true = true ∧ true = true) ∧ (!!isz c) = false ∧ true = true
set_option maxRecDepth 100000 in
theorem rf2V (a b c : Fe) : (callF Tryz.prog (SGb (dci 37 [(2, 1, false)]) psL) 60 37 [bF [a, b, c]] []).map (fun r => (r.1, r.2.2)) = some (ptV (refsN a b c), some (rf2V_G a b c)) := by kernel_rfl
def refsF (p : Pt) : Pt := bif isz p.2.2 then zPt else refsN p.1 p.2.1 p.2.2
theorem refs_t {p : Pt} (h : isz p.2.2 = true) : refsF p = zPt := by unfold refsF; rw [h, cond_true]
theorem refs_f {p : Pt} (h : isz p.2.2 = false) : refsF p = refsN p.1 p.2.1 p.2.2 := by unfold refsF; rw [h, cond_false]
theorem refs_runs (a b c : Fe) : Runs 37 [bF [a, b, c]] (ptV (refsF (a, b, c))) := by
  cases h : isz c with
  | true =>
    rw [refs_t (p := (a, b, c)) h]
    exact (Runs.of (SGa_ok _ _) rfl (rf1V a b c) (by unfold condOk rf1V_G; simp [h]) rfl rfl).as rfl zPt_tr
  | false =>
    rw [refs_f (p := (a, b, c)) h]
    exact .of (SGa_ok _ _) rfl (rf2V a b c) (by unfold condOk rf2V_G; simp [h]) rfl rfl
noncomputable def conRefs : ConP Tryz.prog Fe := mkP 37 entRefs [3] (fun a b c => ptV (refsF (a, b, c))) refs_runs
end Go.Proofs.YtonmjdnkcngfjaaGreat.En2

/- DERIVED. Is a point on the curve. -/
set_option linter.all false
namespace Go.Proofs.YtonmjdnkcngfjaaGreat.En2
open Go Go.RowKit Go.Proofs.YtonmjdnkcngfjaaGreat.En

set_option maxRecDepth 100000 in
theorem entOn : ∀ args w, (callFunc 19 args).run Tryz.prog w = .ok (.enter 19 args) w := ent_of (f := 19) (P := Tryz.prog) rfl rfl rfl
set_option maxRecDepth 100000 in
def on1V_G (a b c : Fe) : Prop := (true = true ∧ true = true) ∧ (!(!isz c) == isz c) = true ∧ (!!isz c) = true
set_option maxRecDepth 100000 in
theorem on1V (a b c : Fe) : (callF Tryz.prog (SGb (dci 19 [(2, 3, true), (2, 6, true)]) psL) 60 19 [bF [a, b, c]] []).map (fun r => (r.1, r.2.2)) = some (.bool true, some (on1V_G a b c)) := by kernel_rfl
set_option maxRecDepth 100000 in
def on2V_G (a b c : Fe) : Prop := (true = true ∧ true = true) ∧ (!(!isz c) == isz c) = true ∧ (!!isz c) = false
set_option maxRecDepth 100000 in
theorem on2V (a b c : Fe) : (callF Tryz.prog (SGb (dci 19 [(2, 3, true), (2, 6, false)]) psL) 60 19 [bF [a, b, c]] []).map (fun r => (r.1, r.2.2)) = some (.bool (ronF (gxyX (a, b, c)) (gxyY (a, b, c)) true), some (on2V_G a b c)) := by kernel_rfl
def onF (p : Pt) : Bool := bif isz p.2.2 then true else ronF (gxyX p) (gxyY p) true
theorem on_t {p : Pt} (h : isz p.2.2 = true) : onF p = true := by unfold onF; rw [h, cond_true]
theorem on_f {p : Pt} (h : isz p.2.2 = false) : onF p = ronF (gxyX p) (gxyY p) true := by unfold onF; rw [h, cond_false]
theorem on_runs (a b c : Fe) : Runs 19 [bF [a, b, c]] (.bool (onF (a, b, c))) := by
  cases h : isz c with
  | true =>
    rw [on_t (p := (a, b, c)) h]
    exact .of (SGa_ok _ _) rfl (on1V a b c) (by unfold condOk on1V_G; simp [h]) rfl rfl
  | false =>
    rw [on_f (p := (a, b, c)) h]
    exact .of (SGa_ok _ _) rfl (on2V a b c) (by unfold condOk on2V_G; simp [h]) rfl rfl
noncomputable def conOn : ConP Tryz.prog Fe := mkP 19 entOn [3] (fun a b c => .bool (onF (a, b, c))) on_runs
end Go.Proofs.YtonmjdnkcngfjaaGreat.En2

/- DERIVED. Is a point the document's. -/
set_option linter.all false
namespace Go.Proofs.YtonmjdnkcngfjaaGreat.En2
open Go Go.RowKit Go.Proofs.YtonmjdnkcngfjaaGreat.En

def eqR (r q : Pt) : Bool := isz (cadd (r.1, r.2.1, r.2.2) (cnegF q)).2.2
set_option maxRecDepth 100000 in
theorem entSame : ∀ args w, (callFunc 34 args).run Tryz.prog w = .ok (.enter 34 args) w := ent_of (f := 34) (P := Tryz.prog) rfl rfl rfl
set_option maxRecDepth 100000 in
def sm1V_G (a b c d e f : Fe) : Prop := onF (a, b, c) = true
set_option maxRecDepth 100000 in
theorem sm1V (a b c d e f : Fe) : (callF Tryz.prog (SGb (dci 34 [(1, 1, true)]) ([conOn, conRefs, conRCEqual] ++ psL)) 60 34 [bF [a, b, c], bF [d, e, f]] []).map (fun r => (r.1, r.2.2)) = some (.bool (eqR (refsF (a, b, c)) (d, e, f)), some (sm1V_G a b c d e f)) := by kernel_rfl
set_option maxRecDepth 100000 in
def sm2V_G (a b c d e f : Fe) : Prop := onF (a, b, c) = false
set_option maxRecDepth 100000 in
theorem sm2V (a b c d e f : Fe) : (callF Tryz.prog (SGb (dci 34 [(1, 1, false)]) ([conOn, conRefs, conRCEqual] ++ psL)) 60 34 [bF [a, b, c], bF [d, e, f]] []).map (fun r => (r.1, r.2.2)) = some (.bool false, some (sm2V_G a b c d e f)) := by kernel_rfl
def sameF (p : Pt) (q : Pt) : Bool := bif onF p then eqR (refsF p) q else false
theorem same_t {p : Pt} {q : Pt} (h : onF p = true) : sameF p q = eqR (refsF p) q := by unfold sameF; rw [h, cond_true]
theorem same_f {p : Pt} {q : Pt} (h : onF p = false) : sameF p q = false := by unfold sameF; rw [h, cond_false]
theorem same_runs (a b c d e f : Fe) : Runs 34 [bF [a, b, c], bF [d, e, f]] (.bool (sameF (a, b, c) (d, e, f))) := by
  cases h0 : onF (a, b, c) with
  | true =>
    rw [same_t h0]
    exact .of (SGa_ok _ _) rfl (sm1V a b c d e f) (by unfold condOk sm1V_G; and_intros <;> first | with_reducible rfl | assumption) rfl rfl
  | false =>
    rw [same_f h0]
    exact .of (SGa_ok _ _) rfl (sm2V a b c d e f) (by unfold condOk sm2V_G; and_intros <;> first | with_reducible rfl | assumption) rfl rfl
noncomputable def conSame : ConP Tryz.prog Fe := mkP 34 entSame [3, 3] (fun a b c d e f => .bool (sameF (a, b, c) (d, e, f))) same_runs
end Go.Proofs.YtonmjdnkcngfjaaGreat.En2

/- DERIVED. Times u; is a point one of the group. -/
set_option linter.all false
namespace Go.Proofs.YtonmjdnkcngfjaaGreat.En2
open Go Go.RowKit Go.Proofs.YtonmjdnkcngfjaaGreat.En

theorem mluG_ok (a b c : Fe) : condOk (some (mluV_G a b c)) := by
  unfold condOk mluV_G
  refine ⟨⟨?_, rfl, ?_, by decide⟩, rfl⟩
  · intro j hj
    match j, hj with
    | 0, _ => exact Like.refl _
    | 1, _ => exact Like.refl _
    | 2, _ => exact Like.refl _
    | 3, _ => exact Like.refl _
    | 4, _ => exact Like.refl _
    | 5, _ => exact Like.refl _
    | 6, _ => exact Like.refl _
    | 7, _ => exact Like.refl _
    | j + 8, h => exact absurd (show j + 8 < 8 from h) (by omega)
  · intro j hj
    match j, hj with
    | 0, _ => exact (by decide : (0 : Int) ≤ 210 ∧ (210 : Int) < 256)
    | 1, _ => exact (by decide : (0 : Int) ≤ 1 ∧ (1 : Int) < 256)
    | 2, _ => exact (by decide : (0 : Int) ≤ 0 ∧ (0 : Int) < 256)
    | 3, _ => exact (by decide : (0 : Int) ≤ 0 ∧ (0 : Int) < 256)
    | 4, _ => exact (by decide : (0 : Int) ≤ 0 ∧ (0 : Int) < 256)
    | 5, _ => exact (by decide : (0 : Int) ≤ 1 ∧ (1 : Int) < 256)
    | 6, _ => exact (by decide : (0 : Int) ≤ 0 ∧ (0 : Int) < 256)
    | 7, _ => exact (by decide : (0 : Int) ≤ 0 ∧ (0 : Int) < 256)
    | j + 8, h => exact absurd (show j + 8 < 8 from h) (by omega)
set_option maxRecDepth 100000 in
theorem entMulU : ∀ args w, (callFunc 129 args).run Tryz.prog w = .ok (.enter 129 args) w := ent_of (f := 129) (P := Tryz.prog) rfl rfl rfl
noncomputable def conMulU : ConP Tryz.prog Fe := mkP 129 entMulU [3] (fun a b c => ptV (mlu a b c)) fun a b c => (Runs.of (SGm_ok _ _) rfl (mluV a b c) (mluG_ok a b c) rfl rfl).as rfl fun ρ => by show LV.tr ρ (ptV (mulF (a, b, c) 8 uBytes)) = LV.tr ρ (ptV (mlu a b c)); rw [mlu_eq]
def fcj (x : Fe) : Fe := qcj x
noncomputable def conFConj : ConP Tryz.prog Fe := mkP 128 entQCj [1] (fun x => .agg [.abs (fcj x)]) fun x => .up (QCj_runs x.1 x.2) rfl (fun _ => rfl) (fun _ => rfl)
def psiF (a b c : Fe) : Pt := (fmul (fcj a) fPsx, fmul (fcj b) fPsy, fcj c)
set_option maxRecDepth 100000 in
theorem entPsi : ∀ args w, (callFunc 90 args).run Tryz.prog w = .ok (.enter 90 args) w := ent_of (f := 90) (P := Tryz.prog) rfl rfl rfl
set_option maxRecDepth 100000 in
def psiV_G (a b c : Fe) : Prop := true = true
set_option maxRecDepth 100000 in
theorem psiV (a b c : Fe) : (callF Tryz.prog (SGb noD [conFConj, conText]) 60 90 [bF [a, b, c]] []).map (fun r => (r.1, r.2.2)) = some (ptV (psiF a b c), some (psiV_G a b c)) := by kernel_rfl
set_option maxRecDepth 100000 in
theorem psiV_ok (a b c : Fe) : condOk (some (psiV_G a b c)) := by unfold psiV_G condOk; and_intros <;> rfl
noncomputable def conPsi : ConP Tryz.prog Fe := mkP 90 entPsi [3] (fun a b c => ptV (psiF a b c)) fun a b c => .of (SGa_ok _ _) rfl (psiV a b c) (psiV_ok a b c) rfl rfl
set_option maxRecDepth 100000 in
theorem entGMulU : ∀ args w, (callFunc 91 args).run Tryz.prog w = .ok (.enter 91 args) w := ent_of (f := 91) (P := Tryz.prog) rfl rfl rfl
set_option maxRecDepth 100000 in
def gmuV_G (a b c : Fe) : Prop := true = true
set_option maxRecDepth 100000 in
theorem gmuV (a b c : Fe) : (callF Tryz.prog (SGb noD [conMulU]) 60 91 [bF [a, b, c]] []).map (fun r => (r.1, r.2.2)) = some (ptV (mlu a b c), some (gmuV_G a b c)) := by kernel_rfl
set_option maxRecDepth 100000 in
theorem gmuV_ok (a b c : Fe) : condOk (some (gmuV_G a b c)) := by unfold gmuV_G condOk; and_intros <;> rfl
noncomputable def conGMulU : ConP Tryz.prog Fe := mkP 91 entGMulU [3] (fun a b c => ptV (mlu a b c)) fun a b c => .of (SGa_ok _ _) rfl (gmuV a b c) (gmuV_ok a b c) rfl rfl
noncomputable def igF (a b c : Fe) : Bool := ceqF (psiF a b c) (negF ((mlu a b c).1, (mlu a b c).2.1, (mlu a b c).2.2))
noncomputable def inGrpF (p : Pt) : Bool := bif isz p.2.2 then true else igF p.1 p.2.1 p.2.2
set_option maxRecDepth 100000 in
theorem entInGrp : ∀ args w, (callFunc 45 args).run Tryz.prog w = .ok (.enter 45 args) w := ent_of (f := 45) (P := Tryz.prog) rfl rfl rfl
set_option maxRecDepth 100000 in
def ig1V_G (a b c : Fe) : Prop := isz c = true
set_option maxRecDepth 100000 in
theorem ig1V (a b c : Fe) : (callF Tryz.prog (SGb (dci 45 [(1, 1, true)]) [conPsi, conGMulU]) 60 45 [bF [a, b, c]] []).map (fun r => (r.1, r.2.2)) = some (.bool true, some (ig1V_G a b c)) := by kernel_rfl
set_option maxRecDepth 100000 in
def ig2V_G (a b c : Fe) : Prop := isz c = false
set_option maxRecDepth 100000 in
theorem ig2V (a b c : Fe) : (callF Tryz.prog (SGb (dci 45 [(1, 1, false)]) [conPsi, conGMulU]) 60 45 [bF [a, b, c]] []).map (fun r => (r.1, r.2.2)) = some (.bool (igF a b c), some (ig2V_G a b c)) := by kernel_rfl
theorem inGrp_t {p : Pt} (h : isz p.2.2 = true) : inGrpF p = true := by unfold inGrpF; rw [h, cond_true]
theorem inGrp_f {p : Pt} (h : isz p.2.2 = false) : inGrpF p = igF p.1 p.2.1 p.2.2 := by unfold inGrpF; rw [h, cond_false]
theorem ig_runs (a b c : Fe) : Runs 45 [bF [a, b, c]] (.bool (inGrpF (a, b, c))) := by
  cases h : isz c with
  | true =>
    rw [inGrp_t (p := (a, b, c)) h]
    exact .of (SGa_ok _ _) rfl (ig1V a b c) (by unfold condOk ig1V_G; and_intros <;> first | with_reducible rfl | assumption) rfl rfl
  | false =>
    rw [inGrp_f (p := (a, b, c)) h]
    exact .of (SGa_ok _ _) rfl (ig2V a b c) (by unfold condOk ig2V_G; and_intros <;> first | with_reducible rfl | assumption) rfl rfl
noncomputable def conInGrp : ConP Tryz.prog Fe := mkP 45 entInGrp [3] (fun a b c => .bool (inGrpF (a, b, c))) ig_runs
end Go.Proofs.YtonmjdnkcngfjaaGreat.En2

/- DERIVED. The group's order in bytes, as a contract. -/
set_option linter.all false
namespace Go.Proofs.YtonmjdnkcngfjaaGreat.En2
open Go Go.RowKit Go.Proofs.YtonmjdnkcngfjaaGreat.En

def ordL : List Int := [0, 0, 0, 0, 0, 0, 0, 0, 0, 0, 0, 0, 0, 0, 0, 0, 115, 237, 167, 83, 41, 157, 125, 72, 51, 57, 216, 8, 9, 161, 216, 5, 83, 189, 164, 2, 255, 254, 91, 254, 255, 255, 255, 255, 0, 0, 0, 1]
def ordU : List (LV Fe) := ordL.map fun x => .int .u8 x
abbrev rNV : LV Fe := .agg [.int .u64 18446744069414584321, .int .u64 6034159408538082302, .int .u64 3691218898639771653, .int .u64 8353516859464449352, .int .u64 0, .int .u64 0]
set_option maxRecDepth 100000 in
theorem entRR : ∀ args w, (callFunc 95 args).run Tryz.prog w = .ok (.enter 95 args) w := ent_of (f := 95) (P := Tryz.prog) rfl rfl rfl
set_option maxRecDepth 100000 in
theorem entRBy : ∀ args w, (callFunc 94 args).run Tryz.prog w = .ok (.enter 94 args) w := ent_of (f := 94) (P := Tryz.prog) rfl rfl rfl
set_option maxRecDepth 100000 in
theorem entOrd : ∀ args w, (callFunc 49 args).run Tryz.prog w = .ok (.enter 49 args) w := ent_of (f := 49) (P := Tryz.prog) rfl rfl rfl
set_option maxRecDepth 100000 in
def rrV_G  : Prop := true = true
set_option maxRecDepth 100000 in
theorem rrV  : (callF Tryz.prog (SGa noD []) 300 95 [] []).map (fun r => (r.1, r.2.2)) = some (rNV, some (rrV_G )) := by kernel_rfl
set_option maxRecDepth 100000 in
theorem rrV_ok  : condOk (some (rrV_G )) := by unfold rrV_G condOk; and_intros <;> rfl
noncomputable def conRR : ConP Tryz.prog Fe := mk0 95 entRR rNV (.of (SGa_ok _ _) rfl rrV rrV_ok rfl rfl)
set_option maxRecDepth 100000 in
def rbV_G  : Prop := (true = true ∧ true = true ∧ true = true ∧ true = true ∧ true = true ∧ true = true) ∧ (true = true ∧ true = true ∧ true = true ∧ true = true ∧ true = true ∧ true = true) ∧ (true = true ∧ true = true ∧ true = true ∧ true = true ∧ true = true ∧ true = true) ∧ (true = true ∧ true = true ∧ true = true ∧ true = true ∧ true = true ∧ true = true) ∧ (true = true ∧ true = true ∧ true = true ∧ true = true ∧ true = true ∧ true = true) ∧ (true = true ∧ true = true ∧ true = true ∧ true = true ∧ true = true ∧ true = true) ∧ (true = true ∧ true = true ∧ true = true ∧ true = true ∧ true = true ∧ true = true) ∧ (true = true ∧ true = true ∧ true = true ∧ true = true ∧ true = true ∧ true = true) ∧ (true = true ∧ true = true ∧ true = true ∧ true = true ∧ true = true ∧ true = true) ∧ (true = true ∧ true = true ∧ true = true ∧ true = true ∧ true = true ∧ true = true) ∧ (true = true ∧ true = true ∧ true = true ∧ true = true ∧ true = true ∧ true = true) ∧ (true = true ∧ true = true ∧ true = true ∧ true = true ∧ true = true ∧ true = true) ∧ (true = true ∧ true = true ∧ true = true ∧ true = true ∧ true = true ∧ true = true) ∧ (true = true ∧ true = true ∧ true = true ∧ true = true ∧ true = true ∧ true = true) ∧ (true = true ∧ true = true ∧ true = true ∧ true = true ∧ true = true ∧ true = true) ∧ (true = true ∧ true = true ∧ true = true ∧ true = true ∧ true = true ∧ true = true) ∧ (true = true ∧ true = true ∧ true = true ∧ true = true ∧ true = true ∧ true = true) ∧ (true = true ∧ true = true ∧ true = true ∧ true = true ∧ true = true ∧ true = true) ∧ (true = true ∧ true = true ∧ true = true ∧ true = true ∧ true = true ∧ true = true) ∧ (true = true ∧ true = true ∧ true = true ∧ true = true ∧ true = true ∧ true = true) ∧ (true = true ∧ true = true ∧ true = true ∧ true = true ∧ true = true ∧ true = true) ∧ (true = true ∧ true = true ∧ true = true ∧ true = true ∧ true = true ∧ true = true) ∧ (true = true ∧ true = true ∧ true = true ∧ true = true ∧ true = true ∧ true = true) ∧ (true = true ∧ true = true ∧ true = true ∧ true = true ∧ true = true ∧ true = true) ∧ (true = true ∧ true = true ∧ true = true ∧ true = true ∧ true = true ∧ true = true) ∧ (true = true ∧ true = true ∧ true = true ∧ true = true ∧ true = true ∧ true = true) ∧ (true = true ∧ true = true ∧ true = true ∧ true = true ∧ true = true ∧ true = true) ∧ (true = true ∧ true = true ∧ true = true ∧ true = true ∧ true = true ∧ true = true) ∧ (true = true ∧ true = true ∧ true = true ∧ true = true ∧ true = true ∧ true = true) ∧ (true = true ∧ true = true ∧ true = true ∧ true = true ∧ true = true ∧ true = true) ∧ (true = true ∧ true = true ∧ true = true ∧ true = true ∧ true = true ∧ true = true) ∧ (true = true ∧ true = true ∧ true = true ∧ true = true ∧ true = true ∧ true = true) ∧ (true = true ∧ true = true ∧ true = true ∧ true = true ∧ true = true ∧ true = true) ∧ (true = true ∧ true = true ∧ true = true ∧ true = true ∧ true = true ∧ true = true) ∧ (true = true ∧ true = true ∧ true = true ∧ true = true ∧ true = true ∧ true = true) ∧ (true = true ∧ true = true ∧ true = true ∧ true = true ∧ true = true ∧ true = true) ∧ (true = true ∧ true = true ∧ true = true ∧ true = true ∧ true = true ∧ true = true) ∧ (true = true ∧ true = true ∧ true = true ∧ true = true ∧ true = true ∧ true = true) ∧ (true = true ∧ true = true ∧ true = true ∧ true = true ∧ true = true ∧ true = true) ∧ (true = true ∧ true = true ∧ true = true ∧ true = true ∧ true = true ∧ true = true) ∧ (true = true ∧ true = true ∧ true = true ∧ true = true ∧ true = true ∧ true = true) ∧ (true = true ∧ true = true ∧ true = true ∧ true = true ∧ true = true ∧ true = true) ∧ (true = true ∧ true = true ∧ true = true ∧ true = true ∧ true = true ∧ true = true) ∧ (true = true ∧ true = true ∧ true = true ∧ true = true ∧ true = true ∧ true = true) ∧ (true = true ∧ true = true ∧ true = true ∧ true = true ∧ true = true ∧ true = true) ∧ (true = true ∧ true = true ∧ true = true ∧ true = true ∧ true = true ∧ true = true) ∧ (true = true ∧ true = true ∧ true = true ∧ true = true ∧ true = true ∧ true = true) ∧ (true = true ∧ true = true ∧ true = true ∧ true = true ∧ true = true ∧ true = true) ∧ true = true
set_option maxRecDepth 100000 in
theorem rbV  : (callF Tryz.prog (SGa noD []) 300 94 [rNV] []).map (fun r => (r.1, r.2.2)) = some (.agg ordU, some (rbV_G )) := by kernel_rfl
set_option maxRecDepth 100000 in
theorem rbV_ok  : condOk (some (rbV_G )) := by unfold rbV_G condOk; and_intros <;> rfl
def rbFn : List (LV Fe) → Option (LV Fe)
  | [.agg [.int .u64 18446744069414584321, .int .u64 6034159408538082302, .int .u64 3691218898639771653, .int .u64 8353516859464449352, .int .u64 0, .int .u64 0]] => some (.agg ordU)
  | _ => none
theorem rbFn_runs {vs : List (LV Fe)} {v : LV Fe} (h : rbFn vs = some v) : Runs 94 vs v := by
  unfold rbFn at h
  split at h
  · cases h; exact .of (SGa_ok _ _) rfl rbV rbV_ok rfl rfl
  · cases h
noncomputable def conRBy : ConP Tryz.prog Fe := mkFn 94 entRBy rbFn rbFn_runs
set_option maxRecDepth 100000 in
def ordG_G  : Prop := true = true ∧ true = true
set_option maxRecDepth 100000 in
theorem ordG  : (callF Tryz.prog (SGa noD [conRR, conRBy]) 300 49 [] []).map (fun r => r.2.2) = some (some ((ordG_G ))) := by kernel_rfl
set_option maxRecDepth 100000 in
theorem ordV : callF Tryz.prog (SGa noD [conRR, conRBy]) 300 49 [] [] = some (.slice (.own 0) 0 [⟨16, 1, 0⟩] 32 32, [(⟨.rw, ordU⟩ : Blk Fe)].map some, some ordG_G) := by kernel_rfl
def ordC (I : Inp Fe) (vs : List (LV Fe)) (mem : Mem Fe) : Option (RdC Fe) := match vs with
  | [] => some ⟨[], [], [], .slice (.own 0) 0 [⟨16, 1, 0⟩] 32 32, [⟨.rw, ordU⟩], true = true⟩
  | _ => none
theorem inOf_nil : (inOf [] : Inp Fe) = noIF := by
  funext t i
  cases t with
  | zero => cases i <;> rfl
  | succ t => rfl
theorem ord_ok : ∀ I vs mem r, ordC I vs mem = some r → r.c → RdOk Tryz.prog 49 I vs mem r := by
  intro I vs mem r h hc
  unfold ordC at h
  split at h
  · cases h
    exact {
      args := rfl
      fit := trivial
      len := rfl
      blk := fun j k us hk hus => by simp at hk
      told := told_of (SGa_ok _ _) mixed inOf_nil.symm ordV (by unfold ordG_G condOk; and_intros <;> rfl)
      fitv := ownly_fit _ _ _ _ ⟨0, rfl⟩
      fitb := fun b hb => by
        rw [List.mem_singleton] at hb
        subst hb
        exact ⟨(plainL_ren _ _ _ (plain_ints .u8 ordL)).2, rfl⟩ }
  · cases h
noncomputable def conOrd : ConC Tryz.prog Fe := conRd 49 entOrd ordC ord_ok
end Go.Proofs.YtonmjdnkcngfjaaGreat.En2

/- DERIVED. Calls of a group and a slice, walked when they are met. -/
set_option linter.all false
namespace Go.Proofs.YtonmjdnkcngfjaaGreat.En2
open Go Go.RowKit Go.Proofs.YtonmjdnkcngfjaaGreat.En

/-- A contract of a call that reads, in regions whose loads hang on no order too. -/
noncomputable def conRdT (f : FuncId) (ent : ∀ args w, (callFunc f args).run Tryz.prog w = .ok (.enter f args) w) (fn : Inp Fe → List (LV Fe) → Mem Fe → Option (RdC Fe))
    (ok : ∀ I vs mem r, fn I vs mem = some r → r.c → RdOk Tryz.prog f I vs mem r) : ConC Tryz.prog Fe :=
  { conRd f ent fn ok with
    tc := fun _ _ _ => some []
    keep := fun I vs mem v mem' c l h _ k hk _ => by
      simp only [conRd] at h
      split at h
      · cases h
        rw [List.getElem?_append_left hk]
      · cases h }
theorem told_walk {S : Sig Fe} {us0 : List (LV Fe)} (hS : SigOk Tryz.prog S) (hI : S.inp = inOf [us0]) (hp : plainL us0) {n : Nat} {f : FuncId} {args : List (LV Fe)} {v : LV Fe} {c : Cnd}
    (h : (callF Tryz.prog S n f args []).map (fun r => (r.1, r.2.2)) = some (v, c)) (hc : condOk c) (hv : plainB v = true) : En.Told Tryz.prog f [us0] args v [] := by
  refine told_below hv fun ρ w ha => ?_
  have hk : ∀ t i, kinL (okKey ([] : Mem Fe) ρ) (S.inp t i) := fun t i => by
    rw [hI]
    cases t with
    | succ t => trivial
    | zero => cases i with
      | zero => exact plainL_kin _ _ hp
      | succ i => trivial
  exact calls_top hS mixed h hc (by rw [hI]; exact ha.mem) ha.kinV hk fun ρ ρ' => pv_tr v hv ρ' ρ
/-- What such a call comes to. -/
noncomputable def walkC (mk : Inp Fe → Sig Fe) (f : FuncId) (us : List (LV Fe)) (args : List (LV Fe)) : Option (LV Fe × Cnd) := match callF Tryz.prog (mk (inOf [us])) 60 f args [] with
  | some (v, _, c) => match plainB v with
    | true => some (v, c)
    | false => none
  | none => none
theorem walk_told {mk : Inp Fe → Sig Fe} (hm : ∀ I, InpOk I → SigOk Tryz.prog (mk I)) (hi : ∀ I, (mk I).inp = I) {f : FuncId} {us args : List (LV Fe)} {v : LV Fe} {c : Cnd} (h : walkC mk f us args = some (v, c)) (hc : condOk c) (hp : plainL us) : plainB v = true ∧ En.Told Tryz.prog f [us] args v [] := by
  unfold walkC at h
  split at h
  · rename_i v' m c' hr
    split at h
    · rename_i hv
      cases h
      exact ⟨hv, told_walk (hm _ (inOf1_ok hp)) (hi _) hp (by rw [hr]; rfl) hc hv⟩
    · cases h
  · cases h
noncomputable def gsW (mk : Inp Fe → Sig Fe) (f : FuncId) (I : Inp Fe) (vs : List (LV Fe)) (mem : Mem Fe) : Option (RdC Fe) := match vs with
  | [u, x] => match pA [3] [u] with
    | some [[_, _, _]] => match x with
      | .nils => match walkC mk f [] [u, .nils] with
        | some (v, c) => some ⟨[], [], [u, .nils], v, [], condOk c⟩
        | none => none
      | .vec k n => match bysOf I mem k with
        | some y => match walkC mk f y.us [u, .vec (.inp 0 0) n] with
          | some (v, c) => some ⟨[y.us], [k], [u, .vec (.inp 0 0) n], v, [], y.c ∧ condOk c⟩
          | none => none
        | none => none
      | .slice k o q len cap => match bysOf I mem k with
        | some y => match walkC mk f y.us [u, .slice (.inp 0 0) o q len cap] with
          | some (v, c) => some ⟨[y.us], [k], [u, .slice (.inp 0 0) o q len cap], v, [], y.c ∧ condOk c⟩
          | none => none
        | none => none
      | _ => none
    | _ => none
  | _ => none
theorem gsW_ok {mk : Inp Fe → Sig Fe} (hm : ∀ I, InpOk I → SigOk Tryz.prog (mk I)) (hi : ∀ I, (mk I).inp = I) {f : FuncId} : ∀ I vs mem r, gsW mk f I vs mem = some r → r.c → RdOk Tryz.prog f I vs mem r := by
  intro I vs mem r h hc
  unfold gsW at h
  split at h
  · rename_i u x
    split at h
    · rename_i hu
      have hpu := pA_plain _ _ _ hu
      split at h
      · split at h
        · rename_i v c hw
          cases h
          obtain ⟨hv, ht⟩ := walk_told hm hi hw hc (show plainL ([] : List (LV Fe)) from trivial)
          have e : inOf (A := Fe) [[]] = inOf [] := by
            funext t i
            cases t with
            | zero => cases i <;> rfl
            | succ t => rfl
          unfold En.Told at ht
          rw [e] at ht
          exact {
            args := by
              show [u.ren _, _] = [u, _]
              rw [(plain_ren _ (fun _ => True) u hpu.1).1]; rfl
            fit := ⟨(plain_ren _ _ u hpu.1).2, trivial, trivial⟩
            len := rfl
            blk := fun j k us hk hus => by simp at hk
            told := ht
            fitv := (plain_ren _ _ _ (pv_plain _ hv)).2
            fitb := fun b hb => absurd hb List.not_mem_nil }
        · cases h
      · rename_i k n
        split at h
        · rename_i y hy
          split at h
          · rename_i v c hw
            cases h
            obtain ⟨_, _, _, hpl, _, _⟩ := bysOf_ok hy hc.1
            obtain ⟨hv, ht⟩ := walk_told hm hi hw hc.2 hpl
            exact rdOk_gs hpu (pv_plain _ hv) ⟨rfl, ⟨fun e => by simp [keyMap, ιOf] at e, trivial⟩⟩ hy hc.1 ht
          · cases h
        · cases h
      · rename_i k o q len cap
        split at h
        · rename_i y hy
          split at h
          · rename_i v c hw
            cases h
            obtain ⟨_, _, _, hpl, _, _⟩ := bysOf_ok hy hc.1
            obtain ⟨hv, ht⟩ := walk_told hm hi hw hc.2 hpl
            exact rdOk_gs hpu (pv_plain _ hv) ⟨rfl, ⟨by simp [keyMap, ιOf], trivial⟩⟩ hy hc.1 ht
          · cases h
        · cases h
      · cases h
    · cases h
  · cases h
noncomputable abbrev SGw (I : Inp Fe) : Sig Fe := sigOf (P := Tryz.prog) ([conFAdd, conFSub, conFMul, conFSquare, conFNeg, conFIsZero, conFEqual, conTwice] ++ (psG ++ psH)) [] [conCMul] (I := I) [] msF (advP noD [62] [])
theorem SGw_ok (I : Inp Fe) (h : InpOk I) : SigOk Tryz.prog (SGw I) := sigOf_ok _ [] [conCMul] [] msF_ok _ h
set_option maxRecDepth 100000 in
theorem entGMul : ∀ args w, (callFunc 21 args).run Tryz.prog w = .ok (.enter 21 args) w := ent_of (f := 21) (P := Tryz.prog) rfl rfl rfl
noncomputable def conGMul : ConC Tryz.prog Fe := conRdT 21 entGMul (gsW SGw 21) (gsW_ok SGw_ok fun _ => rfl)
noncomputable def conOrdT : ConC Tryz.prog Fe := conRdT 49 entOrd ordC ord_ok
end Go.Proofs.YtonmjdnkcngfjaaGreat.En2

/- DERIVED. What becomes of the generator, on numbers. -/
set_option linter.all false
namespace Go.Proofs.YtonmjdnkcngfjaaGreat.En2
open Go Go.RowKit Go.Proofs.YtonmjdnkcngfjaaGreat.En

theorem kn_same : sameF genF rgenQ = true := by decide +kernel
theorem kn_ord : isz (mulF genF 32 fun j => ordL.getD (16 + j) 0).2.2 = true := by decide +kernel
theorem kn_nine : isz (mulF genF 1 fun j => ([9] : List Int).getD j 0).2.2 = false := by decide +kernel
theorem kn_dbl : ceqF (paddF genF genF) (dblF genF) = true := by decide +kernel
theorem kn_neg : isz (paddF genF (negF genF)).2.2 = true := by decide +kernel
theorem kn_ig : inGrpF genF = true := by
  unfold inGrpF igF
  simp only [mlu_eq]
  decide +kernel
end Go.Proofs.YtonmjdnkcngfjaaGreat.En2

/- DERIVED. What becomes of the generator: the program's own test of it. -/
set_option linter.all false
namespace Go.Proofs.YtonmjdnkcngfjaaGreat.En2
open Go Go.RowKit Go.Proofs.YtonmjdnkcngfjaaGreat.En

noncomputable abbrev SGk (A : Adv) (ps : List (ConP Tryz.prog Fe)) : Sig Fe := sigOf (P := Tryz.prog) ([conFAdd, conFSub, conFMul, conFSquare, conFNeg, conFIsZero, conFEqual, conTwice] ++ (psG ++ (psH ++ ps))) [] [conGMul, conOrdT] (I := noIF) [] msF A
theorem SGk_ok (A : Adv) (ps : List (ConP Tryz.prog Fe)) : SigOk Tryz.prog (SGk A ps) := sigOf_ok _ [] [conGMul, conOrdT] [] msF_ok _ noIF_ok
set_option maxRecDepth 100000 in
theorem entInfty : ∀ args w, (callFunc 36 args).run Tryz.prog w = .ok (.enter 36 args) w := ent_of (f := 36) (P := Tryz.prog) rfl rfl rfl
set_option maxRecDepth 100000 in
def iftV_G  : Prop := true = true
set_option maxRecDepth 100000 in
theorem iftV  : (callF Tryz.prog (SGa noD []) 60 36 [] []).map (fun r => (r.1, r.2.2)) = some (.agg zB, some (iftV_G )) := by kernel_rfl
set_option maxRecDepth 100000 in
theorem iftV_ok  : condOk (some (iftV_G )) := by unfold iftV_G condOk; and_intros <;> rfl
noncomputable def conInfty : ConP Tryz.prog Fe := mk0 36 entInfty (.agg zB) (.of (SGa_ok _ _) rfl iftV iftV_ok rfl rfl)
/-- The generators, not opened. -/
noncomputable def conGenV (p : Pt) (h : p = genF) : ConP Tryz.prog Fe := mk0 20 entGen (ptV p) (by subst h; exact .of (SGa_ok _ _) rfl genV genV_ok rfl rfl)
def rgnW (r : Pt) : List (LV Fe) → Option (LV Fe)
  | [.bool true] => some (ptV r)
  | _ => none
theorem rgnW_runs {r : Pt} (hr : r = rgenQ) {vs : List (LV Fe)} {v : LV Fe} (h : rgnW r vs = some v) : Runs 48 vs v := by
  unfold rgnW at h
  split at h
  · cases h; subst hr; exact .up rgq_runs rfl (fun _ => rfl) (fun ρ => cV_tr rgenQ ρ)
  · cases h
noncomputable def conRGenV (r : Pt) (h : r = rgenQ) : ConP Tryz.prog Fe := mkFn 48 entRGen (rgnW r) (rgnW_runs h)
noncomputable abbrev psK {a b c d e f : Fe} (h1 : (a, b, c) = genF) (h2 : (d, e, f) = rgenQ) : List (ConP Tryz.prog Fe) := [conGenV _ h1, conRGenV _ h2, conSame, conInGrp, conGEqual, conGAdd, conGNeg, conGInf, conGDouble, conInfty]
noncomputable abbrev advK : Adv := advP (dci 10 [(3, 2, true), (3, 5, true), (3, 11, true), (3, 17, false), (3, 22, true), (3, 27, true), (3, 35, true), (3, 42, true)]) [21, 49] [(10, 3)]
set_option maxRecDepth 100000 in
theorem entKnown : ∀ args w, (callFunc 10 args).run Tryz.prog w = .ok (.enter 10 args) w := ent_of (f := 10) (P := Tryz.prog) rfl rfl rfl

/-- The one byte 9, as the slice's block has it. -/
def g9 (j : Nat) : List (LV Fe) := List.getD (List.set (List.replicate 1 (units (LV.int .u8 0))) 0 (units (LV.int .u8 9))) j []
def n9 (j : Nat) : Int := En.byteOf (g9 j)
def knP (a b c d e f : Fe) : Prop := true = true ∧ sameF (a, b, c) (d, e, f) = true ∧ inGrpF (a, b, c) = true ∧ true = true ∧
  (true = true ∧ ((true = true ∧ 48 ≤ 48 ∧ rngB (fun j => ordL.getD j 0) 16 32 ∧ 256 ≤ 140737488351232) ∧ true = true)) ∧ isz (mulF (a, b, c) 32 fun j => ordL.getD (16 + j) 0).2.2 = true ∧
  ((∀ j, j < 1 → Like (g9 j) [.int .u8 (n9 j)]) ∧ (((∀ j, j < 1 → Like (A := Fe) [.int .u8 (n9 j)] [.int .u8 (n9 j)]) ∧ 1 = 1 ∧ rngB n9 0 1 ∧ 8 ≤ 140737488351232) ∧ true = true)) ∧ isz (mulF (a, b, c) 1 n9).2.2 = false ∧
  true = true ∧ true = true ∧ ceqF ((paddF (a, b, c) (a, b, c)).1, (paddF (a, b, c) (a, b, c)).2.1, (paddF (a, b, c) (a, b, c)).2.2) ((dblF (a, b, c)).1, (dblF (a, b, c)).2.1, (dblF (a, b, c)).2.2) = true ∧
  isz (paddF (a, b, c) ((negF (a, b, c)).1, (negF (a, b, c)).2.1, (negF (a, b, c)).2.2)).2.2 = true
set_option maxRecDepth 100000 in
theorem knV (a b c d e f : Fe) (h1 : (a, b, c) = genF) (h2 : (d, e, f) = rgenQ) : (callF Tryz.prog (SGk advK (psK h1 h2)) 60 10 [] []).map (fun r => (r.1, r.2.2)) = some (.bool true, some (knP a b c d e f)) := by kernel_rfl
theorem knP_ok {a b c d e f : Fe} (h1 : (a, b, c) = genF) (h2 : (d, e, f) = rgenQ) : knP a b c d e f := by
  unfold knP
  refine ⟨rfl, ?_, ?_, rfl, ⟨rfl, ⟨rfl, Nat.le_refl _, ?_, by decide⟩, rfl⟩, ?_, ⟨fun j hj => ?_, ⟨fun _ _ => Like.refl _, rfl, ?_, by decide⟩, rfl⟩, ?_, rfl, rfl, ?_, ?_⟩
  · rw [h1, h2]; exact kn_same
  · rw [h1]; exact kn_ig
  · intro j hj; revert j; unfold ordL; decide +kernel
  · rw [h1]; exact kn_ord
  · have : j = 0 := by omega
    subst this
    exact Like.refl _
  · intro j hj
    have : j = 0 := by omega
    subst this
    exact ⟨by decide, by decide⟩
  · rw [h1]; decide +kernel
  · have e := kn_dbl
    rw [← h1] at e
    exact e
  · have e := kn_neg
    rw [← h1] at e
    exact e
noncomputable def conKnown : ConP Tryz.prog Fe := mk0 10 entKnown (.bool true) (.of (SGk_ok _ _) rfl (knV genF.1 genF.2.1 genF.2.2 rgenQ.1 rgenQ.2.1 rgenQ.2.2 rfl rfl) (knP_ok rfl rfl) rfl rfl)
end Go.Proofs.YtonmjdnkcngfjaaGreat.En2

/- DERIVED. The group's order in bytes, as a contract. -/
set_option linter.all false
namespace Go.Proofs.YtonmjdnkcngfjaaGreat.En
open Go Go.RowKit

def ordL : List Int := [0, 0, 0, 0, 0, 0, 0, 0, 0, 0, 0, 0, 0, 0, 0, 0, 115, 237, 167, 83, 41, 157, 125, 72, 51, 57, 216, 8, 9, 161, 216, 5, 83, 189, 164, 2, 255, 254, 91, 254, 255, 255, 255, 255, 0, 0, 0, 1]
def ordU : List (LV Fe) := ordL.map fun x => .int .u8 x
abbrev rNV : LV Fe := .agg [.int .u64 18446744069414584321, .int .u64 6034159408538082302, .int .u64 3691218898639771653, .int .u64 8353516859464449352, .int .u64 0, .int .u64 0]
set_option maxRecDepth 100000 in
theorem entRR : ∀ args w, (callFunc 95 args).run Tryz.prog w = .ok (.enter 95 args) w := ent_of (f := 95) (P := Tryz.prog) rfl rfl rfl
set_option maxRecDepth 100000 in
theorem entRBy : ∀ args w, (callFunc 94 args).run Tryz.prog w = .ok (.enter 94 args) w := ent_of (f := 94) (P := Tryz.prog) rfl rfl rfl
set_option maxRecDepth 100000 in
theorem entOrd : ∀ args w, (callFunc 49 args).run Tryz.prog w = .ok (.enter 49 args) w := ent_of (f := 49) (P := Tryz.prog) rfl rfl rfl
set_option maxRecDepth 100000 in
def rrV_G  : Prop := true = true
set_option maxRecDepth 100000 in
theorem rrV  : (callF Tryz.prog (SGa noD []) 300 95 [] []).map (fun r => (r.1, r.2.2)) = some (rNV, some (rrV_G )) := by kernel_rfl
set_option maxRecDepth 100000 in
theorem rrV_ok  : condOk (some (rrV_G )) := by unfold rrV_G condOk; and_intros <;> rfl
noncomputable def conRR : ConP Tryz.prog Fe := mk0 95 entRR rNV (.of (SGa_ok _ _) rfl rrV rrV_ok rfl rfl)
set_option maxRecDepth 100000 in
def rbV_G  : Prop := (true = true ∧ true = true ∧ true = true ∧ true = true ∧ true = true ∧ true = true) ∧ (true = true ∧ true = true ∧ true = true ∧ true = true ∧ true = true ∧ true = true) ∧ (true = true ∧ true = true ∧ true = true ∧ true = true ∧ true = true ∧ true = true) ∧ (true = true ∧ true = true ∧ true = true ∧ true = true ∧ true = true ∧ true = true) ∧ (true = true ∧ true = true ∧ true = true ∧ true = true ∧ true = true ∧ true = true) ∧ (true = true ∧ true = true ∧ true = true ∧ true = true ∧ true = true ∧ true = true) ∧ (true = true ∧ true = true ∧ true = true ∧ true = true ∧ true = true ∧ true = true) ∧ (true = true ∧ true = true ∧ true = true ∧ true = true ∧ true = true ∧ true = true) ∧ (true = true ∧ true = true ∧ true = true ∧ true = true ∧ true = true ∧ true = true) ∧ (true = true ∧ true = true ∧ true = true ∧ true = true ∧ true = true ∧ true = true) ∧ (true = true ∧ true = true ∧ true = true ∧ true = true ∧ true = true ∧ true = true) ∧ (true = true ∧ true = true ∧ true = true ∧ true = true ∧ true = true ∧ true = true) ∧ (true = true ∧ true = true ∧ true = true ∧ true = true ∧ true = true ∧ true = true) ∧ (true = true ∧ true = true ∧ true = true ∧ true = true ∧ true = true ∧ true = true) ∧ (true = true ∧ true = true ∧ true = true ∧ true = true ∧ true = true ∧ true = true) ∧ (true = true ∧ true = true ∧ true = true ∧ true = true ∧ true = true ∧ true = true) ∧ (true = true ∧ true = true ∧ true = true ∧ true = true ∧ true = true ∧ true = true) ∧ (true = true ∧ true = true ∧ true = true ∧ true = true ∧ true = true ∧ true = true) ∧ (true = true ∧ true = true ∧ true = true ∧ true = true ∧ true = true ∧ true = true) ∧ (true = true ∧ true = true ∧ true = true ∧ true = true ∧ true = true ∧ true = true) ∧ (true = true ∧ true = true ∧ true = true ∧ true = true ∧ true = true ∧ true = true) ∧ (true = true ∧ true = true ∧ true = true ∧ true = true ∧ true = true ∧ true = true) ∧ (true = true ∧ true = true ∧ true = true ∧ true = true ∧ true = true ∧ true = true) ∧ (true = true ∧ true = true ∧ true = true ∧ true = true ∧ true = true ∧ true = true) ∧ (true = true ∧ true = true ∧ true = true ∧ true = true ∧ true = true ∧ true = true) ∧ (true = true ∧ true = true ∧ true = true ∧ true = true ∧ true = true ∧ true = true) ∧ (true = true ∧ true = true ∧ true = true ∧ true = true ∧ true = true ∧ true = true) ∧ (true = true ∧ true = true ∧ true = true ∧ true = true ∧ true = true ∧ true = true) ∧ (true = true ∧ true = true ∧ true = true ∧ true = true ∧ true = true ∧ true = true) ∧ (true = true ∧ true = true ∧ true = true ∧ true = true ∧ true = true ∧ true = true) ∧ (true = true ∧ true = true ∧ true = true ∧ true = true ∧ true = true ∧ true = true) ∧ (true = true ∧ true = true ∧ true = true ∧ true = true ∧ true = true ∧ true = true) ∧ (true = true ∧ true = true ∧ true = true ∧ true = true ∧ true = true ∧ true = true) ∧ (true = true ∧ true = true ∧ true = true ∧ true = true ∧ true = true ∧ true = true) ∧ (true = true ∧ true = true ∧ true = true ∧ true = true ∧ true = true ∧ true = true) ∧ (true = true ∧ true = true ∧ true = true ∧ true = true ∧ true = true ∧ true = true) ∧ (true = true ∧ true = true ∧ true = true ∧ true = true ∧ true = true ∧ true = true) ∧ (true = true ∧ true = true ∧ true = true ∧ true = true ∧ true = true ∧ true = true) ∧ (true = true ∧ true = true ∧ true = true ∧ true = true ∧ true = true ∧ true = true) ∧ (true = true ∧ true = true ∧ true = true ∧ true = true ∧ true = true ∧ true = true) ∧ (true = true ∧ true = true ∧ true = true ∧ true = true ∧ true = true ∧ true = true) ∧ (true = true ∧ true = true ∧ true = true ∧ true = true ∧ true = true ∧ true = true) ∧ (true = true ∧ true = true ∧ true = true ∧ true = true ∧ true = true ∧ true = true) ∧ (true = true ∧ true = true ∧ true = true ∧ true = true ∧ true = true ∧ true = true) ∧ (true = true ∧ true = true ∧ true = true ∧ true = true ∧ true = true ∧ true = true) ∧ (true = true ∧ true = true ∧ true = true ∧ true = true ∧ true = true ∧ true = true) ∧ (true = true ∧ true = true ∧ true = true ∧ true = true ∧ true = true ∧ true = true) ∧ (true = true ∧ true = true ∧ true = true ∧ true = true ∧ true = true ∧ true = true) ∧ true = true
set_option maxRecDepth 100000 in
theorem rbV  : (callF Tryz.prog (SGa noD []) 300 94 [rNV] []).map (fun r => (r.1, r.2.2)) = some (.agg ordU, some (rbV_G )) := by kernel_rfl
set_option maxRecDepth 100000 in
theorem rbV_ok  : condOk (some (rbV_G )) := by unfold rbV_G condOk; and_intros <;> rfl
def rbFn : List (LV Fe) → Option (LV Fe)
  | [.agg [.int .u64 18446744069414584321, .int .u64 6034159408538082302, .int .u64 3691218898639771653, .int .u64 8353516859464449352, .int .u64 0, .int .u64 0]] => some (.agg ordU)
  | _ => none
theorem rbFn_runs {vs : List (LV Fe)} {v : LV Fe} (h : rbFn vs = some v) : Runs 94 vs v := by
  unfold rbFn at h
  split at h
  · cases h; exact .of (SGa_ok _ _) rfl rbV rbV_ok rfl rfl
  · cases h
noncomputable def conRBy : ConP Tryz.prog Fe := mkFn 94 entRBy rbFn rbFn_runs
set_option maxRecDepth 100000 in
def ordG_G  : Prop := true = true ∧ true = true
set_option maxRecDepth 100000 in
theorem ordG  : (callF Tryz.prog (SGa noD [conRR, conRBy]) 300 49 [] []).map (fun r => r.2.2) = some (some ((ordG_G ))) := by kernel_rfl
set_option maxRecDepth 100000 in
theorem ordV : callF Tryz.prog (SGa noD [conRR, conRBy]) 300 49 [] [] = some (.slice (.own 0) 0 [⟨16, 1, 0⟩] 32 32, [(⟨.rw, ordU⟩ : Blk Fe)].map some, some ordG_G) := by kernel_rfl
def ordC (I : Inp Fe) (vs : List (LV Fe)) (mem : Mem Fe) : Option (RdC Fe) := match vs with
  | [] => some ⟨[], [], [], .slice (.own 0) 0 [⟨16, 1, 0⟩] 32 32, [⟨.rw, ordU⟩], true = true⟩
  | _ => none
theorem inOf_nil : (inOf [] : Inp Fe) = noIF := by
  funext t i
  cases t with
  | zero => cases i <;> rfl
  | succ t => rfl
theorem ord_ok : ∀ I vs mem r, ordC I vs mem = some r → r.c → RdOk Tryz.prog 49 I vs mem r := by
  intro I vs mem r h hc
  unfold ordC at h
  split at h
  · cases h
    exact {
      args := rfl
      fit := trivial
      len := rfl
      blk := fun j k us hk hus => by simp at hk
      told := told_of (SGa_ok _ _) mixed inOf_nil.symm ordV (by unfold ordG_G condOk; and_intros <;> rfl)
      fitv := ownly_fit _ _ _ _ ⟨0, rfl⟩
      fitb := fun b hb => by
        rw [List.mem_singleton] at hb
        subst hb
        exact ⟨(plainL_ren _ _ _ (plain_ints .u8 ordL)).2, rfl⟩ }
  · cases h
noncomputable def conOrd : ConC Tryz.prog Fe := conRd 49 entOrd ordC ord_ok
end Go.Proofs.YtonmjdnkcngfjaaGreat.En

/- DERIVED. Calls of a group and a slice, walked when they are met. -/
set_option linter.all false
namespace Go.Proofs.YtonmjdnkcngfjaaGreat.En
open Go Go.RowKit

/-- A contract of a call that reads, in regions whose loads hang on no order too. -/
noncomputable def conRdT (f : FuncId) (ent : ∀ args w, (callFunc f args).run Tryz.prog w = .ok (.enter f args) w) (fn : Inp Fe → List (LV Fe) → Mem Fe → Option (RdC Fe))
    (ok : ∀ I vs mem r, fn I vs mem = some r → r.c → RdOk Tryz.prog f I vs mem r) : ConC Tryz.prog Fe :=
  { conRd f ent fn ok with
    tc := fun _ _ _ => some []
    keep := fun I vs mem v mem' c l h _ k hk _ => by
      simp only [conRd] at h
      split at h
      · cases h
        rw [List.getElem?_append_left hk]
      · cases h }
theorem told_walk {S : Sig Fe} {us0 : List (LV Fe)} (hS : SigOk Tryz.prog S) (hI : S.inp = inOf [us0]) (hp : plainL us0) {n : Nat} {f : FuncId} {args : List (LV Fe)} {v : LV Fe} {c : Cnd}
    (h : (callF Tryz.prog S n f args []).map (fun r => (r.1, r.2.2)) = some (v, c)) (hc : condOk c) (hv : plainB v = true) : Told Tryz.prog f [us0] args v [] := by
  refine told_below hv fun ρ w ha => ?_
  have hk : ∀ t i, kinL (okKey ([] : Mem Fe) ρ) (S.inp t i) := fun t i => by
    rw [hI]
    cases t with
    | succ t => trivial
    | zero => cases i with
      | zero => exact plainL_kin _ _ hp
      | succ i => trivial
  exact calls_top hS mixed h hc (by rw [hI]; exact ha.mem) ha.kinV hk fun ρ ρ' => pv_tr v hv ρ' ρ
/-- What such a call comes to. -/
noncomputable def walkC (mk : Inp Fe → Sig Fe) (f : FuncId) (us : List (LV Fe)) (args : List (LV Fe)) : Option (LV Fe × Cnd) := match callF Tryz.prog (mk (inOf [us])) 60 f args [] with
  | some (v, _, c) => match plainB v with
    | true => some (v, c)
    | false => none
  | none => none
theorem walk_told {mk : Inp Fe → Sig Fe} (hm : ∀ I, InpOk I → SigOk Tryz.prog (mk I)) (hi : ∀ I, (mk I).inp = I) {f : FuncId} {us args : List (LV Fe)} {v : LV Fe} {c : Cnd} (h : walkC mk f us args = some (v, c)) (hc : condOk c) (hp : plainL us) : plainB v = true ∧ Told Tryz.prog f [us] args v [] := by
  unfold walkC at h
  split at h
  · rename_i v' m c' hr
    split at h
    · rename_i hv
      cases h
      exact ⟨hv, told_walk (hm _ (inOf1_ok hp)) (hi _) hp (by rw [hr]; rfl) hc hv⟩
    · cases h
  · cases h
noncomputable def gsW (mk : Inp Fe → Sig Fe) (f : FuncId) (I : Inp Fe) (vs : List (LV Fe)) (mem : Mem Fe) : Option (RdC Fe) := match vs with
  | [u, x] => match pA [3] [u] with
    | some [[_, _, _]] => match x with
      | .nils => match walkC mk f [] [u, .nils] with
        | some (v, c) => some ⟨[], [], [u, .nils], v, [], condOk c⟩
        | none => none
      | .vec k n => match bysOf I mem k with
        | some y => match walkC mk f y.us [u, .vec (.inp 0 0) n] with
          | some (v, c) => some ⟨[y.us], [k], [u, .vec (.inp 0 0) n], v, [], y.c ∧ condOk c⟩
          | none => none
        | none => none
      | .slice k o q len cap => match bysOf I mem k with
        | some y => match walkC mk f y.us [u, .slice (.inp 0 0) o q len cap] with
          | some (v, c) => some ⟨[y.us], [k], [u, .slice (.inp 0 0) o q len cap], v, [], y.c ∧ condOk c⟩
          | none => none
        | none => none
      | _ => none
    | _ => none
  | _ => none
theorem gsW_ok {mk : Inp Fe → Sig Fe} (hm : ∀ I, InpOk I → SigOk Tryz.prog (mk I)) (hi : ∀ I, (mk I).inp = I) {f : FuncId} : ∀ I vs mem r, gsW mk f I vs mem = some r → r.c → RdOk Tryz.prog f I vs mem r := by
  intro I vs mem r h hc
  unfold gsW at h
  split at h
  · rename_i u x
    split at h
    · rename_i hu
      have hpu := pA_plain _ _ _ hu
      split at h
      · split at h
        · rename_i v c hw
          cases h
          obtain ⟨hv, ht⟩ := walk_told hm hi hw hc (show plainL ([] : List (LV Fe)) from trivial)
          have e : inOf (A := Fe) [[]] = inOf [] := by
            funext t i
            cases t with
            | zero => cases i <;> rfl
            | succ t => rfl
          unfold Told at ht
          rw [e] at ht
          exact {
            args := by
              show [u.ren _, _] = [u, _]
              rw [(plain_ren _ (fun _ => True) u hpu.1).1]; rfl
            fit := ⟨(plain_ren _ _ u hpu.1).2, trivial, trivial⟩
            len := rfl
            blk := fun j k us hk hus => by simp at hk
            told := ht
            fitv := (plain_ren _ _ _ (pv_plain _ hv)).2
            fitb := fun b hb => absurd hb List.not_mem_nil }
        · cases h
      · rename_i k n
        split at h
        · rename_i y hy
          split at h
          · rename_i v c hw
            cases h
            obtain ⟨_, _, _, hpl, _, _⟩ := bysOf_ok hy hc.1
            obtain ⟨hv, ht⟩ := walk_told hm hi hw hc.2 hpl
            exact rdOk_gs hpu (pv_plain _ hv) ⟨rfl, ⟨fun e => by simp [keyMap, ιOf] at e, trivial⟩⟩ hy hc.1 ht
          · cases h
        · cases h
      · rename_i k o q len cap
        split at h
        · rename_i y hy
          split at h
          · rename_i v c hw
            cases h
            obtain ⟨_, _, _, hpl, _, _⟩ := bysOf_ok hy hc.1
            obtain ⟨hv, ht⟩ := walk_told hm hi hw hc.2 hpl
            exact rdOk_gs hpu (pv_plain _ hv) ⟨rfl, ⟨by simp [keyMap, ιOf], trivial⟩⟩ hy hc.1 ht
          · cases h
        · cases h
      · cases h
    · cases h
  · cases h
noncomputable def conOrdT : ConC Tryz.prog Fe := conRdT 49 entOrd ordC ord_ok
end Go.Proofs.YtonmjdnkcngfjaaGreat.En

/- DERIVED. A number of few bytes. -/
set_option linter.all false
namespace Go.Proofs.YtonmjdnkcngfjaaGreat.En
open Go Go.RowKit

noncomputable abbrev SFm (m : Nat) (g : Nat → Int) : Sig Fe := sigOf (P := Tryz.prog) [] [] [] (I := inOf [[.rows m 1 fun j => [.int .u8 (g j)]]]) [] noMs (advF noD)
def fwS (m : Nat) (g : Nat → Int) : Nat → Nat → Int
  | 0, _ => 0
  | i + 1, q => match Nat.beq ((m - 1 - i) / 8) q with
    | true => bits .or .u64 (fwS m g i q) (IntKind.u64.wrap (IntKind.u64.wrap (g i) * 2 ^ (8 * ((m - 1 - i) % 8))))
    | false => fwS m g i q
def fwC : Nat → Prop
  | 0 => true = true
  | m + 1 => (true = true ∧ true = true ∧ true = true ∧ true = true ∧ true = true ∧ true = true ∧ true = true ∧ true = true) ∧ fwC m
theorem fwC_ok : ∀ m, fwC m
  | 0 => rfl
  | m + 1 => ⟨⟨rfl, rfl, rfl, rfl, rfl, rfl, rfl, rfl⟩, fwC_ok m⟩
set_option maxRecDepth 100000 in
theorem fw0 (g : Nat → Int) : (callF Tryz.prog (SFm 0 g) 300 64 [.vec (.inp 0 0) 0] []).map (fun r => (r.1, r.2.2)) = some (.tup [limA (fwS 0 g 0), .bool true], some (fwC 0)) := by kernel_rfl
set_option maxRecDepth 100000 in
theorem fw1 (g : Nat → Int) : (callF Tryz.prog (SFm 1 g) 300 64 [.vec (.inp 0 0) 1] []).map (fun r => (r.1, r.2.2)) = some (.tup [limA (fwS 1 g 1), .bool true], some (fwC 1)) := by kernel_rfl
set_option maxRecDepth 100000 in
theorem fw2 (g : Nat → Int) : (callF Tryz.prog (SFm 2 g) 300 64 [.vec (.inp 0 0) 2] []).map (fun r => (r.1, r.2.2)) = some (.tup [limA (fwS 2 g 2), .bool true], some (fwC 2)) := by kernel_rfl
set_option maxRecDepth 100000 in
theorem fw3 (g : Nat → Int) : (callF Tryz.prog (SFm 3 g) 300 64 [.vec (.inp 0 0) 3] []).map (fun r => (r.1, r.2.2)) = some (.tup [limA (fwS 3 g 3), .bool true], some (fwC 3)) := by kernel_rfl
set_option maxRecDepth 100000 in
theorem fw4 (g : Nat → Int) : (callF Tryz.prog (SFm 4 g) 300 64 [.vec (.inp 0 0) 4] []).map (fun r => (r.1, r.2.2)) = some (.tup [limA (fwS 4 g 4), .bool true], some (fwC 4)) := by kernel_rfl
set_option maxRecDepth 100000 in
theorem fw5 (g : Nat → Int) : (callF Tryz.prog (SFm 5 g) 300 64 [.vec (.inp 0 0) 5] []).map (fun r => (r.1, r.2.2)) = some (.tup [limA (fwS 5 g 5), .bool true], some (fwC 5)) := by kernel_rfl
set_option maxRecDepth 100000 in
theorem fw6 (g : Nat → Int) : (callF Tryz.prog (SFm 6 g) 300 64 [.vec (.inp 0 0) 6] []).map (fun r => (r.1, r.2.2)) = some (.tup [limA (fwS 6 g 6), .bool true], some (fwC 6)) := by kernel_rfl
set_option maxRecDepth 100000 in
theorem fw7 (g : Nat → Int) : (callF Tryz.prog (SFm 7 g) 300 64 [.vec (.inp 0 0) 7] []).map (fun r => (r.1, r.2.2)) = some (.tup [limA (fwS 7 g 7), .bool true], some (fwC 7)) := by kernel_rfl
set_option maxRecDepth 100000 in
theorem fw8 (g : Nat → Int) : (callF Tryz.prog (SFm 8 g) 300 64 [.vec (.inp 0 0) 8] []).map (fun r => (r.1, r.2.2)) = some (.tup [limA (fwS 8 g 8), .bool true], some (fwC 8)) := by kernel_rfl
set_option maxRecDepth 100000 in
theorem fw9 (g : Nat → Int) : (callF Tryz.prog (SFm 9 g) 300 64 [.vec (.inp 0 0) 9] []).map (fun r => (r.1, r.2.2)) = some (.tup [limA (fwS 9 g 9), .bool true], some (fwC 9)) := by kernel_rfl
set_option maxRecDepth 100000 in
theorem fw10 (g : Nat → Int) : (callF Tryz.prog (SFm 10 g) 300 64 [.vec (.inp 0 0) 10] []).map (fun r => (r.1, r.2.2)) = some (.tup [limA (fwS 10 g 10), .bool true], some (fwC 10)) := by kernel_rfl
set_option maxRecDepth 100000 in
theorem fw11 (g : Nat → Int) : (callF Tryz.prog (SFm 11 g) 300 64 [.vec (.inp 0 0) 11] []).map (fun r => (r.1, r.2.2)) = some (.tup [limA (fwS 11 g 11), .bool true], some (fwC 11)) := by kernel_rfl
set_option maxRecDepth 100000 in
theorem fw12 (g : Nat → Int) : (callF Tryz.prog (SFm 12 g) 300 64 [.vec (.inp 0 0) 12] []).map (fun r => (r.1, r.2.2)) = some (.tup [limA (fwS 12 g 12), .bool true], some (fwC 12)) := by kernel_rfl
set_option maxRecDepth 100000 in
theorem fw13 (g : Nat → Int) : (callF Tryz.prog (SFm 13 g) 300 64 [.vec (.inp 0 0) 13] []).map (fun r => (r.1, r.2.2)) = some (.tup [limA (fwS 13 g 13), .bool true], some (fwC 13)) := by kernel_rfl
set_option maxRecDepth 100000 in
theorem fw14 (g : Nat → Int) : (callF Tryz.prog (SFm 14 g) 300 64 [.vec (.inp 0 0) 14] []).map (fun r => (r.1, r.2.2)) = some (.tup [limA (fwS 14 g 14), .bool true], some (fwC 14)) := by kernel_rfl
set_option maxRecDepth 100000 in
theorem fw15 (g : Nat → Int) : (callF Tryz.prog (SFm 15 g) 300 64 [.vec (.inp 0 0) 15] []).map (fun r => (r.1, r.2.2)) = some (.tup [limA (fwS 15 g 15), .bool true], some (fwC 15)) := by kernel_rfl
set_option maxRecDepth 100000 in
theorem fw16 (g : Nat → Int) : (callF Tryz.prog (SFm 16 g) 300 64 [.vec (.inp 0 0) 16] []).map (fun r => (r.1, r.2.2)) = some (.tup [limA (fwS 16 g 16), .bool true], some (fwC 16)) := by kernel_rfl
set_option maxRecDepth 100000 in
theorem fw17 (g : Nat → Int) : (callF Tryz.prog (SFm 17 g) 300 64 [.vec (.inp 0 0) 17] []).map (fun r => (r.1, r.2.2)) = some (.tup [limA (fwS 17 g 17), .bool true], some (fwC 17)) := by kernel_rfl
set_option maxRecDepth 100000 in
theorem fw18 (g : Nat → Int) : (callF Tryz.prog (SFm 18 g) 300 64 [.vec (.inp 0 0) 18] []).map (fun r => (r.1, r.2.2)) = some (.tup [limA (fwS 18 g 18), .bool true], some (fwC 18)) := by kernel_rfl
set_option maxRecDepth 100000 in
theorem fw19 (g : Nat → Int) : (callF Tryz.prog (SFm 19 g) 300 64 [.vec (.inp 0 0) 19] []).map (fun r => (r.1, r.2.2)) = some (.tup [limA (fwS 19 g 19), .bool true], some (fwC 19)) := by kernel_rfl
set_option maxRecDepth 100000 in
theorem fw20 (g : Nat → Int) : (callF Tryz.prog (SFm 20 g) 300 64 [.vec (.inp 0 0) 20] []).map (fun r => (r.1, r.2.2)) = some (.tup [limA (fwS 20 g 20), .bool true], some (fwC 20)) := by kernel_rfl
set_option maxRecDepth 100000 in
theorem fw21 (g : Nat → Int) : (callF Tryz.prog (SFm 21 g) 300 64 [.vec (.inp 0 0) 21] []).map (fun r => (r.1, r.2.2)) = some (.tup [limA (fwS 21 g 21), .bool true], some (fwC 21)) := by kernel_rfl
set_option maxRecDepth 100000 in
theorem fw22 (g : Nat → Int) : (callF Tryz.prog (SFm 22 g) 300 64 [.vec (.inp 0 0) 22] []).map (fun r => (r.1, r.2.2)) = some (.tup [limA (fwS 22 g 22), .bool true], some (fwC 22)) := by kernel_rfl
set_option maxRecDepth 100000 in
theorem fw23 (g : Nat → Int) : (callF Tryz.prog (SFm 23 g) 300 64 [.vec (.inp 0 0) 23] []).map (fun r => (r.1, r.2.2)) = some (.tup [limA (fwS 23 g 23), .bool true], some (fwC 23)) := by kernel_rfl
set_option maxRecDepth 100000 in
theorem fw24 (g : Nat → Int) : (callF Tryz.prog (SFm 24 g) 300 64 [.vec (.inp 0 0) 24] []).map (fun r => (r.1, r.2.2)) = some (.tup [limA (fwS 24 g 24), .bool true], some (fwC 24)) := by kernel_rfl
set_option maxRecDepth 100000 in
theorem fw25 (g : Nat → Int) : (callF Tryz.prog (SFm 25 g) 300 64 [.vec (.inp 0 0) 25] []).map (fun r => (r.1, r.2.2)) = some (.tup [limA (fwS 25 g 25), .bool true], some (fwC 25)) := by kernel_rfl
set_option maxRecDepth 100000 in
theorem fw26 (g : Nat → Int) : (callF Tryz.prog (SFm 26 g) 300 64 [.vec (.inp 0 0) 26] []).map (fun r => (r.1, r.2.2)) = some (.tup [limA (fwS 26 g 26), .bool true], some (fwC 26)) := by kernel_rfl
set_option maxRecDepth 100000 in
theorem fw27 (g : Nat → Int) : (callF Tryz.prog (SFm 27 g) 300 64 [.vec (.inp 0 0) 27] []).map (fun r => (r.1, r.2.2)) = some (.tup [limA (fwS 27 g 27), .bool true], some (fwC 27)) := by kernel_rfl
set_option maxRecDepth 100000 in
theorem fw28 (g : Nat → Int) : (callF Tryz.prog (SFm 28 g) 300 64 [.vec (.inp 0 0) 28] []).map (fun r => (r.1, r.2.2)) = some (.tup [limA (fwS 28 g 28), .bool true], some (fwC 28)) := by kernel_rfl
set_option maxRecDepth 100000 in
theorem fw29 (g : Nat → Int) : (callF Tryz.prog (SFm 29 g) 300 64 [.vec (.inp 0 0) 29] []).map (fun r => (r.1, r.2.2)) = some (.tup [limA (fwS 29 g 29), .bool true], some (fwC 29)) := by kernel_rfl
set_option maxRecDepth 100000 in
theorem fw30 (g : Nat → Int) : (callF Tryz.prog (SFm 30 g) 300 64 [.vec (.inp 0 0) 30] []).map (fun r => (r.1, r.2.2)) = some (.tup [limA (fwS 30 g 30), .bool true], some (fwC 30)) := by kernel_rfl
set_option maxRecDepth 100000 in
theorem fw31 (g : Nat → Int) : (callF Tryz.prog (SFm 31 g) 300 64 [.vec (.inp 0 0) 31] []).map (fun r => (r.1, r.2.2)) = some (.tup [limA (fwS 31 g 31), .bool true], some (fwC 31)) := by kernel_rfl
set_option maxRecDepth 100000 in
theorem fw32 (g : Nat → Int) : (callF Tryz.prog (SFm 32 g) 300 64 [.vec (.inp 0 0) 32] []).map (fun r => (r.1, r.2.2)) = some (.tup [limA (fwS 32 g 32), .bool true], some (fwC 32)) := by kernel_rfl
theorem fwV (g : Nat → Int) : ∀ m, m ≤ 32 → (callF Tryz.prog (SFm m g) 300 64 [.vec (.inp 0 0) m] []).map (fun r => (r.1, r.2.2)) = some (.tup [limA (fwS m g m), .bool true], some (fwC m))
  | 0, _ => fw0 g
  | 1, _ => fw1 g
  | 2, _ => fw2 g
  | 3, _ => fw3 g
  | 4, _ => fw4 g
  | 5, _ => fw5 g
  | 6, _ => fw6 g
  | 7, _ => fw7 g
  | 8, _ => fw8 g
  | 9, _ => fw9 g
  | 10, _ => fw10 g
  | 11, _ => fw11 g
  | 12, _ => fw12 g
  | 13, _ => fw13 g
  | 14, _ => fw14 g
  | 15, _ => fw15 g
  | 16, _ => fw16 g
  | 17, _ => fw17 g
  | 18, _ => fw18 g
  | 19, _ => fw19 g
  | 20, _ => fw20 g
  | 21, _ => fw21 g
  | 22, _ => fw22 g
  | 23, _ => fw23 g
  | 24, _ => fw24 g
  | 25, _ => fw25 g
  | 26, _ => fw26 g
  | 27, _ => fw27 g
  | 28, _ => fw28 g
  | 29, _ => fw29 g
  | 30, _ => fw30 g
  | 31, _ => fw31 g
  | 32, _ => fw32 g
  | m + 33, h => absurd h (by omega)
end Go.Proofs.YtonmjdnkcngfjaaGreat.En

/- DERIVED. A number of few bytes: the contract. -/
set_option linter.all false
namespace Go.Proofs.YtonmjdnkcngfjaaGreat.En
open Go Go.RowKit

theorem fwS_rng (m : Nat) (g : Nat → Int) (q : Nat) : ∀ i, 0 ≤ fwS m g i q ∧ fwS m g i q < 18446744073709551616
  | 0 => ⟨Int.le_refl _, show (0 : Int) < 18446744073709551616 by decide⟩
  | i + 1 => by
    have ih := fwS_rng m g q i
    unfold fwS
    split
    · obtain ⟨a, ha⟩ := Int.eq_ofNat_of_zero_le ih.1
      rw [ha, IntKind.wrap_u64 (IntKind.u64.wrap (g i) * 2 ^ (8 * ((m - 1 - i) % 8)))]
      have h1 := Int.emod_nonneg (IntKind.u64.wrap (g i) * 2 ^ (8 * ((m - 1 - i) % 8))) (show (18446744073709551616 : Int) ≠ 0 by decide)
      have h2 := Int.emod_lt_of_pos (IntKind.u64.wrap (g i) * 2 ^ (8 * ((m - 1 - i) % 8))) (show (0 : Int) < 18446744073709551616 by decide)
      obtain ⟨b, hb⟩ := Int.eq_ofNat_of_zero_le h1
      rw [hb] at h2 ⊢
      have ha2 : a < 2 ^ 64 := by have := ih.2; omega
      have hb2 : b < 2 ^ 64 := by omega
      rw [bits_or_u64_nat _ _ (by omega) (by omega)]
      have := Nat.or_lt_two_pow ha2 hb2
      omega
    · exact ih
theorem fwS_hi {m : Nat} (hm : m ≤ 32) (g : Nat → Int) {q : Nat} (hq : 4 ≤ q) : ∀ i, i ≤ m → fwS m g i q = 0
  | 0, _ => rfl
  | i + 1, hi => by
    have ih := fwS_hi hm g hq i (by omega)
    unfold fwS
    split
    · rename_i h
      have := Nat.eq_of_beq_eq_true h
      omega
    · exact ih
/-- The number of so few bytes. -/
def fwN (m : Nat) (g : Nat → Int) : Nat := (fwS m g m 0).toNat + BB * ((fwS m g m 1).toNat + BB * ((fwS m g m 2).toNat + BB * (fwS m g m 3).toNat))
theorem fwN_lt (m : Nat) (g : Nat → Int) : fwN m g < pN := by
  have h0 := fwS_rng m g 0 m
  have h1 := fwS_rng m g 1 m
  have h2 := fwS_rng m g 2 m
  have h3 := fwS_rng m g 3 m
  unfold fwN
  have e : BB ^ 4 < pN := by decide +kernel
  have eb : BB = 18446744073709551616 := rfl
  rw [eb] at e ⊢
  generalize pN = X at *
  omega
theorem fwN_lm {m : Nat} (hm : m ≤ 32) (g : Nat → Int) : ∀ q, q < 6 → fwS m g m q = lm (fwN m g) q := by
  have h0 := fwS_rng m g 0 m
  have h1 := fwS_rng m g 1 m
  have h2 := fwS_rng m g 2 m
  have h3 := fwS_rng m g 3 m
  have h4 := fwS_hi hm g (Nat.le_refl 4) m (Nat.le_refl m)
  have h5 := fwS_hi hm g (show 4 ≤ 5 by omega) m (Nat.le_refl m)
  intro q hq
  unfold lm lmN fwN
  have eb : BB = 18446744073709551616 := rfl
  match q, hq with
  | 0, _ => rw [eb]; simp only [Nat.pow_zero]; omega
  | 1, _ => rw [eb]; simp only [Nat.pow_one]; omega
  | 2, _ => rw [eb, show (18446744073709551616 : Nat) ^ 2 = 340282366920938463463374607431768211456 by decide]; omega
  | 3, _ => rw [eb, show (18446744073709551616 : Nat) ^ 3 = 6277101735386680763835789423207666416102355444464034512896 by decide]; omega
  | 4, _ => rw [eb, h4, show (18446744073709551616 : Nat) ^ 4 = 115792089237316195423570985008687907853269984665640564039457584007913129639936 by decide]; omega
  | 5, _ => rw [eb, h5, show (18446744073709551616 : Nat) ^ 5 = 2135987035920910082395021706169552114602704522356652769947041607822219725780640550022962086936576 by decide]; omega
def fwF (m : Nat) (g : Nat → Int) : Fe := rawF (fwN m g)
theorem SFm_ok (m : Nat) (g : Nat → Int) : SigOk Tryz.prog (SFm m g) := sigOf_ok [] [] [] [] (noMs_ok _) _ (inOf1_ok ⟨fun _ => ⟨trivial, trivial⟩, trivial⟩)
theorem fw_told {m : Nat} (hm : m ≤ 32) (g : Nat → Int) : Told Tryz.prog 64 [[.rows m 1 fun j => [.int .u8 (g j)]]] [.vec (.inp 0 0) m] (.tup [.agg [.abs (fwF m g)], .bool true]) [] := by
  refine told_below rfl fun ρ w ha => ?_
  have hk : ∀ t i, kinL (okKey ([] : Mem Fe) ρ) ((SFm m g).inp t i) := fun t i => by
    show kinL _ (inOf [[.rows m 1 fun j => [.int .u8 (g j)]]] t i)
    cases t with
    | succ t => trivial
    | zero => cases i with
      | zero => exact plainL_kin _ _ ⟨fun _ => ⟨trivial, trivial⟩, trivial⟩
      | succ i => trivial
  have := calls_top (SFm_ok m g) mixed (fwV g m hm) (fwC_ok m) ha.mem ha.kinV hk fun ρ ρ' => rfl
  have e2 := tup_fe (ρ := ρ) (f := fwS m g m) (x := fwF m g) fun q hq => by unfold fwF; rw [mo_rawF (fwN_lt m g)]; exact fwN_lm hm g q hq
  rw [e2] at this
  exact this
/-- Bytes in a block of open rows. -/
def rowsB (us : List (LV Fe)) : Option (Nat × (Nat → Int) × Prop) := match us with
  | [.rows n z f] => match Nat.beq z 1 with
    | true => some (n, fun j => byteOf (f j), ∀ j, j < n → Like (f j) [.int .u8 (byteOf (f j))])
    | false => none
  | _ => none
theorem rowsB_some {us : List (LV Fe)} {n : Nat} {g : Nat → Int} {c : Prop} (h : rowsB us = some (n, g, c)) (hc : c) : Like us [.rows n 1 fun j => [.int .u8 (g j)]] := by
  unfold rowsB at h
  split at h
  · split at h
    · rename_i hz
      cases h
      have := beqN hz
      subst this
      exact Like.rows hc fun i _ p _ => ⟨trivial, trivial⟩
    · cases h
  · cases h
noncomputable def fwFn (I : Inp Fe) (vs : List (LV Fe)) (mem : Mem Fe) : Option (RdC Fe) := match vs with
  | [.vec k m] => match at? I mem k with
    | some bl => match isDead bl.kd, rowsB bl.us with
      | false, some (n, g, c) => some ⟨[[.rows m 1 fun j => [.int .u8 (g j)]]], [k], [.vec (.inp 0 0) m], .tup [.agg [.abs (fwF m g)], .bool true], [], c ∧ n = m ∧ m ≤ 32⟩
      | _, _ => none
    | none => none
  | _ => none
theorem fw_ok : ∀ I vs mem r, fwFn I vs mem = some r → r.c → RdOk Tryz.prog 64 I vs mem r := by
  intro I vs mem r h hc
  unfold fwFn at h
  split at h
  · rename_i k m
    split at h
    · rename_i bl hb
      split at h
      · rename_i n g c hd hr
        cases h
        obtain ⟨h1, h2, h3⟩ := hc
        subst h2
        exact {
          args := rfl
          fit := ⟨⟨fun e => by simp [keyMap, ιOf] at e, trivial⟩, trivial⟩
          len := rfl
          blk := fun j k' us hk hus => by
            match j with
            | 0 =>
              cases hk; cases hus
              exact ⟨bl, hb, hd, ⟨fun _ => ⟨trivial, trivial⟩, trivial⟩, rowsB_some hr h1⟩
            | j + 1 => simp at hk
          told := fw_told h3 g
          fitv := (plain_ren _ _ _ (show LV.plain (.tup [.agg [.abs (fwF n g)], .bool true] : LV Fe) from ⟨⟨trivial, trivial⟩, trivial, trivial⟩)).2
          fitb := fun b hb => absurd hb List.not_mem_nil }
      · cases h
    · cases h
  · cases h
set_option maxRecDepth 100000 in
theorem entFrom : ∀ args w, (callFunc 64 args).run Tryz.prog w = .ok (.enter 64 args) w := ent_of (f := 64) (P := Tryz.prog) rfl rfl rfl
noncomputable def conFrom : ConC Tryz.prog Fe := conRd 64 entFrom fwFn fw_ok
end Go.Proofs.YtonmjdnkcngfjaaGreat.En

/- DERIVED. The element of any bytes: all runs. -/
set_option linter.all false
namespace Go.Proofs.YtonmjdnkcngfjaaGreat.En
open Go Go.RowKit

noncomputable abbrev SWd (n : Nat) (g : Nat → Int) : Sig Fe := sigOf (P := Tryz.prog) ([conFAdd, conFSub, conFMul, conFSquare, conFNeg, conFIsZero, conFEqual, conTwice] ++ (psG ++ psH)) [] [conFrom] (I := inOf [[.rows n 1 fun j => [.int .u8 (g j)]]]) [] msF (advP noD [64] [])
theorem SWd_ok (n : Nat) (g : Nat → Int) : SigOk Tryz.prog (SWd n g) := sigOf_ok _ [] [conFrom] [] msF_ok _ (inOf1_ok ⟨fun _ => ⟨trivial, trivial⟩, trivial⟩)
def wSh : Fe := fmul (ofSix 0 0 0 0 1 0) ftwo
def wdR : Nat → Nat → (Nat → Int) → Fe → Fe
  | 0, _, _, x => x
  | k + 1, f, g, x => wdR k 32 (fun j => g (f + j)) (fadd (fmul x wSh) (fmul (fwF f g) ftwo))
def wdC : Nat → Nat → (Nat → Int) → Prop
  | 0, _, _ => true = true
  | k + 1, f, g => ((true = true ∧ true = true) ∧ ((∀ j, j < f → Like (A := Fe) [.int .u8 (g j)] [.int .u8 (g j)]) ∧ f = f ∧ f ≤ 32) ∧ true = true) ∧ true = true ∧ (true = true ∧ true = true) ∧ wdC k 32 fun j => g (f + j)
theorem wdC_ok : ∀ k f g, f ≤ 32 → wdC k f g
  | 0, _, _, _ => rfl
  | k + 1, f, g, h => ⟨⟨⟨rfl, rfl⟩, ⟨fun _ _ => Like.refl _, rfl, h⟩, rfl⟩, rfl, ⟨rfl, rfl⟩, wdC_ok k 32 _ (Nat.le_refl _)⟩
def wd1 (n : Nat) : Nat := match n % 32 with
  | 0 => 32
  | r + 1 => r + 1
def wdF (n : Nat) (g : Nat → Int) : Fe := wdR ((n + 31) / 32) (wd1 n) g (ofSix 0 0 0 0 0 0)
def wdP (n : Nat) (g : Nat → Int) : Prop := true = true ∧ true = true ∧ wdC ((n + 31) / 32) (wd1 n) g
theorem wdP_ok (n : Nat) (g : Nat → Int) : wdP n g := ⟨rfl, rfl, wdC_ok _ _ g (by unfold wd1; split <;> omega)⟩
set_option maxRecDepth 100000 in
theorem wd_1 (g : Nat → Int) : (callF Tryz.prog (SWd 1 g) 300 50 [.vec (.inp 0 0) 1] []).map (fun r => (r.1, r.2.2)) = some (.agg [.abs (wdF 1 g)], some (wdP 1 g)) := by kernel_rfl
set_option maxRecDepth 100000 in
theorem wd_2 (g : Nat → Int) : (callF Tryz.prog (SWd 2 g) 300 50 [.vec (.inp 0 0) 2] []).map (fun r => (r.1, r.2.2)) = some (.agg [.abs (wdF 2 g)], some (wdP 2 g)) := by kernel_rfl
set_option maxRecDepth 100000 in
theorem wd_3 (g : Nat → Int) : (callF Tryz.prog (SWd 3 g) 300 50 [.vec (.inp 0 0) 3] []).map (fun r => (r.1, r.2.2)) = some (.agg [.abs (wdF 3 g)], some (wdP 3 g)) := by kernel_rfl
set_option maxRecDepth 100000 in
theorem wd_4 (g : Nat → Int) : (callF Tryz.prog (SWd 4 g) 300 50 [.vec (.inp 0 0) 4] []).map (fun r => (r.1, r.2.2)) = some (.agg [.abs (wdF 4 g)], some (wdP 4 g)) := by kernel_rfl
set_option maxRecDepth 100000 in
theorem wd_5 (g : Nat → Int) : (callF Tryz.prog (SWd 5 g) 300 50 [.vec (.inp 0 0) 5] []).map (fun r => (r.1, r.2.2)) = some (.agg [.abs (wdF 5 g)], some (wdP 5 g)) := by kernel_rfl
set_option maxRecDepth 100000 in
theorem wd_6 (g : Nat → Int) : (callF Tryz.prog (SWd 6 g) 300 50 [.vec (.inp 0 0) 6] []).map (fun r => (r.1, r.2.2)) = some (.agg [.abs (wdF 6 g)], some (wdP 6 g)) := by kernel_rfl
set_option maxRecDepth 100000 in
theorem wd_7 (g : Nat → Int) : (callF Tryz.prog (SWd 7 g) 300 50 [.vec (.inp 0 0) 7] []).map (fun r => (r.1, r.2.2)) = some (.agg [.abs (wdF 7 g)], some (wdP 7 g)) := by kernel_rfl
set_option maxRecDepth 100000 in
theorem wd_8 (g : Nat → Int) : (callF Tryz.prog (SWd 8 g) 300 50 [.vec (.inp 0 0) 8] []).map (fun r => (r.1, r.2.2)) = some (.agg [.abs (wdF 8 g)], some (wdP 8 g)) := by kernel_rfl
set_option maxRecDepth 100000 in
theorem wd_9 (g : Nat → Int) : (callF Tryz.prog (SWd 9 g) 300 50 [.vec (.inp 0 0) 9] []).map (fun r => (r.1, r.2.2)) = some (.agg [.abs (wdF 9 g)], some (wdP 9 g)) := by kernel_rfl
set_option maxRecDepth 100000 in
theorem wd_10 (g : Nat → Int) : (callF Tryz.prog (SWd 10 g) 300 50 [.vec (.inp 0 0) 10] []).map (fun r => (r.1, r.2.2)) = some (.agg [.abs (wdF 10 g)], some (wdP 10 g)) := by kernel_rfl
set_option maxRecDepth 100000 in
theorem wd_11 (g : Nat → Int) : (callF Tryz.prog (SWd 11 g) 300 50 [.vec (.inp 0 0) 11] []).map (fun r => (r.1, r.2.2)) = some (.agg [.abs (wdF 11 g)], some (wdP 11 g)) := by kernel_rfl
set_option maxRecDepth 100000 in
theorem wd_12 (g : Nat → Int) : (callF Tryz.prog (SWd 12 g) 300 50 [.vec (.inp 0 0) 12] []).map (fun r => (r.1, r.2.2)) = some (.agg [.abs (wdF 12 g)], some (wdP 12 g)) := by kernel_rfl
set_option maxRecDepth 100000 in
theorem wd_13 (g : Nat → Int) : (callF Tryz.prog (SWd 13 g) 300 50 [.vec (.inp 0 0) 13] []).map (fun r => (r.1, r.2.2)) = some (.agg [.abs (wdF 13 g)], some (wdP 13 g)) := by kernel_rfl
set_option maxRecDepth 100000 in
theorem wd_14 (g : Nat → Int) : (callF Tryz.prog (SWd 14 g) 300 50 [.vec (.inp 0 0) 14] []).map (fun r => (r.1, r.2.2)) = some (.agg [.abs (wdF 14 g)], some (wdP 14 g)) := by kernel_rfl
set_option maxRecDepth 100000 in
theorem wd_15 (g : Nat → Int) : (callF Tryz.prog (SWd 15 g) 300 50 [.vec (.inp 0 0) 15] []).map (fun r => (r.1, r.2.2)) = some (.agg [.abs (wdF 15 g)], some (wdP 15 g)) := by kernel_rfl
set_option maxRecDepth 100000 in
theorem wd_16 (g : Nat → Int) : (callF Tryz.prog (SWd 16 g) 300 50 [.vec (.inp 0 0) 16] []).map (fun r => (r.1, r.2.2)) = some (.agg [.abs (wdF 16 g)], some (wdP 16 g)) := by kernel_rfl
set_option maxRecDepth 100000 in
theorem wd_17 (g : Nat → Int) : (callF Tryz.prog (SWd 17 g) 300 50 [.vec (.inp 0 0) 17] []).map (fun r => (r.1, r.2.2)) = some (.agg [.abs (wdF 17 g)], some (wdP 17 g)) := by kernel_rfl
set_option maxRecDepth 100000 in
theorem wd_18 (g : Nat → Int) : (callF Tryz.prog (SWd 18 g) 300 50 [.vec (.inp 0 0) 18] []).map (fun r => (r.1, r.2.2)) = some (.agg [.abs (wdF 18 g)], some (wdP 18 g)) := by kernel_rfl
set_option maxRecDepth 100000 in
theorem wd_19 (g : Nat → Int) : (callF Tryz.prog (SWd 19 g) 300 50 [.vec (.inp 0 0) 19] []).map (fun r => (r.1, r.2.2)) = some (.agg [.abs (wdF 19 g)], some (wdP 19 g)) := by kernel_rfl
set_option maxRecDepth 100000 in
theorem wd_20 (g : Nat → Int) : (callF Tryz.prog (SWd 20 g) 300 50 [.vec (.inp 0 0) 20] []).map (fun r => (r.1, r.2.2)) = some (.agg [.abs (wdF 20 g)], some (wdP 20 g)) := by kernel_rfl
set_option maxRecDepth 100000 in
theorem wd_21 (g : Nat → Int) : (callF Tryz.prog (SWd 21 g) 300 50 [.vec (.inp 0 0) 21] []).map (fun r => (r.1, r.2.2)) = some (.agg [.abs (wdF 21 g)], some (wdP 21 g)) := by kernel_rfl
set_option maxRecDepth 100000 in
theorem wd_22 (g : Nat → Int) : (callF Tryz.prog (SWd 22 g) 300 50 [.vec (.inp 0 0) 22] []).map (fun r => (r.1, r.2.2)) = some (.agg [.abs (wdF 22 g)], some (wdP 22 g)) := by kernel_rfl
set_option maxRecDepth 100000 in
theorem wd_23 (g : Nat → Int) : (callF Tryz.prog (SWd 23 g) 300 50 [.vec (.inp 0 0) 23] []).map (fun r => (r.1, r.2.2)) = some (.agg [.abs (wdF 23 g)], some (wdP 23 g)) := by kernel_rfl
set_option maxRecDepth 100000 in
theorem wd_24 (g : Nat → Int) : (callF Tryz.prog (SWd 24 g) 300 50 [.vec (.inp 0 0) 24] []).map (fun r => (r.1, r.2.2)) = some (.agg [.abs (wdF 24 g)], some (wdP 24 g)) := by kernel_rfl
set_option maxRecDepth 100000 in
theorem wd_25 (g : Nat → Int) : (callF Tryz.prog (SWd 25 g) 300 50 [.vec (.inp 0 0) 25] []).map (fun r => (r.1, r.2.2)) = some (.agg [.abs (wdF 25 g)], some (wdP 25 g)) := by kernel_rfl
set_option maxRecDepth 100000 in
theorem wd_26 (g : Nat → Int) : (callF Tryz.prog (SWd 26 g) 300 50 [.vec (.inp 0 0) 26] []).map (fun r => (r.1, r.2.2)) = some (.agg [.abs (wdF 26 g)], some (wdP 26 g)) := by kernel_rfl
set_option maxRecDepth 100000 in
theorem wd_27 (g : Nat → Int) : (callF Tryz.prog (SWd 27 g) 300 50 [.vec (.inp 0 0) 27] []).map (fun r => (r.1, r.2.2)) = some (.agg [.abs (wdF 27 g)], some (wdP 27 g)) := by kernel_rfl
set_option maxRecDepth 100000 in
theorem wd_28 (g : Nat → Int) : (callF Tryz.prog (SWd 28 g) 300 50 [.vec (.inp 0 0) 28] []).map (fun r => (r.1, r.2.2)) = some (.agg [.abs (wdF 28 g)], some (wdP 28 g)) := by kernel_rfl
set_option maxRecDepth 100000 in
theorem wd_29 (g : Nat → Int) : (callF Tryz.prog (SWd 29 g) 300 50 [.vec (.inp 0 0) 29] []).map (fun r => (r.1, r.2.2)) = some (.agg [.abs (wdF 29 g)], some (wdP 29 g)) := by kernel_rfl
set_option maxRecDepth 100000 in
theorem wd_30 (g : Nat → Int) : (callF Tryz.prog (SWd 30 g) 300 50 [.vec (.inp 0 0) 30] []).map (fun r => (r.1, r.2.2)) = some (.agg [.abs (wdF 30 g)], some (wdP 30 g)) := by kernel_rfl
set_option maxRecDepth 100000 in
theorem wd_31 (g : Nat → Int) : (callF Tryz.prog (SWd 31 g) 300 50 [.vec (.inp 0 0) 31] []).map (fun r => (r.1, r.2.2)) = some (.agg [.abs (wdF 31 g)], some (wdP 31 g)) := by kernel_rfl
set_option maxRecDepth 100000 in
theorem wd_32 (g : Nat → Int) : (callF Tryz.prog (SWd 32 g) 300 50 [.vec (.inp 0 0) 32] []).map (fun r => (r.1, r.2.2)) = some (.agg [.abs (wdF 32 g)], some (wdP 32 g)) := by kernel_rfl
set_option maxRecDepth 100000 in
theorem wd_33 (g : Nat → Int) : (callF Tryz.prog (SWd 33 g) 300 50 [.vec (.inp 0 0) 33] []).map (fun r => (r.1, r.2.2)) = some (.agg [.abs (wdF 33 g)], some (wdP 33 g)) := by kernel_rfl
set_option maxRecDepth 100000 in
theorem wd_34 (g : Nat → Int) : (callF Tryz.prog (SWd 34 g) 300 50 [.vec (.inp 0 0) 34] []).map (fun r => (r.1, r.2.2)) = some (.agg [.abs (wdF 34 g)], some (wdP 34 g)) := by kernel_rfl
set_option maxRecDepth 100000 in
theorem wd_35 (g : Nat → Int) : (callF Tryz.prog (SWd 35 g) 300 50 [.vec (.inp 0 0) 35] []).map (fun r => (r.1, r.2.2)) = some (.agg [.abs (wdF 35 g)], some (wdP 35 g)) := by kernel_rfl
set_option maxRecDepth 100000 in
theorem wd_36 (g : Nat → Int) : (callF Tryz.prog (SWd 36 g) 300 50 [.vec (.inp 0 0) 36] []).map (fun r => (r.1, r.2.2)) = some (.agg [.abs (wdF 36 g)], some (wdP 36 g)) := by kernel_rfl
set_option maxRecDepth 100000 in
theorem wd_37 (g : Nat → Int) : (callF Tryz.prog (SWd 37 g) 300 50 [.vec (.inp 0 0) 37] []).map (fun r => (r.1, r.2.2)) = some (.agg [.abs (wdF 37 g)], some (wdP 37 g)) := by kernel_rfl
set_option maxRecDepth 100000 in
theorem wd_38 (g : Nat → Int) : (callF Tryz.prog (SWd 38 g) 300 50 [.vec (.inp 0 0) 38] []).map (fun r => (r.1, r.2.2)) = some (.agg [.abs (wdF 38 g)], some (wdP 38 g)) := by kernel_rfl
set_option maxRecDepth 100000 in
theorem wd_39 (g : Nat → Int) : (callF Tryz.prog (SWd 39 g) 300 50 [.vec (.inp 0 0) 39] []).map (fun r => (r.1, r.2.2)) = some (.agg [.abs (wdF 39 g)], some (wdP 39 g)) := by kernel_rfl
set_option maxRecDepth 100000 in
theorem wd_40 (g : Nat → Int) : (callF Tryz.prog (SWd 40 g) 300 50 [.vec (.inp 0 0) 40] []).map (fun r => (r.1, r.2.2)) = some (.agg [.abs (wdF 40 g)], some (wdP 40 g)) := by kernel_rfl
set_option maxRecDepth 100000 in
theorem wd_41 (g : Nat → Int) : (callF Tryz.prog (SWd 41 g) 300 50 [.vec (.inp 0 0) 41] []).map (fun r => (r.1, r.2.2)) = some (.agg [.abs (wdF 41 g)], some (wdP 41 g)) := by kernel_rfl
set_option maxRecDepth 100000 in
theorem wd_42 (g : Nat → Int) : (callF Tryz.prog (SWd 42 g) 300 50 [.vec (.inp 0 0) 42] []).map (fun r => (r.1, r.2.2)) = some (.agg [.abs (wdF 42 g)], some (wdP 42 g)) := by kernel_rfl
set_option maxRecDepth 100000 in
theorem wd_43 (g : Nat → Int) : (callF Tryz.prog (SWd 43 g) 300 50 [.vec (.inp 0 0) 43] []).map (fun r => (r.1, r.2.2)) = some (.agg [.abs (wdF 43 g)], some (wdP 43 g)) := by kernel_rfl
set_option maxRecDepth 100000 in
theorem wd_44 (g : Nat → Int) : (callF Tryz.prog (SWd 44 g) 300 50 [.vec (.inp 0 0) 44] []).map (fun r => (r.1, r.2.2)) = some (.agg [.abs (wdF 44 g)], some (wdP 44 g)) := by kernel_rfl
set_option maxRecDepth 100000 in
theorem wd_45 (g : Nat → Int) : (callF Tryz.prog (SWd 45 g) 300 50 [.vec (.inp 0 0) 45] []).map (fun r => (r.1, r.2.2)) = some (.agg [.abs (wdF 45 g)], some (wdP 45 g)) := by kernel_rfl
set_option maxRecDepth 100000 in
theorem wd_46 (g : Nat → Int) : (callF Tryz.prog (SWd 46 g) 300 50 [.vec (.inp 0 0) 46] []).map (fun r => (r.1, r.2.2)) = some (.agg [.abs (wdF 46 g)], some (wdP 46 g)) := by kernel_rfl
set_option maxRecDepth 100000 in
theorem wd_47 (g : Nat → Int) : (callF Tryz.prog (SWd 47 g) 300 50 [.vec (.inp 0 0) 47] []).map (fun r => (r.1, r.2.2)) = some (.agg [.abs (wdF 47 g)], some (wdP 47 g)) := by kernel_rfl
set_option maxRecDepth 100000 in
theorem wd_48 (g : Nat → Int) : (callF Tryz.prog (SWd 48 g) 300 50 [.vec (.inp 0 0) 48] []).map (fun r => (r.1, r.2.2)) = some (.agg [.abs (wdF 48 g)], some (wdP 48 g)) := by kernel_rfl
set_option maxRecDepth 100000 in
theorem wd_49 (g : Nat → Int) : (callF Tryz.prog (SWd 49 g) 300 50 [.vec (.inp 0 0) 49] []).map (fun r => (r.1, r.2.2)) = some (.agg [.abs (wdF 49 g)], some (wdP 49 g)) := by kernel_rfl
set_option maxRecDepth 100000 in
theorem wd_50 (g : Nat → Int) : (callF Tryz.prog (SWd 50 g) 300 50 [.vec (.inp 0 0) 50] []).map (fun r => (r.1, r.2.2)) = some (.agg [.abs (wdF 50 g)], some (wdP 50 g)) := by kernel_rfl
set_option maxRecDepth 100000 in
theorem wd_51 (g : Nat → Int) : (callF Tryz.prog (SWd 51 g) 300 50 [.vec (.inp 0 0) 51] []).map (fun r => (r.1, r.2.2)) = some (.agg [.abs (wdF 51 g)], some (wdP 51 g)) := by kernel_rfl
set_option maxRecDepth 100000 in
theorem wd_52 (g : Nat → Int) : (callF Tryz.prog (SWd 52 g) 300 50 [.vec (.inp 0 0) 52] []).map (fun r => (r.1, r.2.2)) = some (.agg [.abs (wdF 52 g)], some (wdP 52 g)) := by kernel_rfl
set_option maxRecDepth 100000 in
theorem wd_53 (g : Nat → Int) : (callF Tryz.prog (SWd 53 g) 300 50 [.vec (.inp 0 0) 53] []).map (fun r => (r.1, r.2.2)) = some (.agg [.abs (wdF 53 g)], some (wdP 53 g)) := by kernel_rfl
set_option maxRecDepth 100000 in
theorem wd_54 (g : Nat → Int) : (callF Tryz.prog (SWd 54 g) 300 50 [.vec (.inp 0 0) 54] []).map (fun r => (r.1, r.2.2)) = some (.agg [.abs (wdF 54 g)], some (wdP 54 g)) := by kernel_rfl
set_option maxRecDepth 100000 in
theorem wd_55 (g : Nat → Int) : (callF Tryz.prog (SWd 55 g) 300 50 [.vec (.inp 0 0) 55] []).map (fun r => (r.1, r.2.2)) = some (.agg [.abs (wdF 55 g)], some (wdP 55 g)) := by kernel_rfl
set_option maxRecDepth 100000 in
theorem wd_56 (g : Nat → Int) : (callF Tryz.prog (SWd 56 g) 300 50 [.vec (.inp 0 0) 56] []).map (fun r => (r.1, r.2.2)) = some (.agg [.abs (wdF 56 g)], some (wdP 56 g)) := by kernel_rfl
set_option maxRecDepth 100000 in
theorem wd_57 (g : Nat → Int) : (callF Tryz.prog (SWd 57 g) 300 50 [.vec (.inp 0 0) 57] []).map (fun r => (r.1, r.2.2)) = some (.agg [.abs (wdF 57 g)], some (wdP 57 g)) := by kernel_rfl
set_option maxRecDepth 100000 in
theorem wd_58 (g : Nat → Int) : (callF Tryz.prog (SWd 58 g) 300 50 [.vec (.inp 0 0) 58] []).map (fun r => (r.1, r.2.2)) = some (.agg [.abs (wdF 58 g)], some (wdP 58 g)) := by kernel_rfl
set_option maxRecDepth 100000 in
theorem wd_59 (g : Nat → Int) : (callF Tryz.prog (SWd 59 g) 300 50 [.vec (.inp 0 0) 59] []).map (fun r => (r.1, r.2.2)) = some (.agg [.abs (wdF 59 g)], some (wdP 59 g)) := by kernel_rfl
set_option maxRecDepth 100000 in
theorem wd_60 (g : Nat → Int) : (callF Tryz.prog (SWd 60 g) 300 50 [.vec (.inp 0 0) 60] []).map (fun r => (r.1, r.2.2)) = some (.agg [.abs (wdF 60 g)], some (wdP 60 g)) := by kernel_rfl
set_option maxRecDepth 100000 in
theorem wd_61 (g : Nat → Int) : (callF Tryz.prog (SWd 61 g) 300 50 [.vec (.inp 0 0) 61] []).map (fun r => (r.1, r.2.2)) = some (.agg [.abs (wdF 61 g)], some (wdP 61 g)) := by kernel_rfl
set_option maxRecDepth 100000 in
theorem wd_62 (g : Nat → Int) : (callF Tryz.prog (SWd 62 g) 300 50 [.vec (.inp 0 0) 62] []).map (fun r => (r.1, r.2.2)) = some (.agg [.abs (wdF 62 g)], some (wdP 62 g)) := by kernel_rfl
set_option maxRecDepth 100000 in
theorem wd_63 (g : Nat → Int) : (callF Tryz.prog (SWd 63 g) 300 50 [.vec (.inp 0 0) 63] []).map (fun r => (r.1, r.2.2)) = some (.agg [.abs (wdF 63 g)], some (wdP 63 g)) := by kernel_rfl
set_option maxRecDepth 100000 in
theorem wd_64 (g : Nat → Int) : (callF Tryz.prog (SWd 64 g) 300 50 [.vec (.inp 0 0) 64] []).map (fun r => (r.1, r.2.2)) = some (.agg [.abs (wdF 64 g)], some (wdP 64 g)) := by kernel_rfl
set_option maxRecDepth 100000 in
theorem wd_65 (g : Nat → Int) : (callF Tryz.prog (SWd 65 g) 300 50 [.vec (.inp 0 0) 65] []).map (fun r => (r.1, r.2.2)) = some (.agg [.abs (wdF 65 g)], some (wdP 65 g)) := by kernel_rfl
set_option maxRecDepth 100000 in
theorem wd_66 (g : Nat → Int) : (callF Tryz.prog (SWd 66 g) 300 50 [.vec (.inp 0 0) 66] []).map (fun r => (r.1, r.2.2)) = some (.agg [.abs (wdF 66 g)], some (wdP 66 g)) := by kernel_rfl
set_option maxRecDepth 100000 in
theorem wd_67 (g : Nat → Int) : (callF Tryz.prog (SWd 67 g) 300 50 [.vec (.inp 0 0) 67] []).map (fun r => (r.1, r.2.2)) = some (.agg [.abs (wdF 67 g)], some (wdP 67 g)) := by kernel_rfl
set_option maxRecDepth 100000 in
theorem wd_68 (g : Nat → Int) : (callF Tryz.prog (SWd 68 g) 300 50 [.vec (.inp 0 0) 68] []).map (fun r => (r.1, r.2.2)) = some (.agg [.abs (wdF 68 g)], some (wdP 68 g)) := by kernel_rfl
set_option maxRecDepth 100000 in
theorem wd_69 (g : Nat → Int) : (callF Tryz.prog (SWd 69 g) 300 50 [.vec (.inp 0 0) 69] []).map (fun r => (r.1, r.2.2)) = some (.agg [.abs (wdF 69 g)], some (wdP 69 g)) := by kernel_rfl
set_option maxRecDepth 100000 in
theorem wd_70 (g : Nat → Int) : (callF Tryz.prog (SWd 70 g) 300 50 [.vec (.inp 0 0) 70] []).map (fun r => (r.1, r.2.2)) = some (.agg [.abs (wdF 70 g)], some (wdP 70 g)) := by kernel_rfl
set_option maxRecDepth 100000 in
theorem wd_71 (g : Nat → Int) : (callF Tryz.prog (SWd 71 g) 300 50 [.vec (.inp 0 0) 71] []).map (fun r => (r.1, r.2.2)) = some (.agg [.abs (wdF 71 g)], some (wdP 71 g)) := by kernel_rfl
set_option maxRecDepth 100000 in
theorem wd_72 (g : Nat → Int) : (callF Tryz.prog (SWd 72 g) 300 50 [.vec (.inp 0 0) 72] []).map (fun r => (r.1, r.2.2)) = some (.agg [.abs (wdF 72 g)], some (wdP 72 g)) := by kernel_rfl
set_option maxRecDepth 100000 in
theorem wd_73 (g : Nat → Int) : (callF Tryz.prog (SWd 73 g) 300 50 [.vec (.inp 0 0) 73] []).map (fun r => (r.1, r.2.2)) = some (.agg [.abs (wdF 73 g)], some (wdP 73 g)) := by kernel_rfl
set_option maxRecDepth 100000 in
theorem wd_74 (g : Nat → Int) : (callF Tryz.prog (SWd 74 g) 300 50 [.vec (.inp 0 0) 74] []).map (fun r => (r.1, r.2.2)) = some (.agg [.abs (wdF 74 g)], some (wdP 74 g)) := by kernel_rfl
set_option maxRecDepth 100000 in
theorem wd_75 (g : Nat → Int) : (callF Tryz.prog (SWd 75 g) 300 50 [.vec (.inp 0 0) 75] []).map (fun r => (r.1, r.2.2)) = some (.agg [.abs (wdF 75 g)], some (wdP 75 g)) := by kernel_rfl
set_option maxRecDepth 100000 in
theorem wd_76 (g : Nat → Int) : (callF Tryz.prog (SWd 76 g) 300 50 [.vec (.inp 0 0) 76] []).map (fun r => (r.1, r.2.2)) = some (.agg [.abs (wdF 76 g)], some (wdP 76 g)) := by kernel_rfl
set_option maxRecDepth 100000 in
theorem wd_77 (g : Nat → Int) : (callF Tryz.prog (SWd 77 g) 300 50 [.vec (.inp 0 0) 77] []).map (fun r => (r.1, r.2.2)) = some (.agg [.abs (wdF 77 g)], some (wdP 77 g)) := by kernel_rfl
set_option maxRecDepth 100000 in
theorem wd_78 (g : Nat → Int) : (callF Tryz.prog (SWd 78 g) 300 50 [.vec (.inp 0 0) 78] []).map (fun r => (r.1, r.2.2)) = some (.agg [.abs (wdF 78 g)], some (wdP 78 g)) := by kernel_rfl
set_option maxRecDepth 100000 in
theorem wd_79 (g : Nat → Int) : (callF Tryz.prog (SWd 79 g) 300 50 [.vec (.inp 0 0) 79] []).map (fun r => (r.1, r.2.2)) = some (.agg [.abs (wdF 79 g)], some (wdP 79 g)) := by kernel_rfl
set_option maxRecDepth 100000 in
theorem wd_80 (g : Nat → Int) : (callF Tryz.prog (SWd 80 g) 300 50 [.vec (.inp 0 0) 80] []).map (fun r => (r.1, r.2.2)) = some (.agg [.abs (wdF 80 g)], some (wdP 80 g)) := by kernel_rfl
set_option maxRecDepth 100000 in
theorem wd_81 (g : Nat → Int) : (callF Tryz.prog (SWd 81 g) 300 50 [.vec (.inp 0 0) 81] []).map (fun r => (r.1, r.2.2)) = some (.agg [.abs (wdF 81 g)], some (wdP 81 g)) := by kernel_rfl
set_option maxRecDepth 100000 in
theorem wd_82 (g : Nat → Int) : (callF Tryz.prog (SWd 82 g) 300 50 [.vec (.inp 0 0) 82] []).map (fun r => (r.1, r.2.2)) = some (.agg [.abs (wdF 82 g)], some (wdP 82 g)) := by kernel_rfl
set_option maxRecDepth 100000 in
theorem wd_83 (g : Nat → Int) : (callF Tryz.prog (SWd 83 g) 300 50 [.vec (.inp 0 0) 83] []).map (fun r => (r.1, r.2.2)) = some (.agg [.abs (wdF 83 g)], some (wdP 83 g)) := by kernel_rfl
set_option maxRecDepth 100000 in
theorem wd_84 (g : Nat → Int) : (callF Tryz.prog (SWd 84 g) 300 50 [.vec (.inp 0 0) 84] []).map (fun r => (r.1, r.2.2)) = some (.agg [.abs (wdF 84 g)], some (wdP 84 g)) := by kernel_rfl
set_option maxRecDepth 100000 in
theorem wd_85 (g : Nat → Int) : (callF Tryz.prog (SWd 85 g) 300 50 [.vec (.inp 0 0) 85] []).map (fun r => (r.1, r.2.2)) = some (.agg [.abs (wdF 85 g)], some (wdP 85 g)) := by kernel_rfl
set_option maxRecDepth 100000 in
theorem wd_86 (g : Nat → Int) : (callF Tryz.prog (SWd 86 g) 300 50 [.vec (.inp 0 0) 86] []).map (fun r => (r.1, r.2.2)) = some (.agg [.abs (wdF 86 g)], some (wdP 86 g)) := by kernel_rfl
set_option maxRecDepth 100000 in
theorem wd_87 (g : Nat → Int) : (callF Tryz.prog (SWd 87 g) 300 50 [.vec (.inp 0 0) 87] []).map (fun r => (r.1, r.2.2)) = some (.agg [.abs (wdF 87 g)], some (wdP 87 g)) := by kernel_rfl
set_option maxRecDepth 100000 in
theorem wd_88 (g : Nat → Int) : (callF Tryz.prog (SWd 88 g) 300 50 [.vec (.inp 0 0) 88] []).map (fun r => (r.1, r.2.2)) = some (.agg [.abs (wdF 88 g)], some (wdP 88 g)) := by kernel_rfl
set_option maxRecDepth 100000 in
theorem wd_89 (g : Nat → Int) : (callF Tryz.prog (SWd 89 g) 300 50 [.vec (.inp 0 0) 89] []).map (fun r => (r.1, r.2.2)) = some (.agg [.abs (wdF 89 g)], some (wdP 89 g)) := by kernel_rfl
set_option maxRecDepth 100000 in
theorem wd_90 (g : Nat → Int) : (callF Tryz.prog (SWd 90 g) 300 50 [.vec (.inp 0 0) 90] []).map (fun r => (r.1, r.2.2)) = some (.agg [.abs (wdF 90 g)], some (wdP 90 g)) := by kernel_rfl
set_option maxRecDepth 100000 in
theorem wd_91 (g : Nat → Int) : (callF Tryz.prog (SWd 91 g) 300 50 [.vec (.inp 0 0) 91] []).map (fun r => (r.1, r.2.2)) = some (.agg [.abs (wdF 91 g)], some (wdP 91 g)) := by kernel_rfl
set_option maxRecDepth 100000 in
theorem wd_92 (g : Nat → Int) : (callF Tryz.prog (SWd 92 g) 300 50 [.vec (.inp 0 0) 92] []).map (fun r => (r.1, r.2.2)) = some (.agg [.abs (wdF 92 g)], some (wdP 92 g)) := by kernel_rfl
set_option maxRecDepth 100000 in
theorem wd_93 (g : Nat → Int) : (callF Tryz.prog (SWd 93 g) 300 50 [.vec (.inp 0 0) 93] []).map (fun r => (r.1, r.2.2)) = some (.agg [.abs (wdF 93 g)], some (wdP 93 g)) := by kernel_rfl
set_option maxRecDepth 100000 in
theorem wd_94 (g : Nat → Int) : (callF Tryz.prog (SWd 94 g) 300 50 [.vec (.inp 0 0) 94] []).map (fun r => (r.1, r.2.2)) = some (.agg [.abs (wdF 94 g)], some (wdP 94 g)) := by kernel_rfl
set_option maxRecDepth 100000 in
theorem wd_95 (g : Nat → Int) : (callF Tryz.prog (SWd 95 g) 300 50 [.vec (.inp 0 0) 95] []).map (fun r => (r.1, r.2.2)) = some (.agg [.abs (wdF 95 g)], some (wdP 95 g)) := by kernel_rfl
set_option maxRecDepth 100000 in
theorem wd_96 (g : Nat → Int) : (callF Tryz.prog (SWd 96 g) 300 50 [.vec (.inp 0 0) 96] []).map (fun r => (r.1, r.2.2)) = some (.agg [.abs (wdF 96 g)], some (wdP 96 g)) := by kernel_rfl
set_option maxRecDepth 100000 in
theorem wd_97 (g : Nat → Int) : (callF Tryz.prog (SWd 97 g) 300 50 [.vec (.inp 0 0) 97] []).map (fun r => (r.1, r.2.2)) = some (.agg [.abs (wdF 97 g)], some (wdP 97 g)) := by kernel_rfl
set_option maxRecDepth 100000 in
theorem wd_98 (g : Nat → Int) : (callF Tryz.prog (SWd 98 g) 300 50 [.vec (.inp 0 0) 98] []).map (fun r => (r.1, r.2.2)) = some (.agg [.abs (wdF 98 g)], some (wdP 98 g)) := by kernel_rfl
set_option maxRecDepth 100000 in
theorem wd_99 (g : Nat → Int) : (callF Tryz.prog (SWd 99 g) 300 50 [.vec (.inp 0 0) 99] []).map (fun r => (r.1, r.2.2)) = some (.agg [.abs (wdF 99 g)], some (wdP 99 g)) := by kernel_rfl
set_option maxRecDepth 100000 in
theorem wd_100 (g : Nat → Int) : (callF Tryz.prog (SWd 100 g) 300 50 [.vec (.inp 0 0) 100] []).map (fun r => (r.1, r.2.2)) = some (.agg [.abs (wdF 100 g)], some (wdP 100 g)) := by kernel_rfl
theorem wdV (g : Nat → Int) : ∀ n, 1 ≤ n → n ≤ 100 → (callF Tryz.prog (SWd n g) 300 50 [.vec (.inp 0 0) n] []).map (fun r => (r.1, r.2.2)) = some (.agg [.abs (wdF n g)], some (wdP n g))
  | 0, h, _ => absurd h (by omega)
  | 1, _, _ => wd_1 g
  | 2, _, _ => wd_2 g
  | 3, _, _ => wd_3 g
  | 4, _, _ => wd_4 g
  | 5, _, _ => wd_5 g
  | 6, _, _ => wd_6 g
  | 7, _, _ => wd_7 g
  | 8, _, _ => wd_8 g
  | 9, _, _ => wd_9 g
  | 10, _, _ => wd_10 g
  | 11, _, _ => wd_11 g
  | 12, _, _ => wd_12 g
  | 13, _, _ => wd_13 g
  | 14, _, _ => wd_14 g
  | 15, _, _ => wd_15 g
  | 16, _, _ => wd_16 g
  | 17, _, _ => wd_17 g
  | 18, _, _ => wd_18 g
  | 19, _, _ => wd_19 g
  | 20, _, _ => wd_20 g
  | 21, _, _ => wd_21 g
  | 22, _, _ => wd_22 g
  | 23, _, _ => wd_23 g
  | 24, _, _ => wd_24 g
  | 25, _, _ => wd_25 g
  | 26, _, _ => wd_26 g
  | 27, _, _ => wd_27 g
  | 28, _, _ => wd_28 g
  | 29, _, _ => wd_29 g
  | 30, _, _ => wd_30 g
  | 31, _, _ => wd_31 g
  | 32, _, _ => wd_32 g
  | 33, _, _ => wd_33 g
  | 34, _, _ => wd_34 g
  | 35, _, _ => wd_35 g
  | 36, _, _ => wd_36 g
  | 37, _, _ => wd_37 g
  | 38, _, _ => wd_38 g
  | 39, _, _ => wd_39 g
  | 40, _, _ => wd_40 g
  | 41, _, _ => wd_41 g
  | 42, _, _ => wd_42 g
  | 43, _, _ => wd_43 g
  | 44, _, _ => wd_44 g
  | 45, _, _ => wd_45 g
  | 46, _, _ => wd_46 g
  | 47, _, _ => wd_47 g
  | 48, _, _ => wd_48 g
  | 49, _, _ => wd_49 g
  | 50, _, _ => wd_50 g
  | 51, _, _ => wd_51 g
  | 52, _, _ => wd_52 g
  | 53, _, _ => wd_53 g
  | 54, _, _ => wd_54 g
  | 55, _, _ => wd_55 g
  | 56, _, _ => wd_56 g
  | 57, _, _ => wd_57 g
  | 58, _, _ => wd_58 g
  | 59, _, _ => wd_59 g
  | 60, _, _ => wd_60 g
  | 61, _, _ => wd_61 g
  | 62, _, _ => wd_62 g
  | 63, _, _ => wd_63 g
  | 64, _, _ => wd_64 g
  | 65, _, _ => wd_65 g
  | 66, _, _ => wd_66 g
  | 67, _, _ => wd_67 g
  | 68, _, _ => wd_68 g
  | 69, _, _ => wd_69 g
  | 70, _, _ => wd_70 g
  | 71, _, _ => wd_71 g
  | 72, _, _ => wd_72 g
  | 73, _, _ => wd_73 g
  | 74, _, _ => wd_74 g
  | 75, _, _ => wd_75 g
  | 76, _, _ => wd_76 g
  | 77, _, _ => wd_77 g
  | 78, _, _ => wd_78 g
  | 79, _, _ => wd_79 g
  | 80, _, _ => wd_80 g
  | 81, _, _ => wd_81 g
  | 82, _, _ => wd_82 g
  | 83, _, _ => wd_83 g
  | 84, _, _ => wd_84 g
  | 85, _, _ => wd_85 g
  | 86, _, _ => wd_86 g
  | 87, _, _ => wd_87 g
  | 88, _, _ => wd_88 g
  | 89, _, _ => wd_89 g
  | 90, _, _ => wd_90 g
  | 91, _, _ => wd_91 g
  | 92, _, _ => wd_92 g
  | 93, _, _ => wd_93 g
  | 94, _, _ => wd_94 g
  | 95, _, _ => wd_95 g
  | 96, _, _ => wd_96 g
  | 97, _, _ => wd_97 g
  | 98, _, _ => wd_98 g
  | 99, _, _ => wd_99 g
  | 100, _, _ => wd_100 g
  | m + 101, _, h => absurd h (by omega)
end Go.Proofs.YtonmjdnkcngfjaaGreat.En

/- DERIVED. The element of any bytes: the contract. -/
set_option linter.all false
namespace Go.Proofs.YtonmjdnkcngfjaaGreat.En
open Go Go.RowKit

theorem Told.as {f : FuncId} {us : List (List (LV Fe))} {args : List (LV Fe)} {v v' : LV Fe} (h : Told Tryz.prog f us args v []) (hv : plainB v' = true) (e : ∀ ρ : Key → Loc, LV.tr ρ v = LV.tr ρ v') : Told Tryz.prog f us args v' [] := by
  intro D ρ w ha
  refine (h D ρ w ha).mono ?_
  rintro e' w' ⟨ρ1, rfl, h1, h2, h3, h4, h5, h6⟩
  exact ⟨ρ1, by rw [e ρ1], h1, h2, h3, h4, pv_kin _ v' hv, h6⟩
set_option maxRecDepth 100000 in
theorem wd_0 (g : Nat → Int) : (callF Tryz.prog (SWd 0 g) 300 50 [.vec (.inp 0 0) 0] []).map (fun r => (r.1, r.2.2)) = some (z6V, some (true = true ∧ true = true ∧ true = true)) := by kernel_rfl
theorem wd0_tr (g : Nat → Int) (ρ : Key → Loc) : LV.tr ρ z6V = LV.tr ρ (.agg [.abs (wdF 0 g)] : LV Fe) := by kernel_rfl
theorem wd_told {n : Nat} (hn : n ≤ 100) (g : Nat → Int) : Told Tryz.prog 50 [[.rows n 1 fun j => [.int .u8 (g j)]]] [.vec (.inp 0 0) n] (.agg [.abs (wdF n g)]) [] := by
  have hp : plainL [(.rows n 1 fun j => [.int .u8 (g j)] : LV Fe)] := ⟨fun _ => ⟨trivial, trivial⟩, trivial⟩
  rcases Nat.eq_zero_or_pos n with rfl | h
  · exact Told.as (told_walk (SWd_ok 0 g) rfl hp (wd_0 g) ⟨rfl, rfl, rfl⟩ rfl) rfl (wd0_tr g)
  · exact told_walk (SWd_ok n g) rfl hp (wdV g n h hn) (wdP_ok n g) rfl
noncomputable def wdFn (I : Inp Fe) (vs : List (LV Fe)) (mem : Mem Fe) : Option (RdC Fe) := match vs with
  | [.vec k m] => match at? I mem k with
    | some bl => match isDead bl.kd, rowsB bl.us with
      | false, some (n, g, c) => some ⟨[[.rows m 1 fun j => [.int .u8 (g j)]]], [k], [.vec (.inp 0 0) m], .agg [.abs (wdF m g)], [], c ∧ n = m ∧ m ≤ 100⟩
      | _, _ => none
    | none => none
  | _ => none
theorem wdFn_ok : ∀ I vs mem r, wdFn I vs mem = some r → r.c → RdOk Tryz.prog 50 I vs mem r := by
  intro I vs mem r h hc
  unfold wdFn at h
  split at h
  · rename_i k m
    split at h
    · rename_i bl hb
      split at h
      · rename_i n g c hd hr
        cases h
        obtain ⟨h1, h2, h3⟩ := hc
        subst h2
        exact {
          args := rfl
          fit := ⟨⟨fun e => by simp [keyMap, ιOf] at e, trivial⟩, trivial⟩
          len := rfl
          blk := fun j k' us hk hus => by
            match j with
            | 0 =>
              cases hk; cases hus
              exact ⟨bl, hb, hd, ⟨fun _ => ⟨trivial, trivial⟩, trivial⟩, rowsB_some hr h1⟩
            | j + 1 => simp at hk
          told := wd_told h3 g
          fitv := (plain_ren _ _ _ (show LV.plain (.agg [.abs (wdF n g)] : LV Fe) from ⟨trivial, trivial⟩)).2
          fitb := fun b hb => absurd hb List.not_mem_nil }
      · cases h
    · cases h
  · cases h
set_option maxRecDepth 100000 in
theorem entWide : ∀ args w, (callFunc 50 args).run Tryz.prog w = .ok (.enter 50 args) w := ent_of (f := 50) (P := Tryz.prog) rfl rfl rfl
noncomputable def conWide : ConC Tryz.prog Fe := conRdT 50 entWide wdFn wdFn_ok
end Go.Proofs.YtonmjdnkcngfjaaGreat.En

/- DERIVED. A region whose order Go leaves open, run in each of its orders. -/
set_option linter.all false
namespace Go.Proofs.YtonmjdnkcngfjaaGreat.En
open Go Go.RowKit

section
variable {A : Type} [Ab A] {P : Program}

def catO {β : Type} : List (Option (List β)) → Option (List β)
  | [] => some []
  | some l :: r => match catO r with
    | some m => some (l ++ m)
    | none => none
  | none :: _ => none
theorem catO_mem {β : Type} : ∀ {l : List (Option (List β))} {m : List β}, catO l = some m → ∀ x ∈ l, ∃ y, x = some y ∧ ∀ p ∈ y, p ∈ m
  | [], _, _, x, hx => absurd hx List.not_mem_nil
  | none :: _, _, h, _, _ => by cases h
  | some l :: r, m, h, x, hx => by
    simp only [catO] at h
    split at h
    · rename_i m' hm
      cases h
      rcases List.mem_cons.1 hx with rfl | hx
      · exact ⟨l, rfl, fun p hp => List.mem_append_left _ hp⟩
      · obtain ⟨y, e, hy⟩ := catO_mem hm x hx
        exact ⟨y, e, fun p hp => List.mem_append_right _ (hy p hp)⟩
    · cases h
def ctlA (P : Program) (S : Sig A) (cur : FuncId) (rid i : Nat) (o : Oper) (key : Nat) : Ctl := { ctlO S cur rid (rO P S cur rid o) key 0 i with ck := 0, fz := { S.fz cur rid with pl := false } }
def bareC (s : LS A) : LS A := { s with conds := [none] }
/-- One operation, wherever it comes. -/
def stepA (P : Program) (S : Sig A) (cur : FuncId) (rid : Nat) (ops : Array Oper) (i : Nat) (o : Oper) (s : LS A) : Option (LS A) :=
  forceN s.mem.length fun key => match stepG P S S.cs (ctlA P S cur rid i o key) ops.toList o (more (rO P S cur rid o) (bareC s)) with
  | some s' => some (cutS key s')
  | none => none
/-- What each order comes to. -/
def ordR (P : Program) (S : Sig A) (cur : FuncId) (rid : Nat) (ops : Array Oper) : Nat → Array Bool → LS A → Cnd → Option (List (LS A × Cnd))
  | 0, l, s, c => match Region.ready .any ops l with
    | [] => some [(s, c)]
    | _ => none
  | n + 1, l, s, c => match Region.ready .any ops l with
    | [] => some [(s, c)]
    | j :: js => catO ((j :: js).map fun i => match ops[i]? with
      | some o => match stepA P S cur rid ops i o s with
        | some s' => ordR P S cur rid ops n (l.setIfInBounds i true) s' (andC c (s'.conds.headD none))
        | none => none
      | none => none)
theorem ordR_c {S : Sig A} {cur : FuncId} {rid : Nat} {ops : Array Oper} : ∀ (n : Nat) (l : Array Bool) (s : LS A) (c : Cnd) (ts : List (LS A × Cnd)), ordR P S cur rid ops n l s c = some ts → (∀ p ∈ ts, condOk p.2) → condOk c
  | 0, l, s, c, ts, h, hc => by
    simp only [ordR] at h
    split at h
    · cases h; exact hc _ List.mem_cons_self
    · cases h
  | n + 1, l, s, c, ts, h, hc => by
    simp only [ordR] at h
    split at h
    · cases h; exact hc _ List.mem_cons_self
    · rename_i j js hj
      obtain ⟨y, e, hy⟩ := catO_mem h _ (by rw [List.map_cons]; exact List.mem_cons_self)
      split at e
      · split at e
        · have := ordR_c n _ _ _ _ e fun p hp => hc p (hy p hp)
          exact (andC_ok this).1
        · cases e
      · cases e
variable {I : Nat → Nat → List (LV A)} {Own : Dom} {w0 : World}
theorem stepA_sound [LawAb A] [LawEq A] {S : Sig A} (hI : S.inp = I) (hS : SigOk P S) {cur : FuncId} {rid : Nat} {ops : Array Oper} {i : Nat} {o : Oper} (ho : ops[i]? = some o) {s s' : LS A} (h : stepA P S cur rid ops i o s = some s') (hc : condOk (s'.conds.headD none)) {ρ : Key → Loc} {a : Act} {w : World} (hr : Rl I Own w0 ρ s a w)
    {K : Act → World → Prop} {Q : Exit → Act → World → Prop} (hK : ∀ ρ' a' w', (∀ k m, okKey s.mem ρ k m → ρ k = ρ' k) → (∀ (k : Nat) (bl : Blk A), s.mem[k]? = some (some bl) → ∃ bl' : Blk A, s'.mem[k]? = some (some bl')) → Rl I Own w0 ρ' s' a' w' → K a' w') : wpOpR P ops Q i K a w := by
  simp only [stepA, forceN_eq] at h
  split at h
  rotate_left
  · cases h
  rename_i t hs
  cases h
  have hs : stepG P S S.cs (ctlA P S cur rid i o (bareC s).mem.length) ops.toList o (more (ctlA P S cur rid i o (bareC s).mem.length).r (bareC s)) = some t := hs
  have hcr : CallOk P I S.cs := hI ▸ hS.cs
  obtain ⟨e1, e2, e3, e4, e5, e6⟩ := stepO_shape hcr.grow (s := bareC s) rfl hs
  refine stepG_sound hI hS hcr ho hs (fun c hcc => ?_) (show 0 < 1 by omega) (fun hp => ?_) (by show s.mem.length ≤ _; simp [more, bareC]) ?_ (hr.sub' (t := more (rO P S cur rid o) (bareC s)) rfl fun k bl => more_get _ (bareC s) k bl) ?_
  · have hl : t.conds.length = 1 := e1
    have hcc : t.conds[0]? = some c := hcc
    have hc : condOk (t.conds.headD none) := hc
    match ht : t.conds, hl with
    | [x], _ =>
      rw [ht] at hcc hc
      cases hcc
      exact hc
  · have hp : 0 < rO P S cur rid o := hp
    show (more (rO P S cur rid o) (bareC s)).mem[s.mem.length]? = _
    simp only [more, bareC]
    rw [List.getElem?_append_right (Nat.le_refl _), List.getElem?_replicate, if_pos (by omega)]
  · intro _ k hk bl hb
    have hk : s.mem.length ≤ k := hk
    have := lt_of_get ((more_get _ (bareC s) k bl).1 hb)
    simp only [bareC] at this
    omega
  · intro ρ' a' w' he hr'
    refine hK ρ' a' w' (fun k m hk => he k m ?_) (fun k bl hb => e4 k bl hb) (hr'.sub' rfl fun k bl => trimM_get _ _ k bl)
    cases k with
    | own k => obtain ⟨⟨bl, hb⟩, hm⟩ := hk; exact ⟨⟨bl, (more_get _ (bareC s) _ _).2 hb⟩, hm⟩
    | inp t i => exact hk
theorem ord_sound [LawAb A] [LawEq A] {S : Sig A} (hI : S.inp = I) (hS : SigOk P S) {cur : FuncId} {rid : Nat} {ops : Array Oper} {Q : Exit → Act → World → Prop} : ∀ (n : Nat) (l : Array Bool) (s : LS A) (c : Cnd) (ts : List (LS A × Cnd)) (ρ : Key → Loc) (a : Act) (w : World),
    ordR P S cur rid ops n l s c = some ts → (∀ p ∈ ts, condOk p.2) → Rl I Own w0 ρ s a w → (∀ p ∈ ts, ∀ ρ' a' w', (∀ k m, okKey s.mem ρ k m → ρ k = ρ' k) → Rl I Own w0 ρ' p.1 a' w' → Q .normal a' w') → wpAnyR P ops Q n l a w
  | 0, l, s, c, ts, ρ, a, w, h, hc, hr, hQ => by
    simp only [ordR] at h
    split at h
    · rename_i hl
      cases h
      exact wpAnyR_zero hl (hQ _ List.mem_cons_self ρ a w (fun _ _ _ => rfl) hr)
    · cases h
  | n + 1, l, s, c, ts, ρ, a, w, h, hc, hr, hQ => by
    simp only [ordR] at h
    split at h
    · rename_i hl
      cases h
      refine wpAnyR_succ (fun _ => hQ _ List.mem_cons_self ρ a w (fun _ _ _ => rfl) hr) fun i hi => ?_
      rw [hl] at hi
      exact absurd hi List.not_mem_nil
    · rename_i j js hj
      refine wpAnyR_succ (fun he => by rw [hj] at he; cases he) fun i hi => ?_
      rw [hj] at hi
      obtain ⟨y, e, hy⟩ := catO_mem h _ (List.mem_map_of_mem hi)
      split at e
      · rename_i o ho
        split at e
        · rename_i s' hs
          have hc' := ordR_c n _ _ _ _ e fun p hp => hc p (hy p hp)
          refine stepA_sound hI hS ho hs (andC_ok hc').2 hr fun ρ' a' w' he hlive hr' => ?_
          refine ord_sound hI hS n _ _ _ _ ρ' a' w' e (fun p hp => hc p (hy p hp)) hr' fun p hp ρ2 a2 w2 he2 hr2 => hQ p (hy p hp) ρ2 a2 w2 (fun k m hk => (he k m hk).trans (he2 k m ?_)) hr2
          exact okKey_to hlive hk (he k m hk)
        · cases e
      · cases e
/-- One of these ways to name a state's blocks. -/
def oneS (I : Inp A) (B : Nat) (t : LS A) (nn : Nat) (l : List (Nat × LV A)) (m' : Mem A) : List (List (Option Key)) → Option Cnd
  | [] => none
  | σ :: r => match idB σ m' B with
    | true => match mS I σ t nn l m' with
      | some c => some c
      | none => oneS I B t nn l m' r
    | false => oneS I B t nn l m' r
theorem oneS_spec {I : Inp A} {B : Nat} {t : LS A} {nn : Nat} {l : List (Nat × LV A)} {m' : Mem A} {c : Cnd} : ∀ {σs : List (List (Option Key))}, oneS I B t nn l m' σs = some c → ∃ σ, idB σ m' B = true ∧ mS I σ t nn l m' = some c
  | [], h => by cases h
  | σ :: r, h => by
    simp only [oneS] at h
    split at h
    · rename_i hi
      split at h
      · rename_i c' hm; cases h; exact ⟨σ, hi, hm⟩
      · exact oneS_spec h
    · exact oneS_spec h
def allS (I : Inp A) (B : Nat) (σs : List (List (Option Key))) (nn : Nat) (l : List (Nat × LV A)) (m' : Mem A) : List (LS A × Cnd) → Option Cnd
  | [] => some none
  | p :: r => match oneS I B p.1 nn l m' σs, allS I B σs nn l m' r with
    | some c, some c' => some (andC (andC p.2 c) c')
    | _, _ => none
theorem allS_spec {I : Inp A} {B : Nat} {σs : List (List (Option Key))} {nn : Nat} {l : List (Nat × LV A)} {m' : Mem A} : ∀ {ts : List (LS A × Cnd)} {c : Cnd}, allS I B σs nn l m' ts = some c → condOk c → ∀ p ∈ ts, condOk p.2 ∧ ∃ σ c', idB σ m' B = true ∧ mS I σ p.1 nn l m' = some c' ∧ condOk c'
  | [], _, _, _, p, hp => absurd hp List.not_mem_nil
  | q :: r, c, h, hc, p, hp => by
    simp only [allS] at h
    split at h
    · rename_i c1 c2 h1 h2
      cases h
      obtain ⟨k1, k2⟩ := andC_ok hc
      obtain ⟨k3, k4⟩ := andC_ok k1
      rcases List.mem_cons.1 hp with rfl | hp
      · obtain ⟨σ, e1, e2⟩ := oneS_spec h1
        exact ⟨k3, σ, c1, e1, e2, k4⟩
      · exact allS_spec h2 k2 p hp
    · cases h
/-- All orders of the region at this place come to this state. -/
def runO (P : Program) (S : Sig A) (cur : FuncId) (p : List Nat) (s : LS A) (B : Nat) (σs : List (List (Option Key))) (nn : Nat) (l : List (Nat × LV A)) (m' : Mem A) : Option Cnd := match codeAt P cur p with
  | .region rid ops true => match idB (σs.headD []) m' B, ordR P S cur rid ops ops.size (Array.replicate ops.size false) s none with
    | true, some ts => allS S.inp B σs nn l m' ts
    | _, _ => none
  | _ => none
theorem ExB.orders [LawAb A] [LawEq A] {I : Inp A} {S : Sig A} (hS : SigOk P S) (hI : InpOk I) (hSI : S.inp = I) (hm : P.follows .mixedOrders = true) {cur : FuncId} {p : List Nat} {s : LS A} {B : Nat} (σs : List (List (Option Key))) {nn : Nat} {l : List (Nat × LV A)} {m' : Mem A} {cs : List Cnd} {c : Cnd}
    (h : runO P S cur p s B σs nn l m' = some c) (hc : condOk c) : ExB B P I (codeAt P cur p) s .normal ⟨tm nn l, m', cs⟩ := by
  unfold runO at h
  split at h
  · rename_i rid ops hcode
    split at h
    · rename_i ts hid ho
      rw [hcode]
      have hall := allS_spec h hc
      refine ⟨fun k bl hk hb => there_ex (idB_spec hid k hk).2, fun Own w0 ρ a w Q hr hQ => wpR_region_any hm ?_⟩
      refine ord_sound hSI hS ops.size _ s none ts ρ a _ ho (fun p hp => (hall p hp).1) hr.drew fun p hp ρ' a' w' he hr' => ?_
      obtain ⟨_, σ, c', e1, e2, e3⟩ := hall p hp
      rw [hSI] at e2
      have hf : Fits I p.1 ⟨tm nn l, m', cs⟩ (σL σ) := mS_spec e2 e3
      refine hQ _ a' w' (fun k m hB hk => ?_) (hf.rl hI hr')
      rw [he k m hk]
      cases k with
      | own k => exact (renρ_some (τ := ownK (σL σ)) (b := .own k) (idB_spec e1 k hB).1).symm
      | inp x y => rfl
    · cases h
  · cases h
end
end Go.Proofs.YtonmjdnkcngfjaaGreat.En
