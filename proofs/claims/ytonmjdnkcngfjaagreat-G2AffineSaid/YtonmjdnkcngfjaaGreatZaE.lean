/- DERIVED. Texts laid together: MD ME MZ QBD QFP QFQ QFS QFS2 QFT QFU QFV QFX. -/
import Derived.Test.YtonmjdnkcngfjaaGreatZaD
/- DERIVED. The group of a curve y y = x x x + b over a field. -/
set_option linter.all false
namespace Go.Proofs.YtonmjdnkcngfjaaGreat.Alg
open CR

/-- A curve without points of order two, over a field where 1 + 1 isn't 0. -/
class Crv (K : Type) extends Fld K where
  b : K
  two : (1 : K) + 1 ≠ 0
  no2 : ∀ x : K, x * x * x + b ≠ 0

theorem r_opp {K : Type} [CR K] (a b : K) (h : a = -b) : b = -a := eq_of_sub (zero_of_rel (fun zz => [a, b].getD zz 0) 2 (Alg.E.v 1 - (-Alg.E.v 0)) [(Alg.E.c 1, Alg.E.v 0 - (-Alg.E.v 1))] (all_cons (sub_of_eq h) all_nil) (by decide +kernel))
theorem r_dd {K : Type} [CR K] (a b : K)  : -(a * b) = -a * b := eq_of (fun zz => [a, b].getD zz 0) 2 ((-(Alg.E.v 0 * Alg.E.v 1))) (((-Alg.E.v 0) * Alg.E.v 1)) (by decide +kernel)
theorem r_two {K : Type} [CR K] (a : K) : a + a = (1 + 1) * a := by rw [add_mul, one_mul]
theorem r_sl1 {K : Type} [CR K] (u v p q i l : K) (hi : (q - p) * i = 1) (hl : l = (v - u) * i) : l * (q - p) = v - u := eq_of_sub (zero_of_rel (fun zz => [u, v, p, q, i, l].getD zz 0) 6 ((Alg.E.v 5 * (Alg.E.v 3 - Alg.E.v 2)) - (Alg.E.v 1 - Alg.E.v 0)) [((Alg.E.v 1 - Alg.E.v 0), ((Alg.E.v 3 - Alg.E.v 2) * Alg.E.v 4) - Alg.E.c 1), ((Alg.E.v 3 - Alg.E.v 2), Alg.E.v 5 - ((Alg.E.v 1 - Alg.E.v 0) * Alg.E.v 4))] (all_cons (sub_of_eq hi) (all_cons (sub_of_eq hl) all_nil)) (by decide +kernel))
theorem r_sl2 {K : Type} [CR K] (u v p q b l : K) (h1 : u * u = p * p * p + b) (h2 : v * v = q * q * q + b) (hl : l * (q - p) = v - u) : (q - p) * (l * (u + v)) = (q - p) * (p * p + p * q + q * q) := eq_of_sub (zero_of_rel (fun zz => [u, v, p, q, b, l].getD zz 0) 6 (((Alg.E.v 3 - Alg.E.v 2) * (Alg.E.v 5 * (Alg.E.v 0 + Alg.E.v 1))) - ((Alg.E.v 3 - Alg.E.v 2) * (((Alg.E.v 2 * Alg.E.v 2) + (Alg.E.v 2 * Alg.E.v 3)) + (Alg.E.v 3 * Alg.E.v 3)))) [(Alg.E.c (-1), (Alg.E.v 0 * Alg.E.v 0) - (((Alg.E.v 2 * Alg.E.v 2) * Alg.E.v 2) + Alg.E.v 4)), (Alg.E.c 1, (Alg.E.v 1 * Alg.E.v 1) - (((Alg.E.v 3 * Alg.E.v 3) * Alg.E.v 3) + Alg.E.v 4)), ((Alg.E.v 0 + Alg.E.v 1), (Alg.E.v 5 * (Alg.E.v 3 - Alg.E.v 2)) - (Alg.E.v 1 - Alg.E.v 0))] (all_cons (sub_of_eq h1) (all_cons (sub_of_eq h2) (all_cons (sub_of_eq hl) all_nil))) (by decide +kernel))
theorem r_sl3 {K : Type} [CR K] (u p i l : K) (hi : (u + u) * i = 1) (hl : l = (p * p + p * p + p * p) * i) : l * (u + u) = p * p + p * p + p * p := eq_of_sub (zero_of_rel (fun zz => [u, p, i, l].getD zz 0) 4 ((Alg.E.v 3 * (Alg.E.v 0 + Alg.E.v 0)) - (((Alg.E.v 1 * Alg.E.v 1) + (Alg.E.v 1 * Alg.E.v 1)) + (Alg.E.v 1 * Alg.E.v 1))) [((((Alg.E.v 1 * Alg.E.v 1) + (Alg.E.v 1 * Alg.E.v 1)) + (Alg.E.v 1 * Alg.E.v 1)), ((Alg.E.v 0 + Alg.E.v 0) * Alg.E.v 2) - Alg.E.c 1), ((Alg.E.v 0 + Alg.E.v 0), Alg.E.v 3 - ((((Alg.E.v 1 * Alg.E.v 1) + (Alg.E.v 1 * Alg.E.v 1)) + (Alg.E.v 1 * Alg.E.v 1)) * Alg.E.v 2))] (all_cons (sub_of_eq hi) (all_cons (sub_of_eq hl) all_nil)) (by decide +kernel))
theorem r_un1 {K : Type} [CR K] (l m a c : K) (h1 : l * a = c) (h2 : m * a = c) : a * l = a * m := eq_of_sub (zero_of_rel (fun zz => [l, m, a, c].getD zz 0) 4 ((Alg.E.v 2 * Alg.E.v 0) - (Alg.E.v 2 * Alg.E.v 1)) [(Alg.E.c 1, (Alg.E.v 0 * Alg.E.v 2) - Alg.E.v 3), (Alg.E.c (-1), (Alg.E.v 1 * Alg.E.v 2) - Alg.E.v 3)] (all_cons (sub_of_eq h1) (all_cons (sub_of_eq h2) all_nil)) (by decide +kernel))
theorem r_zero_sub {K : Type} [CR K] (a l : K) (h : l = l) : l * (a - a) = 0 := eq_of_sub (zero_of_rel (fun zz => [a, l].getD zz 0) 2 ((Alg.E.v 1 * (Alg.E.v 0 - Alg.E.v 0)) - Alg.E.c 0) [(Alg.E.c 0, Alg.E.v 1 - Alg.E.v 1)] (all_cons (sub_of_eq h) all_nil) (by decide +kernel))
theorem r_cx {K : Type} [CR K] (l p q : K)  : l * l - p - q = l * l - q - p := eq_of (fun zz => [l, p, q].getD zz 0) 3 ((((Alg.E.v 0 * Alg.E.v 0) - Alg.E.v 1) - Alg.E.v 2)) ((((Alg.E.v 0 * Alg.E.v 0) - Alg.E.v 2) - Alg.E.v 1)) (by decide +kernel)
theorem r_cy {K : Type} [CR K] (l p q u v x : K) (h : l * (q - p) = v - u) : l * (p - x) - u = l * (q - x) - v := eq_of_sub (zero_of_rel (fun zz => [l, p, q, u, v, x].getD zz 0) 6 (((Alg.E.v 0 * (Alg.E.v 1 - Alg.E.v 5)) - Alg.E.v 3) - ((Alg.E.v 0 * (Alg.E.v 2 - Alg.E.v 5)) - Alg.E.v 4)) [(Alg.E.c (-1), (Alg.E.v 0 * (Alg.E.v 2 - Alg.E.v 1)) - (Alg.E.v 4 - Alg.E.v 3))] (all_cons (sub_of_eq h) all_nil) (by decide +kernel))
theorem r_cd {K : Type} [CR K] (l p q u v : K) (h : l * (q - p) = v - u) : l * (p - q) = u - v := eq_of_sub (zero_of_rel (fun zz => [l, p, q, u, v].getD zz 0) 5 ((Alg.E.v 0 * (Alg.E.v 1 - Alg.E.v 2)) - (Alg.E.v 3 - Alg.E.v 4)) [(Alg.E.c (-1), (Alg.E.v 0 * (Alg.E.v 2 - Alg.E.v 1)) - (Alg.E.v 4 - Alg.E.v 3))] (all_cons (sub_of_eq h) all_nil) (by decide +kernel))
theorem r_cr {K : Type} [CR K] (l p q u v : K) (h : l * (u + v) = p * p + p * q + q * q) : l * (v + u) = q * q + q * p + p * p := eq_of_sub (zero_of_rel (fun zz => [l, p, q, u, v].getD zz 0) 5 ((Alg.E.v 0 * (Alg.E.v 4 + Alg.E.v 3)) - (((Alg.E.v 2 * Alg.E.v 2) + (Alg.E.v 2 * Alg.E.v 1)) + (Alg.E.v 1 * Alg.E.v 1))) [(Alg.E.c 1, (Alg.E.v 0 * (Alg.E.v 3 + Alg.E.v 4)) - (((Alg.E.v 1 * Alg.E.v 1) + (Alg.E.v 1 * Alg.E.v 2)) + (Alg.E.v 2 * Alg.E.v 2)))] (all_cons (sub_of_eq h) all_nil) (by decide +kernel))
theorem r_nd {K : Type} [CR K] (l p q u v : K) (h : l * (q - p) = v - u) : -l * (q - p) = -v - -u := eq_of_sub (zero_of_rel (fun zz => [l, p, q, u, v].getD zz 0) 5 (((-Alg.E.v 0) * (Alg.E.v 2 - Alg.E.v 1)) - ((-Alg.E.v 4) - (-Alg.E.v 3))) [(Alg.E.c (-1), (Alg.E.v 0 * (Alg.E.v 2 - Alg.E.v 1)) - (Alg.E.v 4 - Alg.E.v 3))] (all_cons (sub_of_eq h) all_nil) (by decide +kernel))
theorem r_nr {K : Type} [CR K] (l p q u v : K) (h : l * (u + v) = p * p + p * q + q * q) : -l * (-u + -v) = p * p + p * q + q * q := eq_of_sub (zero_of_rel (fun zz => [l, p, q, u, v].getD zz 0) 5 (((-Alg.E.v 0) * ((-Alg.E.v 3) + (-Alg.E.v 4))) - (((Alg.E.v 1 * Alg.E.v 1) + (Alg.E.v 1 * Alg.E.v 2)) + (Alg.E.v 2 * Alg.E.v 2))) [(Alg.E.c 1, (Alg.E.v 0 * (Alg.E.v 3 + Alg.E.v 4)) - (((Alg.E.v 1 * Alg.E.v 1) + (Alg.E.v 1 * Alg.E.v 2)) + (Alg.E.v 2 * Alg.E.v 2)))] (all_cons (sub_of_eq h) all_nil) (by decide +kernel))
theorem r_nx {K : Type} [CR K] (l p q : K)  : -l * -l - p - q = l * l - p - q := eq_of (fun zz => [l, p, q].getD zz 0) 3 (((((-Alg.E.v 0) * (-Alg.E.v 0)) - Alg.E.v 1) - Alg.E.v 2)) ((((Alg.E.v 0 * Alg.E.v 0) - Alg.E.v 1) - Alg.E.v 2)) (by decide +kernel)
theorem r_ny {K : Type} [CR K] (l p x u : K)  : -l * (p - x) - -u = -(l * (p - x) - u) := eq_of (fun zz => [l, p, x, u].getD zz 0) 4 ((((-Alg.E.v 0) * (Alg.E.v 1 - Alg.E.v 2)) - (-Alg.E.v 3))) ((-((Alg.E.v 0 * (Alg.E.v 1 - Alg.E.v 2)) - Alg.E.v 3))) (by decide +kernel)
theorem r_bx {K : Type} [CR K] (l p q : K)  : -l * -l - (l * l - p - q) - q = p := eq_of (fun zz => [l, p, q].getD zz 0) 3 (((((-Alg.E.v 0) * (-Alg.E.v 0)) - (((Alg.E.v 0 * Alg.E.v 0) - Alg.E.v 1) - Alg.E.v 2)) - Alg.E.v 2)) (Alg.E.v 1) (by decide +kernel)
theorem r_by {K : Type} [CR K] (l p q u x : K) (h : x = l * l - p - q) : -l * (x - p) - (l * (p - x) - u) = u := eq_of_sub (zero_of_rel (fun zz => [l, p, q, u, x].getD zz 0) 5 ((((-Alg.E.v 0) * (Alg.E.v 4 - Alg.E.v 1)) - ((Alg.E.v 0 * (Alg.E.v 1 - Alg.E.v 4)) - Alg.E.v 3)) - Alg.E.v 3) [(Alg.E.c 0, Alg.E.v 4 - (((Alg.E.v 0 * Alg.E.v 0) - Alg.E.v 1) - Alg.E.v 2))] (all_cons (sub_of_eq h) all_nil) (by decide +kernel))
theorem r_sh {K : Type} [CR K] (l p q u v : K) (h : l * (q - p) = v - u) : v = u + l * (q - p) := eq_of_sub (zero_of_rel (fun zz => [l, p, q, u, v].getD zz 0) 5 (Alg.E.v 4 - (Alg.E.v 3 + (Alg.E.v 0 * (Alg.E.v 2 - Alg.E.v 1)))) [(Alg.E.c (-1), (Alg.E.v 0 * (Alg.E.v 2 - Alg.E.v 1)) - (Alg.E.v 4 - Alg.E.v 3))] (all_cons (sub_of_eq h) all_nil) (by decide +kernel))
theorem r_shq {K : Type} [CR K] (l p q u v : K) (h : l * (q - p) = v - u) : u = v - l * (q - p) := eq_of_sub (zero_of_rel (fun zz => [l, p, q, u, v].getD zz 0) 5 (Alg.E.v 3 - (Alg.E.v 4 - (Alg.E.v 0 * (Alg.E.v 2 - Alg.E.v 1)))) [(Alg.E.c 1, (Alg.E.v 0 * (Alg.E.v 2 - Alg.E.v 1)) - (Alg.E.v 4 - Alg.E.v 3))] (all_cons (sub_of_eq h) all_nil) (by decide +kernel))
theorem r_sub1 {K : Type} [CR K] (p q : K)  : q = p + (q - p) := eq_of (fun zz => [p, q].getD zz 0) 2 (Alg.E.v 1) ((Alg.E.v 0 + (Alg.E.v 1 - Alg.E.v 0))) (by decide +kernel)
theorem r_sub2 {K : Type} [CR K] (p q : K)  : p = q - (q - p) := eq_of (fun zz => [p, q].getD zz 0) 2 (Alg.E.v 0) ((Alg.E.v 1 - (Alg.E.v 1 - Alg.E.v 0))) (by decide +kernel)
theorem r_ndd {K : Type} [CR K] (a : K)  : - -a = a := eq_of (fun zz => [a].getD zz 0) 1 ((-(-Alg.E.v 0))) (Alg.E.v 0) (by decide +kernel)

section
variable {K : Type} [Crv K]
abbrev cb : K := Crv.b
theorem two_ne {a : K} (h : a + a = 0) : a = 0 := by
  rw [r_two] at h
  rcases mul_eq_zero h with h | h
  · exact absurd h Crv.two
  · exact h
def OnC (p : K × K) : Prop := p.2 * p.2 = p.1 * p.1 * p.1 + cb
def negP (p : K × K) : K × K := (p.1, -p.2)
/-- Opposite ones. -/
def Opp (p q : K × K) : Prop := p.1 = q.1 ∧ p.2 = -q.2
structure Sl (p q : K × K) (l : K) : Prop where
  d : l * (q.1 - p.1) = q.2 - p.2
  r : l * (p.2 + q.2) = p.1 * p.1 + p.1 * q.1 + q.1 * q.1
def third (p q : K × K) (l : K) : K × K := (l * l - p.1 - q.1, l * (p.1 - (l * l - p.1 - q.1)) - p.2)
theorem OnC.ne {p : K × K} (h : OnC p) : p.2 ≠ 0 := fun e => Crv.no2 p.1 (by
  have h : p.2 * p.2 = p.1 * p.1 * p.1 + cb := h
  rw [← h, e, zero_mul])
theorem OnC.ne2 {p : K × K} (h : OnC p) : p.2 + p.2 ≠ 0 := fun e => h.ne (two_ne e)
theorem OnC.neg {p : K × K} (h : OnC p) : OnC (negP p) := by
  show -p.2 * -p.2 = _
  rw [neg_mul, mul_neg, neg_neg]; exact h
theorem neg2 (p : K × K) : negP (negP p) = p := by unfold negP; rw [neg_neg]
theorem Opp.symm {p q : K × K} (h : Opp p q) : Opp q p := ⟨h.1.symm, r_opp _ _ h.2⟩
theorem Opp.eq {p q : K × K} (h : Opp p q) : q = negP p := by
  unfold negP
  exact Prod.ext h.1.symm h.symm.2
theorem opp_neg (p : K × K) : Opp p (negP p) := ⟨rfl, (neg_neg _).symm⟩
theorem OnC.same {p q : K × K} (hp : OnC p) (hq : OnC q) (h : p.1 = q.1) (hn : ¬Opp p q) : p = q := by
  have e : p.2 * p.2 = q.2 * q.2 := by
    have h1 : p.2 * p.2 = p.1 * p.1 * p.1 + cb := hp
    have h2 : q.2 * q.2 = q.1 * q.1 * q.1 + cb := hq
    rw [h1, h2, h]
  rcases sq_eq e with e | e
  · exact Prod.ext h e
  · exact absurd ⟨h, e⟩ hn
theorem sub_ne {a b : K} (h : a ≠ b) : b - a ≠ 0 := fun e => h (eq_of_sub e).symm
theorem sl_ex {p q : K × K} (hp : OnC p) (hq : OnC q) (hn : ¬Opp p q) : ∃ l, Sl p q l := by
  by_cases h : p.1 = q.1
  · obtain rfl := hp.same hq h hn
    obtain ⟨i, hi⟩ := Fld.inv (p.2 + p.2) hp.ne2
    refine ⟨(p.1 * p.1 + p.1 * p.1 + p.1 * p.1) * i, ?_, r_sl3 _ _ _ _ hi rfl⟩
    rw [r_zero_sub _ _ rfl, sub_self]
  · obtain ⟨i, hi⟩ := Fld.inv (q.1 - p.1) (sub_ne h)
    have h1 : (q.2 - p.2) * i * (q.1 - p.1) = q.2 - p.2 := r_sl1 _ _ _ _ _ _ hi rfl
    exact ⟨_, h1, mul_left_cancel (sub_ne h) (r_sl2 _ _ _ _ cb _ hp hq h1)⟩
theorem sl_un {p q : K × K} (hn : ¬Opp p q) {l m : K} (hl : Sl p q l) (hm : Sl p q m) : l = m := by
  by_cases h : q.1 - p.1 = 0
  · have e1 := eq_of_sub h
    have e2 : q.2 = p.2 := eq_of_sub (by rw [← hl.d, h, mul_zero])
    have hy : p.2 + q.2 ≠ 0 := fun e => hn ⟨e1.symm, eq_neg_of e⟩
    exact mul_left_cancel hy (r_un1 _ _ _ _ hl.r hm.r)
  · exact mul_left_cancel h (r_un1 _ _ _ _ hl.d hm.d)
theorem Sl.symm {p q : K × K} {l : K} (h : Sl p q l) : Sl q p l := ⟨r_cd _ _ _ _ _ h.d, r_cr _ _ _ _ _ h.r⟩
theorem third_symm {p q : K × K} {l : K} (h : Sl p q l) : third p q l = third q p l := by
  have e := r_cx l p.1 q.1
  refine Prod.ext e ?_
  show l * (p.1 - (l * l - p.1 - q.1)) - p.2 = l * (q.1 - (l * l - q.1 - p.1)) - q.2
  rw [← e]
  exact r_cy _ _ _ _ _ _ h.d
theorem Sl.neg {p q : K × K} {l : K} (h : Sl p q l) : Sl (negP p) (negP q) (-l) := ⟨r_nd _ _ _ _ _ h.d, r_nr _ _ _ _ _ h.r⟩
theorem third_neg (p q : K × K) (l : K) : third (negP p) (negP q) (-l) = negP (third p q l) := by
  have e := r_nx l p.1 q.1
  refine Prod.ext e ?_
  show -l * (p.1 - (-l * -l - p.1 - q.1)) - -p.2 = -(l * (p.1 - (l * l - p.1 - q.1)) - p.2)
  rw [e]
  exact r_ny _ _ _ _
/-- The second point by the first, and the slope. -/
theorem Sl.shape {p q : K × K} {l : K} (h : Sl p q l) : ∃ d : K, q = (p.1 + d, p.2 + l * d) := ⟨q.1 - p.1, Prod.ext (r_sub1 _ _) (r_sh _ _ _ _ _ h.d)⟩
theorem Sl.shape' {p q : K × K} {l : K} (h : Sl p q l) : ∃ d : K, p = (q.1 - d, q.2 - l * d) := ⟨q.1 - p.1, Prod.ext (r_sub2 _ _) (r_shq _ _ _ _ _ h.d)⟩
theorem r_on {K : Type} [CR K] (a b c d e : K) (h : a - b = c - d) (k : c = d + e) : a = b + e := eq_of_sub (zero_of_rel (fun zz => [a, b, c, d, e].getD zz 0) 5 (Alg.E.v 0 - (Alg.E.v 1 + Alg.E.v 4)) [(Alg.E.c 1, (Alg.E.v 0 - Alg.E.v 1) - (Alg.E.v 2 - Alg.E.v 3)), (Alg.E.c 1, Alg.E.v 2 - (Alg.E.v 3 + Alg.E.v 4))] (all_cons (sub_of_eq h) (all_cons (sub_of_eq k) all_nil)) (by decide +kernel))
theorem third_on {p q : K × K} {l : K} (hp : OnC p) (h : Sl p q l) : OnC (third p q l) := by
  obtain ⟨d, rfl⟩ := h.shape
  exact r_on _ _ _ _ _ (ec_on p.1 p.2 l d h.r) hp
theorem third_back {p q : K × K} {l : K} (h : Sl p q l) : Sl (third p q l) (negP q) (-l) := by
  obtain ⟨d, rfl⟩ := h.shape
  exact ⟨ec_back1 p.1 p.2 l d, ec_back2 p.1 p.2 l d h.r⟩
theorem third_third (p q : K × K) (l : K) : third (third p q l) (negP q) (-l) = p := by
  have e := r_bx l p.1 q.1
  refine Prod.ext e ?_
  show -l * ((l * l - p.1 - q.1) - (-l * -l - (l * l - p.1 - q.1) - q.1)) - (l * (p.1 - (l * l - p.1 - q.1)) - p.2) = p.2
  rw [e]
  exact r_by _ _ _ _ _ rfl
theorem r_tw {K : Type} [CR K] (a l p : K) (h : -l * (p - p) = -a - a) : a + a = 0 := eq_of_sub (zero_of_rel (fun zz => [a, l, p].getD zz 0) 3 ((Alg.E.v 0 + Alg.E.v 0) - Alg.E.c 0) [(Alg.E.c 1, ((-Alg.E.v 1) * (Alg.E.v 2 - Alg.E.v 2)) - ((-Alg.E.v 0) - Alg.E.v 0))] (all_cons (sub_of_eq h) all_nil) (by decide +kernel))
/-- A sum isn't its second part. -/
theorem third_ne {p q : K × K} {l : K} (hq : OnC q) (h : Sl p q l) : ¬Opp (third p q l) (negP q) := fun ho => by
  have h1 : third p q l = q := by rw [← neg2 q]; exact ho.symm.eq
  have h2 := (third_back h).d
  rw [h1] at h2
  exact hq.ne2 (r_tw _ _ _ h2)

/-! ## sums -/
open Classical in
noncomputable def slp (p q : K × K) : K := if h : ∃ l, Sl p q l then h.choose else 0
open Classical in
noncomputable def ad : Option (K × K) → Option (K × K) → Option (K × K)
  | none, q => q
  | some p, none => some p
  | some p, some q => if Opp p q then none else some (third p q (slp p q))
def ng : Option (K × K) → Option (K × K)
  | none => none
  | some p => some (negP p)
def OnO : Option (K × K) → Prop
  | none => True
  | some p => OnC p
open Classical in
theorem ad_opp {p q : K × K} (h : Opp p q) : ad (some p) (some q) = none := if_pos h
open Classical in
theorem ad_some {p q : K × K} (hn : ¬Opp p q) {l : K} (h : Sl p q l) : ad (some p) (some q) = some (third p q l) := by
  have e : slp p q = l := by
    unfold slp
    have hx : ∃ l, Sl p q l := ⟨l, h⟩
    rw [dif_pos hx]
    exact sl_un hn hx.choose_spec h
  show (if Opp p q then none else some (third p q (slp p q))) = _
  rw [if_neg hn, e]
theorem ad_none (p : Option (K × K)) : ad p none = p := by cases p <;> rfl
theorem none_ad (p : Option (K × K)) : ad none p = p := rfl
theorem ng_ng (p : Option (K × K)) : ng (ng p) = p := by
  cases p with
  | none => rfl
  | some p => show some (negP (negP p)) = _; rw [neg2]
theorem OnO.ng {p : Option (K × K)} (h : OnO p) : OnO (ng p) := by
  cases p with
  | none => trivial
  | some p => exact OnC.neg h
theorem OnO.ad {p q : Option (K × K)} (hp : OnO p) (hq : OnO q) : OnO (ad p q) := by
  cases p with
  | none => exact hq
  | some p => cases q with
    | none => exact hp
    | some q =>
      by_cases h : Opp p q
      · rw [ad_opp h]; trivial
      · obtain ⟨l, hl⟩ := sl_ex hp hq h
        rw [ad_some h hl]
        exact third_on hp hl
theorem ad_comm {p q : Option (K × K)} (hp : OnO p) (hq : OnO q) : ad p q = ad q p := by
  cases p with
  | none => rw [ad_none]; rfl
  | some p => cases q with
    | none => rfl
    | some q =>
      by_cases h : Opp p q
      · rw [ad_opp h, ad_opp h.symm]
      · obtain ⟨l, hl⟩ := sl_ex hp hq h
        rw [ad_some h hl, ad_some (fun h' => h h'.symm) hl.symm, third_symm hl]
theorem ad_ng (p : Option (K × K)) : ad p (ng p) = none := by
  cases p with
  | none => rfl
  | some p => exact ad_opp (opp_neg p)
theorem ng_ad {p q : Option (K × K)} (hp : OnO p) (hq : OnO q) : ng (ad p q) = ad (ng p) (ng q) := by
  cases p with
  | none => rfl
  | some p => cases q with
    | none => rfl
    | some q =>
      by_cases h : Opp p q
      · rw [ad_opp h]
        exact (ad_opp (p := negP p) (q := negP q) ⟨h.1, by show -p.2 = - -q.2; rw [h.2]⟩).symm
      · obtain ⟨l, hl⟩ := sl_ex hp hq h
        have h' : ¬Opp (negP p) (negP q) := fun h' => h ⟨h'.1, by have h2 : -p.2 = - -q.2 := h'.2; rw [← neg_neg p.2, h2, neg_neg]⟩
        rw [ad_some h hl]
        show some _ = ad (some (negP p)) (some (negP q))
        rw [ad_some h' hl.neg, third_neg]
/-- Undone. -/
theorem ad_back {p q : Option (K × K)} (hp : OnO p) (hq : OnO q) : ad (ad p q) (ng q) = p := by
  cases q with
  | none => rw [ad_none]; exact ad_none p
  | some q => cases p with
    | none => exact ad_ng (some q)
    | some p =>
      by_cases h : Opp p q
      · rw [ad_opp h]
        show some (negP q) = some p
        rw [← h.symm.eq]
      · obtain ⟨l, hl⟩ := sl_ex hp hq h
        rw [ad_some h hl]
        show ad (some (third p q l)) (some (negP q)) = _
        rw [ad_some (third_ne hq hl) (third_back hl), third_third]
theorem ad_cancel {p q r : Option (K × K)} (hp : OnO p) (hq : OnO q) (hr : OnO r) (h : ad p q = ad r q) : p = r := by
  rw [← ad_back hp hq, h, ad_back hr hq]
theorem ad_cancel' {p q r : Option (K × K)} (hp : OnO p) (hq : OnO q) (hr : OnO r) (h : ad q p = ad q r) : p = r := ad_cancel hp hq hr (by rw [ad_comm hp hq, h, ad_comm hq hr])

/-! ## any grouping -/
theorem r_fin {K : Type} [CR K] (a c : K) (h : a - c = 0) : a = c := eq_of_sub (zero_of_rel (fun zz => [a, c].getD zz 0) 2 (Alg.E.v 0 - Alg.E.v 1) [(Alg.E.c 1, (Alg.E.v 0 - Alg.E.v 1) - Alg.E.c 0)] (all_cons (sub_of_eq h) all_nil) (by decide +kernel))
theorem third_assoc {p q r : K × K} {l m n k : K} (hl : Sl p q l) (hm : Sl q r m) (hn : Sl (third p q l) r n) (hk : Sl p (third q r m) k) (hA : r.1 - (third p q l).1 ≠ 0)
    (hB : (third q r m).1 - p.1 ≠ 0 ∨ p.2 + (third q r m).2 ≠ 0) : third (third p q l) r n = third p (third q r m) k := by
  obtain ⟨x, y⟩ := q
  obtain ⟨d, rfl⟩ := hl.shape'
  obtain ⟨e, rfl⟩ := hm.shape
  have key : ∀ {X1 X2 Y1 : K}, X1 = X2 → Y1 = k * ((x - d) - X1) - (y - l * d) → (X1, Y1) = (X2, k * ((x - d) - X2) - (y - l * d)) := fun h1 h2 => by rw [h2, h1]
  rcases hB with hB | hB
  · refine key (eq_of_sub ?_) (eq_of_sub ?_)
    · rcases mul_eq_zero (ec_xAB x y l m d e n k hl.r hm.r hn.d hk.d) with h | h
      · exact h
      · exact absurd h (mul_ne (mul_ne hA hA) (mul_ne hB hB))
    · rcases mul_eq_zero (ec_yAB x y l m d e n k hl.r hm.r hn.d hk.d) with h | h
      · exact h
      · exact absurd h (mul_ne (mul_ne (mul_ne hA hA) hA) hB)
  · refine key (eq_of_sub ?_) (eq_of_sub ?_)
    · rcases mul_eq_zero (ec_xAD x y l m d e n k hl.r hm.r hn.d hk.r) with h | h
      · exact h
      · exact absurd h (mul_ne (mul_ne hA hA) (mul_ne hB hB))
    · rcases mul_eq_zero (ec_yAD x y l m d e n k hl.r hm.r hn.d hk.r) with h | h
      · exact h
      · exact absurd h (mul_ne (mul_ne (mul_ne hA hA) hA) hB)
/-- .. where the sum of the first two hasn't the third's x. -/
theorem assoc_1 {p q r : K × K} (hp : OnC p) (hq : OnC q) (hr : OnC r) (h1 : ¬Opp p q) (h2 : ¬Opp q r) {s t : K × K} (hs : ad (some p) (some q) = some s) (ht : ad (some q) (some r) = some t) (h4 : ¬Opp p t) (hA : s.1 ≠ r.1) :
    ad (some s) (some r) = ad (some p) (some t) := by
  obtain ⟨l, hl⟩ := sl_ex hp hq h1
  obtain ⟨m, hm⟩ := sl_ex hq hr h2
  rw [ad_some h1 hl] at hs
  rw [ad_some h2 hm] at ht
  cases hs; cases ht
  have h3 : ¬Opp (third p q l) r := fun h => hA h.1
  obtain ⟨n, hn⟩ := sl_ex (third_on hp hl) hr h3
  have hton := third_on hq hm
  obtain ⟨k, hk⟩ := sl_ex hp hton h4
  rw [ad_some h3 hn, ad_some h4 hk]
  congr 1
  refine third_assoc hl hm hn hk (sub_ne hA) ?_
  by_cases hB : p.1 = (third q r m).1
  · right
    have e := hp.same hton hB h4
    rw [← e]
    exact hp.ne2
  · exact .inl (sub_ne hB)
theorem ad_assoc {p q r : Option (K × K)} (hp : OnO p) (hq : OnO q) (hr : OnO r) : ad (ad p q) r = ad p (ad q r) := by
  cases hp0 : p with
  | none => rfl
  | some p' =>
  cases hq0 : q with
  | none => rfl
  | some q' =>
  cases hr0 : r with
  | none => rw [ad_none, ad_none]
  | some r' =>
  subst hp0 hq0 hr0
  by_cases h1 : Opp p' q'
  · have e : some q' = ng (some p') := by rw [h1.eq]; rfl
    rw [ad_opp h1, e, ad_comm (OnO.ng hp) hr, ad_comm hp (OnO.ad hr (OnO.ng hp))]
    have := ad_back hr (OnO.ng hp)
    rw [ng_ng] at this
    rw [this]; rfl
  by_cases h2 : Opp q' r'
  · have e : some r' = ng (some q') := by rw [h2.eq]; rfl
    rw [ad_opp h2, e, ad_back hp hq, ad_none]
  obtain ⟨l, hl⟩ := sl_ex hp hq h1
  obtain ⟨m, hm⟩ := sl_ex hq hr h2
  have hs := ad_some h1 hl
  have ht := ad_some h2 hm
  have hson : OnC (third p' q' l) := third_on hp hl
  have hton : OnC (third q' r' m) := third_on hq hm
  generalize third p' q' l = s at *
  generalize third q' r' m = t at *
  by_cases h3 : Opp s r'
  · -- s is the third's opposite
    have e : some r' = ng (some s) := by rw [h3.eq]; rfl
    have e2 : ad (some q') (some r') = ng (some p') := by
      rw [e, ← hs, ng_ad hp hq, ad_comm hq (OnO.ad (OnO.ng hp) (OnO.ng hq))]
      have := ad_back (OnO.ng hp) (OnO.ng hq)
      rwa [ng_ng] at this
    rw [e2, ad_ng, hs, ad_opp h3]
  by_cases h4 : Opp p' t
  · have e : some p' = ng (some t) := by rw [h4.symm.eq]; rfl
    have e2 : ad (some p') (some q') = ng (some r') := by
      rw [e, ← ht, ng_ad hq hr, ad_comm (OnO.ng hq) (OnO.ng hr)]
      have := ad_back (OnO.ng hr) (OnO.ng hq)
      rwa [ng_ng] at this
    rw [e2, ht, ad_opp h4, ad_comm (OnO.ng hr) hr, ad_ng]
  rw [hs, ht]
  by_cases hA : s.1 = r'.1
  · have es := hson.same hr hA h3
    by_cases hB : t.1 = p'.1
    · -- the second would be its own opposite
      exfalso
      have et := hton.same hp hB fun h => h4 h.symm
      have b1 := ad_back hp hq
      rw [hs, es] at b1
      have b2 : ad (some r') (some q') = some p' := by rw [ad_comm hr hq, ht, et]
      have b3 := ad_cancel' (OnO.ng hq) hr hq (b1.trans b2.symm)
      have b4 : negP q' = q' := Option.some.inj b3
      have b5 : -q'.2 = q'.2 := congrArg Prod.snd b4
      exact OnC.ne2 hq (by have := add_neg q'.2; rwa [b5] at this)
    · have hs' : ad (some q') (some p') = some s := by rw [← hs, ad_comm hp hq]
      have ht' : ad (some r') (some q') = some t := by rw [← ht, ad_comm hq hr]
      have := assoc_1 hr hq hp (fun h => h2 h.symm) (fun h => h1 h.symm) ht' hs' (fun h => h3 h.symm) hB
      rw [ad_comm (p := some s) hson hr, ← this, ad_comm (p := some t) hton hp]
  · exact assoc_1 hp hq hr h1 h2 hs ht h4 hA
end
end Go.Proofs.YtonmjdnkcngfjaaGreat.Alg

/- DERIVED. Points by three numbers. -/
set_option linter.all false
namespace Go.Proofs.YtonmjdnkcngfjaaGreat.Alg
open CR

theorem j_e {K : Type} [CR K] (x y Z l : K) (h : l*(y+y) = x*x + x*x + x*x) : (((x*(Z*Z))*(x*(Z*Z)))+((x*(Z*Z))*(x*(Z*Z)))+((x*(Z*Z))*(x*(Z*Z)))) = l*((y*(Z*Z*Z))*Z + (y*(Z*Z*Z))*Z) := eq_of_sub (zero_of_rel (fun zz => [x, y, Z, l].getD zz 0) 4 (((((Alg.E.v 0 * (Alg.E.v 2 * Alg.E.v 2)) * (Alg.E.v 0 * (Alg.E.v 2 * Alg.E.v 2))) + ((Alg.E.v 0 * (Alg.E.v 2 * Alg.E.v 2)) * (Alg.E.v 0 * (Alg.E.v 2 * Alg.E.v 2)))) + ((Alg.E.v 0 * (Alg.E.v 2 * Alg.E.v 2)) * (Alg.E.v 0 * (Alg.E.v 2 * Alg.E.v 2)))) - (Alg.E.v 3 * (((Alg.E.v 1 * ((Alg.E.v 2 * Alg.E.v 2) * Alg.E.v 2)) * Alg.E.v 2) + ((Alg.E.v 1 * ((Alg.E.v 2 * Alg.E.v 2) * Alg.E.v 2)) * Alg.E.v 2)))) [((Alg.E.c 0 - (((Alg.E.v 2 * Alg.E.v 2) * Alg.E.v 2) * Alg.E.v 2)), (Alg.E.v 3 * (Alg.E.v 1 + Alg.E.v 1)) - (((Alg.E.v 0 * Alg.E.v 0) + (Alg.E.v 0 * Alg.E.v 0)) + (Alg.E.v 0 * Alg.E.v 0)))] (all_cons (sub_of_eq h) all_nil) (by decide +kernel))
theorem j_d {K : Type} [CR K] (x y Z : K)  : ((((x*(Z*Z))+((y*(Z*Z*Z))*(y*(Z*Z*Z))))*((x*(Z*Z))+((y*(Z*Z*Z))*(y*(Z*Z*Z)))) - ((x*(Z*Z))*(x*(Z*Z))) - (((y*(Z*Z*Z))*(y*(Z*Z*Z)))*((y*(Z*Z*Z))*(y*(Z*Z*Z)))))+(((x*(Z*Z))+((y*(Z*Z*Z))*(y*(Z*Z*Z))))*((x*(Z*Z))+((y*(Z*Z*Z))*(y*(Z*Z*Z)))) - ((x*(Z*Z))*(x*(Z*Z))) - (((y*(Z*Z*Z))*(y*(Z*Z*Z)))*((y*(Z*Z*Z))*(y*(Z*Z*Z)))))) = x*(((y*(Z*Z*Z))*Z + (y*(Z*Z*Z))*Z)*((y*(Z*Z*Z))*Z + (y*(Z*Z*Z))*Z)) := eq_of (fun zz => [x, y, Z].getD zz 0) 3 (((((((Alg.E.v 0 * (Alg.E.v 2 * Alg.E.v 2)) + ((Alg.E.v 1 * ((Alg.E.v 2 * Alg.E.v 2) * Alg.E.v 2)) * (Alg.E.v 1 * ((Alg.E.v 2 * Alg.E.v 2) * Alg.E.v 2)))) * ((Alg.E.v 0 * (Alg.E.v 2 * Alg.E.v 2)) + ((Alg.E.v 1 * ((Alg.E.v 2 * Alg.E.v 2) * Alg.E.v 2)) * (Alg.E.v 1 * ((Alg.E.v 2 * Alg.E.v 2) * Alg.E.v 2))))) - ((Alg.E.v 0 * (Alg.E.v 2 * Alg.E.v 2)) * (Alg.E.v 0 * (Alg.E.v 2 * Alg.E.v 2)))) - (((Alg.E.v 1 * ((Alg.E.v 2 * Alg.E.v 2) * Alg.E.v 2)) * (Alg.E.v 1 * ((Alg.E.v 2 * Alg.E.v 2) * Alg.E.v 2))) * ((Alg.E.v 1 * ((Alg.E.v 2 * Alg.E.v 2) * Alg.E.v 2)) * (Alg.E.v 1 * ((Alg.E.v 2 * Alg.E.v 2) * Alg.E.v 2))))) + (((((Alg.E.v 0 * (Alg.E.v 2 * Alg.E.v 2)) + ((Alg.E.v 1 * ((Alg.E.v 2 * Alg.E.v 2) * Alg.E.v 2)) * (Alg.E.v 1 * ((Alg.E.v 2 * Alg.E.v 2) * Alg.E.v 2)))) * ((Alg.E.v 0 * (Alg.E.v 2 * Alg.E.v 2)) + ((Alg.E.v 1 * ((Alg.E.v 2 * Alg.E.v 2) * Alg.E.v 2)) * (Alg.E.v 1 * ((Alg.E.v 2 * Alg.E.v 2) * Alg.E.v 2))))) - ((Alg.E.v 0 * (Alg.E.v 2 * Alg.E.v 2)) * (Alg.E.v 0 * (Alg.E.v 2 * Alg.E.v 2)))) - (((Alg.E.v 1 * ((Alg.E.v 2 * Alg.E.v 2) * Alg.E.v 2)) * (Alg.E.v 1 * ((Alg.E.v 2 * Alg.E.v 2) * Alg.E.v 2))) * ((Alg.E.v 1 * ((Alg.E.v 2 * Alg.E.v 2) * Alg.E.v 2)) * (Alg.E.v 1 * ((Alg.E.v 2 * Alg.E.v 2) * Alg.E.v 2))))))) ((Alg.E.v 0 * ((((Alg.E.v 1 * ((Alg.E.v 2 * Alg.E.v 2) * Alg.E.v 2)) * Alg.E.v 2) + ((Alg.E.v 1 * ((Alg.E.v 2 * Alg.E.v 2) * Alg.E.v 2)) * Alg.E.v 2)) * (((Alg.E.v 1 * ((Alg.E.v 2 * Alg.E.v 2) * Alg.E.v 2)) * Alg.E.v 2) + ((Alg.E.v 1 * ((Alg.E.v 2 * Alg.E.v 2) * Alg.E.v 2)) * Alg.E.v 2))))) (by decide +kernel)
theorem j_s {K : Type} [CR K] (x y Z : K)  : ((((x*(Z*Z))*((y*(Z*Z*Z))*(y*(Z*Z*Z))))+((x*(Z*Z))*((y*(Z*Z*Z))*(y*(Z*Z*Z)))))+(((x*(Z*Z))*((y*(Z*Z*Z))*(y*(Z*Z*Z))))+((x*(Z*Z))*((y*(Z*Z*Z))*(y*(Z*Z*Z)))))) = x*(((y*(Z*Z*Z))*Z + (y*(Z*Z*Z))*Z)*((y*(Z*Z*Z))*Z + (y*(Z*Z*Z))*Z)) := eq_of (fun zz => [x, y, Z].getD zz 0) 3 (((((Alg.E.v 0 * (Alg.E.v 2 * Alg.E.v 2)) * ((Alg.E.v 1 * ((Alg.E.v 2 * Alg.E.v 2) * Alg.E.v 2)) * (Alg.E.v 1 * ((Alg.E.v 2 * Alg.E.v 2) * Alg.E.v 2)))) + ((Alg.E.v 0 * (Alg.E.v 2 * Alg.E.v 2)) * ((Alg.E.v 1 * ((Alg.E.v 2 * Alg.E.v 2) * Alg.E.v 2)) * (Alg.E.v 1 * ((Alg.E.v 2 * Alg.E.v 2) * Alg.E.v 2))))) + (((Alg.E.v 0 * (Alg.E.v 2 * Alg.E.v 2)) * ((Alg.E.v 1 * ((Alg.E.v 2 * Alg.E.v 2) * Alg.E.v 2)) * (Alg.E.v 1 * ((Alg.E.v 2 * Alg.E.v 2) * Alg.E.v 2)))) + ((Alg.E.v 0 * (Alg.E.v 2 * Alg.E.v 2)) * ((Alg.E.v 1 * ((Alg.E.v 2 * Alg.E.v 2) * Alg.E.v 2)) * (Alg.E.v 1 * ((Alg.E.v 2 * Alg.E.v 2) * Alg.E.v 2))))))) ((Alg.E.v 0 * ((((Alg.E.v 1 * ((Alg.E.v 2 * Alg.E.v 2) * Alg.E.v 2)) * Alg.E.v 2) + ((Alg.E.v 1 * ((Alg.E.v 2 * Alg.E.v 2) * Alg.E.v 2)) * Alg.E.v 2)) * (((Alg.E.v 1 * ((Alg.E.v 2 * Alg.E.v 2) * Alg.E.v 2)) * Alg.E.v 2) + ((Alg.E.v 1 * ((Alg.E.v 2 * Alg.E.v 2) * Alg.E.v 2)) * Alg.E.v 2))))) (by decide +kernel)
theorem j_c {K : Type} [CR K] (x y Z : K)  : (((((y*(Z*Z*Z))*(y*(Z*Z*Z)))*((y*(Z*Z*Z))*(y*(Z*Z*Z))))+(((y*(Z*Z*Z))*(y*(Z*Z*Z)))*((y*(Z*Z*Z))*(y*(Z*Z*Z)))))+((((y*(Z*Z*Z))*(y*(Z*Z*Z)))*((y*(Z*Z*Z))*(y*(Z*Z*Z))))+(((y*(Z*Z*Z))*(y*(Z*Z*Z)))*((y*(Z*Z*Z))*(y*(Z*Z*Z))))))+(((((y*(Z*Z*Z))*(y*(Z*Z*Z)))*((y*(Z*Z*Z))*(y*(Z*Z*Z))))+(((y*(Z*Z*Z))*(y*(Z*Z*Z)))*((y*(Z*Z*Z))*(y*(Z*Z*Z)))))+((((y*(Z*Z*Z))*(y*(Z*Z*Z)))*((y*(Z*Z*Z))*(y*(Z*Z*Z))))+(((y*(Z*Z*Z))*(y*(Z*Z*Z)))*((y*(Z*Z*Z))*(y*(Z*Z*Z)))))) = y*(((y*(Z*Z*Z))*Z + (y*(Z*Z*Z))*Z)*((y*(Z*Z*Z))*Z + (y*(Z*Z*Z))*Z)*((y*(Z*Z*Z))*Z + (y*(Z*Z*Z))*Z)) := eq_of (fun zz => [x, y, Z].getD zz 0) 3 (((((((Alg.E.v 1 * ((Alg.E.v 2 * Alg.E.v 2) * Alg.E.v 2)) * (Alg.E.v 1 * ((Alg.E.v 2 * Alg.E.v 2) * Alg.E.v 2))) * ((Alg.E.v 1 * ((Alg.E.v 2 * Alg.E.v 2) * Alg.E.v 2)) * (Alg.E.v 1 * ((Alg.E.v 2 * Alg.E.v 2) * Alg.E.v 2)))) + (((Alg.E.v 1 * ((Alg.E.v 2 * Alg.E.v 2) * Alg.E.v 2)) * (Alg.E.v 1 * ((Alg.E.v 2 * Alg.E.v 2) * Alg.E.v 2))) * ((Alg.E.v 1 * ((Alg.E.v 2 * Alg.E.v 2) * Alg.E.v 2)) * (Alg.E.v 1 * ((Alg.E.v 2 * Alg.E.v 2) * Alg.E.v 2))))) + ((((Alg.E.v 1 * ((Alg.E.v 2 * Alg.E.v 2) * Alg.E.v 2)) * (Alg.E.v 1 * ((Alg.E.v 2 * Alg.E.v 2) * Alg.E.v 2))) * ((Alg.E.v 1 * ((Alg.E.v 2 * Alg.E.v 2) * Alg.E.v 2)) * (Alg.E.v 1 * ((Alg.E.v 2 * Alg.E.v 2) * Alg.E.v 2)))) + (((Alg.E.v 1 * ((Alg.E.v 2 * Alg.E.v 2) * Alg.E.v 2)) * (Alg.E.v 1 * ((Alg.E.v 2 * Alg.E.v 2) * Alg.E.v 2))) * ((Alg.E.v 1 * ((Alg.E.v 2 * Alg.E.v 2) * Alg.E.v 2)) * (Alg.E.v 1 * ((Alg.E.v 2 * Alg.E.v 2) * Alg.E.v 2)))))) + (((((Alg.E.v 1 * ((Alg.E.v 2 * Alg.E.v 2) * Alg.E.v 2)) * (Alg.E.v 1 * ((Alg.E.v 2 * Alg.E.v 2) * Alg.E.v 2))) * ((Alg.E.v 1 * ((Alg.E.v 2 * Alg.E.v 2) * Alg.E.v 2)) * (Alg.E.v 1 * ((Alg.E.v 2 * Alg.E.v 2) * Alg.E.v 2)))) + (((Alg.E.v 1 * ((Alg.E.v 2 * Alg.E.v 2) * Alg.E.v 2)) * (Alg.E.v 1 * ((Alg.E.v 2 * Alg.E.v 2) * Alg.E.v 2))) * ((Alg.E.v 1 * ((Alg.E.v 2 * Alg.E.v 2) * Alg.E.v 2)) * (Alg.E.v 1 * ((Alg.E.v 2 * Alg.E.v 2) * Alg.E.v 2))))) + ((((Alg.E.v 1 * ((Alg.E.v 2 * Alg.E.v 2) * Alg.E.v 2)) * (Alg.E.v 1 * ((Alg.E.v 2 * Alg.E.v 2) * Alg.E.v 2))) * ((Alg.E.v 1 * ((Alg.E.v 2 * Alg.E.v 2) * Alg.E.v 2)) * (Alg.E.v 1 * ((Alg.E.v 2 * Alg.E.v 2) * Alg.E.v 2)))) + (((Alg.E.v 1 * ((Alg.E.v 2 * Alg.E.v 2) * Alg.E.v 2)) * (Alg.E.v 1 * ((Alg.E.v 2 * Alg.E.v 2) * Alg.E.v 2))) * ((Alg.E.v 1 * ((Alg.E.v 2 * Alg.E.v 2) * Alg.E.v 2)) * (Alg.E.v 1 * ((Alg.E.v 2 * Alg.E.v 2) * Alg.E.v 2)))))))) ((Alg.E.v 1 * (((((Alg.E.v 1 * ((Alg.E.v 2 * Alg.E.v 2) * Alg.E.v 2)) * Alg.E.v 2) + ((Alg.E.v 1 * ((Alg.E.v 2 * Alg.E.v 2) * Alg.E.v 2)) * Alg.E.v 2)) * (((Alg.E.v 1 * ((Alg.E.v 2 * Alg.E.v 2) * Alg.E.v 2)) * Alg.E.v 2) + ((Alg.E.v 1 * ((Alg.E.v 2 * Alg.E.v 2) * Alg.E.v 2)) * Alg.E.v 2))) * (((Alg.E.v 1 * ((Alg.E.v 2 * Alg.E.v 2) * Alg.E.v 2)) * Alg.E.v 2) + ((Alg.E.v 1 * ((Alg.E.v 2 * Alg.E.v 2) * Alg.E.v 2)) * Alg.E.v 2))))) (by decide +kernel)
theorem j_x {K : Type} [CR K] (l x W : K)  : (l*W)*(l*W) - (x*(W*W) + x*(W*W)) = (l*l - x - x)*(W*W) := eq_of (fun zz => [l, x, W].getD zz 0) 3 ((((Alg.E.v 0 * Alg.E.v 2) * (Alg.E.v 0 * Alg.E.v 2)) - ((Alg.E.v 1 * (Alg.E.v 2 * Alg.E.v 2)) + (Alg.E.v 1 * (Alg.E.v 2 * Alg.E.v 2))))) (((((Alg.E.v 0 * Alg.E.v 0) - Alg.E.v 1) - Alg.E.v 1) * (Alg.E.v 2 * Alg.E.v 2))) (by decide +kernel)
theorem j_x2 {K : Type} [CR K] (l x W : K)  : (l*W)*(l*W) - x*(W*W) - x*(W*W) = (l*l - x - x)*(W*W) := eq_of (fun zz => [l, x, W].getD zz 0) 3 (((((Alg.E.v 0 * Alg.E.v 2) * (Alg.E.v 0 * Alg.E.v 2)) - (Alg.E.v 1 * (Alg.E.v 2 * Alg.E.v 2))) - (Alg.E.v 1 * (Alg.E.v 2 * Alg.E.v 2)))) (((((Alg.E.v 0 * Alg.E.v 0) - Alg.E.v 1) - Alg.E.v 1) * (Alg.E.v 2 * Alg.E.v 2))) (by decide +kernel)
theorem j_y {K : Type} [CR K] (l x y X W : K)  : (l*W)*(x*(W*W) - X*(W*W)) - y*(W*W*W) = (l*(x - X) - y)*(W*W*W) := eq_of (fun zz => [l, x, y, X, W].getD zz 0) 5 ((((Alg.E.v 0 * Alg.E.v 4) * ((Alg.E.v 1 * (Alg.E.v 4 * Alg.E.v 4)) - (Alg.E.v 3 * (Alg.E.v 4 * Alg.E.v 4)))) - (Alg.E.v 2 * ((Alg.E.v 4 * Alg.E.v 4) * Alg.E.v 4)))) ((((Alg.E.v 0 * (Alg.E.v 1 - Alg.E.v 3)) - Alg.E.v 2) * ((Alg.E.v 4 * Alg.E.v 4) * Alg.E.v 4))) (by decide +kernel)
theorem j_z {K : Type} [CR K] (y Z : K)  : (y*(Z*Z*Z))*Z + (y*(Z*Z*Z))*Z = (y + y)*(Z*Z*(Z*Z)) := eq_of (fun zz => [y, Z].getD zz 0) 2 ((((Alg.E.v 0 * ((Alg.E.v 1 * Alg.E.v 1) * Alg.E.v 1)) * Alg.E.v 1) + ((Alg.E.v 0 * ((Alg.E.v 1 * Alg.E.v 1) * Alg.E.v 1)) * Alg.E.v 1))) (((Alg.E.v 0 + Alg.E.v 0) * ((Alg.E.v 1 * Alg.E.v 1) * (Alg.E.v 1 * Alg.E.v 1)))) (by decide +kernel)
theorem j_h {K : Type} [CR K] (x u A B : K)  : ((u*(B*B))*(A*A)) - ((x*(A*A))*(B*B)) = (u - x)*((A*B)*(A*B)) := eq_of (fun zz => [x, u, A, B].getD zz 0) 4 ((((Alg.E.v 1 * (Alg.E.v 3 * Alg.E.v 3)) * (Alg.E.v 2 * Alg.E.v 2)) - ((Alg.E.v 0 * (Alg.E.v 2 * Alg.E.v 2)) * (Alg.E.v 3 * Alg.E.v 3)))) (((Alg.E.v 1 - Alg.E.v 0) * ((Alg.E.v 2 * Alg.E.v 3) * (Alg.E.v 2 * Alg.E.v 3)))) (by decide +kernel)
theorem j_r {K : Type} [CR K] (y v A B : K)  : ((v*(B*B*B))*(A*A)*A) - ((y*(A*A*A))*(B*B)*B) = (v - y)*((A*B)*(A*B)*(A*B)) := eq_of (fun zz => [y, v, A, B].getD zz 0) 4 (((((Alg.E.v 1 * ((Alg.E.v 3 * Alg.E.v 3) * Alg.E.v 3)) * (Alg.E.v 2 * Alg.E.v 2)) * Alg.E.v 2) - (((Alg.E.v 0 * ((Alg.E.v 2 * Alg.E.v 2) * Alg.E.v 2)) * (Alg.E.v 3 * Alg.E.v 3)) * Alg.E.v 3))) (((Alg.E.v 1 - Alg.E.v 0) * (((Alg.E.v 2 * Alg.E.v 3) * (Alg.E.v 2 * Alg.E.v 3)) * (Alg.E.v 2 * Alg.E.v 3)))) (by decide +kernel)
theorem j_u {K : Type} [CR K] (x A B : K)  : ((x*(A*A))*(B*B)) = x*((A*B)*(A*B)) := eq_of (fun zz => [x, A, B].getD zz 0) 3 (((Alg.E.v 0 * (Alg.E.v 1 * Alg.E.v 1)) * (Alg.E.v 2 * Alg.E.v 2))) ((Alg.E.v 0 * ((Alg.E.v 1 * Alg.E.v 2) * (Alg.E.v 1 * Alg.E.v 2)))) (by decide +kernel)
theorem j_t {K : Type} [CR K] (y A B : K)  : ((y*(A*A*A))*(B*B)*B) = y*((A*B)*(A*B)*(A*B)) := eq_of (fun zz => [y, A, B].getD zz 0) 3 ((((Alg.E.v 0 * ((Alg.E.v 1 * Alg.E.v 1) * Alg.E.v 1)) * (Alg.E.v 2 * Alg.E.v 2)) * Alg.E.v 2)) ((Alg.E.v 0 * (((Alg.E.v 1 * Alg.E.v 2) * (Alg.E.v 1 * Alg.E.v 2)) * (Alg.E.v 1 * Alg.E.v 2)))) (by decide +kernel)
theorem j_rl {K : Type} [CR K] (x y u v D l : K) (h : l*(u - x) = v - y) : (v - y)*(D*D*D) = l*(D*((u - x)*(D*D))) := eq_of_sub (zero_of_rel (fun zz => [x, y, u, v, D, l].getD zz 0) 6 (((Alg.E.v 3 - Alg.E.v 1) * ((Alg.E.v 4 * Alg.E.v 4) * Alg.E.v 4)) - (Alg.E.v 5 * (Alg.E.v 4 * ((Alg.E.v 2 - Alg.E.v 0) * (Alg.E.v 4 * Alg.E.v 4))))) [((Alg.E.c 0 - ((Alg.E.v 4 * Alg.E.v 4) * Alg.E.v 4)), (Alg.E.v 5 * (Alg.E.v 2 - Alg.E.v 0)) - (Alg.E.v 3 - Alg.E.v 1))] (all_cons (sub_of_eq h) all_nil) (by decide +kernel))
theorem j_ax {K : Type} [CR K] (l x u D H W : K) (h : H = (u - x)*(D*D)) (k : W = D*H) : (l*W)*(l*W) - H*H*H - (x*(D*D)*(H*H) + x*(D*D)*(H*H)) = (l*l - x - u)*(W*W) := eq_of_sub (zero_of_rel (fun zz => [l, x, u, D, H, W].getD zz 0) 6 (((((Alg.E.v 0 * Alg.E.v 5) * (Alg.E.v 0 * Alg.E.v 5)) - ((Alg.E.v 4 * Alg.E.v 4) * Alg.E.v 4)) - (((Alg.E.v 1 * (Alg.E.v 3 * Alg.E.v 3)) * (Alg.E.v 4 * Alg.E.v 4)) + ((Alg.E.v 1 * (Alg.E.v 3 * Alg.E.v 3)) * (Alg.E.v 4 * Alg.E.v 4)))) - ((((Alg.E.v 0 * Alg.E.v 0) - Alg.E.v 1) - Alg.E.v 2) * (Alg.E.v 5 * Alg.E.v 5))) [((Alg.E.c 0 - (Alg.E.v 4 * Alg.E.v 4)), Alg.E.v 4 - ((Alg.E.v 2 - Alg.E.v 1) * (Alg.E.v 3 * Alg.E.v 3))), (((Alg.E.v 1 + Alg.E.v 2) * (Alg.E.v 5 + (Alg.E.v 3 * Alg.E.v 4))), Alg.E.v 5 - (Alg.E.v 3 * Alg.E.v 4))] (all_cons (sub_of_eq h) (all_cons (sub_of_eq k) all_nil)) (by decide +kernel))
theorem j_w {K : Type} [CR K] (x D H W : K) (k : W = D*H) : x*(D*D)*(H*H) = x*(W*W) := eq_of_sub (zero_of_rel (fun zz => [x, D, H, W].getD zz 0) 4 (((Alg.E.v 0 * (Alg.E.v 1 * Alg.E.v 1)) * (Alg.E.v 2 * Alg.E.v 2)) - (Alg.E.v 0 * (Alg.E.v 3 * Alg.E.v 3))) [((Alg.E.c 0 - (Alg.E.v 0 * (Alg.E.v 3 + (Alg.E.v 1 * Alg.E.v 2)))), Alg.E.v 3 - (Alg.E.v 1 * Alg.E.v 2))] (all_cons (sub_of_eq k) all_nil) (by decide +kernel))
theorem j_ay {K : Type} [CR K] (l x y X D H W : K) (k : W = D*H) : (l*W)*(x*(W*W) - X*(W*W)) - y*(D*D*D)*(H*H*H) = (l*(x - X) - y)*(W*W*W) := eq_of_sub (zero_of_rel (fun zz => [l, x, y, X, D, H, W].getD zz 0) 7 ((((Alg.E.v 0 * Alg.E.v 6) * ((Alg.E.v 1 * (Alg.E.v 6 * Alg.E.v 6)) - (Alg.E.v 3 * (Alg.E.v 6 * Alg.E.v 6)))) - ((Alg.E.v 2 * ((Alg.E.v 4 * Alg.E.v 4) * Alg.E.v 4)) * ((Alg.E.v 5 * Alg.E.v 5) * Alg.E.v 5))) - (((Alg.E.v 0 * (Alg.E.v 1 - Alg.E.v 3)) - Alg.E.v 2) * ((Alg.E.v 6 * Alg.E.v 6) * Alg.E.v 6))) [((Alg.E.v 2 * (((Alg.E.v 6 * Alg.E.v 6) + (Alg.E.v 6 * (Alg.E.v 4 * Alg.E.v 5))) + ((Alg.E.v 4 * Alg.E.v 5) * (Alg.E.v 4 * Alg.E.v 5)))), Alg.E.v 6 - (Alg.E.v 4 * Alg.E.v 5))] (all_cons (sub_of_eq k) all_nil) (by decide +kernel))
theorem j_ass {K : Type} [CR K] (a b c : K)  : a - b - c - c = a - b - (c + c) := eq_of (fun zz => [a, b, c].getD zz 0) 3 ((((Alg.E.v 0 - Alg.E.v 1) - Alg.E.v 2) - Alg.E.v 2)) (((Alg.E.v 0 - Alg.E.v 1) - (Alg.E.v 2 + Alg.E.v 2))) (by decide +kernel)
theorem j_ss {K : Type} [CR K] (a b : K)  : a - b - b = a - (b + b) := eq_of (fun zz => [a, b].getD zz 0) 2 (((Alg.E.v 0 - Alg.E.v 1) - Alg.E.v 1)) ((Alg.E.v 0 - (Alg.E.v 1 + Alg.E.v 1))) (by decide +kernel)
theorem j_eqx {K : Type} [CR K] (x u A B : K)  : ((x*(A*A))*(B*B)) = x*((A*B)*(A*B)) := eq_of (fun zz => [x, u, A, B].getD zz 0) 4 (((Alg.E.v 0 * (Alg.E.v 2 * Alg.E.v 2)) * (Alg.E.v 3 * Alg.E.v 3))) ((Alg.E.v 0 * ((Alg.E.v 2 * Alg.E.v 3) * (Alg.E.v 2 * Alg.E.v 3)))) (by decide +kernel)
theorem j_xx {K : Type} [CR K] (x u D : K) (h : x*(D*D) = u*(D*D)) : (x - u)*(D*D) = 0 := eq_of_sub (zero_of_rel (fun zz => [x, u, D].getD zz 0) 3 (((Alg.E.v 0 - Alg.E.v 1) * (Alg.E.v 2 * Alg.E.v 2)) - Alg.E.c 0) [(Alg.E.c 1, (Alg.E.v 0 * (Alg.E.v 2 * Alg.E.v 2)) - (Alg.E.v 1 * (Alg.E.v 2 * Alg.E.v 2)))] (all_cons (sub_of_eq h) all_nil) (by decide +kernel))
theorem j_yy {K : Type} [CR K] (y v D : K) (h : y*(D*D*D) = v*(D*D*D)) : (y - v)*(D*D*D) = 0 := eq_of_sub (zero_of_rel (fun zz => [y, v, D].getD zz 0) 3 (((Alg.E.v 0 - Alg.E.v 1) * ((Alg.E.v 2 * Alg.E.v 2) * Alg.E.v 2)) - Alg.E.c 0) [(Alg.E.c 1, (Alg.E.v 0 * ((Alg.E.v 2 * Alg.E.v 2) * Alg.E.v 2)) - (Alg.E.v 1 * ((Alg.E.v 2 * Alg.E.v 2) * Alg.E.v 2)))] (all_cons (sub_of_eq h) all_nil) (by decide +kernel))
theorem j_e1 {K : Type} [CR K] (x A B : K)  : (x*(A*A))*(B*B) = x*((A*B)*(A*B)) := eq_of (fun zz => [x, A, B].getD zz 0) 3 (((Alg.E.v 0 * (Alg.E.v 1 * Alg.E.v 1)) * (Alg.E.v 2 * Alg.E.v 2))) ((Alg.E.v 0 * ((Alg.E.v 1 * Alg.E.v 2) * (Alg.E.v 1 * Alg.E.v 2)))) (by decide +kernel)
theorem j_e2 {K : Type} [CR K] (x A B : K)  : (x*(A*A))*(B*B) = x*((B*A)*(B*A)) := eq_of (fun zz => [x, A, B].getD zz 0) 3 (((Alg.E.v 0 * (Alg.E.v 1 * Alg.E.v 1)) * (Alg.E.v 2 * Alg.E.v 2))) ((Alg.E.v 0 * ((Alg.E.v 2 * Alg.E.v 1) * (Alg.E.v 2 * Alg.E.v 1)))) (by decide +kernel)
theorem j_f1 {K : Type} [CR K] (y A B : K)  : (y*(A*A*A))*((B*B)*B) = y*((A*B)*(A*B)*(A*B)) := eq_of (fun zz => [y, A, B].getD zz 0) 3 (((Alg.E.v 0 * ((Alg.E.v 1 * Alg.E.v 1) * Alg.E.v 1)) * ((Alg.E.v 2 * Alg.E.v 2) * Alg.E.v 2))) ((Alg.E.v 0 * (((Alg.E.v 1 * Alg.E.v 2) * (Alg.E.v 1 * Alg.E.v 2)) * (Alg.E.v 1 * Alg.E.v 2)))) (by decide +kernel)
theorem j_f2 {K : Type} [CR K] (y A B : K)  : (y*(A*A*A))*((B*B)*B) = y*((B*A)*(B*A)*(B*A)) := eq_of (fun zz => [y, A, B].getD zz 0) 3 (((Alg.E.v 0 * ((Alg.E.v 1 * Alg.E.v 1) * Alg.E.v 1)) * ((Alg.E.v 2 * Alg.E.v 2) * Alg.E.v 2))) ((Alg.E.v 0 * (((Alg.E.v 2 * Alg.E.v 1) * (Alg.E.v 2 * Alg.E.v 1)) * (Alg.E.v 2 * Alg.E.v 1)))) (by decide +kernel)
theorem j_n {K : Type} [CR K] (y Z : K)  : -(y*(Z*Z*Z)) = -y*(Z*Z*Z) := eq_of (fun zz => [y, Z].getD zz 0) 2 ((-(Alg.E.v 0 * ((Alg.E.v 1 * Alg.E.v 1) * Alg.E.v 1)))) (((-Alg.E.v 0) * ((Alg.E.v 1 * Alg.E.v 1) * Alg.E.v 1))) (by decide +kernel)
theorem j_ix {K : Type} [CR K] (x Z i : K) (h : Z*i = 1) : (x*(Z*Z))*(i*i) = x := eq_of_sub (zero_of_rel (fun zz => [x, Z, i].getD zz 0) 3 (((Alg.E.v 0 * (Alg.E.v 1 * Alg.E.v 1)) * (Alg.E.v 2 * Alg.E.v 2)) - Alg.E.v 0) [((Alg.E.v 0 * ((Alg.E.v 1 * Alg.E.v 2) + Alg.E.c 1)), (Alg.E.v 1 * Alg.E.v 2) - Alg.E.c 1)] (all_cons (sub_of_eq h) all_nil) (by decide +kernel))
theorem j_iy {K : Type} [CR K] (y Z i : K) (h : Z*i = 1) : (y*(Z*Z*Z))*(i*i)*i = y := eq_of_sub (zero_of_rel (fun zz => [y, Z, i].getD zz 0) 3 ((((Alg.E.v 0 * ((Alg.E.v 1 * Alg.E.v 1) * Alg.E.v 1)) * (Alg.E.v 2 * Alg.E.v 2)) * Alg.E.v 2) - Alg.E.v 0) [((Alg.E.v 0 * ((((Alg.E.v 1 * Alg.E.v 2) * (Alg.E.v 1 * Alg.E.v 2)) + (Alg.E.v 1 * Alg.E.v 2)) + Alg.E.c 1)), (Alg.E.v 1 * Alg.E.v 2) - Alg.E.c 1)] (all_cons (sub_of_eq h) all_nil) (by decide +kernel))

section
variable {K : Type} [Crv K]
/-- Three numbers stand for a point. -/
def Rep (P : K × K × K) : Option (K × K) → Prop
  | none => P.2.2 = 0
  | some q => P.2.2 ≠ 0 ∧ P.1 = q.1 * (P.2.2 * P.2.2) ∧ P.2.1 = q.2 * (P.2.2 * P.2.2 * P.2.2)
theorem rep_z {P : K × K × K} {A : Option (K × K)} (h : Rep P A) : P.2.2 = 0 ↔ A = none := by
  cases A with
  | none => exact ⟨fun _ => rfl, fun _ => h⟩
  | some q => exact ⟨fun e => absurd e h.1, fun e => by cases e⟩
theorem rep_un {P : K × K × K} {A B : Option (K × K)} (h : Rep P A) (k : Rep P B) : A = B := by
  cases A with
  | none => exact ((rep_z k).1 h).symm
  | some p => cases B with
    | none => exact (rep_z h).1 k
    | some q =>
      have h1 : p.1 * (P.2.2 * P.2.2) = q.1 * (P.2.2 * P.2.2) := h.2.1.symm.trans k.2.1
      have h2 : p.2 * (P.2.2 * P.2.2 * P.2.2) = q.2 * (P.2.2 * P.2.2 * P.2.2) := h.2.2.symm.trans k.2.2
      congr 1
      exact Prod.ext (mul_right_cancel (mul_ne h.1 h.1) h1) (mul_right_cancel (mul_ne (mul_ne h.1 h.1) h.1) h2)
theorem rep_neg {P : K × K × K} {A : Option (K × K)} (h : Rep P A) : Rep (P.1, -P.2.1, P.2.2) (ng A) := by
  cases A with
  | none => exact h
  | some q => exact ⟨h.1, h.2.1, by show -P.2.1 = -q.2 * _; rw [h.2.2]; exact j_n _ _⟩
/-- Twice, as the program has it. -/
def jdbl (P : K × K × K) : K × K × K :=
  let a := P.1 * P.1
  let b := P.2.1 * P.2.1
  let c := b * b
  let t := P.1 + b
  let d0 := t * t - a - c
  let d := d0 + d0
  let e := a + a + a
  let x := e * e - (d + d)
  let c2 := c + c
  let c4 := c2 + c2
  let z := P.2.1 * P.2.2
  (x, e * (d - x) - (c4 + c4), z + z)
/-- Twice, as the document has it. -/
def kdbl (P : K × K × K) : K × K × K :=
  let a := P.1 * P.1
  let b := P.2.1 * P.2.1
  let s0 := P.1 * b
  let s1 := s0 + s0
  let s := s1 + s1
  let m := a + a + a
  let x := m * m - s - s
  let c0 := b * b
  let c1 := c0 + c0
  let c2 := c1 + c1
  let z := P.2.1 * P.2.2
  (x, m * (s - x) - (c2 + c2), z + z)
theorem dbl_ad {q : K × K} (hq : OnC q) : ∃ l, l * (q.2 + q.2) = q.1 * q.1 + q.1 * q.1 + q.1 * q.1 ∧ ad (some q) (some q) = some (third q q l) := by
  have hn : ¬Opp q q := fun h => hq.ne2 (by have h2 := h.2; have := add_neg q.2; rwa [← h2] at this)
  obtain ⟨l, hl⟩ := sl_ex hq hq hn
  exact ⟨l, hl.r, ad_some hn hl⟩
theorem rep_jdbl {P : K × K × K} {A : Option (K × K)} (h : Rep P A) (hA : OnO A) : Rep (jdbl P) (ad A A) := by
  obtain ⟨X, Y, Z⟩ := P
  cases A with
  | none =>
    have h : Z = 0 := h
    show Y * Z + Y * Z = 0
    rw [h, mul_zero, add_zero]
  | some q =>
    obtain ⟨x, y⟩ := q
    obtain ⟨hz0, hX0, hY0⟩ := h
    have hz : Z ≠ 0 := hz0
    have hX : X = x * (Z * Z) := hX0
    have hY : Y = y * (Z * Z * Z) := hY0
    clear hz0 hX0 hY0
    obtain ⟨l, hl, e⟩ := dbl_ad hA
    rw [e]
    subst hX hY
    have e1 := j_e x y Z l hl
    have e2 := j_d x y Z
    have e3 := j_c x y Z
    have e4 := j_z y Z
    have hW : ((y*(Z*Z*Z))*Z + (y*(Z*Z*Z))*Z) ≠ 0 := by
      rw [e4]
      exact mul_ne (OnC.ne2 (p := (x, y)) hA) (mul_ne (mul_ne hz hz) (mul_ne hz hz))
    refine ⟨hW, ?_, ?_⟩
    · show (((x*(Z*Z))*(x*(Z*Z)))+((x*(Z*Z))*(x*(Z*Z)))+((x*(Z*Z))*(x*(Z*Z)))) * (((x*(Z*Z))*(x*(Z*Z)))+((x*(Z*Z))*(x*(Z*Z)))+((x*(Z*Z))*(x*(Z*Z)))) - (((((x*(Z*Z))+((y*(Z*Z*Z))*(y*(Z*Z*Z))))*((x*(Z*Z))+((y*(Z*Z*Z))*(y*(Z*Z*Z)))) - ((x*(Z*Z))*(x*(Z*Z))) - (((y*(Z*Z*Z))*(y*(Z*Z*Z)))*((y*(Z*Z*Z))*(y*(Z*Z*Z)))))+(((x*(Z*Z))+((y*(Z*Z*Z))*(y*(Z*Z*Z))))*((x*(Z*Z))+((y*(Z*Z*Z))*(y*(Z*Z*Z)))) - ((x*(Z*Z))*(x*(Z*Z))) - (((y*(Z*Z*Z))*(y*(Z*Z*Z)))*((y*(Z*Z*Z))*(y*(Z*Z*Z)))))) + ((((x*(Z*Z))+((y*(Z*Z*Z))*(y*(Z*Z*Z))))*((x*(Z*Z))+((y*(Z*Z*Z))*(y*(Z*Z*Z)))) - ((x*(Z*Z))*(x*(Z*Z))) - (((y*(Z*Z*Z))*(y*(Z*Z*Z)))*((y*(Z*Z*Z))*(y*(Z*Z*Z)))))+(((x*(Z*Z))+((y*(Z*Z*Z))*(y*(Z*Z*Z))))*((x*(Z*Z))+((y*(Z*Z*Z))*(y*(Z*Z*Z)))) - ((x*(Z*Z))*(x*(Z*Z))) - (((y*(Z*Z*Z))*(y*(Z*Z*Z)))*((y*(Z*Z*Z))*(y*(Z*Z*Z))))))) = (l * l - x - x) * (((y*(Z*Z*Z))*Z + (y*(Z*Z*Z))*Z) * ((y*(Z*Z*Z))*Z + (y*(Z*Z*Z))*Z))
      rw [e1, e2]; exact j_x _ _ _
    · show (((x*(Z*Z))*(x*(Z*Z)))+((x*(Z*Z))*(x*(Z*Z)))+((x*(Z*Z))*(x*(Z*Z)))) * (((((x*(Z*Z))+((y*(Z*Z*Z))*(y*(Z*Z*Z))))*((x*(Z*Z))+((y*(Z*Z*Z))*(y*(Z*Z*Z)))) - ((x*(Z*Z))*(x*(Z*Z))) - (((y*(Z*Z*Z))*(y*(Z*Z*Z)))*((y*(Z*Z*Z))*(y*(Z*Z*Z)))))+(((x*(Z*Z))+((y*(Z*Z*Z))*(y*(Z*Z*Z))))*((x*(Z*Z))+((y*(Z*Z*Z))*(y*(Z*Z*Z)))) - ((x*(Z*Z))*(x*(Z*Z))) - (((y*(Z*Z*Z))*(y*(Z*Z*Z)))*((y*(Z*Z*Z))*(y*(Z*Z*Z)))))) - ((((x*(Z*Z))*(x*(Z*Z)))+((x*(Z*Z))*(x*(Z*Z)))+((x*(Z*Z))*(x*(Z*Z)))) * (((x*(Z*Z))*(x*(Z*Z)))+((x*(Z*Z))*(x*(Z*Z)))+((x*(Z*Z))*(x*(Z*Z)))) - (((((x*(Z*Z))+((y*(Z*Z*Z))*(y*(Z*Z*Z))))*((x*(Z*Z))+((y*(Z*Z*Z))*(y*(Z*Z*Z)))) - ((x*(Z*Z))*(x*(Z*Z))) - (((y*(Z*Z*Z))*(y*(Z*Z*Z)))*((y*(Z*Z*Z))*(y*(Z*Z*Z)))))+(((x*(Z*Z))+((y*(Z*Z*Z))*(y*(Z*Z*Z))))*((x*(Z*Z))+((y*(Z*Z*Z))*(y*(Z*Z*Z)))) - ((x*(Z*Z))*(x*(Z*Z))) - (((y*(Z*Z*Z))*(y*(Z*Z*Z)))*((y*(Z*Z*Z))*(y*(Z*Z*Z)))))) + ((((x*(Z*Z))+((y*(Z*Z*Z))*(y*(Z*Z*Z))))*((x*(Z*Z))+((y*(Z*Z*Z))*(y*(Z*Z*Z)))) - ((x*(Z*Z))*(x*(Z*Z))) - (((y*(Z*Z*Z))*(y*(Z*Z*Z)))*((y*(Z*Z*Z))*(y*(Z*Z*Z)))))+(((x*(Z*Z))+((y*(Z*Z*Z))*(y*(Z*Z*Z))))*((x*(Z*Z))+((y*(Z*Z*Z))*(y*(Z*Z*Z)))) - ((x*(Z*Z))*(x*(Z*Z))) - (((y*(Z*Z*Z))*(y*(Z*Z*Z)))*((y*(Z*Z*Z))*(y*(Z*Z*Z))))))))) - ((((((y*(Z*Z*Z))*(y*(Z*Z*Z)))*((y*(Z*Z*Z))*(y*(Z*Z*Z))))+(((y*(Z*Z*Z))*(y*(Z*Z*Z)))*((y*(Z*Z*Z))*(y*(Z*Z*Z)))))+((((y*(Z*Z*Z))*(y*(Z*Z*Z)))*((y*(Z*Z*Z))*(y*(Z*Z*Z))))+(((y*(Z*Z*Z))*(y*(Z*Z*Z)))*((y*(Z*Z*Z))*(y*(Z*Z*Z)))))) + (((((y*(Z*Z*Z))*(y*(Z*Z*Z)))*((y*(Z*Z*Z))*(y*(Z*Z*Z))))+(((y*(Z*Z*Z))*(y*(Z*Z*Z)))*((y*(Z*Z*Z))*(y*(Z*Z*Z)))))+((((y*(Z*Z*Z))*(y*(Z*Z*Z)))*((y*(Z*Z*Z))*(y*(Z*Z*Z))))+(((y*(Z*Z*Z))*(y*(Z*Z*Z)))*((y*(Z*Z*Z))*(y*(Z*Z*Z))))))) = (l * (x - (l * l - x - x)) - y) * (((y*(Z*Z*Z))*Z + (y*(Z*Z*Z))*Z) * ((y*(Z*Z*Z))*Z + (y*(Z*Z*Z))*Z) * ((y*(Z*Z*Z))*Z + (y*(Z*Z*Z))*Z))
      rw [e1, e2, e3, j_x]; exact j_y _ _ _ _ _
theorem rep_kdbl {P : K × K × K} {A : Option (K × K)} (h : Rep P A) (hA : OnO A) : Rep (kdbl P) (ad A A) := by
  obtain ⟨X, Y, Z⟩ := P
  cases A with
  | none =>
    have h : Z = 0 := h
    show Y * Z + Y * Z = 0
    rw [h, mul_zero, add_zero]
  | some q =>
    obtain ⟨x, y⟩ := q
    obtain ⟨hz0, hX0, hY0⟩ := h
    have hz : Z ≠ 0 := hz0
    have hX : X = x * (Z * Z) := hX0
    have hY : Y = y * (Z * Z * Z) := hY0
    clear hz0 hX0 hY0
    obtain ⟨l, hl, e⟩ := dbl_ad hA
    rw [e]
    subst hX hY
    have e1 := j_e x y Z l hl
    have e2 := j_s x y Z
    have e3 := j_c x y Z
    have e4 := j_z y Z
    have hW : ((y*(Z*Z*Z))*Z + (y*(Z*Z*Z))*Z) ≠ 0 := by
      rw [e4]
      exact mul_ne (OnC.ne2 (p := (x, y)) hA) (mul_ne (mul_ne hz hz) (mul_ne hz hz))
    refine ⟨hW, ?_, ?_⟩
    · show (((x*(Z*Z))*(x*(Z*Z)))+((x*(Z*Z))*(x*(Z*Z)))+((x*(Z*Z))*(x*(Z*Z)))) * (((x*(Z*Z))*(x*(Z*Z)))+((x*(Z*Z))*(x*(Z*Z)))+((x*(Z*Z))*(x*(Z*Z)))) - ((((x*(Z*Z))*((y*(Z*Z*Z))*(y*(Z*Z*Z))))+((x*(Z*Z))*((y*(Z*Z*Z))*(y*(Z*Z*Z)))))+(((x*(Z*Z))*((y*(Z*Z*Z))*(y*(Z*Z*Z))))+((x*(Z*Z))*((y*(Z*Z*Z))*(y*(Z*Z*Z)))))) - ((((x*(Z*Z))*((y*(Z*Z*Z))*(y*(Z*Z*Z))))+((x*(Z*Z))*((y*(Z*Z*Z))*(y*(Z*Z*Z)))))+(((x*(Z*Z))*((y*(Z*Z*Z))*(y*(Z*Z*Z))))+((x*(Z*Z))*((y*(Z*Z*Z))*(y*(Z*Z*Z)))))) = (l * l - x - x) * (((y*(Z*Z*Z))*Z + (y*(Z*Z*Z))*Z) * ((y*(Z*Z*Z))*Z + (y*(Z*Z*Z))*Z))
      rw [e1, e2]; exact j_x2 _ _ _
    · show (((x*(Z*Z))*(x*(Z*Z)))+((x*(Z*Z))*(x*(Z*Z)))+((x*(Z*Z))*(x*(Z*Z)))) * (((((x*(Z*Z))*((y*(Z*Z*Z))*(y*(Z*Z*Z))))+((x*(Z*Z))*((y*(Z*Z*Z))*(y*(Z*Z*Z)))))+(((x*(Z*Z))*((y*(Z*Z*Z))*(y*(Z*Z*Z))))+((x*(Z*Z))*((y*(Z*Z*Z))*(y*(Z*Z*Z)))))) - ((((x*(Z*Z))*(x*(Z*Z)))+((x*(Z*Z))*(x*(Z*Z)))+((x*(Z*Z))*(x*(Z*Z)))) * (((x*(Z*Z))*(x*(Z*Z)))+((x*(Z*Z))*(x*(Z*Z)))+((x*(Z*Z))*(x*(Z*Z)))) - ((((x*(Z*Z))*((y*(Z*Z*Z))*(y*(Z*Z*Z))))+((x*(Z*Z))*((y*(Z*Z*Z))*(y*(Z*Z*Z)))))+(((x*(Z*Z))*((y*(Z*Z*Z))*(y*(Z*Z*Z))))+((x*(Z*Z))*((y*(Z*Z*Z))*(y*(Z*Z*Z)))))) - ((((x*(Z*Z))*((y*(Z*Z*Z))*(y*(Z*Z*Z))))+((x*(Z*Z))*((y*(Z*Z*Z))*(y*(Z*Z*Z)))))+(((x*(Z*Z))*((y*(Z*Z*Z))*(y*(Z*Z*Z))))+((x*(Z*Z))*((y*(Z*Z*Z))*(y*(Z*Z*Z)))))))) - ((((((y*(Z*Z*Z))*(y*(Z*Z*Z)))*((y*(Z*Z*Z))*(y*(Z*Z*Z))))+(((y*(Z*Z*Z))*(y*(Z*Z*Z)))*((y*(Z*Z*Z))*(y*(Z*Z*Z)))))+((((y*(Z*Z*Z))*(y*(Z*Z*Z)))*((y*(Z*Z*Z))*(y*(Z*Z*Z))))+(((y*(Z*Z*Z))*(y*(Z*Z*Z)))*((y*(Z*Z*Z))*(y*(Z*Z*Z)))))) + (((((y*(Z*Z*Z))*(y*(Z*Z*Z)))*((y*(Z*Z*Z))*(y*(Z*Z*Z))))+(((y*(Z*Z*Z))*(y*(Z*Z*Z)))*((y*(Z*Z*Z))*(y*(Z*Z*Z)))))+((((y*(Z*Z*Z))*(y*(Z*Z*Z)))*((y*(Z*Z*Z))*(y*(Z*Z*Z))))+(((y*(Z*Z*Z))*(y*(Z*Z*Z)))*((y*(Z*Z*Z))*(y*(Z*Z*Z))))))) = (l * (x - (l * l - x - x)) - y) * (((y*(Z*Z*Z))*Z + (y*(Z*Z*Z))*Z) * ((y*(Z*Z*Z))*Z + (y*(Z*Z*Z))*Z) * ((y*(Z*Z*Z))*Z + (y*(Z*Z*Z))*Z))
      rw [e1, e2, e3, j_x2]; exact j_y _ _ _ _ _
/-! ## sums -/
def jH (P Q : K × K × K) : K := Q.1 * (P.2.2 * P.2.2) - P.1 * (Q.2.2 * Q.2.2)
def jR (P Q : K × K × K) : K := Q.2.1 * (P.2.2 * P.2.2) * P.2.2 - P.2.1 * (Q.2.2 * Q.2.2) * Q.2.2
def jadd (P Q : K × K × K) : K × K × K :=
  let b := Q.2.2 * Q.2.2
  let u := P.1 * b
  let s := P.2.1 * b * Q.2.2
  let h := jH P Q
  let r := jR P Q
  let h2 := h * h
  let h3 := h2 * h
  let w := u * h2
  let x := r * r - h3 - (w + w)
  (x, r * (w - x) - s * h3, P.2.2 * Q.2.2 * h)
theorem jH_eq {P Q : K × K × K} {p q : K × K} (hP : Rep P (some p)) (hQ : Rep Q (some q)) : jH P Q = (q.1 - p.1) * (P.2.2 * Q.2.2 * (P.2.2 * Q.2.2)) := by
  unfold jH
  rw [hP.2.1, hQ.2.1]
  exact j_h _ _ _ _
theorem jR_eq {P Q : K × K × K} {p q : K × K} (hP : Rep P (some p)) (hQ : Rep Q (some q)) : jR P Q = (q.2 - p.2) * (P.2.2 * Q.2.2 * (P.2.2 * Q.2.2) * (P.2.2 * Q.2.2)) := by
  unfold jR
  rw [hP.2.2, hQ.2.2]
  exact j_r _ _ _ _
theorem jH_zero {P Q : K × K × K} {p q : K × K} (hP : Rep P (some p)) (hQ : Rep Q (some q)) (h : jH P Q = 0) : p.1 = q.1 := by
  rw [jH_eq hP hQ] at h
  have hD := mul_ne hP.1 hQ.1
  rcases mul_eq_zero h with h | h
  · exact (eq_of_sub h).symm
  · exact absurd h (mul_ne hD hD)
theorem jR_zero {P Q : K × K × K} {p q : K × K} (hP : Rep P (some p)) (hQ : Rep Q (some q)) : jR P Q = 0 ↔ p.2 = q.2 := by
  rw [jR_eq hP hQ]
  have hD := mul_ne hP.1 hQ.1
  constructor
  · intro h
    rcases mul_eq_zero h with h | h
    · exact (eq_of_sub h).symm
    · exact absurd h (mul_ne (mul_ne hD hD) hD)
  · intro h; rw [h, sub_self, zero_mul]
theorem rep_jadd {P Q : K × K × K} {p q : K × K} (hP : Rep P (some p)) (hQ : Rep Q (some q)) (hp : OnC p) (hq : OnC q) (hH : jH P Q ≠ 0) : Rep (jadd P Q) (ad (some p) (some q)) := by
  have e1 := jH_eq hP hQ
  have e2 := jR_eq hP hQ
  have hx : p.1 ≠ q.1 := fun h => hH (by rw [e1, h, sub_self, zero_mul])
  have hn : ¬Opp p q := fun h => hx h.1
  obtain ⟨l, hl⟩ := sl_ex hp hq hn
  rw [ad_some hn hl]
  obtain ⟨X, Y, A⟩ := P
  obtain ⟨U, V, B⟩ := Q
  obtain ⟨x, y⟩ := p
  obtain ⟨u, v⟩ := q
  obtain ⟨hA, hX, hY⟩ := hP
  obtain ⟨hB, hU, hV⟩ := hQ
  have hX : X = x * (A * A) := hX
  have hY : Y = y * (A * A * A) := hY
  have hl1 : l * (u - x) = v - y := hl.d
  have e3 : X * (B * B) = x * (A * B * (A * B)) := by rw [hX]; exact j_u _ _ _
  have e4 : Y * (B * B) * B = y * (A * B * (A * B) * (A * B)) := by rw [hY]; exact j_t _ _ _
  have e5 : jR (X, Y, A) (U, V, B) = l * (A * B * jH (X, Y, A) (U, V, B)) := by
    rw [e2, e1]
    exact j_rl x y u v (A * B) l hl1
  generalize hh : jH (X, Y, A) (U, V, B) = H at *
  have e1 : H = (u - x) * (A * B * (A * B)) := e1
  have ex : jR (X, Y, A) (U, V, B) * jR (X, Y, A) (U, V, B) - H * H * H - (X * (B * B) * (H * H) + X * (B * B) * (H * H)) = (l * l - x - u) * (A * B * H * (A * B * H)) := by
    rw [e5, e3]
    exact j_ax l x u (A * B) H _ e1 rfl
  refine ⟨?_, ?_, ?_⟩
  · show A * B * jH (X, Y, A) (U, V, B) ≠ 0
    rw [hh]
    exact mul_ne (mul_ne hA hB) hH
  · show jR (X, Y, A) (U, V, B) * jR (X, Y, A) (U, V, B) - jH (X, Y, A) (U, V, B) * jH (X, Y, A) (U, V, B) * jH (X, Y, A) (U, V, B) - (X * (B * B) * (jH (X, Y, A) (U, V, B) * jH (X, Y, A) (U, V, B)) + X * (B * B) * (jH (X, Y, A) (U, V, B) * jH (X, Y, A) (U, V, B))) = (l * l - x - u) * (A * B * jH (X, Y, A) (U, V, B) * (A * B * jH (X, Y, A) (U, V, B)))
    rw [hh]
    exact ex
  · show jR (X, Y, A) (U, V, B) * (X * (B * B) * (jH (X, Y, A) (U, V, B) * jH (X, Y, A) (U, V, B)) - (jR (X, Y, A) (U, V, B) * jR (X, Y, A) (U, V, B) - jH (X, Y, A) (U, V, B) * jH (X, Y, A) (U, V, B) * jH (X, Y, A) (U, V, B) - (X * (B * B) * (jH (X, Y, A) (U, V, B) * jH (X, Y, A) (U, V, B)) + X * (B * B) * (jH (X, Y, A) (U, V, B) * jH (X, Y, A) (U, V, B))))) - Y * (B * B) * B * (jH (X, Y, A) (U, V, B) * jH (X, Y, A) (U, V, B) * jH (X, Y, A) (U, V, B)) = (l * (x - (l * l - x - u)) - y) * (A * B * jH (X, Y, A) (U, V, B) * (A * B * jH (X, Y, A) (U, V, B)) * (A * B * jH (X, Y, A) (U, V, B)))
    rw [hh, ex, e5, e3, e4, j_w x (A * B) H _ rfl]
    exact j_ay l x y (l * l - x - u) (A * B) H _ rfl
/-- Are both the same? -/
theorem rep_eq {P Q : K × K × K} {p q : K × K} (hP : Rep P (some p)) (hQ : Rep Q (some q)) :
    (P.1 * (Q.2.2 * Q.2.2) = Q.1 * (P.2.2 * P.2.2) ∧ P.2.1 * (Q.2.2 * Q.2.2 * Q.2.2) = Q.2.1 * (P.2.2 * P.2.2 * P.2.2)) ↔ p = q := by
  have hD := mul_ne hP.1 hQ.1
  constructor
  · rintro ⟨h1, h2⟩
    rw [hP.2.1, hQ.2.1, j_e1, j_e2] at h1
    rw [hP.2.2, hQ.2.2, j_f1, j_f2] at h2
    exact Prod.ext (mul_right_cancel (mul_ne hD hD) h1) (mul_right_cancel (mul_ne (mul_ne hD hD) hD) h2)
  · rintro rfl
    rw [hP.2.1, hQ.2.1, hP.2.2, hQ.2.2]
    exact ⟨by rw [j_e1, j_e2], by rw [j_f1, j_f2]⟩
theorem rep_xy {P : K × K × K} {p : K × K} (hP : Rep P (some p)) {i : K} (hi : P.2.2 * i = 1) : P.1 * (i * i) = p.1 ∧ P.2.1 * (i * i) * i = p.2 := by
  rw [hP.2.1, hP.2.2]
  exact ⟨j_ix _ _ _ hi, j_iy _ _ _ hi⟩
end
end Go.Proofs.YtonmjdnkcngfjaaGreat.Alg

/- DERIVED. The program's elements: the field's. -/
set_option linter.all false
namespace Go.Proofs.YtonmjdnkcngfjaaGreat.Alg
open CR Go.Proofs.YtonmjdnkcngfjaaGreat.En

theorem pw_add {K : Type} [CR K] (a : K) (m : Nat) : ∀ n, pw a (m + n) = pw a m * pw a n
  | 0 => (mul_one _).symm
  | n + 1 => by
    show pw a (m + n) * a = pw a m * (pw a n * a)
    rw [pw_add a m n, mul_assoc]
theorem pw_mul {K : Type} [CR K] (a : K) (m : Nat) : ∀ n, pw a (m * n) = pw (pw a m) n
  | 0 => rfl
  | n + 1 => by
    show pw a (m * n + m) = pw (pw a m) n * pw a m
    rw [pw_add, pw_mul a m n]
theorem pw_one {K : Type} [CR K] (a : K) : pw a 1 = a := one_mul a
theorem pw_two {K : Type} [CR K] (a : K) : pw a 2 = a * a := by show pw a 1 * a = _; rw [pw_one]

theorem pN_pr : Pr pN := pr_p
instance : IsPr pN := ⟨pN_pr⟩
/-- No number's third power is the opposite of 4. -/
theorem no_cube (a : Nat) : (a * a * a + 4) % pN ≠ 0 := fun h => by
  have hd : ¬pN ∣ a := fun hd => by
    have h1 : (a * a * a + 4) % pN = 4 % pN := by
      obtain ⟨c, rfl⟩ := hd
      rw [Nat.mul_assoc, Nat.mul_assoc, Nat.mul_add_mod]
    rw [h1] at h
    revert h
    decide +kernel
  have h2 := pN_pr.unit hd
  have h3 : (a * a * a) % pN = (pN - 4) % pN := by
    have h4 := Nat.div_add_mod (a * a * a + 4) pN
    rw [h] at h4
    have h5 : a * a * a = pN * ((a * a * a + 4) / pN - 1) + (pN - 4) := by
      have h6 : 1 ≤ (a * a * a + 4) / pN := Nat.one_le_iff_ne_zero.2 fun e => by rw [e] at h4; omega
      have h7 : 4 ≤ pN := by decide +kernel
      rw [Nat.mul_sub, Nat.mul_one]
      have h8 : pN ≤ pN * ((a * a * a + 4) / pN) := Nat.le_mul_of_pos_right _ h6
      omega
    rw [h5, Nat.mul_add_mod]
  have h4 : a ^ (pN - 1) % pN = (pN - 4) ^ ((pN - 1) / 3) % pN := by
    have e : a ^ (pN - 1) = (a * a * a) ^ ((pN - 1) / 3) := by
      rw [show a * a * a = a ^ 3 by rw [Nat.pow_succ, Nat.pow_succ, Nat.pow_succ, Nat.pow_zero, Nat.one_mul], ← Nat.pow_mul]
      congr 1
    rw [e, Nat.pow_mod, h3, ← Nat.pow_mod]
  have hlt : (pN - 1) / 3 < 2 ^ 381 := by decide +kernel
  rw [h4, ← pm_eq hlt] at h2
  revert h2
  decide +kernel
abbrev KF := Zm pN
noncomputable instance : Crv KF where
  b := zr 4
  two h := absurd (zr_eq.1 ((zr_add 1 1).symm.trans h) : (1 + 1) % pN = 0 % pN) (by decide +kernel)
  no2 x := by
    revert x
    refine zr_ind fun a h => ?_
    rw [zr_mul, zr_mul, zr_add, ← zr_zero, zr_eq, Nat.zero_mod] at h
    exact no_cube a h

/-! ## elements -/
def za (a : Fe) : KF := zr (fv a)
theorem zr_mod (a : Nat) : (zr (a % pN) : KF) = zr a := zr_eq.2 (Nat.mod_mod _ _)
theorem za_mul (a b : Fe) : za (fmul a b) = za a * za b := by unfold za; rw [fv_mul, zr_mod, zr_mul]
theorem za_add (a b : Fe) : za (fadd a b) = za a + za b := by unfold za; rw [fv_add, zr_mod, zr_add]
theorem za_sub (a b : Fe) : za (fsub a b) = za a - za b := by unfold za; rw [fv_sub, zr_mod, zr_sub]
theorem fv_zE : fv (ofSix 0 0 0 0 0 0) % pN = 0 := by decide +kernel
theorem za_zE : za zE = 0 := by unfold za; rw [← zr_zero, zr_eq, Nat.zero_mod]; exact fv_zE
theorem za_neg (a : Fe) : za (fneg a) = -za a := by
  unfold fneg
  rw [za_sub, show za (ofSix 0 0 0 0 0 0) = 0 from za_zE, sub_def, zero_add]
theorem za_one : za fOne = 1 := by unfold za; rw [← zr_one, zr_eq]; decide +kernel
theorem za_fone : za fone = 1 := by unfold za; rw [← zr_one, zr_eq]; decide +kernel
theorem za_four : za four = Crv.b := by show zr _ = zr 4; rw [zr_eq]; decide +kernel
theorem isz_iff {a : Fe} : isz a = true ↔ za a = 0 := by
  unfold isz za
  rw [← zr_zero, zr_eq, Nat.zero_mod]
  exact ⟨Nat.eq_of_beq_eq_true, fun h => by rw [h]; rfl⟩
theorem isz_f {a : Fe} : isz a = false ↔ za a ≠ 0 := by
  rw [← Bool.not_eq_true, isz_iff]
theorem feq_za {a b : Fe} : feq a b = true ↔ za a = za b := by
  unfold feq za
  rw [zr_eq, Bool.and_true]
  exact ⟨Nat.eq_of_beq_eq_true, fun h => by rw [h]; exact Nat.beq_refl _⟩
/-! ## powers -/
def valD : List Nat → Nat → Nat
  | [], e => e
  | d :: l, e => valD l (16 * e + d)
theorem za_tab (a : Fe) : ∀ n, za (tabF a n) = pw (za a) n
  | 0 => za_fone
  | n + 1 => by rw [tabF, za_mul, za_tab a n]; rfl
theorem za_dig (a o : Fe) : ∀ d, za (digF a o d) = za o * pw (za a) d
  | 0 => (mul_one _).symm
  | d + 1 => by rw [digF, za_mul, za_tab]
theorem za_sq4 (o : Fe) : za (sq4 o) = pw (za o) 16 := by
  unfold sq4
  simp only [za_mul]
  rw [show (16 : Nat) = 2 * 2 * 2 * 2 from rfl, pw_mul, pw_mul, pw_mul, pw_two, pw_two, pw_two, pw_two]
theorem za_powG (a : Fe) : ∀ (l : List Nat) (o : Fe) (e : Nat), za o = pw (za a) e → za (powG a l o) = pw (za a) (valD l e)
  | [], o, e, h => h
  | d :: l, o, e, h => by
    refine za_powG a l _ _ ?_
    rw [za_dig, za_sq4, h, ← pw_mul, Nat.mul_comm e 16, ← pw_add]
theorem za_pow (a : Fe) (l : List Nat) : za (powF a l) = pw (za a) (valD l 0) := by
  cases l with
  | nil => exact za_fone
  | cons d l =>
    refine za_powG a l _ _ ?_
    rw [za_dig, za_fone, one_mul, Nat.mul_zero, Nat.zero_add]
theorem less2_val : valD (hexD sLess2) 0 = pN - 2 := by decide +kernel
theorem za_inv {a : Fe} (h : za a ≠ 0) : za a * za (invF a) = 1 := by
  unfold invF
  rw [za_pow, less2_val]
  exact zm_inv _ h
end Go.Proofs.YtonmjdnkcngfjaaGreat.Alg

/- DERIVED. The second field's functions as contracts on chunks. -/
set_option linter.all false
namespace Go.Proofs.YtonmjdnkcngfjaaGreat.En2
open Go Go.RowKit Go.Proofs.YtonmjdnkcngfjaaGreat.En Go.Proofs.YtonmjdnkcngfjaaGreat.Alg

theorem Runs.up {f : FuncId} {args1 : List (LV En.Fe)} {v1 : LV En.Fe} {args : List (LV Fe)} {v : LV Fe} (h : En.Runs f args1 v1) (hv : plainB v = true) (ha : ∀ ρ : Key → En.Loc, trs ρ args = trs ρ args1) (e : ∀ ρ : Key → En.Loc, LV.tr ρ v1 = LV.tr ρ v) : Runs f args v :=
  ⟨hv, fun ρ w => by rw [ha ρ, ← e ρ]; exact h.run ρ w⟩
theorem za_mo {a b : En.Fe} (h : za a = za b) : mo (fv a) = mo (fv b) := by
  have h : fv a % pN = fv b % pN := zr_eq.1 h
  rw [← mo_red, h, mo_red]
theorem za_cells {a b : En.Fe} (h : za a = za b) : (Ab.cells a : List Value) = Ab.cells b := by
  show [Value.int .u64 (lm (mo (fv a)) 0), .int .u64 (lm (mo (fv a)) 1), .int .u64 (lm (mo (fv a)) 2), .int .u64 (lm (mo (fv a)) 3), .int .u64 (lm (mo (fv a)) 4), .int .u64 (lm (mo (fv a)) 5)] = [Value.int .u64 (lm (mo (fv b)) 0), .int .u64 (lm (mo (fv b)) 1), .int .u64 (lm (mo (fv b)) 2), .int .u64 (lm (mo (fv b)) 3), .int .u64 (lm (mo (fv b)) 4), .int .u64 (lm (mo (fv b)) 5)]
  rw [za_mo h]
theorem za_tr {x y : Fe} (h1 : za x.1 = za y.1) (h2 : za x.2 = za y.2) (ρ : Key → En.Loc) : LV.tr ρ (eV x : LV En.Fe) = LV.tr ρ (.agg [.abs y] : LV Fe) := by
  show Value.agg (Ab.cells x.1 ++ (Ab.cells x.2 ++ [])).toArray = Value.agg ((Ab.cells y.1 ++ Ab.cells y.2) ++ []).toArray
  rw [za_cells h1, za_cells h2, List.append_assoc]
noncomputable def conFAdd : ConP Tryz.prog Fe := mkP 85 entQAdd [1, 1] (fun x y => .agg [.abs (fadd x y)]) fun x y => .up (QAdd_runs x.1 x.2 y.1 y.2) rfl (fun _ => rfl) (fun _ => rfl)
noncomputable def conFSub : ConP Tryz.prog Fe := mkP 175 entQSub [1, 1] (fun x y => .agg [.abs (fsub x y)]) fun x y => .up (QSub_runs x.1 x.2 y.1 y.2) rfl (fun _ => rfl) (fun _ => rfl)
noncomputable def conFMul : ConP Tryz.prog Fe := mkP 100 entQMul [1, 1] (fun x y => .agg [.abs (fmul x y)]) fun x y => .up (QMul_runs x.1 x.2 y.1 y.2) rfl (fun _ => rfl) (fun _ => rfl)
noncomputable def conFNeg : ConP Tryz.prog Fe := mkP 78 entQNeg [1] (fun x => .agg [.abs (fneg x)]) fun x => .up (QNeg_runs x.1 x.2) rfl (fun _ => rfl) (fun _ => rfl)
noncomputable def conFIsZero : ConP Tryz.prog Fe := mkP 174 entQZ [1] (fun x => .bool (isz x)) fun x => .up (QZ_runs x.1 x.2) rfl (fun _ => rfl) (fun _ => rfl)
noncomputable def conFEqual : ConP Tryz.prog Fe := mkP 18 entQE [1, 1] (fun x y => .bool (feq x y)) fun x y => .up (QE_runs x.1 x.2 y.1 y.2) rfl (fun _ => rfl) (fun _ => rfl)
noncomputable def conInv : ConP Tryz.prog Fe := mkP 172 entQIv [1] (fun x => .agg [.abs (invF x)]) fun x => .up (QIv_runs x.1 x.2) rfl (fun _ => rfl) (fun _ => rfl)
theorem q_s1 {K : Type} [CR K] (a b : K)  : (a + b) * (a - b) = a * a - b * b := eq_of (fun zz => [a, b].getD zz 0) 2 (((Alg.E.v 0 + Alg.E.v 1) * (Alg.E.v 0 - Alg.E.v 1))) (((Alg.E.v 0 * Alg.E.v 0) - (Alg.E.v 1 * Alg.E.v 1))) (by decide +kernel)
theorem q_s2 {K : Type} [CR K] (a b : K)  : a * b + a * b = (a + b) * (a + b) - a * a - b * b := eq_of (fun zz => [a, b].getD zz 0) 2 (((Alg.E.v 0 * Alg.E.v 1) + (Alg.E.v 0 * Alg.E.v 1))) (((((Alg.E.v 0 + Alg.E.v 1) * (Alg.E.v 0 + Alg.E.v 1)) - (Alg.E.v 0 * Alg.E.v 0)) - (Alg.E.v 1 * Alg.E.v 1))) (by decide +kernel)
theorem qsq_1 (x : Fe) : za (qsq x).1 = za (fmul x x).1 := by
  show za (En.fmul (En.fadd x.1 x.2) (En.fsub x.1 x.2)) = za (En.fsub (En.fmul x.1 x.1) (En.fmul x.2 x.2))
  simp only [za_mul, za_add, za_sub]
  exact q_s1 _ _
theorem qsq_2 (x : Fe) : za (qsq x).2 = za (fmul x x).2 := by
  show za (En.fadd (En.fmul x.1 x.2) (En.fmul x.1 x.2)) = za (En.fsub (En.fsub (En.fmul (En.fadd x.1 x.2) (En.fadd x.1 x.2)) (En.fmul x.1 x.1)) (En.fmul x.2 x.2))
  simp only [za_mul, za_add, za_sub]
  exact q_s2 _ _
noncomputable def conFSquare : ConP Tryz.prog Fe := mkP 51 entQSq [1] (fun x => .agg [.abs (fmul x x)]) fun x => .up (QSq_runs x.1 x.2) rfl (fun _ => rfl) (fun ρ => za_tr (qsq_1 x) (qsq_2 x) ρ)
noncomputable abbrev SCu (ps : List (ConP Tryz.prog Fe)) : Sig Fe := sigOf (P := Tryz.prog) ([conFAdd, conFSub, conFMul, conFSquare, conFNeg] ++ ps) [] [] (I := noIF) [] msF (advF fun _ _ _ => none)
theorem SCu_ok (ps : List (ConP Tryz.prog Fe)) : SigOk Tryz.prog (SCu ps) := sigOf_ok _ [] [] [] msF_ok _ noIF_ok
set_option maxRecDepth 100000 in
theorem entTwice : ∀ args w, (callFunc 116 args).run Tryz.prog w = .ok (.enter 116 args) w := ent_of (f := 116) (P := Tryz.prog) rfl rfl rfl
set_option maxRecDepth 100000 in
def twV_G (a : Fe) : Prop := true = true
set_option maxRecDepth 100000 in
theorem twV (a : Fe) : (callF Tryz.prog (SCu []) 60 116 [bF [a]] []).map (fun r => (r.1, r.2.2)) = some (.agg [.abs (fadd a a)], some (twV_G a)) := by kernel_rfl
set_option maxRecDepth 100000 in
theorem twV_ok (a : Fe) : condOk (some (twV_G a)) := by unfold twV_G condOk; and_intros <;> rfl
noncomputable def conTwice : ConP Tryz.prog Fe := mkP 116 entTwice [1] (fun x => .agg [.abs (fadd x x)]) fun x => .of (SCu_ok _) rfl (twV x) (twV_ok x) rfl rfl
end Go.Proofs.YtonmjdnkcngfjaaGreat.En2

/- DERIVED. The curve's doubles, sums, opposites on numbers. -/
set_option linter.all false
namespace Go.Proofs.YtonmjdnkcngfjaaGreat.En2
open Go Go.RowKit Go.Proofs.YtonmjdnkcngfjaaGreat.En

abbrev Pt := Fe × Fe × Fe
def ptV (p : Pt) : LV Fe := .agg [.abs p.1, .abs p.2.1, .abs p.2.2]
def dblF (p : Pt) : Pt :=
  let a := fmul p.1 p.1
  let b := fmul p.2.1 p.2.1
  let c := fmul b b
  let t := fadd p.1 b
  let d0 := fsub (fsub (fmul t t) a) c
  let d := fadd d0 d0
  let e := fadd (fadd a a) a
  let x := fsub (fmul e e) (fadd d d)
  let c2 := fadd c c
  let c4 := fadd c2 c2
  let y := fsub (fmul e (fsub d x)) (fadd c4 c4)
  let z := fmul p.2.1 p.2.2
  (x, y, fadd z z)
set_option maxRecDepth 100000 in
theorem entDouble : ∀ args w, (callFunc 89 args).run Tryz.prog w = .ok (.enter 89 args) w := ent_of (f := 89) (P := Tryz.prog) rfl rfl rfl
set_option maxRecDepth 100000 in
def dbV_G (a b c : Fe) : Prop := (true = true ∧ true = true) ∧ true = true ∧ true = true ∧ true = true ∧ true = true ∧ true = true ∧ true = true
set_option maxRecDepth 100000 in
theorem dbV (a b c : Fe) : (callF Tryz.prog (SCu [conTwice]) 60 89 [bF [a, b, c]] []).map (fun r => (r.1, r.2.2)) = some (ptV (dblF (a, b, c)), some (dbV_G a b c)) := by kernel_rfl
set_option maxRecDepth 100000 in
theorem dbV_ok (a b c : Fe) : condOk (some (dbV_G a b c)) := by unfold dbV_G condOk; and_intros <;> rfl
noncomputable def conDouble : ConP Tryz.prog Fe := mkP 89 entDouble [3] (fun a b c => ptV (dblF (a, b, c))) fun a b c => .of (SCu_ok _) rfl (dbV a b c) (dbV_ok a b c) rfl rfl
/-- Tests decided by d. -/
noncomputable abbrev SCd (d : FuncId → Nat → Nat → Option Bool) (ps : List (ConP Tryz.prog Fe)) : Sig Fe := sigOf (P := Tryz.prog) ([conFAdd, conFSub, conFMul, conFSquare, conFNeg, conFIsZero, conFEqual, conTwice] ++ ps) [] [] (I := noIF) [] msF (advF d)
theorem SCd_ok (d : FuncId → Nat → Nat → Option Bool) (ps : List (ConP Tryz.prog Fe)) : SigOk Tryz.prog (SCd d ps) := sigOf_ok _ [] [] [] msF_ok _ noIF_ok
/-- The tests of one function, by the regions behind which they stand. -/
def dcs (g : FuncId) (l : List (Nat × Bool)) : FuncId → Nat → Nat → Option Bool := fun f r _ => match Nat.beq f g with
  | true => look l r
  | false => none
where look : List (Nat × Bool) → Nat → Option Bool
  | [], _ => none
  | (k, b) :: l, r => match Nat.beq k r with
    | true => some b
    | false => look l r
abbrev noD : FuncId → Nat → Nat → Option Bool := fun _ _ _ => none
set_option maxRecDepth 100000 in
theorem entInfinite : ∀ args w, (callFunc 58 args).run Tryz.prog w = .ok (.enter 58 args) w := ent_of (f := 58) (P := Tryz.prog) rfl rfl rfl
set_option maxRecDepth 100000 in
theorem infV (a b c : Fe) : (callF Tryz.prog (SCd noD []) 60 58 [bF [a, b, c]] []).map (fun r => (r.1, r.2.2)) = some (.bool (isz c), none) := by kernel_rfl
theorem infV_ok (a b c : Fe) : condOk none := trivial
noncomputable def conInfinite : ConP Tryz.prog Fe := mkP 58 entInfinite [3] (fun a b c => .bool (isz c)) fun a b c => .of (SCd_ok _ _) rfl (infV a b c) (infV_ok a b c) rfl rfl
def negF (p : Pt) : Pt := (p.1, fneg p.2.1, p.2.2)
set_option maxRecDepth 100000 in
theorem entCNeg : ∀ args w, (callFunc 76 args).run Tryz.prog w = .ok (.enter 76 args) w := ent_of (f := 76) (P := Tryz.prog) rfl rfl rfl
set_option maxRecDepth 100000 in
def cngV_G (a b c : Fe) : Prop := true = true
set_option maxRecDepth 100000 in
theorem cngV (a b c : Fe) : (callF Tryz.prog (SCd noD []) 60 76 [bF [a, b, c]] []).map (fun r => (r.1, r.2.2)) = some (ptV (negF (a, b, c)), some (cngV_G a b c)) := by kernel_rfl
set_option maxRecDepth 100000 in
theorem cngV_ok (a b c : Fe) : condOk (some (cngV_G a b c)) := by unfold cngV_G condOk; and_intros <;> rfl
noncomputable def conCNeg : ConP Tryz.prog Fe := mkP 76 entCNeg [3] (fun a b c => ptV (negF (a, b, c))) fun a b c => .of (SCd_ok _ _) rfl (cngV a b c) (cngV_ok a b c) rfl rfl

/-! ## the sum -/
def addH (p q : Pt) : Fe := fsub (fmul q.1 (fmul p.2.2 p.2.2)) (fmul p.1 (fmul q.2.2 q.2.2))
def addR (p q : Pt) : Fe := fsub (fmul (fmul q.2.1 (fmul p.2.2 p.2.2)) p.2.2) (fmul (fmul p.2.1 (fmul q.2.2 q.2.2)) q.2.2)
def addN (p q : Pt) : Pt :=
  let b := fmul q.2.2 q.2.2
  let u := fmul p.1 b
  let s := fmul (fmul p.2.1 b) q.2.2
  let h := addH p q
  let r := addR p q
  let hh := fmul h h
  let hhh := fmul hh h
  let w := fmul u hh
  let x := fsub (fsub (fmul r r) hhh) (fadd w w)
  (x, fsub (fmul r (fsub w x)) (fmul s hhh), fmul (fmul p.2.2 q.2.2) h)
def zPt : Pt := (zE, zE, zE)
def paddF (p q : Pt) : Pt := bif isz p.2.2 then q else bif isz q.2.2 then p else bif isz (addH p q) then (bif isz (addR p q) then dblF p else zPt) else addN p q
set_option maxRecDepth 100000 in
theorem entCAdd : ∀ args w, (callFunc 72 args).run Tryz.prog w = .ok (.enter 72 args) w := ent_of (f := 72) (P := Tryz.prog) rfl rfl rfl
set_option maxRecDepth 100000 in
def ad1V_G (a b c d e f : Fe) : Prop := isz c = true ∧ true = true
set_option maxRecDepth 100000 in
theorem ad1V (a b c d e f : Fe) : (callF Tryz.prog (SCd (dcs 72 [(1, true)]) [conDouble, conInfinite]) 60 72 [bF [a, b, c], bF [d, e, f]] []).map (fun r => (r.1, r.2.2)) = some (ptV (d, e, f), some (ad1V_G a b c d e f)) := by kernel_rfl
set_option maxRecDepth 100000 in
def ad2V_G (a b c d e f : Fe) : Prop := isz c = false ∧ isz f = true ∧ true = true
set_option maxRecDepth 100000 in
theorem ad2V (a b c d e f : Fe) : (callF Tryz.prog (SCd (dcs 72 [(1, false), (3, true)]) [conDouble, conInfinite]) 60 72 [bF [a, b, c], bF [d, e, f]] []).map (fun r => (r.1, r.2.2)) = some (ptV (a, b, c), some (ad2V_G a b c d e f)) := by kernel_rfl
set_option maxRecDepth 100000 in
def ad3V_G (a b c d e f : Fe) : Prop := isz c = false ∧ isz f = false ∧ (true = true ∧ true = true) ∧ (true = true ∧ true = true) ∧ (true = true ∧ true = true) ∧ (true = true ∧ true = true) ∧ isz (fsub (fmul d (fmul c c)) (fmul a (fmul f f))) = true ∧ isz (fsub (fmul (fmul e (fmul c c)) c) (fmul (fmul b (fmul f f)) f)) = true ∧ true = true
set_option maxRecDepth 100000 in
theorem ad3V (a b c d e f : Fe) : (callF Tryz.prog (SCd (dcs 72 [(1, false), (3, false), (9, true), (10, true)]) [conDouble, conInfinite]) 60 72 [bF [a, b, c], bF [d, e, f]] []).map (fun r => (r.1, r.2.2)) = some (ptV (dblF (a, b, c)), some (ad3V_G a b c d e f)) := by kernel_rfl
set_option maxRecDepth 100000 in
def ad4V_G (a b c d e f : Fe) : Prop := isz c = false ∧ isz f = false ∧ (true = true ∧ true = true) ∧ (true = true ∧ true = true) ∧ (true = true ∧ true = true) ∧ (true = true ∧ true = true) ∧ isz (fsub (fmul d (fmul c c)) (fmul a (fmul f f))) = true ∧ isz (fsub (fmul (fmul e (fmul c c)) c) (fmul (fmul b (fmul f f)) f)) = false ∧ true = true
set_option maxRecDepth 100000 in
theorem ad4V (a b c d e f : Fe) : (callF Tryz.prog (SCd (dcs 72 [(1, false), (3, false), (9, true), (10, false)]) [conDouble, conInfinite]) 60 72 [bF [a, b, c], bF [d, e, f]] []).map (fun r => (r.1, r.2.2)) = some (.agg (List.replicate 36 (.int .u64 0)), some (ad4V_G a b c d e f)) := by kernel_rfl
set_option maxRecDepth 100000 in
def ad5V_G (a b c d e f : Fe) : Prop := isz c = false ∧ isz f = false ∧ (true = true ∧ true = true) ∧ (true = true ∧ true = true) ∧ (true = true ∧ true = true) ∧ (true = true ∧ true = true) ∧ isz (fsub (fmul d (fmul c c)) (fmul a (fmul f f))) = false ∧ true = true ∧ (true = true ∧ true = true) ∧ true = true ∧ true = true ∧ true = true
set_option maxRecDepth 100000 in
theorem ad5V (a b c d e f : Fe) : (callF Tryz.prog (SCd (dcs 72 [(1, false), (3, false), (9, false)]) [conDouble, conInfinite]) 60 72 [bF [a, b, c], bF [d, e, f]] []).map (fun r => (r.1, r.2.2)) = some (ptV (addN (a, b, c) (d, e, f)), some (ad5V_G a b c d e f)) := by kernel_rfl
theorem zPt_tr (ρ : Key → En.Loc) : LV.tr ρ (.agg (List.replicate 36 (.int .u64 0)) : LV Fe) = LV.tr ρ (ptV zPt) := by kernel_rfl
theorem add_runs (a b c d e f : Fe) : Runs 72 [bF [a, b, c], bF [d, e, f]] (ptV (paddF (a, b, c) (d, e, f))) := by
  cases h1 : isz c with
  | true =>
    rw [show paddF (a, b, c) (d, e, f) = (d, e, f) by simp only [paddF, h1, cond_true]]
    exact .of (SCd_ok _ _) rfl (ad1V a b c d e f) (by unfold condOk ad1V_G; and_intros <;> first | with_reducible rfl | assumption) rfl rfl
  | false => cases h2 : isz f with
    | true =>
      rw [show paddF (a, b, c) (d, e, f) = (a, b, c) by simp only [paddF, h1, h2, cond_true, cond_false]]
      exact .of (SCd_ok _ _) rfl (ad2V a b c d e f) (by unfold condOk ad2V_G; and_intros <;> first | with_reducible rfl | assumption) rfl rfl
    | false => cases h3 : isz (addH (a, b, c) (d, e, f)) with
      | true => cases h4 : isz (addR (a, b, c) (d, e, f)) with
        | true =>
          rw [show paddF (a, b, c) (d, e, f) = dblF (a, b, c) by simp only [paddF, h1, h2, h3, h4, cond_true, cond_false]]
          unfold addH at h3; unfold addR at h4
          exact .of (SCd_ok _ _) rfl (ad3V a b c d e f) (by unfold condOk ad3V_G; and_intros <;> first | with_reducible rfl | assumption) rfl rfl
        | false =>
          rw [show paddF (a, b, c) (d, e, f) = zPt by simp only [paddF, h1, h2, h3, h4, cond_true, cond_false]]
          unfold addH at h3; unfold addR at h4
          exact (Runs.of (SCd_ok _ _) rfl (ad4V a b c d e f) (by unfold condOk ad4V_G; and_intros <;> first | with_reducible rfl | assumption) rfl rfl).as rfl fun ρ => zPt_tr ρ
      | false =>
        rw [show paddF (a, b, c) (d, e, f) = addN (a, b, c) (d, e, f) by simp only [paddF, h1, h2, h3, cond_true, cond_false]]
        unfold addH at h3
        exact .of (SCd_ok _ _) rfl (ad5V a b c d e f) (by unfold condOk ad5V_G; and_intros <;> first | with_reducible rfl | assumption) rfl rfl
noncomputable def conCAdd : ConP Tryz.prog Fe := mkP 72 entCAdd [3, 3] (fun a b c d e f => ptV (paddF (a, b, c) (d, e, f))) add_runs
end Go.Proofs.YtonmjdnkcngfjaaGreat.En2

/- DERIVED. The curve's equality; the first group's operations. -/
set_option linter.all false
namespace Go.Proofs.YtonmjdnkcngfjaaGreat.En2
open Go Go.RowKit Go.Proofs.YtonmjdnkcngfjaaGreat.En

/-- The tests of one function, by region and place. -/
def dci (g : FuncId) (l : List (Nat × Nat × Bool)) : FuncId → Nat → Nat → Option Bool := fun f r i => match Nat.beq f g with
  | true => look l r i
  | false => none
where look : List (Nat × Nat × Bool) → Nat → Nat → Option Bool
  | [], _, _ => none
  | (k, j, b) :: l, r, i => match Nat.beq k r, Nat.beq j i with
    | true, true => some b
    | _, _ => look l r i
def ceqX (p q : Pt) : Bool := feq (fmul p.1 (fmul q.2.2 q.2.2)) (fmul q.1 (fmul p.2.2 p.2.2))
def ceqY (p q : Pt) : Bool := feq (fmul p.2.1 (fmul (fmul q.2.2 q.2.2) q.2.2)) (fmul q.2.1 (fmul (fmul p.2.2 p.2.2) p.2.2))
def ceqF (p q : Pt) : Bool := bif isz p.2.2 || isz q.2.2 then isz p.2.2 == isz q.2.2 else ceqX p q && ceqY p q
set_option maxRecDepth 100000 in
theorem entCEqual : ∀ args w, (callFunc 68 args).run Tryz.prog w = .ok (.enter 68 args) w := ent_of (f := 68) (P := Tryz.prog) rfl rfl rfl
set_option maxRecDepth 100000 in
def eq1V_G (a b c d e f : Fe) : Prop := isz c = true
set_option maxRecDepth 100000 in
theorem eq1V (a b c d e f : Fe) : (callF Tryz.prog (SCd (dci 68 [(1, 1, true)]) [conInfinite]) 60 68 [bF [a, b, c], bF [d, e, f]] []).map (fun r => (r.1, r.2.2)) = some (.bool (isz c == isz f), some (eq1V_G a b c d e f)) := by kernel_rfl
set_option maxRecDepth 100000 in
def eq2V_G (a b c d e f : Fe) : Prop := isz c = false ∧ isz f = true
set_option maxRecDepth 100000 in
theorem eq2V (a b c d e f : Fe) : (callF Tryz.prog (SCd (dci 68 [(1, 1, false), (1, 4, true)]) [conInfinite]) 60 68 [bF [a, b, c], bF [d, e, f]] []).map (fun r => (r.1, r.2.2)) = some (.bool (isz c == isz f), some (eq2V_G a b c d e f)) := by kernel_rfl
set_option maxRecDepth 100000 in
def eq3V_G (a b c d e f : Fe) : Prop := (isz c = false ∧ isz f = false) ∧ (true = true ∧ true = true) ∧ feq (fmul a (fmul f f)) (fmul d (fmul c c)) = true
set_option maxRecDepth 100000 in
theorem eq3V (a b c d e f : Fe) : (callF Tryz.prog (SCd (dci 68 [(1, 1, false), (1, 4, false), (4, 11, true)]) [conInfinite]) 60 68 [bF [a, b, c], bF [d, e, f]] []).map (fun r => (r.1, r.2.2)) = some (.bool (ceqY (a, b, c) (d, e, f)), some (eq3V_G a b c d e f)) := by kernel_rfl
set_option maxRecDepth 100000 in
def eq4V_G (a b c d e f : Fe) : Prop := (isz c = false ∧ isz f = false) ∧ (true = true ∧ true = true) ∧ feq (fmul a (fmul f f)) (fmul d (fmul c c)) = false
set_option maxRecDepth 100000 in
theorem eq4V (a b c d e f : Fe) : (callF Tryz.prog (SCd (dci 68 [(1, 1, false), (1, 4, false), (4, 11, false)]) [conInfinite]) 60 68 [bF [a, b, c], bF [d, e, f]] []).map (fun r => (r.1, r.2.2)) = some (.bool false, some (eq4V_G a b c d e f)) := by kernel_rfl
theorem eq_runs (a b c d e f : Fe) : Runs 68 [bF [a, b, c], bF [d, e, f]] (.bool (ceqF (a, b, c) (d, e, f))) := by
  cases h1 : isz c with
  | true =>
    rw [show ceqF (a, b, c) (d, e, f) = (isz c == isz f) by simp only [ceqF, h1, Bool.true_or, cond_true]]
    exact .of (SCd_ok _ _) rfl (eq1V a b c d e f) (by unfold condOk eq1V_G; and_intros <;> first | with_reducible rfl | assumption) rfl rfl
  | false => cases h2 : isz f with
    | true =>
      rw [show ceqF (a, b, c) (d, e, f) = (isz c == isz f) by simp only [ceqF, h1, h2, Bool.or_true, cond_true]]
      exact .of (SCd_ok _ _) rfl (eq2V a b c d e f) (by unfold condOk eq2V_G; and_intros <;> first | with_reducible rfl | assumption) rfl rfl
    | false => cases h3 : ceqX (a, b, c) (d, e, f) with
      | true =>
        rw [show ceqF (a, b, c) (d, e, f) = ceqY (a, b, c) (d, e, f) by simp only [ceqF, h1, h2, h3, Bool.or_false, cond_false, Bool.true_and]]
        unfold ceqX at h3
        exact .of (SCd_ok _ _) rfl (eq3V a b c d e f) (by unfold condOk eq3V_G; and_intros <;> first | with_reducible rfl | assumption) rfl rfl
      | false =>
        rw [show ceqF (a, b, c) (d, e, f) = false by simp only [ceqF, h1, h2, h3, Bool.or_false, cond_false, Bool.false_and]]
        unfold ceqX at h3
        exact .of (SCd_ok _ _) rfl (eq4V a b c d e f) (by unfold condOk eq4V_G; and_intros <;> first | with_reducible rfl | assumption) rfl rfl
noncomputable def conCEqual : ConP Tryz.prog Fe := mkP 68 entCEqual [3, 3] (fun a b c d e f => .bool (ceqF (a, b, c) (d, e, f))) eq_runs

/-! ## the first group's -/
noncomputable abbrev SG1 : Sig Fe := SCd noD [conDouble, conInfinite, conCNeg, conCAdd, conCEqual]
theorem SG1_ok : SigOk Tryz.prog SG1 := SCd_ok _ _
set_option maxRecDepth 100000 in
theorem entGEqual : ∀ args w, (callFunc 25 args).run Tryz.prog w = .ok (.enter 25 args) w := ent_of (f := 25) (P := Tryz.prog) rfl rfl rfl
set_option maxRecDepth 100000 in
theorem geqV (a b c d e f : Fe) : (callF Tryz.prog SG1 60 25 [bF [a, b, c], bF [d, e, f]] []).map (fun r => (r.1, r.2.2)) = some (.bool (ceqF (a, b, c) (d, e, f)), none) := by kernel_rfl
theorem geqV_ok (a b c d e f : Fe) : condOk none := trivial
noncomputable def conGEqual : ConP Tryz.prog Fe := mkP 25 entGEqual [3, 3] (fun a b c d e f => .bool (ceqF (a, b, c) (d, e, f))) fun a b c d e f => .of SG1_ok rfl (geqV a b c d e f) (geqV_ok a b c d e f) rfl rfl
set_option maxRecDepth 100000 in
theorem entGAdd : ∀ args w, (callFunc 27 args).run Tryz.prog w = .ok (.enter 27 args) w := ent_of (f := 27) (P := Tryz.prog) rfl rfl rfl
set_option maxRecDepth 100000 in
def gadV_G (a b c d e f : Fe) : Prop := true = true
set_option maxRecDepth 100000 in
theorem gadV (a b c d e f : Fe) : (callF Tryz.prog SG1 60 27 [bF [a, b, c], bF [d, e, f]] []).map (fun r => (r.1, r.2.2)) = some (ptV (paddF (a, b, c) (d, e, f)), some (gadV_G a b c d e f)) := by kernel_rfl
set_option maxRecDepth 100000 in
theorem gadV_ok (a b c d e f : Fe) : condOk (some (gadV_G a b c d e f)) := by unfold gadV_G condOk; and_intros <;> rfl
noncomputable def conGAdd : ConP Tryz.prog Fe := mkP 27 entGAdd [3, 3] (fun a b c d e f => ptV (paddF (a, b, c) (d, e, f))) fun a b c d e f => .of SG1_ok rfl (gadV a b c d e f) (gadV_ok a b c d e f) rfl rfl
set_option maxRecDepth 100000 in
theorem entGNeg : ∀ args w, (callFunc 30 args).run Tryz.prog w = .ok (.enter 30 args) w := ent_of (f := 30) (P := Tryz.prog) rfl rfl rfl
set_option maxRecDepth 100000 in
def gngV_G (a b c : Fe) : Prop := true = true
set_option maxRecDepth 100000 in
theorem gngV (a b c : Fe) : (callF Tryz.prog SG1 60 30 [bF [a, b, c]] []).map (fun r => (r.1, r.2.2)) = some (ptV (negF (a, b, c)), some (gngV_G a b c)) := by kernel_rfl
set_option maxRecDepth 100000 in
theorem gngV_ok (a b c : Fe) : condOk (some (gngV_G a b c)) := by unfold gngV_G condOk; and_intros <;> rfl
noncomputable def conGNeg : ConP Tryz.prog Fe := mkP 30 entGNeg [3] (fun a b c => ptV (negF (a, b, c))) fun a b c => .of SG1_ok rfl (gngV a b c) (gngV_ok a b c) rfl rfl
set_option maxRecDepth 100000 in
theorem entGInf : ∀ args w, (callFunc 16 args).run Tryz.prog w = .ok (.enter 16 args) w := ent_of (f := 16) (P := Tryz.prog) rfl rfl rfl
set_option maxRecDepth 100000 in
theorem ginV (a b c : Fe) : (callF Tryz.prog SG1 60 16 [bF [a, b, c]] []).map (fun r => (r.1, r.2.2)) = some (.bool (isz c), none) := by kernel_rfl
theorem ginV_ok (a b c : Fe) : condOk none := trivial
noncomputable def conGInf : ConP Tryz.prog Fe := mkP 16 entGInf [3] (fun a b c => .bool (isz c)) fun a b c => .of SG1_ok rfl (ginV a b c) (ginV_ok a b c) rfl rfl
set_option maxRecDepth 100000 in
theorem entGDouble : ∀ args w, (callFunc 39 args).run Tryz.prog w = .ok (.enter 39 args) w := ent_of (f := 39) (P := Tryz.prog) rfl rfl rfl
set_option maxRecDepth 100000 in
def gdbV_G (a b c : Fe) : Prop := true = true
set_option maxRecDepth 100000 in
theorem gdbV (a b c : Fe) : (callF Tryz.prog SG1 60 39 [bF [a, b, c]] []).map (fun r => (r.1, r.2.2)) = some (ptV (dblF (a, b, c)), some (gdbV_G a b c)) := by kernel_rfl
set_option maxRecDepth 100000 in
theorem gdbV_ok (a b c : Fe) : condOk (some (gdbV_G a b c)) := by unfold gdbV_G condOk; and_intros <;> rfl
noncomputable def conGDouble : ConP Tryz.prog Fe := mkP 39 entGDouble [3] (fun a b c => ptV (dblF (a, b, c))) fun a b c => .of SG1_ok rfl (gdbV a b c) (gdbV_ok a b c) rfl rfl
end Go.Proofs.YtonmjdnkcngfjaaGreat.En2

/- DERIVED. So many times a point, as bytes say. -/
set_option linter.all false
namespace Go.Proofs.YtonmjdnkcngfjaaGreat.En2
open Go Go.RowKit Go.Proofs.YtonmjdnkcngfjaaGreat.En

noncomputable abbrev SMul (us0 : List (LV Fe)) : Sig Fe := sigOf (P := Tryz.prog) [conDouble, conCAdd] [] [] (I := inOf [us0]) [] msF (advF noD)
theorem SMul_ok (us0 : List (LV Fe)) (h : plainL us0) : SigOk Tryz.prog (SMul us0) := sigOf_ok _ [] [] [] msF_ok _ (inOf_ok fun l hl => by rw [List.mem_singleton] at hl; subst hl; exact h)
abbrev zB : List (LV Fe) := [.int .u64 0, .int .u64 0, .int .u64 0, .int .u64 0, .int .u64 0, .int .u64 0, .int .u64 0, .int .u64 0, .int .u64 0, .int .u64 0, .int .u64 0, .int .u64 0, .int .u64 0, .int .u64 0, .int .u64 0, .int .u64 0, .int .u64 0, .int .u64 0, .int .u64 0, .int .u64 0, .int .u64 0, .int .u64 0, .int .u64 0, .int .u64 0, .int .u64 0, .int .u64 0, .int .u64 0, .int .u64 0, .int .u64 0, .int .u64 0, .int .u64 0, .int .u64 0, .int .u64 0, .int .u64 0, .int .u64 0, .int .u64 0]
abbrev pB (p : Pt) : List (LV Fe) := [.abs p.1, .abs p.2.1, .abs p.2.2]
abbrev mulM (a b c : Fe) (x : LV Fe) (k : List (LV Fe)) : Mem Fe := [some ⟨.rw, [.abs a, .abs b, .abs c]⟩, some ⟨.rw, zB⟩, some ⟨.rw, k⟩, some ⟨.rw, [x]⟩]
abbrev mulA (a b c : Fe) (x : LV Fe) : LS Fe := ⟨tm 17 [(1, x), (2, .ptr (.own 0) 0 []), (4, .ptr (.own 1) 0 [])], [some ⟨.rw, [.abs a, .abs b, .abs c]⟩, some ⟨.rw, zB⟩], []⟩
abbrev mulB (a b c : Fe) (x : LV Fe) : LS Fe := ⟨tm 17 [(1, x), (2, .ptr (.own 0) 0 []), (4, .ptr (.own 1) 0 []), (5, .ptr (.own 2) 0 [])], [some ⟨.rw, [.abs a, .abs b, .abs c]⟩, some ⟨.rw, zB⟩, some ⟨.rw, zB⟩], []⟩
abbrev mulTs : List (Nat × LV Fe) := [(2, .ptr (.own 0) 0 []), (4, .ptr (.own 1) 0 []), (5, .ptr (.own 2) 0 []), (8, .func 140 [.ptr (.own 3) 0 []])]
abbrev mulJ (a b c : Fe) (x : LV Fe) (t : Bool) (k : List (LV Fe)) : LS Fe := ⟨((tm 17 mulTs).set 9 (.bool t)).set 6 (.bool t), mulM a b c x k, []⟩
def stepP (p o : Pt) (s : Bool) : Pt := bif s then paddF (dblF o) p else dblF o
set_option maxRecDepth 100000 in
def mulV0_G (us0 : List (LV Fe)) (a b c : Fe) (n : Nat) : Prop := (0 = 0 ∧ n = n) ∧ (a = a ∧ b = b ∧ c = c) ∧ (0 : Int) = (0 : Int) ∧ (0 : Int) = (0 : Int) ∧ (0 : Int) = (0 : Int) ∧ (0 : Int) = (0 : Int) ∧ (0 : Int) = (0 : Int) ∧ (0 : Int) = (0 : Int) ∧ (0 : Int) = (0 : Int) ∧ (0 : Int) = (0 : Int) ∧ (0 : Int) = (0 : Int) ∧ (0 : Int) = (0 : Int) ∧ (0 : Int) = (0 : Int) ∧ (0 : Int) = (0 : Int) ∧ (0 : Int) = (0 : Int) ∧ (0 : Int) = (0 : Int) ∧ (0 : Int) = (0 : Int) ∧ (0 : Int) = (0 : Int) ∧ (0 : Int) = (0 : Int) ∧ (0 : Int) = (0 : Int) ∧ (0 : Int) = (0 : Int) ∧ (0 : Int) = (0 : Int) ∧ (0 : Int) = (0 : Int) ∧ (0 : Int) = (0 : Int) ∧ (0 : Int) = (0 : Int) ∧ (0 : Int) = (0 : Int) ∧ (0 : Int) = (0 : Int) ∧ (0 : Int) = (0 : Int) ∧ (0 : Int) = (0 : Int) ∧ (0 : Int) = (0 : Int) ∧ (0 : Int) = (0 : Int) ∧ (0 : Int) = (0 : Int) ∧ (0 : Int) = (0 : Int) ∧ (0 : Int) = (0 : Int) ∧ (0 : Int) = (0 : Int) ∧ (0 : Int) = (0 : Int) ∧ (0 : Int) = (0 : Int) ∧ (0 : Int) = (0 : Int)
set_option maxRecDepth 100000 in
theorem mulV0 (us0 : List (LV Fe)) (a b c : Fe) (n : Nat) : runG Tryz.prog (SMul us0) 60 62 [0] (startS Tryz.f62 [bF [a, b, c], (.vec (.inp 0 0) n)] []) .normal 0 [some (.own 0), some (.own 1)] 17 [(1, (.vec (.inp 0 0) n)), (2, .ptr (.own 0) 0 []), (4, .ptr (.own 1) 0 [])] (mulA a b c (.vec (.inp 0 0) n)).mem = some (some ((mulV0_G us0 a b c n))) := by kernel_rfl
set_option maxRecDepth 100000 in
def mulV1_G (us0 : List (LV Fe)) (a b c : Fe) (n : Nat) : Prop := (0 = 0 ∧ n = n) ∧ (a = a ∧ b = b ∧ c = c) ∧ ((0 : Int) = (0 : Int) ∧ (0 : Int) = (0 : Int) ∧ (0 : Int) = (0 : Int) ∧ (0 : Int) = (0 : Int) ∧ (0 : Int) = (0 : Int) ∧ (0 : Int) = (0 : Int) ∧ (0 : Int) = (0 : Int) ∧ (0 : Int) = (0 : Int) ∧ (0 : Int) = (0 : Int) ∧ (0 : Int) = (0 : Int) ∧ (0 : Int) = (0 : Int) ∧ (0 : Int) = (0 : Int) ∧ (0 : Int) = (0 : Int) ∧ (0 : Int) = (0 : Int) ∧ (0 : Int) = (0 : Int) ∧ (0 : Int) = (0 : Int) ∧ (0 : Int) = (0 : Int) ∧ (0 : Int) = (0 : Int) ∧ (0 : Int) = (0 : Int) ∧ (0 : Int) = (0 : Int) ∧ (0 : Int) = (0 : Int) ∧ (0 : Int) = (0 : Int) ∧ (0 : Int) = (0 : Int) ∧ (0 : Int) = (0 : Int) ∧ (0 : Int) = (0 : Int) ∧ (0 : Int) = (0 : Int) ∧ (0 : Int) = (0 : Int) ∧ (0 : Int) = (0 : Int) ∧ (0 : Int) = (0 : Int) ∧ (0 : Int) = (0 : Int) ∧ (0 : Int) = (0 : Int) ∧ (0 : Int) = (0 : Int) ∧ (0 : Int) = (0 : Int) ∧ (0 : Int) = (0 : Int) ∧ (0 : Int) = (0 : Int) ∧ (0 : Int) = (0 : Int)) ∧ (0 : Int) = (0 : Int) ∧ (0 : Int) = (0 : Int) ∧ (0 : Int) = (0 : Int) ∧ (0 : Int) = (0 : Int) ∧ (0 : Int) = (0 : Int) ∧ (0 : Int) = (0 : Int) ∧ (0 : Int) = (0 : Int) ∧ (0 : Int) = (0 : Int) ∧ (0 : Int) = (0 : Int) ∧ (0 : Int) = (0 : Int) ∧ (0 : Int) = (0 : Int) ∧ (0 : Int) = (0 : Int) ∧ (0 : Int) = (0 : Int) ∧ (0 : Int) = (0 : Int) ∧ (0 : Int) = (0 : Int) ∧ (0 : Int) = (0 : Int) ∧ (0 : Int) = (0 : Int) ∧ (0 : Int) = (0 : Int) ∧ (0 : Int) = (0 : Int) ∧ (0 : Int) = (0 : Int) ∧ (0 : Int) = (0 : Int) ∧ (0 : Int) = (0 : Int) ∧ (0 : Int) = (0 : Int) ∧ (0 : Int) = (0 : Int) ∧ (0 : Int) = (0 : Int) ∧ (0 : Int) = (0 : Int) ∧ (0 : Int) = (0 : Int) ∧ (0 : Int) = (0 : Int) ∧ (0 : Int) = (0 : Int) ∧ (0 : Int) = (0 : Int) ∧ (0 : Int) = (0 : Int) ∧ (0 : Int) = (0 : Int) ∧ (0 : Int) = (0 : Int) ∧ (0 : Int) = (0 : Int) ∧ (0 : Int) = (0 : Int) ∧ (0 : Int) = (0 : Int)
set_option maxRecDepth 100000 in
theorem mulV1 (us0 : List (LV Fe)) (a b c : Fe) (n : Nat) : runG Tryz.prog (SMul us0) 60 62 [0, 1] (mulA a b c (.vec (.inp 0 0) n)) .normal 2 [some (.own 0), some (.own 1), some (.own 2)] 17 [(1, (.vec (.inp 0 0) n)), (2, .ptr (.own 0) 0 []), (4, .ptr (.own 1) 0 []), (5, .ptr (.own 2) 0 [])] (mulB a b c (.vec (.inp 0 0) n)).mem = some (some ((mulV1_G us0 a b c n))) := by kernel_rfl
set_option maxRecDepth 100000 in
def mulV2_G (us0 : List (LV Fe)) (a b c : Fe) (n : Nat) : Prop := (a = a ∧ b = b ∧ c = c) ∧ ((0 : Int) = (0 : Int) ∧ (0 : Int) = (0 : Int) ∧ (0 : Int) = (0 : Int) ∧ (0 : Int) = (0 : Int) ∧ (0 : Int) = (0 : Int) ∧ (0 : Int) = (0 : Int) ∧ (0 : Int) = (0 : Int) ∧ (0 : Int) = (0 : Int) ∧ (0 : Int) = (0 : Int) ∧ (0 : Int) = (0 : Int) ∧ (0 : Int) = (0 : Int) ∧ (0 : Int) = (0 : Int) ∧ (0 : Int) = (0 : Int) ∧ (0 : Int) = (0 : Int) ∧ (0 : Int) = (0 : Int) ∧ (0 : Int) = (0 : Int) ∧ (0 : Int) = (0 : Int) ∧ (0 : Int) = (0 : Int) ∧ (0 : Int) = (0 : Int) ∧ (0 : Int) = (0 : Int) ∧ (0 : Int) = (0 : Int) ∧ (0 : Int) = (0 : Int) ∧ (0 : Int) = (0 : Int) ∧ (0 : Int) = (0 : Int) ∧ (0 : Int) = (0 : Int) ∧ (0 : Int) = (0 : Int) ∧ (0 : Int) = (0 : Int) ∧ (0 : Int) = (0 : Int) ∧ (0 : Int) = (0 : Int) ∧ (0 : Int) = (0 : Int) ∧ (0 : Int) = (0 : Int) ∧ (0 : Int) = (0 : Int) ∧ (0 : Int) = (0 : Int) ∧ (0 : Int) = (0 : Int) ∧ (0 : Int) = (0 : Int) ∧ (0 : Int) = (0 : Int)) ∧ ((0 : Int) = (0 : Int) ∧ (0 : Int) = (0 : Int) ∧ (0 : Int) = (0 : Int) ∧ (0 : Int) = (0 : Int) ∧ (0 : Int) = (0 : Int) ∧ (0 : Int) = (0 : Int) ∧ (0 : Int) = (0 : Int) ∧ (0 : Int) = (0 : Int) ∧ (0 : Int) = (0 : Int) ∧ (0 : Int) = (0 : Int) ∧ (0 : Int) = (0 : Int) ∧ (0 : Int) = (0 : Int) ∧ (0 : Int) = (0 : Int) ∧ (0 : Int) = (0 : Int) ∧ (0 : Int) = (0 : Int) ∧ (0 : Int) = (0 : Int) ∧ (0 : Int) = (0 : Int) ∧ (0 : Int) = (0 : Int) ∧ (0 : Int) = (0 : Int) ∧ (0 : Int) = (0 : Int) ∧ (0 : Int) = (0 : Int) ∧ (0 : Int) = (0 : Int) ∧ (0 : Int) = (0 : Int) ∧ (0 : Int) = (0 : Int) ∧ (0 : Int) = (0 : Int) ∧ (0 : Int) = (0 : Int) ∧ (0 : Int) = (0 : Int) ∧ (0 : Int) = (0 : Int) ∧ (0 : Int) = (0 : Int) ∧ (0 : Int) = (0 : Int) ∧ (0 : Int) = (0 : Int) ∧ (0 : Int) = (0 : Int) ∧ (0 : Int) = (0 : Int) ∧ (0 : Int) = (0 : Int) ∧ (0 : Int) = (0 : Int) ∧ (0 : Int) = (0 : Int)) ∧ 0 = 0 ∧ n = n
set_option maxRecDepth 100000 in
theorem mulV2 (us0 : List (LV Fe)) (a b c : Fe) (n : Nat) : runG Tryz.prog (SMul us0) 60 62 [0, 0, 1, 1] (mulB a b c (.vec (.inp 0 0) n)) .normal 3 [some (.own 0), some (.own 1), some (.own 2), some (.own 3)] 17 mulTs (mulM a b c (.vec (.inp 0 0) n) zB) = some (some ((mulV2_G us0 a b c n))) := by kernel_rfl
set_option maxRecDepth 100000 in
def mulV3t_G (us0 : List (LV Fe)) (a b c : Fe) (n : Nat) : Prop := (true = true ∧ true = true) ∧ (a = a ∧ b = b ∧ c = c) ∧ ((0 : Int) = (0 : Int) ∧ (0 : Int) = (0 : Int) ∧ (0 : Int) = (0 : Int) ∧ (0 : Int) = (0 : Int) ∧ (0 : Int) = (0 : Int) ∧ (0 : Int) = (0 : Int) ∧ (0 : Int) = (0 : Int) ∧ (0 : Int) = (0 : Int) ∧ (0 : Int) = (0 : Int) ∧ (0 : Int) = (0 : Int) ∧ (0 : Int) = (0 : Int) ∧ (0 : Int) = (0 : Int) ∧ (0 : Int) = (0 : Int) ∧ (0 : Int) = (0 : Int) ∧ (0 : Int) = (0 : Int) ∧ (0 : Int) = (0 : Int) ∧ (0 : Int) = (0 : Int) ∧ (0 : Int) = (0 : Int) ∧ (0 : Int) = (0 : Int) ∧ (0 : Int) = (0 : Int) ∧ (0 : Int) = (0 : Int) ∧ (0 : Int) = (0 : Int) ∧ (0 : Int) = (0 : Int) ∧ (0 : Int) = (0 : Int) ∧ (0 : Int) = (0 : Int) ∧ (0 : Int) = (0 : Int) ∧ (0 : Int) = (0 : Int) ∧ (0 : Int) = (0 : Int) ∧ (0 : Int) = (0 : Int) ∧ (0 : Int) = (0 : Int) ∧ (0 : Int) = (0 : Int) ∧ (0 : Int) = (0 : Int) ∧ (0 : Int) = (0 : Int) ∧ (0 : Int) = (0 : Int) ∧ (0 : Int) = (0 : Int) ∧ (0 : Int) = (0 : Int)) ∧ (a = a ∧ b = b ∧ c = c) ∧ 0 = 0 ∧ n = n
set_option maxRecDepth 100000 in
theorem mulV3t (us0 : List (LV Fe)) (a b c : Fe) (n : Nat) : runG Tryz.prog (SMul us0) 60 62 [1, 0, 1, 0, 1, 1] (mulJ a b c (.vec (.inp 0 0) n) true zB) .normal 4 [some (.own 0), some (.own 1), some (.own 2), some (.own 3)] 17 [] (mulM a b c (.vec (.inp 0 0) n) (pB (stepP (a, b, c) zPt true))) = some (some ((mulV3t_G us0 a b c n))) := by kernel_rfl
set_option maxRecDepth 100000 in
def mulV3f_G (us0 : List (LV Fe)) (a b c : Fe) (n : Nat) : Prop := true = true ∧ (a = a ∧ b = b ∧ c = c) ∧ ((0 : Int) = (0 : Int) ∧ (0 : Int) = (0 : Int) ∧ (0 : Int) = (0 : Int) ∧ (0 : Int) = (0 : Int) ∧ (0 : Int) = (0 : Int) ∧ (0 : Int) = (0 : Int) ∧ (0 : Int) = (0 : Int) ∧ (0 : Int) = (0 : Int) ∧ (0 : Int) = (0 : Int) ∧ (0 : Int) = (0 : Int) ∧ (0 : Int) = (0 : Int) ∧ (0 : Int) = (0 : Int) ∧ (0 : Int) = (0 : Int) ∧ (0 : Int) = (0 : Int) ∧ (0 : Int) = (0 : Int) ∧ (0 : Int) = (0 : Int) ∧ (0 : Int) = (0 : Int) ∧ (0 : Int) = (0 : Int) ∧ (0 : Int) = (0 : Int) ∧ (0 : Int) = (0 : Int) ∧ (0 : Int) = (0 : Int) ∧ (0 : Int) = (0 : Int) ∧ (0 : Int) = (0 : Int) ∧ (0 : Int) = (0 : Int) ∧ (0 : Int) = (0 : Int) ∧ (0 : Int) = (0 : Int) ∧ (0 : Int) = (0 : Int) ∧ (0 : Int) = (0 : Int) ∧ (0 : Int) = (0 : Int) ∧ (0 : Int) = (0 : Int) ∧ (0 : Int) = (0 : Int) ∧ (0 : Int) = (0 : Int) ∧ (0 : Int) = (0 : Int) ∧ (0 : Int) = (0 : Int) ∧ (0 : Int) = (0 : Int) ∧ (0 : Int) = (0 : Int)) ∧ (Prod.fst (stepP (a, b, c) zPt false) = Prod.fst (stepP (a, b, c) zPt false) ∧ Prod.fst (Prod.snd (stepP (a, b, c) zPt false)) = Prod.fst (Prod.snd (stepP (a, b, c) zPt false)) ∧ Prod.snd (Prod.snd (stepP (a, b, c) zPt false)) = Prod.snd (Prod.snd (stepP (a, b, c) zPt false))) ∧ 0 = 0 ∧ n = n
set_option maxRecDepth 100000 in
theorem mulV3f (us0 : List (LV Fe)) (a b c : Fe) (n : Nat) : runG Tryz.prog (SMul us0) 60 62 [1, 0, 1, 0, 1, 1] (mulJ a b c (.vec (.inp 0 0) n) false zB) .normal 4 [some (.own 0), some (.own 1), some (.own 2), some (.own 3)] 17 [] (mulM a b c (.vec (.inp 0 0) n) (pB (stepP (a, b, c) zPt false))) = some (some ((mulV3f_G us0 a b c n))) := by kernel_rfl
set_option maxRecDepth 100000 in
def mulV4t_G (us0 : List (LV Fe)) (a b c : Fe) (n : Nat) (p : Pt) : Prop := (true = true ∧ true = true) ∧ (a = a ∧ b = b ∧ c = c) ∧ ((0 : Int) = (0 : Int) ∧ (0 : Int) = (0 : Int) ∧ (0 : Int) = (0 : Int) ∧ (0 : Int) = (0 : Int) ∧ (0 : Int) = (0 : Int) ∧ (0 : Int) = (0 : Int) ∧ (0 : Int) = (0 : Int) ∧ (0 : Int) = (0 : Int) ∧ (0 : Int) = (0 : Int) ∧ (0 : Int) = (0 : Int) ∧ (0 : Int) = (0 : Int) ∧ (0 : Int) = (0 : Int) ∧ (0 : Int) = (0 : Int) ∧ (0 : Int) = (0 : Int) ∧ (0 : Int) = (0 : Int) ∧ (0 : Int) = (0 : Int) ∧ (0 : Int) = (0 : Int) ∧ (0 : Int) = (0 : Int) ∧ (0 : Int) = (0 : Int) ∧ (0 : Int) = (0 : Int) ∧ (0 : Int) = (0 : Int) ∧ (0 : Int) = (0 : Int) ∧ (0 : Int) = (0 : Int) ∧ (0 : Int) = (0 : Int) ∧ (0 : Int) = (0 : Int) ∧ (0 : Int) = (0 : Int) ∧ (0 : Int) = (0 : Int) ∧ (0 : Int) = (0 : Int) ∧ (0 : Int) = (0 : Int) ∧ (0 : Int) = (0 : Int) ∧ (0 : Int) = (0 : Int) ∧ (0 : Int) = (0 : Int) ∧ (0 : Int) = (0 : Int) ∧ (0 : Int) = (0 : Int) ∧ (0 : Int) = (0 : Int) ∧ (0 : Int) = (0 : Int)) ∧ (Prod.fst (stepP (a, b, c) p true) = Prod.fst (stepP (a, b, c) p true) ∧ Prod.fst (Prod.snd (stepP (a, b, c) p true)) = Prod.fst (Prod.snd (stepP (a, b, c) p true)) ∧ Prod.snd (Prod.snd (stepP (a, b, c) p true)) = Prod.snd (Prod.snd (stepP (a, b, c) p true))) ∧ 0 = 0 ∧ n = n
set_option maxRecDepth 100000 in
theorem mulV4t (us0 : List (LV Fe)) (a b c : Fe) (n : Nat) (p : Pt) : runG Tryz.prog (SMul us0) 60 62 [1, 0, 1, 0, 1, 1] (mulJ a b c (.vec (.inp 0 0) n) true (pB p)) .normal 4 [some (.own 0), some (.own 1), some (.own 2), some (.own 3)] 17 [] (mulM a b c (.vec (.inp 0 0) n) (pB (stepP (a, b, c) p true))) = some (some ((mulV4t_G us0 a b c n p))) := by kernel_rfl
set_option maxRecDepth 100000 in
def mulV4f_G (us0 : List (LV Fe)) (a b c : Fe) (n : Nat) (p : Pt) : Prop := true = true ∧ (a = a ∧ b = b ∧ c = c) ∧ ((0 : Int) = (0 : Int) ∧ (0 : Int) = (0 : Int) ∧ (0 : Int) = (0 : Int) ∧ (0 : Int) = (0 : Int) ∧ (0 : Int) = (0 : Int) ∧ (0 : Int) = (0 : Int) ∧ (0 : Int) = (0 : Int) ∧ (0 : Int) = (0 : Int) ∧ (0 : Int) = (0 : Int) ∧ (0 : Int) = (0 : Int) ∧ (0 : Int) = (0 : Int) ∧ (0 : Int) = (0 : Int) ∧ (0 : Int) = (0 : Int) ∧ (0 : Int) = (0 : Int) ∧ (0 : Int) = (0 : Int) ∧ (0 : Int) = (0 : Int) ∧ (0 : Int) = (0 : Int) ∧ (0 : Int) = (0 : Int) ∧ (0 : Int) = (0 : Int) ∧ (0 : Int) = (0 : Int) ∧ (0 : Int) = (0 : Int) ∧ (0 : Int) = (0 : Int) ∧ (0 : Int) = (0 : Int) ∧ (0 : Int) = (0 : Int) ∧ (0 : Int) = (0 : Int) ∧ (0 : Int) = (0 : Int) ∧ (0 : Int) = (0 : Int) ∧ (0 : Int) = (0 : Int) ∧ (0 : Int) = (0 : Int) ∧ (0 : Int) = (0 : Int) ∧ (0 : Int) = (0 : Int) ∧ (0 : Int) = (0 : Int) ∧ (0 : Int) = (0 : Int) ∧ (0 : Int) = (0 : Int) ∧ (0 : Int) = (0 : Int) ∧ (0 : Int) = (0 : Int)) ∧ (Prod.fst (stepP (a, b, c) p false) = Prod.fst (stepP (a, b, c) p false) ∧ Prod.fst (Prod.snd (stepP (a, b, c) p false)) = Prod.fst (Prod.snd (stepP (a, b, c) p false)) ∧ Prod.snd (Prod.snd (stepP (a, b, c) p false)) = Prod.snd (Prod.snd (stepP (a, b, c) p false))) ∧ 0 = 0 ∧ n = n
set_option maxRecDepth 100000 in
theorem mulV4f (us0 : List (LV Fe)) (a b c : Fe) (n : Nat) (p : Pt) : runG Tryz.prog (SMul us0) 60 62 [1, 0, 1, 0, 1, 1] (mulJ a b c (.vec (.inp 0 0) n) false (pB p)) .normal 4 [some (.own 0), some (.own 1), some (.own 2), some (.own 3)] 17 [] (mulM a b c (.vec (.inp 0 0) n) (pB (stepP (a, b, c) p false))) = some (some ((mulV4f_G us0 a b c n p))) := by kernel_rfl
set_option maxRecDepth 100000 in
def mulV5_G (us0 : List (LV Fe)) (a b c : Fe) (n : Nat) : Prop := true = true ∧ (a = a ∧ b = b ∧ c = c) ∧ (0 : Int) = (0 : Int) ∧ (0 : Int) = (0 : Int) ∧ (0 : Int) = (0 : Int) ∧ (0 : Int) = (0 : Int) ∧ (0 : Int) = (0 : Int) ∧ (0 : Int) = (0 : Int) ∧ (0 : Int) = (0 : Int) ∧ (0 : Int) = (0 : Int) ∧ (0 : Int) = (0 : Int) ∧ (0 : Int) = (0 : Int) ∧ (0 : Int) = (0 : Int) ∧ (0 : Int) = (0 : Int) ∧ (0 : Int) = (0 : Int) ∧ (0 : Int) = (0 : Int) ∧ (0 : Int) = (0 : Int) ∧ (0 : Int) = (0 : Int) ∧ (0 : Int) = (0 : Int) ∧ (0 : Int) = (0 : Int) ∧ (0 : Int) = (0 : Int) ∧ (0 : Int) = (0 : Int) ∧ (0 : Int) = (0 : Int) ∧ (0 : Int) = (0 : Int) ∧ (0 : Int) = (0 : Int) ∧ (0 : Int) = (0 : Int) ∧ (0 : Int) = (0 : Int) ∧ (0 : Int) = (0 : Int) ∧ (0 : Int) = (0 : Int) ∧ (0 : Int) = (0 : Int) ∧ (0 : Int) = (0 : Int) ∧ (0 : Int) = (0 : Int) ∧ (0 : Int) = (0 : Int) ∧ (0 : Int) = (0 : Int) ∧ (0 : Int) = (0 : Int) ∧ (0 : Int) = (0 : Int) ∧ (0 : Int) = (0 : Int) ∧ (0 : Int) = (0 : Int)
set_option maxRecDepth 100000 in
theorem mulV5 (us0 : List (LV Fe)) (a b c : Fe) (n : Nat) : runG Tryz.prog (SMul us0) 60 62 [1, 1, 1] ⟨tm 17 mulTs, mulM a b c (.vec (.inp 0 0) n) zB, []⟩ .ret 2 [some (.own 0), some (.own 1)] 17 [(4, .ptr (.own 1) 0 [])] [some ⟨.rw, [.abs a, .abs b, .abs c]⟩, some ⟨.rw, zB⟩] = some (some ((mulV5_G us0 a b c n))) := by kernel_rfl
set_option maxRecDepth 100000 in
def mulV6_G (us0 : List (LV Fe)) (a b c : Fe) (n : Nat) (p : Pt) : Prop := true = true ∧ (a = a ∧ b = b ∧ c = c) ∧ Prod.fst p = Prod.fst p ∧ Prod.fst (Prod.snd p) = Prod.fst (Prod.snd p) ∧ Prod.snd (Prod.snd p) = Prod.snd (Prod.snd p)
set_option maxRecDepth 100000 in
theorem mulV6 (us0 : List (LV Fe)) (a b c : Fe) (n : Nat) (p : Pt) : runG Tryz.prog (SMul us0) 60 62 [1, 1, 1] ⟨tm 17 mulTs, mulM a b c (.vec (.inp 0 0) n) (pB p), []⟩ .ret 2 [some (.own 0), some (.own 1)] 17 [(4, .ptr (.own 1) 0 [])] [some ⟨.rw, [.abs a, .abs b, .abs c]⟩, some ⟨.rw, (pB p)⟩] = some (some ((mulV6_G us0 a b c n p))) := by kernel_rfl
set_option maxRecDepth 100000 in
def mulS0_G (us0 : List (LV Fe)) (a b c : Fe) (len cap : Nat) : Prop := (0 = 0 ∧ ([] : List Stp) = [] ∧ len = len ∧ cap = cap) ∧ (a = a ∧ b = b ∧ c = c) ∧ (0 : Int) = (0 : Int) ∧ (0 : Int) = (0 : Int) ∧ (0 : Int) = (0 : Int) ∧ (0 : Int) = (0 : Int) ∧ (0 : Int) = (0 : Int) ∧ (0 : Int) = (0 : Int) ∧ (0 : Int) = (0 : Int) ∧ (0 : Int) = (0 : Int) ∧ (0 : Int) = (0 : Int) ∧ (0 : Int) = (0 : Int) ∧ (0 : Int) = (0 : Int) ∧ (0 : Int) = (0 : Int) ∧ (0 : Int) = (0 : Int) ∧ (0 : Int) = (0 : Int) ∧ (0 : Int) = (0 : Int) ∧ (0 : Int) = (0 : Int) ∧ (0 : Int) = (0 : Int) ∧ (0 : Int) = (0 : Int) ∧ (0 : Int) = (0 : Int) ∧ (0 : Int) = (0 : Int) ∧ (0 : Int) = (0 : Int) ∧ (0 : Int) = (0 : Int) ∧ (0 : Int) = (0 : Int) ∧ (0 : Int) = (0 : Int) ∧ (0 : Int) = (0 : Int) ∧ (0 : Int) = (0 : Int) ∧ (0 : Int) = (0 : Int) ∧ (0 : Int) = (0 : Int) ∧ (0 : Int) = (0 : Int) ∧ (0 : Int) = (0 : Int) ∧ (0 : Int) = (0 : Int) ∧ (0 : Int) = (0 : Int) ∧ (0 : Int) = (0 : Int) ∧ (0 : Int) = (0 : Int) ∧ (0 : Int) = (0 : Int) ∧ (0 : Int) = (0 : Int)
set_option maxRecDepth 100000 in
theorem mulS0 (us0 : List (LV Fe)) (a b c : Fe) (len cap : Nat) : runG Tryz.prog (SMul us0) 60 62 [0] (startS Tryz.f62 [bF [a, b, c], (.slice (.inp 0 0) 0 [] len cap)] []) .normal 0 [some (.own 0), some (.own 1)] 17 [(1, (.slice (.inp 0 0) 0 [] len cap)), (2, .ptr (.own 0) 0 []), (4, .ptr (.own 1) 0 [])] (mulA a b c (.slice (.inp 0 0) 0 [] len cap)).mem = some (some ((mulS0_G us0 a b c len cap))) := by kernel_rfl
set_option maxRecDepth 100000 in
def mulS1_G (us0 : List (LV Fe)) (a b c : Fe) (len cap : Nat) : Prop := (0 = 0 ∧ ([] : List Stp) = [] ∧ len = len ∧ cap = cap) ∧ (a = a ∧ b = b ∧ c = c) ∧ ((0 : Int) = (0 : Int) ∧ (0 : Int) = (0 : Int) ∧ (0 : Int) = (0 : Int) ∧ (0 : Int) = (0 : Int) ∧ (0 : Int) = (0 : Int) ∧ (0 : Int) = (0 : Int) ∧ (0 : Int) = (0 : Int) ∧ (0 : Int) = (0 : Int) ∧ (0 : Int) = (0 : Int) ∧ (0 : Int) = (0 : Int) ∧ (0 : Int) = (0 : Int) ∧ (0 : Int) = (0 : Int) ∧ (0 : Int) = (0 : Int) ∧ (0 : Int) = (0 : Int) ∧ (0 : Int) = (0 : Int) ∧ (0 : Int) = (0 : Int) ∧ (0 : Int) = (0 : Int) ∧ (0 : Int) = (0 : Int) ∧ (0 : Int) = (0 : Int) ∧ (0 : Int) = (0 : Int) ∧ (0 : Int) = (0 : Int) ∧ (0 : Int) = (0 : Int) ∧ (0 : Int) = (0 : Int) ∧ (0 : Int) = (0 : Int) ∧ (0 : Int) = (0 : Int) ∧ (0 : Int) = (0 : Int) ∧ (0 : Int) = (0 : Int) ∧ (0 : Int) = (0 : Int) ∧ (0 : Int) = (0 : Int) ∧ (0 : Int) = (0 : Int) ∧ (0 : Int) = (0 : Int) ∧ (0 : Int) = (0 : Int) ∧ (0 : Int) = (0 : Int) ∧ (0 : Int) = (0 : Int) ∧ (0 : Int) = (0 : Int) ∧ (0 : Int) = (0 : Int)) ∧ (0 : Int) = (0 : Int) ∧ (0 : Int) = (0 : Int) ∧ (0 : Int) = (0 : Int) ∧ (0 : Int) = (0 : Int) ∧ (0 : Int) = (0 : Int) ∧ (0 : Int) = (0 : Int) ∧ (0 : Int) = (0 : Int) ∧ (0 : Int) = (0 : Int) ∧ (0 : Int) = (0 : Int) ∧ (0 : Int) = (0 : Int) ∧ (0 : Int) = (0 : Int) ∧ (0 : Int) = (0 : Int) ∧ (0 : Int) = (0 : Int) ∧ (0 : Int) = (0 : Int) ∧ (0 : Int) = (0 : Int) ∧ (0 : Int) = (0 : Int) ∧ (0 : Int) = (0 : Int) ∧ (0 : Int) = (0 : Int) ∧ (0 : Int) = (0 : Int) ∧ (0 : Int) = (0 : Int) ∧ (0 : Int) = (0 : Int) ∧ (0 : Int) = (0 : Int) ∧ (0 : Int) = (0 : Int) ∧ (0 : Int) = (0 : Int) ∧ (0 : Int) = (0 : Int) ∧ (0 : Int) = (0 : Int) ∧ (0 : Int) = (0 : Int) ∧ (0 : Int) = (0 : Int) ∧ (0 : Int) = (0 : Int) ∧ (0 : Int) = (0 : Int) ∧ (0 : Int) = (0 : Int) ∧ (0 : Int) = (0 : Int) ∧ (0 : Int) = (0 : Int) ∧ (0 : Int) = (0 : Int) ∧ (0 : Int) = (0 : Int) ∧ (0 : Int) = (0 : Int)
set_option maxRecDepth 100000 in
theorem mulS1 (us0 : List (LV Fe)) (a b c : Fe) (len cap : Nat) : runG Tryz.prog (SMul us0) 60 62 [0, 1] (mulA a b c (.slice (.inp 0 0) 0 [] len cap)) .normal 2 [some (.own 0), some (.own 1), some (.own 2)] 17 [(1, (.slice (.inp 0 0) 0 [] len cap)), (2, .ptr (.own 0) 0 []), (4, .ptr (.own 1) 0 []), (5, .ptr (.own 2) 0 [])] (mulB a b c (.slice (.inp 0 0) 0 [] len cap)).mem = some (some ((mulS1_G us0 a b c len cap))) := by kernel_rfl
set_option maxRecDepth 100000 in
def mulS2_G (us0 : List (LV Fe)) (a b c : Fe) (len cap : Nat) : Prop := (a = a ∧ b = b ∧ c = c) ∧ ((0 : Int) = (0 : Int) ∧ (0 : Int) = (0 : Int) ∧ (0 : Int) = (0 : Int) ∧ (0 : Int) = (0 : Int) ∧ (0 : Int) = (0 : Int) ∧ (0 : Int) = (0 : Int) ∧ (0 : Int) = (0 : Int) ∧ (0 : Int) = (0 : Int) ∧ (0 : Int) = (0 : Int) ∧ (0 : Int) = (0 : Int) ∧ (0 : Int) = (0 : Int) ∧ (0 : Int) = (0 : Int) ∧ (0 : Int) = (0 : Int) ∧ (0 : Int) = (0 : Int) ∧ (0 : Int) = (0 : Int) ∧ (0 : Int) = (0 : Int) ∧ (0 : Int) = (0 : Int) ∧ (0 : Int) = (0 : Int) ∧ (0 : Int) = (0 : Int) ∧ (0 : Int) = (0 : Int) ∧ (0 : Int) = (0 : Int) ∧ (0 : Int) = (0 : Int) ∧ (0 : Int) = (0 : Int) ∧ (0 : Int) = (0 : Int) ∧ (0 : Int) = (0 : Int) ∧ (0 : Int) = (0 : Int) ∧ (0 : Int) = (0 : Int) ∧ (0 : Int) = (0 : Int) ∧ (0 : Int) = (0 : Int) ∧ (0 : Int) = (0 : Int) ∧ (0 : Int) = (0 : Int) ∧ (0 : Int) = (0 : Int) ∧ (0 : Int) = (0 : Int) ∧ (0 : Int) = (0 : Int) ∧ (0 : Int) = (0 : Int) ∧ (0 : Int) = (0 : Int)) ∧ ((0 : Int) = (0 : Int) ∧ (0 : Int) = (0 : Int) ∧ (0 : Int) = (0 : Int) ∧ (0 : Int) = (0 : Int) ∧ (0 : Int) = (0 : Int) ∧ (0 : Int) = (0 : Int) ∧ (0 : Int) = (0 : Int) ∧ (0 : Int) = (0 : Int) ∧ (0 : Int) = (0 : Int) ∧ (0 : Int) = (0 : Int) ∧ (0 : Int) = (0 : Int) ∧ (0 : Int) = (0 : Int) ∧ (0 : Int) = (0 : Int) ∧ (0 : Int) = (0 : Int) ∧ (0 : Int) = (0 : Int) ∧ (0 : Int) = (0 : Int) ∧ (0 : Int) = (0 : Int) ∧ (0 : Int) = (0 : Int) ∧ (0 : Int) = (0 : Int) ∧ (0 : Int) = (0 : Int) ∧ (0 : Int) = (0 : Int) ∧ (0 : Int) = (0 : Int) ∧ (0 : Int) = (0 : Int) ∧ (0 : Int) = (0 : Int) ∧ (0 : Int) = (0 : Int) ∧ (0 : Int) = (0 : Int) ∧ (0 : Int) = (0 : Int) ∧ (0 : Int) = (0 : Int) ∧ (0 : Int) = (0 : Int) ∧ (0 : Int) = (0 : Int) ∧ (0 : Int) = (0 : Int) ∧ (0 : Int) = (0 : Int) ∧ (0 : Int) = (0 : Int) ∧ (0 : Int) = (0 : Int) ∧ (0 : Int) = (0 : Int) ∧ (0 : Int) = (0 : Int)) ∧ 0 = 0 ∧ ([] : List Stp) = [] ∧ len = len ∧ cap = cap
set_option maxRecDepth 100000 in
theorem mulS2 (us0 : List (LV Fe)) (a b c : Fe) (len cap : Nat) : runG Tryz.prog (SMul us0) 60 62 [0, 0, 1, 1] (mulB a b c (.slice (.inp 0 0) 0 [] len cap)) .normal 3 [some (.own 0), some (.own 1), some (.own 2), some (.own 3)] 17 mulTs (mulM a b c (.slice (.inp 0 0) 0 [] len cap) zB) = some (some ((mulS2_G us0 a b c len cap))) := by kernel_rfl
set_option maxRecDepth 100000 in
def mulS3t_G (us0 : List (LV Fe)) (a b c : Fe) (len cap : Nat) : Prop := (true = true ∧ true = true) ∧ (a = a ∧ b = b ∧ c = c) ∧ ((0 : Int) = (0 : Int) ∧ (0 : Int) = (0 : Int) ∧ (0 : Int) = (0 : Int) ∧ (0 : Int) = (0 : Int) ∧ (0 : Int) = (0 : Int) ∧ (0 : Int) = (0 : Int) ∧ (0 : Int) = (0 : Int) ∧ (0 : Int) = (0 : Int) ∧ (0 : Int) = (0 : Int) ∧ (0 : Int) = (0 : Int) ∧ (0 : Int) = (0 : Int) ∧ (0 : Int) = (0 : Int) ∧ (0 : Int) = (0 : Int) ∧ (0 : Int) = (0 : Int) ∧ (0 : Int) = (0 : Int) ∧ (0 : Int) = (0 : Int) ∧ (0 : Int) = (0 : Int) ∧ (0 : Int) = (0 : Int) ∧ (0 : Int) = (0 : Int) ∧ (0 : Int) = (0 : Int) ∧ (0 : Int) = (0 : Int) ∧ (0 : Int) = (0 : Int) ∧ (0 : Int) = (0 : Int) ∧ (0 : Int) = (0 : Int) ∧ (0 : Int) = (0 : Int) ∧ (0 : Int) = (0 : Int) ∧ (0 : Int) = (0 : Int) ∧ (0 : Int) = (0 : Int) ∧ (0 : Int) = (0 : Int) ∧ (0 : Int) = (0 : Int) ∧ (0 : Int) = (0 : Int) ∧ (0 : Int) = (0 : Int) ∧ (0 : Int) = (0 : Int) ∧ (0 : Int) = (0 : Int) ∧ (0 : Int) = (0 : Int) ∧ (0 : Int) = (0 : Int)) ∧ (a = a ∧ b = b ∧ c = c) ∧ 0 = 0 ∧ ([] : List Stp) = [] ∧ len = len ∧ cap = cap
set_option maxRecDepth 100000 in
theorem mulS3t (us0 : List (LV Fe)) (a b c : Fe) (len cap : Nat) : runG Tryz.prog (SMul us0) 60 62 [1, 0, 1, 0, 1, 1] (mulJ a b c (.slice (.inp 0 0) 0 [] len cap) true zB) .normal 4 [some (.own 0), some (.own 1), some (.own 2), some (.own 3)] 17 [] (mulM a b c (.slice (.inp 0 0) 0 [] len cap) (pB (stepP (a, b, c) zPt true))) = some (some ((mulS3t_G us0 a b c len cap))) := by kernel_rfl
set_option maxRecDepth 100000 in
def mulS3f_G (us0 : List (LV Fe)) (a b c : Fe) (len cap : Nat) : Prop := true = true ∧ (a = a ∧ b = b ∧ c = c) ∧ ((0 : Int) = (0 : Int) ∧ (0 : Int) = (0 : Int) ∧ (0 : Int) = (0 : Int) ∧ (0 : Int) = (0 : Int) ∧ (0 : Int) = (0 : Int) ∧ (0 : Int) = (0 : Int) ∧ (0 : Int) = (0 : Int) ∧ (0 : Int) = (0 : Int) ∧ (0 : Int) = (0 : Int) ∧ (0 : Int) = (0 : Int) ∧ (0 : Int) = (0 : Int) ∧ (0 : Int) = (0 : Int) ∧ (0 : Int) = (0 : Int) ∧ (0 : Int) = (0 : Int) ∧ (0 : Int) = (0 : Int) ∧ (0 : Int) = (0 : Int) ∧ (0 : Int) = (0 : Int) ∧ (0 : Int) = (0 : Int) ∧ (0 : Int) = (0 : Int) ∧ (0 : Int) = (0 : Int) ∧ (0 : Int) = (0 : Int) ∧ (0 : Int) = (0 : Int) ∧ (0 : Int) = (0 : Int) ∧ (0 : Int) = (0 : Int) ∧ (0 : Int) = (0 : Int) ∧ (0 : Int) = (0 : Int) ∧ (0 : Int) = (0 : Int) ∧ (0 : Int) = (0 : Int) ∧ (0 : Int) = (0 : Int) ∧ (0 : Int) = (0 : Int) ∧ (0 : Int) = (0 : Int) ∧ (0 : Int) = (0 : Int) ∧ (0 : Int) = (0 : Int) ∧ (0 : Int) = (0 : Int) ∧ (0 : Int) = (0 : Int) ∧ (0 : Int) = (0 : Int)) ∧ (Prod.fst (stepP (a, b, c) zPt false) = Prod.fst (stepP (a, b, c) zPt false) ∧ Prod.fst (Prod.snd (stepP (a, b, c) zPt false)) = Prod.fst (Prod.snd (stepP (a, b, c) zPt false)) ∧ Prod.snd (Prod.snd (stepP (a, b, c) zPt false)) = Prod.snd (Prod.snd (stepP (a, b, c) zPt false))) ∧ 0 = 0 ∧ ([] : List Stp) = [] ∧ len = len ∧ cap = cap
set_option maxRecDepth 100000 in
theorem mulS3f (us0 : List (LV Fe)) (a b c : Fe) (len cap : Nat) : runG Tryz.prog (SMul us0) 60 62 [1, 0, 1, 0, 1, 1] (mulJ a b c (.slice (.inp 0 0) 0 [] len cap) false zB) .normal 4 [some (.own 0), some (.own 1), some (.own 2), some (.own 3)] 17 [] (mulM a b c (.slice (.inp 0 0) 0 [] len cap) (pB (stepP (a, b, c) zPt false))) = some (some ((mulS3f_G us0 a b c len cap))) := by kernel_rfl
set_option maxRecDepth 100000 in
def mulS4t_G (us0 : List (LV Fe)) (a b c : Fe) (len cap : Nat) (p : Pt) : Prop := (true = true ∧ true = true) ∧ (a = a ∧ b = b ∧ c = c) ∧ ((0 : Int) = (0 : Int) ∧ (0 : Int) = (0 : Int) ∧ (0 : Int) = (0 : Int) ∧ (0 : Int) = (0 : Int) ∧ (0 : Int) = (0 : Int) ∧ (0 : Int) = (0 : Int) ∧ (0 : Int) = (0 : Int) ∧ (0 : Int) = (0 : Int) ∧ (0 : Int) = (0 : Int) ∧ (0 : Int) = (0 : Int) ∧ (0 : Int) = (0 : Int) ∧ (0 : Int) = (0 : Int) ∧ (0 : Int) = (0 : Int) ∧ (0 : Int) = (0 : Int) ∧ (0 : Int) = (0 : Int) ∧ (0 : Int) = (0 : Int) ∧ (0 : Int) = (0 : Int) ∧ (0 : Int) = (0 : Int) ∧ (0 : Int) = (0 : Int) ∧ (0 : Int) = (0 : Int) ∧ (0 : Int) = (0 : Int) ∧ (0 : Int) = (0 : Int) ∧ (0 : Int) = (0 : Int) ∧ (0 : Int) = (0 : Int) ∧ (0 : Int) = (0 : Int) ∧ (0 : Int) = (0 : Int) ∧ (0 : Int) = (0 : Int) ∧ (0 : Int) = (0 : Int) ∧ (0 : Int) = (0 : Int) ∧ (0 : Int) = (0 : Int) ∧ (0 : Int) = (0 : Int) ∧ (0 : Int) = (0 : Int) ∧ (0 : Int) = (0 : Int) ∧ (0 : Int) = (0 : Int) ∧ (0 : Int) = (0 : Int) ∧ (0 : Int) = (0 : Int)) ∧ (Prod.fst (stepP (a, b, c) p true) = Prod.fst (stepP (a, b, c) p true) ∧ Prod.fst (Prod.snd (stepP (a, b, c) p true)) = Prod.fst (Prod.snd (stepP (a, b, c) p true)) ∧ Prod.snd (Prod.snd (stepP (a, b, c) p true)) = Prod.snd (Prod.snd (stepP (a, b, c) p true))) ∧ 0 = 0 ∧ ([] : List Stp) = [] ∧ len = len ∧ cap = cap
set_option maxRecDepth 100000 in
theorem mulS4t (us0 : List (LV Fe)) (a b c : Fe) (len cap : Nat) (p : Pt) : runG Tryz.prog (SMul us0) 60 62 [1, 0, 1, 0, 1, 1] (mulJ a b c (.slice (.inp 0 0) 0 [] len cap) true (pB p)) .normal 4 [some (.own 0), some (.own 1), some (.own 2), some (.own 3)] 17 [] (mulM a b c (.slice (.inp 0 0) 0 [] len cap) (pB (stepP (a, b, c) p true))) = some (some ((mulS4t_G us0 a b c len cap p))) := by kernel_rfl
set_option maxRecDepth 100000 in
def mulS4f_G (us0 : List (LV Fe)) (a b c : Fe) (len cap : Nat) (p : Pt) : Prop := true = true ∧ (a = a ∧ b = b ∧ c = c) ∧ ((0 : Int) = (0 : Int) ∧ (0 : Int) = (0 : Int) ∧ (0 : Int) = (0 : Int) ∧ (0 : Int) = (0 : Int) ∧ (0 : Int) = (0 : Int) ∧ (0 : Int) = (0 : Int) ∧ (0 : Int) = (0 : Int) ∧ (0 : Int) = (0 : Int) ∧ (0 : Int) = (0 : Int) ∧ (0 : Int) = (0 : Int) ∧ (0 : Int) = (0 : Int) ∧ (0 : Int) = (0 : Int) ∧ (0 : Int) = (0 : Int) ∧ (0 : Int) = (0 : Int) ∧ (0 : Int) = (0 : Int) ∧ (0 : Int) = (0 : Int) ∧ (0 : Int) = (0 : Int) ∧ (0 : Int) = (0 : Int) ∧ (0 : Int) = (0 : Int) ∧ (0 : Int) = (0 : Int) ∧ (0 : Int) = (0 : Int) ∧ (0 : Int) = (0 : Int) ∧ (0 : Int) = (0 : Int) ∧ (0 : Int) = (0 : Int) ∧ (0 : Int) = (0 : Int) ∧ (0 : Int) = (0 : Int) ∧ (0 : Int) = (0 : Int) ∧ (0 : Int) = (0 : Int) ∧ (0 : Int) = (0 : Int) ∧ (0 : Int) = (0 : Int) ∧ (0 : Int) = (0 : Int) ∧ (0 : Int) = (0 : Int) ∧ (0 : Int) = (0 : Int) ∧ (0 : Int) = (0 : Int) ∧ (0 : Int) = (0 : Int) ∧ (0 : Int) = (0 : Int)) ∧ (Prod.fst (stepP (a, b, c) p false) = Prod.fst (stepP (a, b, c) p false) ∧ Prod.fst (Prod.snd (stepP (a, b, c) p false)) = Prod.fst (Prod.snd (stepP (a, b, c) p false)) ∧ Prod.snd (Prod.snd (stepP (a, b, c) p false)) = Prod.snd (Prod.snd (stepP (a, b, c) p false))) ∧ 0 = 0 ∧ ([] : List Stp) = [] ∧ len = len ∧ cap = cap
set_option maxRecDepth 100000 in
theorem mulS4f (us0 : List (LV Fe)) (a b c : Fe) (len cap : Nat) (p : Pt) : runG Tryz.prog (SMul us0) 60 62 [1, 0, 1, 0, 1, 1] (mulJ a b c (.slice (.inp 0 0) 0 [] len cap) false (pB p)) .normal 4 [some (.own 0), some (.own 1), some (.own 2), some (.own 3)] 17 [] (mulM a b c (.slice (.inp 0 0) 0 [] len cap) (pB (stepP (a, b, c) p false))) = some (some ((mulS4f_G us0 a b c len cap p))) := by kernel_rfl
set_option maxRecDepth 100000 in
def mulS5_G (us0 : List (LV Fe)) (a b c : Fe) (len cap : Nat) : Prop := true = true ∧ (a = a ∧ b = b ∧ c = c) ∧ (0 : Int) = (0 : Int) ∧ (0 : Int) = (0 : Int) ∧ (0 : Int) = (0 : Int) ∧ (0 : Int) = (0 : Int) ∧ (0 : Int) = (0 : Int) ∧ (0 : Int) = (0 : Int) ∧ (0 : Int) = (0 : Int) ∧ (0 : Int) = (0 : Int) ∧ (0 : Int) = (0 : Int) ∧ (0 : Int) = (0 : Int) ∧ (0 : Int) = (0 : Int) ∧ (0 : Int) = (0 : Int) ∧ (0 : Int) = (0 : Int) ∧ (0 : Int) = (0 : Int) ∧ (0 : Int) = (0 : Int) ∧ (0 : Int) = (0 : Int) ∧ (0 : Int) = (0 : Int) ∧ (0 : Int) = (0 : Int) ∧ (0 : Int) = (0 : Int) ∧ (0 : Int) = (0 : Int) ∧ (0 : Int) = (0 : Int) ∧ (0 : Int) = (0 : Int) ∧ (0 : Int) = (0 : Int) ∧ (0 : Int) = (0 : Int) ∧ (0 : Int) = (0 : Int) ∧ (0 : Int) = (0 : Int) ∧ (0 : Int) = (0 : Int) ∧ (0 : Int) = (0 : Int) ∧ (0 : Int) = (0 : Int) ∧ (0 : Int) = (0 : Int) ∧ (0 : Int) = (0 : Int) ∧ (0 : Int) = (0 : Int) ∧ (0 : Int) = (0 : Int) ∧ (0 : Int) = (0 : Int) ∧ (0 : Int) = (0 : Int) ∧ (0 : Int) = (0 : Int)
set_option maxRecDepth 100000 in
theorem mulS5 (us0 : List (LV Fe)) (a b c : Fe) (len cap : Nat) : runG Tryz.prog (SMul us0) 60 62 [1, 1, 1] ⟨tm 17 mulTs, mulM a b c (.slice (.inp 0 0) 0 [] len cap) zB, []⟩ .ret 2 [some (.own 0), some (.own 1)] 17 [(4, .ptr (.own 1) 0 [])] [some ⟨.rw, [.abs a, .abs b, .abs c]⟩, some ⟨.rw, zB⟩] = some (some ((mulS5_G us0 a b c len cap))) := by kernel_rfl
set_option maxRecDepth 100000 in
def mulS6_G (us0 : List (LV Fe)) (a b c : Fe) (len cap : Nat) (p : Pt) : Prop := true = true ∧ (a = a ∧ b = b ∧ c = c) ∧ Prod.fst p = Prod.fst p ∧ Prod.fst (Prod.snd p) = Prod.fst (Prod.snd p) ∧ Prod.snd (Prod.snd p) = Prod.snd (Prod.snd p)
set_option maxRecDepth 100000 in
theorem mulS6 (us0 : List (LV Fe)) (a b c : Fe) (len cap : Nat) (p : Pt) : runG Tryz.prog (SMul us0) 60 62 [1, 1, 1] ⟨tm 17 mulTs, mulM a b c (.slice (.inp 0 0) 0 [] len cap) (pB p), []⟩ .ret 2 [some (.own 0), some (.own 1)] 17 [(4, .ptr (.own 1) 0 [])] [some ⟨.rw, [.abs a, .abs b, .abs c]⟩, some ⟨.rw, (pB p)⟩] = some (some ((mulS6_G us0 a b c len cap p))) := by kernel_rfl
set_option maxRecDepth 100000 in
def mulQ0_G (us0 : List (LV Fe)) (a b c : Fe) (i len cap : Nat) : Prop := (0 = 0 ∧ [(⟨i, 1, 0⟩ : Stp)] = [(⟨i, 1, 0⟩ : Stp)] ∧ len = len ∧ cap = cap) ∧ (a = a ∧ b = b ∧ c = c) ∧ (0 : Int) = (0 : Int) ∧ (0 : Int) = (0 : Int) ∧ (0 : Int) = (0 : Int) ∧ (0 : Int) = (0 : Int) ∧ (0 : Int) = (0 : Int) ∧ (0 : Int) = (0 : Int) ∧ (0 : Int) = (0 : Int) ∧ (0 : Int) = (0 : Int) ∧ (0 : Int) = (0 : Int) ∧ (0 : Int) = (0 : Int) ∧ (0 : Int) = (0 : Int) ∧ (0 : Int) = (0 : Int) ∧ (0 : Int) = (0 : Int) ∧ (0 : Int) = (0 : Int) ∧ (0 : Int) = (0 : Int) ∧ (0 : Int) = (0 : Int) ∧ (0 : Int) = (0 : Int) ∧ (0 : Int) = (0 : Int) ∧ (0 : Int) = (0 : Int) ∧ (0 : Int) = (0 : Int) ∧ (0 : Int) = (0 : Int) ∧ (0 : Int) = (0 : Int) ∧ (0 : Int) = (0 : Int) ∧ (0 : Int) = (0 : Int) ∧ (0 : Int) = (0 : Int) ∧ (0 : Int) = (0 : Int) ∧ (0 : Int) = (0 : Int) ∧ (0 : Int) = (0 : Int) ∧ (0 : Int) = (0 : Int) ∧ (0 : Int) = (0 : Int) ∧ (0 : Int) = (0 : Int) ∧ (0 : Int) = (0 : Int) ∧ (0 : Int) = (0 : Int) ∧ (0 : Int) = (0 : Int) ∧ (0 : Int) = (0 : Int) ∧ (0 : Int) = (0 : Int)
set_option maxRecDepth 100000 in
theorem mulQ0 (us0 : List (LV Fe)) (a b c : Fe) (i len cap : Nat) : runG Tryz.prog (SMul us0) 60 62 [0] (startS Tryz.f62 [bF [a, b, c], (.slice (.inp 0 0) 0 [⟨i, 1, 0⟩] len cap)] []) .normal 0 [some (.own 0), some (.own 1)] 17 [(1, (.slice (.inp 0 0) 0 [⟨i, 1, 0⟩] len cap)), (2, .ptr (.own 0) 0 []), (4, .ptr (.own 1) 0 [])] (mulA a b c (.slice (.inp 0 0) 0 [⟨i, 1, 0⟩] len cap)).mem = some (some ((mulQ0_G us0 a b c i len cap))) := by kernel_rfl
set_option maxRecDepth 100000 in
def mulQ1_G (us0 : List (LV Fe)) (a b c : Fe) (i len cap : Nat) : Prop := (0 = 0 ∧ [(⟨i, 1, 0⟩ : Stp)] = [(⟨i, 1, 0⟩ : Stp)] ∧ len = len ∧ cap = cap) ∧ (a = a ∧ b = b ∧ c = c) ∧ ((0 : Int) = (0 : Int) ∧ (0 : Int) = (0 : Int) ∧ (0 : Int) = (0 : Int) ∧ (0 : Int) = (0 : Int) ∧ (0 : Int) = (0 : Int) ∧ (0 : Int) = (0 : Int) ∧ (0 : Int) = (0 : Int) ∧ (0 : Int) = (0 : Int) ∧ (0 : Int) = (0 : Int) ∧ (0 : Int) = (0 : Int) ∧ (0 : Int) = (0 : Int) ∧ (0 : Int) = (0 : Int) ∧ (0 : Int) = (0 : Int) ∧ (0 : Int) = (0 : Int) ∧ (0 : Int) = (0 : Int) ∧ (0 : Int) = (0 : Int) ∧ (0 : Int) = (0 : Int) ∧ (0 : Int) = (0 : Int) ∧ (0 : Int) = (0 : Int) ∧ (0 : Int) = (0 : Int) ∧ (0 : Int) = (0 : Int) ∧ (0 : Int) = (0 : Int) ∧ (0 : Int) = (0 : Int) ∧ (0 : Int) = (0 : Int) ∧ (0 : Int) = (0 : Int) ∧ (0 : Int) = (0 : Int) ∧ (0 : Int) = (0 : Int) ∧ (0 : Int) = (0 : Int) ∧ (0 : Int) = (0 : Int) ∧ (0 : Int) = (0 : Int) ∧ (0 : Int) = (0 : Int) ∧ (0 : Int) = (0 : Int) ∧ (0 : Int) = (0 : Int) ∧ (0 : Int) = (0 : Int) ∧ (0 : Int) = (0 : Int) ∧ (0 : Int) = (0 : Int)) ∧ (0 : Int) = (0 : Int) ∧ (0 : Int) = (0 : Int) ∧ (0 : Int) = (0 : Int) ∧ (0 : Int) = (0 : Int) ∧ (0 : Int) = (0 : Int) ∧ (0 : Int) = (0 : Int) ∧ (0 : Int) = (0 : Int) ∧ (0 : Int) = (0 : Int) ∧ (0 : Int) = (0 : Int) ∧ (0 : Int) = (0 : Int) ∧ (0 : Int) = (0 : Int) ∧ (0 : Int) = (0 : Int) ∧ (0 : Int) = (0 : Int) ∧ (0 : Int) = (0 : Int) ∧ (0 : Int) = (0 : Int) ∧ (0 : Int) = (0 : Int) ∧ (0 : Int) = (0 : Int) ∧ (0 : Int) = (0 : Int) ∧ (0 : Int) = (0 : Int) ∧ (0 : Int) = (0 : Int) ∧ (0 : Int) = (0 : Int) ∧ (0 : Int) = (0 : Int) ∧ (0 : Int) = (0 : Int) ∧ (0 : Int) = (0 : Int) ∧ (0 : Int) = (0 : Int) ∧ (0 : Int) = (0 : Int) ∧ (0 : Int) = (0 : Int) ∧ (0 : Int) = (0 : Int) ∧ (0 : Int) = (0 : Int) ∧ (0 : Int) = (0 : Int) ∧ (0 : Int) = (0 : Int) ∧ (0 : Int) = (0 : Int) ∧ (0 : Int) = (0 : Int) ∧ (0 : Int) = (0 : Int) ∧ (0 : Int) = (0 : Int) ∧ (0 : Int) = (0 : Int)
set_option maxRecDepth 100000 in
theorem mulQ1 (us0 : List (LV Fe)) (a b c : Fe) (i len cap : Nat) : runG Tryz.prog (SMul us0) 60 62 [0, 1] (mulA a b c (.slice (.inp 0 0) 0 [⟨i, 1, 0⟩] len cap)) .normal 2 [some (.own 0), some (.own 1), some (.own 2)] 17 [(1, (.slice (.inp 0 0) 0 [⟨i, 1, 0⟩] len cap)), (2, .ptr (.own 0) 0 []), (4, .ptr (.own 1) 0 []), (5, .ptr (.own 2) 0 [])] (mulB a b c (.slice (.inp 0 0) 0 [⟨i, 1, 0⟩] len cap)).mem = some (some ((mulQ1_G us0 a b c i len cap))) := by kernel_rfl
set_option maxRecDepth 100000 in
def mulQ2_G (us0 : List (LV Fe)) (a b c : Fe) (i len cap : Nat) : Prop := (a = a ∧ b = b ∧ c = c) ∧ ((0 : Int) = (0 : Int) ∧ (0 : Int) = (0 : Int) ∧ (0 : Int) = (0 : Int) ∧ (0 : Int) = (0 : Int) ∧ (0 : Int) = (0 : Int) ∧ (0 : Int) = (0 : Int) ∧ (0 : Int) = (0 : Int) ∧ (0 : Int) = (0 : Int) ∧ (0 : Int) = (0 : Int) ∧ (0 : Int) = (0 : Int) ∧ (0 : Int) = (0 : Int) ∧ (0 : Int) = (0 : Int) ∧ (0 : Int) = (0 : Int) ∧ (0 : Int) = (0 : Int) ∧ (0 : Int) = (0 : Int) ∧ (0 : Int) = (0 : Int) ∧ (0 : Int) = (0 : Int) ∧ (0 : Int) = (0 : Int) ∧ (0 : Int) = (0 : Int) ∧ (0 : Int) = (0 : Int) ∧ (0 : Int) = (0 : Int) ∧ (0 : Int) = (0 : Int) ∧ (0 : Int) = (0 : Int) ∧ (0 : Int) = (0 : Int) ∧ (0 : Int) = (0 : Int) ∧ (0 : Int) = (0 : Int) ∧ (0 : Int) = (0 : Int) ∧ (0 : Int) = (0 : Int) ∧ (0 : Int) = (0 : Int) ∧ (0 : Int) = (0 : Int) ∧ (0 : Int) = (0 : Int) ∧ (0 : Int) = (0 : Int) ∧ (0 : Int) = (0 : Int) ∧ (0 : Int) = (0 : Int) ∧ (0 : Int) = (0 : Int) ∧ (0 : Int) = (0 : Int)) ∧ ((0 : Int) = (0 : Int) ∧ (0 : Int) = (0 : Int) ∧ (0 : Int) = (0 : Int) ∧ (0 : Int) = (0 : Int) ∧ (0 : Int) = (0 : Int) ∧ (0 : Int) = (0 : Int) ∧ (0 : Int) = (0 : Int) ∧ (0 : Int) = (0 : Int) ∧ (0 : Int) = (0 : Int) ∧ (0 : Int) = (0 : Int) ∧ (0 : Int) = (0 : Int) ∧ (0 : Int) = (0 : Int) ∧ (0 : Int) = (0 : Int) ∧ (0 : Int) = (0 : Int) ∧ (0 : Int) = (0 : Int) ∧ (0 : Int) = (0 : Int) ∧ (0 : Int) = (0 : Int) ∧ (0 : Int) = (0 : Int) ∧ (0 : Int) = (0 : Int) ∧ (0 : Int) = (0 : Int) ∧ (0 : Int) = (0 : Int) ∧ (0 : Int) = (0 : Int) ∧ (0 : Int) = (0 : Int) ∧ (0 : Int) = (0 : Int) ∧ (0 : Int) = (0 : Int) ∧ (0 : Int) = (0 : Int) ∧ (0 : Int) = (0 : Int) ∧ (0 : Int) = (0 : Int) ∧ (0 : Int) = (0 : Int) ∧ (0 : Int) = (0 : Int) ∧ (0 : Int) = (0 : Int) ∧ (0 : Int) = (0 : Int) ∧ (0 : Int) = (0 : Int) ∧ (0 : Int) = (0 : Int) ∧ (0 : Int) = (0 : Int) ∧ (0 : Int) = (0 : Int)) ∧ 0 = 0 ∧ [(⟨i, 1, 0⟩ : Stp)] = [(⟨i, 1, 0⟩ : Stp)] ∧ len = len ∧ cap = cap
set_option maxRecDepth 100000 in
theorem mulQ2 (us0 : List (LV Fe)) (a b c : Fe) (i len cap : Nat) : runG Tryz.prog (SMul us0) 60 62 [0, 0, 1, 1] (mulB a b c (.slice (.inp 0 0) 0 [⟨i, 1, 0⟩] len cap)) .normal 3 [some (.own 0), some (.own 1), some (.own 2), some (.own 3)] 17 mulTs (mulM a b c (.slice (.inp 0 0) 0 [⟨i, 1, 0⟩] len cap) zB) = some (some ((mulQ2_G us0 a b c i len cap))) := by kernel_rfl
set_option maxRecDepth 100000 in
def mulQ3t_G (us0 : List (LV Fe)) (a b c : Fe) (i len cap : Nat) : Prop := (true = true ∧ true = true) ∧ (a = a ∧ b = b ∧ c = c) ∧ ((0 : Int) = (0 : Int) ∧ (0 : Int) = (0 : Int) ∧ (0 : Int) = (0 : Int) ∧ (0 : Int) = (0 : Int) ∧ (0 : Int) = (0 : Int) ∧ (0 : Int) = (0 : Int) ∧ (0 : Int) = (0 : Int) ∧ (0 : Int) = (0 : Int) ∧ (0 : Int) = (0 : Int) ∧ (0 : Int) = (0 : Int) ∧ (0 : Int) = (0 : Int) ∧ (0 : Int) = (0 : Int) ∧ (0 : Int) = (0 : Int) ∧ (0 : Int) = (0 : Int) ∧ (0 : Int) = (0 : Int) ∧ (0 : Int) = (0 : Int) ∧ (0 : Int) = (0 : Int) ∧ (0 : Int) = (0 : Int) ∧ (0 : Int) = (0 : Int) ∧ (0 : Int) = (0 : Int) ∧ (0 : Int) = (0 : Int) ∧ (0 : Int) = (0 : Int) ∧ (0 : Int) = (0 : Int) ∧ (0 : Int) = (0 : Int) ∧ (0 : Int) = (0 : Int) ∧ (0 : Int) = (0 : Int) ∧ (0 : Int) = (0 : Int) ∧ (0 : Int) = (0 : Int) ∧ (0 : Int) = (0 : Int) ∧ (0 : Int) = (0 : Int) ∧ (0 : Int) = (0 : Int) ∧ (0 : Int) = (0 : Int) ∧ (0 : Int) = (0 : Int) ∧ (0 : Int) = (0 : Int) ∧ (0 : Int) = (0 : Int) ∧ (0 : Int) = (0 : Int)) ∧ (a = a ∧ b = b ∧ c = c) ∧ 0 = 0 ∧ [(⟨i, 1, 0⟩ : Stp)] = [(⟨i, 1, 0⟩ : Stp)] ∧ len = len ∧ cap = cap
set_option maxRecDepth 100000 in
theorem mulQ3t (us0 : List (LV Fe)) (a b c : Fe) (i len cap : Nat) : runG Tryz.prog (SMul us0) 60 62 [1, 0, 1, 0, 1, 1] (mulJ a b c (.slice (.inp 0 0) 0 [⟨i, 1, 0⟩] len cap) true zB) .normal 4 [some (.own 0), some (.own 1), some (.own 2), some (.own 3)] 17 [] (mulM a b c (.slice (.inp 0 0) 0 [⟨i, 1, 0⟩] len cap) (pB (stepP (a, b, c) zPt true))) = some (some ((mulQ3t_G us0 a b c i len cap))) := by kernel_rfl
set_option maxRecDepth 100000 in
def mulQ3f_G (us0 : List (LV Fe)) (a b c : Fe) (i len cap : Nat) : Prop := true = true ∧ (a = a ∧ b = b ∧ c = c) ∧ ((0 : Int) = (0 : Int) ∧ (0 : Int) = (0 : Int) ∧ (0 : Int) = (0 : Int) ∧ (0 : Int) = (0 : Int) ∧ (0 : Int) = (0 : Int) ∧ (0 : Int) = (0 : Int) ∧ (0 : Int) = (0 : Int) ∧ (0 : Int) = (0 : Int) ∧ (0 : Int) = (0 : Int) ∧ (0 : Int) = (0 : Int) ∧ (0 : Int) = (0 : Int) ∧ (0 : Int) = (0 : Int) ∧ (0 : Int) = (0 : Int) ∧ (0 : Int) = (0 : Int) ∧ (0 : Int) = (0 : Int) ∧ (0 : Int) = (0 : Int) ∧ (0 : Int) = (0 : Int) ∧ (0 : Int) = (0 : Int) ∧ (0 : Int) = (0 : Int) ∧ (0 : Int) = (0 : Int) ∧ (0 : Int) = (0 : Int) ∧ (0 : Int) = (0 : Int) ∧ (0 : Int) = (0 : Int) ∧ (0 : Int) = (0 : Int) ∧ (0 : Int) = (0 : Int) ∧ (0 : Int) = (0 : Int) ∧ (0 : Int) = (0 : Int) ∧ (0 : Int) = (0 : Int) ∧ (0 : Int) = (0 : Int) ∧ (0 : Int) = (0 : Int) ∧ (0 : Int) = (0 : Int) ∧ (0 : Int) = (0 : Int) ∧ (0 : Int) = (0 : Int) ∧ (0 : Int) = (0 : Int) ∧ (0 : Int) = (0 : Int) ∧ (0 : Int) = (0 : Int)) ∧ (Prod.fst (stepP (a, b, c) zPt false) = Prod.fst (stepP (a, b, c) zPt false) ∧ Prod.fst (Prod.snd (stepP (a, b, c) zPt false)) = Prod.fst (Prod.snd (stepP (a, b, c) zPt false)) ∧ Prod.snd (Prod.snd (stepP (a, b, c) zPt false)) = Prod.snd (Prod.snd (stepP (a, b, c) zPt false))) ∧ 0 = 0 ∧ [(⟨i, 1, 0⟩ : Stp)] = [(⟨i, 1, 0⟩ : Stp)] ∧ len = len ∧ cap = cap
set_option maxRecDepth 100000 in
theorem mulQ3f (us0 : List (LV Fe)) (a b c : Fe) (i len cap : Nat) : runG Tryz.prog (SMul us0) 60 62 [1, 0, 1, 0, 1, 1] (mulJ a b c (.slice (.inp 0 0) 0 [⟨i, 1, 0⟩] len cap) false zB) .normal 4 [some (.own 0), some (.own 1), some (.own 2), some (.own 3)] 17 [] (mulM a b c (.slice (.inp 0 0) 0 [⟨i, 1, 0⟩] len cap) (pB (stepP (a, b, c) zPt false))) = some (some ((mulQ3f_G us0 a b c i len cap))) := by kernel_rfl
set_option maxRecDepth 100000 in
def mulQ4t_G (us0 : List (LV Fe)) (a b c : Fe) (i len cap : Nat) (p : Pt) : Prop := (true = true ∧ true = true) ∧ (a = a ∧ b = b ∧ c = c) ∧ ((0 : Int) = (0 : Int) ∧ (0 : Int) = (0 : Int) ∧ (0 : Int) = (0 : Int) ∧ (0 : Int) = (0 : Int) ∧ (0 : Int) = (0 : Int) ∧ (0 : Int) = (0 : Int) ∧ (0 : Int) = (0 : Int) ∧ (0 : Int) = (0 : Int) ∧ (0 : Int) = (0 : Int) ∧ (0 : Int) = (0 : Int) ∧ (0 : Int) = (0 : Int) ∧ (0 : Int) = (0 : Int) ∧ (0 : Int) = (0 : Int) ∧ (0 : Int) = (0 : Int) ∧ (0 : Int) = (0 : Int) ∧ (0 : Int) = (0 : Int) ∧ (0 : Int) = (0 : Int) ∧ (0 : Int) = (0 : Int) ∧ (0 : Int) = (0 : Int) ∧ (0 : Int) = (0 : Int) ∧ (0 : Int) = (0 : Int) ∧ (0 : Int) = (0 : Int) ∧ (0 : Int) = (0 : Int) ∧ (0 : Int) = (0 : Int) ∧ (0 : Int) = (0 : Int) ∧ (0 : Int) = (0 : Int) ∧ (0 : Int) = (0 : Int) ∧ (0 : Int) = (0 : Int) ∧ (0 : Int) = (0 : Int) ∧ (0 : Int) = (0 : Int) ∧ (0 : Int) = (0 : Int) ∧ (0 : Int) = (0 : Int) ∧ (0 : Int) = (0 : Int) ∧ (0 : Int) = (0 : Int) ∧ (0 : Int) = (0 : Int) ∧ (0 : Int) = (0 : Int)) ∧ (Prod.fst (stepP (a, b, c) p true) = Prod.fst (stepP (a, b, c) p true) ∧ Prod.fst (Prod.snd (stepP (a, b, c) p true)) = Prod.fst (Prod.snd (stepP (a, b, c) p true)) ∧ Prod.snd (Prod.snd (stepP (a, b, c) p true)) = Prod.snd (Prod.snd (stepP (a, b, c) p true))) ∧ 0 = 0 ∧ [(⟨i, 1, 0⟩ : Stp)] = [(⟨i, 1, 0⟩ : Stp)] ∧ len = len ∧ cap = cap
set_option maxRecDepth 100000 in
theorem mulQ4t (us0 : List (LV Fe)) (a b c : Fe) (i len cap : Nat) (p : Pt) : runG Tryz.prog (SMul us0) 60 62 [1, 0, 1, 0, 1, 1] (mulJ a b c (.slice (.inp 0 0) 0 [⟨i, 1, 0⟩] len cap) true (pB p)) .normal 4 [some (.own 0), some (.own 1), some (.own 2), some (.own 3)] 17 [] (mulM a b c (.slice (.inp 0 0) 0 [⟨i, 1, 0⟩] len cap) (pB (stepP (a, b, c) p true))) = some (some ((mulQ4t_G us0 a b c i len cap p))) := by kernel_rfl
set_option maxRecDepth 100000 in
def mulQ4f_G (us0 : List (LV Fe)) (a b c : Fe) (i len cap : Nat) (p : Pt) : Prop := true = true ∧ (a = a ∧ b = b ∧ c = c) ∧ ((0 : Int) = (0 : Int) ∧ (0 : Int) = (0 : Int) ∧ (0 : Int) = (0 : Int) ∧ (0 : Int) = (0 : Int) ∧ (0 : Int) = (0 : Int) ∧ (0 : Int) = (0 : Int) ∧ (0 : Int) = (0 : Int) ∧ (0 : Int) = (0 : Int) ∧ (0 : Int) = (0 : Int) ∧ (0 : Int) = (0 : Int) ∧ (0 : Int) = (0 : Int) ∧ (0 : Int) = (0 : Int) ∧ (0 : Int) = (0 : Int) ∧ (0 : Int) = (0 : Int) ∧ (0 : Int) = (0 : Int) ∧ (0 : Int) = (0 : Int) ∧ (0 : Int) = (0 : Int) ∧ (0 : Int) = (0 : Int) ∧ (0 : Int) = (0 : Int) ∧ (0 : Int) = (0 : Int) ∧ (0 : Int) = (0 : Int) ∧ (0 : Int) = (0 : Int) ∧ (0 : Int) = (0 : Int) ∧ (0 : Int) = (0 : Int) ∧ (0 : Int) = (0 : Int) ∧ (0 : Int) = (0 : Int) ∧ (0 : Int) = (0 : Int) ∧ (0 : Int) = (0 : Int) ∧ (0 : Int) = (0 : Int) ∧ (0 : Int) = (0 : Int) ∧ (0 : Int) = (0 : Int) ∧ (0 : Int) = (0 : Int) ∧ (0 : Int) = (0 : Int) ∧ (0 : Int) = (0 : Int) ∧ (0 : Int) = (0 : Int) ∧ (0 : Int) = (0 : Int)) ∧ (Prod.fst (stepP (a, b, c) p false) = Prod.fst (stepP (a, b, c) p false) ∧ Prod.fst (Prod.snd (stepP (a, b, c) p false)) = Prod.fst (Prod.snd (stepP (a, b, c) p false)) ∧ Prod.snd (Prod.snd (stepP (a, b, c) p false)) = Prod.snd (Prod.snd (stepP (a, b, c) p false))) ∧ 0 = 0 ∧ [(⟨i, 1, 0⟩ : Stp)] = [(⟨i, 1, 0⟩ : Stp)] ∧ len = len ∧ cap = cap
set_option maxRecDepth 100000 in
theorem mulQ4f (us0 : List (LV Fe)) (a b c : Fe) (i len cap : Nat) (p : Pt) : runG Tryz.prog (SMul us0) 60 62 [1, 0, 1, 0, 1, 1] (mulJ a b c (.slice (.inp 0 0) 0 [⟨i, 1, 0⟩] len cap) false (pB p)) .normal 4 [some (.own 0), some (.own 1), some (.own 2), some (.own 3)] 17 [] (mulM a b c (.slice (.inp 0 0) 0 [⟨i, 1, 0⟩] len cap) (pB (stepP (a, b, c) p false))) = some (some ((mulQ4f_G us0 a b c i len cap p))) := by kernel_rfl
set_option maxRecDepth 100000 in
def mulQ5_G (us0 : List (LV Fe)) (a b c : Fe) (i len cap : Nat) : Prop := true = true ∧ (a = a ∧ b = b ∧ c = c) ∧ (0 : Int) = (0 : Int) ∧ (0 : Int) = (0 : Int) ∧ (0 : Int) = (0 : Int) ∧ (0 : Int) = (0 : Int) ∧ (0 : Int) = (0 : Int) ∧ (0 : Int) = (0 : Int) ∧ (0 : Int) = (0 : Int) ∧ (0 : Int) = (0 : Int) ∧ (0 : Int) = (0 : Int) ∧ (0 : Int) = (0 : Int) ∧ (0 : Int) = (0 : Int) ∧ (0 : Int) = (0 : Int) ∧ (0 : Int) = (0 : Int) ∧ (0 : Int) = (0 : Int) ∧ (0 : Int) = (0 : Int) ∧ (0 : Int) = (0 : Int) ∧ (0 : Int) = (0 : Int) ∧ (0 : Int) = (0 : Int) ∧ (0 : Int) = (0 : Int) ∧ (0 : Int) = (0 : Int) ∧ (0 : Int) = (0 : Int) ∧ (0 : Int) = (0 : Int) ∧ (0 : Int) = (0 : Int) ∧ (0 : Int) = (0 : Int) ∧ (0 : Int) = (0 : Int) ∧ (0 : Int) = (0 : Int) ∧ (0 : Int) = (0 : Int) ∧ (0 : Int) = (0 : Int) ∧ (0 : Int) = (0 : Int) ∧ (0 : Int) = (0 : Int) ∧ (0 : Int) = (0 : Int) ∧ (0 : Int) = (0 : Int) ∧ (0 : Int) = (0 : Int) ∧ (0 : Int) = (0 : Int) ∧ (0 : Int) = (0 : Int) ∧ (0 : Int) = (0 : Int)
set_option maxRecDepth 100000 in
theorem mulQ5 (us0 : List (LV Fe)) (a b c : Fe) (i len cap : Nat) : runG Tryz.prog (SMul us0) 60 62 [1, 1, 1] ⟨tm 17 mulTs, mulM a b c (.slice (.inp 0 0) 0 [⟨i, 1, 0⟩] len cap) zB, []⟩ .ret 2 [some (.own 0), some (.own 1)] 17 [(4, .ptr (.own 1) 0 [])] [some ⟨.rw, [.abs a, .abs b, .abs c]⟩, some ⟨.rw, zB⟩] = some (some ((mulQ5_G us0 a b c i len cap))) := by kernel_rfl
set_option maxRecDepth 100000 in
def mulQ6_G (us0 : List (LV Fe)) (a b c : Fe) (i len cap : Nat) (p : Pt) : Prop := true = true ∧ (a = a ∧ b = b ∧ c = c) ∧ Prod.fst p = Prod.fst p ∧ Prod.fst (Prod.snd p) = Prod.fst (Prod.snd p) ∧ Prod.snd (Prod.snd p) = Prod.snd (Prod.snd p)
set_option maxRecDepth 100000 in
theorem mulQ6 (us0 : List (LV Fe)) (a b c : Fe) (i len cap : Nat) (p : Pt) : runG Tryz.prog (SMul us0) 60 62 [1, 1, 1] ⟨tm 17 mulTs, mulM a b c (.slice (.inp 0 0) 0 [⟨i, 1, 0⟩] len cap) (pB p), []⟩ .ret 2 [some (.own 0), some (.own 1)] 17 [(4, .ptr (.own 1) 0 [])] [some ⟨.rw, [.abs a, .abs b, .abs c]⟩, some ⟨.rw, (pB p)⟩] = some (some ((mulQ6_G us0 a b c i len cap p))) := by kernel_rfl
end Go.Proofs.YtonmjdnkcngfjaaGreat.En2

/- DERIVED. So many times a point, as bytes say: no bytes. -/
set_option linter.all false
namespace Go.Proofs.YtonmjdnkcngfjaaGreat.En2
open Go Go.RowKit Go.Proofs.YtonmjdnkcngfjaaGreat.En
set_option maxRecDepth 100000 in
def mulN0_G (us0 : List (LV Fe)) (a b c : Fe)  : Prop := (a = a ∧ b = b ∧ c = c) ∧ (0 : Int) = (0 : Int) ∧ (0 : Int) = (0 : Int) ∧ (0 : Int) = (0 : Int) ∧ (0 : Int) = (0 : Int) ∧ (0 : Int) = (0 : Int) ∧ (0 : Int) = (0 : Int) ∧ (0 : Int) = (0 : Int) ∧ (0 : Int) = (0 : Int) ∧ (0 : Int) = (0 : Int) ∧ (0 : Int) = (0 : Int) ∧ (0 : Int) = (0 : Int) ∧ (0 : Int) = (0 : Int) ∧ (0 : Int) = (0 : Int) ∧ (0 : Int) = (0 : Int) ∧ (0 : Int) = (0 : Int) ∧ (0 : Int) = (0 : Int) ∧ (0 : Int) = (0 : Int) ∧ (0 : Int) = (0 : Int) ∧ (0 : Int) = (0 : Int) ∧ (0 : Int) = (0 : Int) ∧ (0 : Int) = (0 : Int) ∧ (0 : Int) = (0 : Int) ∧ (0 : Int) = (0 : Int) ∧ (0 : Int) = (0 : Int) ∧ (0 : Int) = (0 : Int) ∧ (0 : Int) = (0 : Int) ∧ (0 : Int) = (0 : Int) ∧ (0 : Int) = (0 : Int) ∧ (0 : Int) = (0 : Int) ∧ (0 : Int) = (0 : Int) ∧ (0 : Int) = (0 : Int) ∧ (0 : Int) = (0 : Int) ∧ (0 : Int) = (0 : Int) ∧ (0 : Int) = (0 : Int) ∧ (0 : Int) = (0 : Int) ∧ (0 : Int) = (0 : Int)
set_option maxRecDepth 100000 in
theorem mulN0 (us0 : List (LV Fe)) (a b c : Fe)  : runG Tryz.prog (SMul us0) 60 62 [0] (startS Tryz.f62 [bF [a, b, c], .nils] []) .normal 0 [some (.own 0), some (.own 1)] 17 [(1, .nils), (2, .ptr (.own 0) 0 []), (4, .ptr (.own 1) 0 [])] (mulA a b c .nils).mem = some (some ((mulN0_G us0 a b c))) := by kernel_rfl
set_option maxRecDepth 100000 in
def mulN1_G (us0 : List (LV Fe)) (a b c : Fe)  : Prop := (a = a ∧ b = b ∧ c = c) ∧ ((0 : Int) = (0 : Int) ∧ (0 : Int) = (0 : Int) ∧ (0 : Int) = (0 : Int) ∧ (0 : Int) = (0 : Int) ∧ (0 : Int) = (0 : Int) ∧ (0 : Int) = (0 : Int) ∧ (0 : Int) = (0 : Int) ∧ (0 : Int) = (0 : Int) ∧ (0 : Int) = (0 : Int) ∧ (0 : Int) = (0 : Int) ∧ (0 : Int) = (0 : Int) ∧ (0 : Int) = (0 : Int) ∧ (0 : Int) = (0 : Int) ∧ (0 : Int) = (0 : Int) ∧ (0 : Int) = (0 : Int) ∧ (0 : Int) = (0 : Int) ∧ (0 : Int) = (0 : Int) ∧ (0 : Int) = (0 : Int) ∧ (0 : Int) = (0 : Int) ∧ (0 : Int) = (0 : Int) ∧ (0 : Int) = (0 : Int) ∧ (0 : Int) = (0 : Int) ∧ (0 : Int) = (0 : Int) ∧ (0 : Int) = (0 : Int) ∧ (0 : Int) = (0 : Int) ∧ (0 : Int) = (0 : Int) ∧ (0 : Int) = (0 : Int) ∧ (0 : Int) = (0 : Int) ∧ (0 : Int) = (0 : Int) ∧ (0 : Int) = (0 : Int) ∧ (0 : Int) = (0 : Int) ∧ (0 : Int) = (0 : Int) ∧ (0 : Int) = (0 : Int) ∧ (0 : Int) = (0 : Int) ∧ (0 : Int) = (0 : Int) ∧ (0 : Int) = (0 : Int)) ∧ (0 : Int) = (0 : Int) ∧ (0 : Int) = (0 : Int) ∧ (0 : Int) = (0 : Int) ∧ (0 : Int) = (0 : Int) ∧ (0 : Int) = (0 : Int) ∧ (0 : Int) = (0 : Int) ∧ (0 : Int) = (0 : Int) ∧ (0 : Int) = (0 : Int) ∧ (0 : Int) = (0 : Int) ∧ (0 : Int) = (0 : Int) ∧ (0 : Int) = (0 : Int) ∧ (0 : Int) = (0 : Int) ∧ (0 : Int) = (0 : Int) ∧ (0 : Int) = (0 : Int) ∧ (0 : Int) = (0 : Int) ∧ (0 : Int) = (0 : Int) ∧ (0 : Int) = (0 : Int) ∧ (0 : Int) = (0 : Int) ∧ (0 : Int) = (0 : Int) ∧ (0 : Int) = (0 : Int) ∧ (0 : Int) = (0 : Int) ∧ (0 : Int) = (0 : Int) ∧ (0 : Int) = (0 : Int) ∧ (0 : Int) = (0 : Int) ∧ (0 : Int) = (0 : Int) ∧ (0 : Int) = (0 : Int) ∧ (0 : Int) = (0 : Int) ∧ (0 : Int) = (0 : Int) ∧ (0 : Int) = (0 : Int) ∧ (0 : Int) = (0 : Int) ∧ (0 : Int) = (0 : Int) ∧ (0 : Int) = (0 : Int) ∧ (0 : Int) = (0 : Int) ∧ (0 : Int) = (0 : Int) ∧ (0 : Int) = (0 : Int) ∧ (0 : Int) = (0 : Int)
set_option maxRecDepth 100000 in
theorem mulN1 (us0 : List (LV Fe)) (a b c : Fe)  : runG Tryz.prog (SMul us0) 60 62 [0, 1] (mulA a b c .nils) .normal 2 [some (.own 0), some (.own 1), some (.own 2)] 17 [(1, .nils), (2, .ptr (.own 0) 0 []), (4, .ptr (.own 1) 0 []), (5, .ptr (.own 2) 0 [])] (mulB a b c .nils).mem = some (some ((mulN1_G us0 a b c))) := by kernel_rfl
set_option maxRecDepth 100000 in
def mulN2_G (us0 : List (LV Fe)) (a b c : Fe)  : Prop := (a = a ∧ b = b ∧ c = c) ∧ ((0 : Int) = (0 : Int) ∧ (0 : Int) = (0 : Int) ∧ (0 : Int) = (0 : Int) ∧ (0 : Int) = (0 : Int) ∧ (0 : Int) = (0 : Int) ∧ (0 : Int) = (0 : Int) ∧ (0 : Int) = (0 : Int) ∧ (0 : Int) = (0 : Int) ∧ (0 : Int) = (0 : Int) ∧ (0 : Int) = (0 : Int) ∧ (0 : Int) = (0 : Int) ∧ (0 : Int) = (0 : Int) ∧ (0 : Int) = (0 : Int) ∧ (0 : Int) = (0 : Int) ∧ (0 : Int) = (0 : Int) ∧ (0 : Int) = (0 : Int) ∧ (0 : Int) = (0 : Int) ∧ (0 : Int) = (0 : Int) ∧ (0 : Int) = (0 : Int) ∧ (0 : Int) = (0 : Int) ∧ (0 : Int) = (0 : Int) ∧ (0 : Int) = (0 : Int) ∧ (0 : Int) = (0 : Int) ∧ (0 : Int) = (0 : Int) ∧ (0 : Int) = (0 : Int) ∧ (0 : Int) = (0 : Int) ∧ (0 : Int) = (0 : Int) ∧ (0 : Int) = (0 : Int) ∧ (0 : Int) = (0 : Int) ∧ (0 : Int) = (0 : Int) ∧ (0 : Int) = (0 : Int) ∧ (0 : Int) = (0 : Int) ∧ (0 : Int) = (0 : Int) ∧ (0 : Int) = (0 : Int) ∧ (0 : Int) = (0 : Int) ∧ (0 : Int) = (0 : Int)) ∧ (0 : Int) = (0 : Int) ∧ (0 : Int) = (0 : Int) ∧ (0 : Int) = (0 : Int) ∧ (0 : Int) = (0 : Int) ∧ (0 : Int) = (0 : Int) ∧ (0 : Int) = (0 : Int) ∧ (0 : Int) = (0 : Int) ∧ (0 : Int) = (0 : Int) ∧ (0 : Int) = (0 : Int) ∧ (0 : Int) = (0 : Int) ∧ (0 : Int) = (0 : Int) ∧ (0 : Int) = (0 : Int) ∧ (0 : Int) = (0 : Int) ∧ (0 : Int) = (0 : Int) ∧ (0 : Int) = (0 : Int) ∧ (0 : Int) = (0 : Int) ∧ (0 : Int) = (0 : Int) ∧ (0 : Int) = (0 : Int) ∧ (0 : Int) = (0 : Int) ∧ (0 : Int) = (0 : Int) ∧ (0 : Int) = (0 : Int) ∧ (0 : Int) = (0 : Int) ∧ (0 : Int) = (0 : Int) ∧ (0 : Int) = (0 : Int) ∧ (0 : Int) = (0 : Int) ∧ (0 : Int) = (0 : Int) ∧ (0 : Int) = (0 : Int) ∧ (0 : Int) = (0 : Int) ∧ (0 : Int) = (0 : Int) ∧ (0 : Int) = (0 : Int) ∧ (0 : Int) = (0 : Int) ∧ (0 : Int) = (0 : Int) ∧ (0 : Int) = (0 : Int) ∧ (0 : Int) = (0 : Int) ∧ (0 : Int) = (0 : Int) ∧ (0 : Int) = (0 : Int)
set_option maxRecDepth 100000 in
theorem mulN2 (us0 : List (LV Fe)) (a b c : Fe)  : runG Tryz.prog (SMul us0) 60 62 [0, 0, 1, 1] (mulB a b c .nils) .normal 3 [some (.own 0), some (.own 1), some (.own 2), some (.own 3)] 17 mulTs (mulM a b c .nils zB) = some (some ((mulN2_G us0 a b c))) := by kernel_rfl
set_option maxRecDepth 100000 in
def mulN3t_G (us0 : List (LV Fe)) (a b c : Fe)  : Prop := (true = true ∧ true = true) ∧ (a = a ∧ b = b ∧ c = c) ∧ ((0 : Int) = (0 : Int) ∧ (0 : Int) = (0 : Int) ∧ (0 : Int) = (0 : Int) ∧ (0 : Int) = (0 : Int) ∧ (0 : Int) = (0 : Int) ∧ (0 : Int) = (0 : Int) ∧ (0 : Int) = (0 : Int) ∧ (0 : Int) = (0 : Int) ∧ (0 : Int) = (0 : Int) ∧ (0 : Int) = (0 : Int) ∧ (0 : Int) = (0 : Int) ∧ (0 : Int) = (0 : Int) ∧ (0 : Int) = (0 : Int) ∧ (0 : Int) = (0 : Int) ∧ (0 : Int) = (0 : Int) ∧ (0 : Int) = (0 : Int) ∧ (0 : Int) = (0 : Int) ∧ (0 : Int) = (0 : Int) ∧ (0 : Int) = (0 : Int) ∧ (0 : Int) = (0 : Int) ∧ (0 : Int) = (0 : Int) ∧ (0 : Int) = (0 : Int) ∧ (0 : Int) = (0 : Int) ∧ (0 : Int) = (0 : Int) ∧ (0 : Int) = (0 : Int) ∧ (0 : Int) = (0 : Int) ∧ (0 : Int) = (0 : Int) ∧ (0 : Int) = (0 : Int) ∧ (0 : Int) = (0 : Int) ∧ (0 : Int) = (0 : Int) ∧ (0 : Int) = (0 : Int) ∧ (0 : Int) = (0 : Int) ∧ (0 : Int) = (0 : Int) ∧ (0 : Int) = (0 : Int) ∧ (0 : Int) = (0 : Int) ∧ (0 : Int) = (0 : Int)) ∧ a = a ∧ b = b ∧ c = c
set_option maxRecDepth 100000 in
theorem mulN3t (us0 : List (LV Fe)) (a b c : Fe)  : runG Tryz.prog (SMul us0) 60 62 [1, 0, 1, 0, 1, 1] (mulJ a b c .nils true zB) .normal 4 [some (.own 0), some (.own 1), some (.own 2), some (.own 3)] 17 [] (mulM a b c .nils (pB (stepP (a, b, c) zPt true))) = some (some ((mulN3t_G us0 a b c))) := by kernel_rfl
set_option maxRecDepth 100000 in
def mulN3f_G (us0 : List (LV Fe)) (a b c : Fe)  : Prop := true = true ∧ (a = a ∧ b = b ∧ c = c) ∧ ((0 : Int) = (0 : Int) ∧ (0 : Int) = (0 : Int) ∧ (0 : Int) = (0 : Int) ∧ (0 : Int) = (0 : Int) ∧ (0 : Int) = (0 : Int) ∧ (0 : Int) = (0 : Int) ∧ (0 : Int) = (0 : Int) ∧ (0 : Int) = (0 : Int) ∧ (0 : Int) = (0 : Int) ∧ (0 : Int) = (0 : Int) ∧ (0 : Int) = (0 : Int) ∧ (0 : Int) = (0 : Int) ∧ (0 : Int) = (0 : Int) ∧ (0 : Int) = (0 : Int) ∧ (0 : Int) = (0 : Int) ∧ (0 : Int) = (0 : Int) ∧ (0 : Int) = (0 : Int) ∧ (0 : Int) = (0 : Int) ∧ (0 : Int) = (0 : Int) ∧ (0 : Int) = (0 : Int) ∧ (0 : Int) = (0 : Int) ∧ (0 : Int) = (0 : Int) ∧ (0 : Int) = (0 : Int) ∧ (0 : Int) = (0 : Int) ∧ (0 : Int) = (0 : Int) ∧ (0 : Int) = (0 : Int) ∧ (0 : Int) = (0 : Int) ∧ (0 : Int) = (0 : Int) ∧ (0 : Int) = (0 : Int) ∧ (0 : Int) = (0 : Int) ∧ (0 : Int) = (0 : Int) ∧ (0 : Int) = (0 : Int) ∧ (0 : Int) = (0 : Int) ∧ (0 : Int) = (0 : Int) ∧ (0 : Int) = (0 : Int) ∧ (0 : Int) = (0 : Int)) ∧ Prod.fst (stepP (a, b, c) zPt false) = Prod.fst (stepP (a, b, c) zPt false) ∧ Prod.fst (Prod.snd (stepP (a, b, c) zPt false)) = Prod.fst (Prod.snd (stepP (a, b, c) zPt false)) ∧ Prod.snd (Prod.snd (stepP (a, b, c) zPt false)) = Prod.snd (Prod.snd (stepP (a, b, c) zPt false))
set_option maxRecDepth 100000 in
theorem mulN3f (us0 : List (LV Fe)) (a b c : Fe)  : runG Tryz.prog (SMul us0) 60 62 [1, 0, 1, 0, 1, 1] (mulJ a b c .nils false zB) .normal 4 [some (.own 0), some (.own 1), some (.own 2), some (.own 3)] 17 [] (mulM a b c .nils (pB (stepP (a, b, c) zPt false))) = some (some ((mulN3f_G us0 a b c))) := by kernel_rfl
set_option maxRecDepth 100000 in
def mulN4t_G (us0 : List (LV Fe)) (a b c : Fe)  (p : Pt) : Prop := (true = true ∧ true = true) ∧ (a = a ∧ b = b ∧ c = c) ∧ ((0 : Int) = (0 : Int) ∧ (0 : Int) = (0 : Int) ∧ (0 : Int) = (0 : Int) ∧ (0 : Int) = (0 : Int) ∧ (0 : Int) = (0 : Int) ∧ (0 : Int) = (0 : Int) ∧ (0 : Int) = (0 : Int) ∧ (0 : Int) = (0 : Int) ∧ (0 : Int) = (0 : Int) ∧ (0 : Int) = (0 : Int) ∧ (0 : Int) = (0 : Int) ∧ (0 : Int) = (0 : Int) ∧ (0 : Int) = (0 : Int) ∧ (0 : Int) = (0 : Int) ∧ (0 : Int) = (0 : Int) ∧ (0 : Int) = (0 : Int) ∧ (0 : Int) = (0 : Int) ∧ (0 : Int) = (0 : Int) ∧ (0 : Int) = (0 : Int) ∧ (0 : Int) = (0 : Int) ∧ (0 : Int) = (0 : Int) ∧ (0 : Int) = (0 : Int) ∧ (0 : Int) = (0 : Int) ∧ (0 : Int) = (0 : Int) ∧ (0 : Int) = (0 : Int) ∧ (0 : Int) = (0 : Int) ∧ (0 : Int) = (0 : Int) ∧ (0 : Int) = (0 : Int) ∧ (0 : Int) = (0 : Int) ∧ (0 : Int) = (0 : Int) ∧ (0 : Int) = (0 : Int) ∧ (0 : Int) = (0 : Int) ∧ (0 : Int) = (0 : Int) ∧ (0 : Int) = (0 : Int) ∧ (0 : Int) = (0 : Int) ∧ (0 : Int) = (0 : Int)) ∧ Prod.fst (stepP (a, b, c) p true) = Prod.fst (stepP (a, b, c) p true) ∧ Prod.fst (Prod.snd (stepP (a, b, c) p true)) = Prod.fst (Prod.snd (stepP (a, b, c) p true)) ∧ Prod.snd (Prod.snd (stepP (a, b, c) p true)) = Prod.snd (Prod.snd (stepP (a, b, c) p true))
set_option maxRecDepth 100000 in
theorem mulN4t (us0 : List (LV Fe)) (a b c : Fe)  (p : Pt) : runG Tryz.prog (SMul us0) 60 62 [1, 0, 1, 0, 1, 1] (mulJ a b c .nils true (pB p)) .normal 4 [some (.own 0), some (.own 1), some (.own 2), some (.own 3)] 17 [] (mulM a b c .nils (pB (stepP (a, b, c) p true))) = some (some ((mulN4t_G us0 a b c p))) := by kernel_rfl
set_option maxRecDepth 100000 in
def mulN4f_G (us0 : List (LV Fe)) (a b c : Fe)  (p : Pt) : Prop := true = true ∧ (a = a ∧ b = b ∧ c = c) ∧ ((0 : Int) = (0 : Int) ∧ (0 : Int) = (0 : Int) ∧ (0 : Int) = (0 : Int) ∧ (0 : Int) = (0 : Int) ∧ (0 : Int) = (0 : Int) ∧ (0 : Int) = (0 : Int) ∧ (0 : Int) = (0 : Int) ∧ (0 : Int) = (0 : Int) ∧ (0 : Int) = (0 : Int) ∧ (0 : Int) = (0 : Int) ∧ (0 : Int) = (0 : Int) ∧ (0 : Int) = (0 : Int) ∧ (0 : Int) = (0 : Int) ∧ (0 : Int) = (0 : Int) ∧ (0 : Int) = (0 : Int) ∧ (0 : Int) = (0 : Int) ∧ (0 : Int) = (0 : Int) ∧ (0 : Int) = (0 : Int) ∧ (0 : Int) = (0 : Int) ∧ (0 : Int) = (0 : Int) ∧ (0 : Int) = (0 : Int) ∧ (0 : Int) = (0 : Int) ∧ (0 : Int) = (0 : Int) ∧ (0 : Int) = (0 : Int) ∧ (0 : Int) = (0 : Int) ∧ (0 : Int) = (0 : Int) ∧ (0 : Int) = (0 : Int) ∧ (0 : Int) = (0 : Int) ∧ (0 : Int) = (0 : Int) ∧ (0 : Int) = (0 : Int) ∧ (0 : Int) = (0 : Int) ∧ (0 : Int) = (0 : Int) ∧ (0 : Int) = (0 : Int) ∧ (0 : Int) = (0 : Int) ∧ (0 : Int) = (0 : Int) ∧ (0 : Int) = (0 : Int)) ∧ Prod.fst (stepP (a, b, c) p false) = Prod.fst (stepP (a, b, c) p false) ∧ Prod.fst (Prod.snd (stepP (a, b, c) p false)) = Prod.fst (Prod.snd (stepP (a, b, c) p false)) ∧ Prod.snd (Prod.snd (stepP (a, b, c) p false)) = Prod.snd (Prod.snd (stepP (a, b, c) p false))
set_option maxRecDepth 100000 in
theorem mulN4f (us0 : List (LV Fe)) (a b c : Fe)  (p : Pt) : runG Tryz.prog (SMul us0) 60 62 [1, 0, 1, 0, 1, 1] (mulJ a b c .nils false (pB p)) .normal 4 [some (.own 0), some (.own 1), some (.own 2), some (.own 3)] 17 [] (mulM a b c .nils (pB (stepP (a, b, c) p false))) = some (some ((mulN4f_G us0 a b c p))) := by kernel_rfl
set_option maxRecDepth 100000 in
def mulN5_G (us0 : List (LV Fe)) (a b c : Fe)  : Prop := true = true ∧ (a = a ∧ b = b ∧ c = c) ∧ (0 : Int) = (0 : Int) ∧ (0 : Int) = (0 : Int) ∧ (0 : Int) = (0 : Int) ∧ (0 : Int) = (0 : Int) ∧ (0 : Int) = (0 : Int) ∧ (0 : Int) = (0 : Int) ∧ (0 : Int) = (0 : Int) ∧ (0 : Int) = (0 : Int) ∧ (0 : Int) = (0 : Int) ∧ (0 : Int) = (0 : Int) ∧ (0 : Int) = (0 : Int) ∧ (0 : Int) = (0 : Int) ∧ (0 : Int) = (0 : Int) ∧ (0 : Int) = (0 : Int) ∧ (0 : Int) = (0 : Int) ∧ (0 : Int) = (0 : Int) ∧ (0 : Int) = (0 : Int) ∧ (0 : Int) = (0 : Int) ∧ (0 : Int) = (0 : Int) ∧ (0 : Int) = (0 : Int) ∧ (0 : Int) = (0 : Int) ∧ (0 : Int) = (0 : Int) ∧ (0 : Int) = (0 : Int) ∧ (0 : Int) = (0 : Int) ∧ (0 : Int) = (0 : Int) ∧ (0 : Int) = (0 : Int) ∧ (0 : Int) = (0 : Int) ∧ (0 : Int) = (0 : Int) ∧ (0 : Int) = (0 : Int) ∧ (0 : Int) = (0 : Int) ∧ (0 : Int) = (0 : Int) ∧ (0 : Int) = (0 : Int) ∧ (0 : Int) = (0 : Int) ∧ (0 : Int) = (0 : Int) ∧ (0 : Int) = (0 : Int) ∧ (0 : Int) = (0 : Int)
set_option maxRecDepth 100000 in
theorem mulN5 (us0 : List (LV Fe)) (a b c : Fe)  : runG Tryz.prog (SMul us0) 60 62 [1, 1, 1] ⟨tm 17 mulTs, mulM a b c .nils zB, []⟩ .ret 2 [some (.own 0), some (.own 1)] 17 [(4, .ptr (.own 1) 0 [])] [some ⟨.rw, [.abs a, .abs b, .abs c]⟩, some ⟨.rw, zB⟩] = some (some ((mulN5_G us0 a b c))) := by kernel_rfl
set_option maxRecDepth 100000 in
def mulN6_G (us0 : List (LV Fe)) (a b c : Fe)  (p : Pt) : Prop := true = true ∧ (a = a ∧ b = b ∧ c = c) ∧ Prod.fst p = Prod.fst p ∧ Prod.fst (Prod.snd p) = Prod.fst (Prod.snd p) ∧ Prod.snd (Prod.snd p) = Prod.snd (Prod.snd p)
set_option maxRecDepth 100000 in
theorem mulN6 (us0 : List (LV Fe)) (a b c : Fe)  (p : Pt) : runG Tryz.prog (SMul us0) 60 62 [1, 1, 1] ⟨tm 17 mulTs, mulM a b c .nils (pB p), []⟩ .ret 2 [some (.own 0), some (.own 1)] 17 [(4, .ptr (.own 1) 0 [])] [some ⟨.rw, [.abs a, .abs b, .abs c]⟩, some ⟨.rw, (pB p)⟩] = some (some ((mulN6_G us0 a b c p))) := by kernel_rfl
end Go.Proofs.YtonmjdnkcngfjaaGreat.En2

/- DERIVED. So many times a point, as bytes say: the call. -/
set_option linter.all false
namespace Go.Proofs.YtonmjdnkcngfjaaGreat.En2
open Go Go.RowKit Go.Proofs.YtonmjdnkcngfjaaGreat.En

def mulL (p : Pt) (l : List Bool) : Pt := l.foldl (stepP p) zPt
theorem mulL_snoc (p : Pt) (l : List Bool) (t : Bool) : mulL p (l ++ [t]) = stepP p (mulL p l) t := by simp [mulL]
/-- So many times as bytes say. -/
def mulF (p : Pt) (len : Nat) (zs : Nat → Int) : Pt := mulL p (upto (bitAt zs) (8 * len))
abbrev mulK (p : Pt) : List Bool → List (LV Fe)
  | [] => zB
  | t :: l => pB (mulL p (t :: l))
noncomputable abbrev cdM (p : List Nat) : Code := codeAt Tryz.prog 62 p
structure MulRuns (us0 : List (LV Fe)) (x : LV Fe) : Prop where
  r0 : ∀ a b c, ExB 0 Tryz.prog (inOf [us0]) (cdM [0]) (startS Tryz.f62 [bF [a, b, c], x] []) .normal (mulA a b c x)
  r1 : ∀ a b c, ExB 2 Tryz.prog (inOf [us0]) (cdM [0, 1]) (mulA a b c x) .normal (mulB a b c x)
  r2 : ∀ a b c, ExB 3 Tryz.prog (inOf [us0]) (cdM [0, 0, 1, 1]) (mulB a b c x) .normal ⟨tm 17 mulTs, mulM a b c x zB, []⟩
  sz : ∀ a b c t, ExB 4 Tryz.prog (inOf [us0]) (cdM [1, 0, 1, 0, 1, 1]) (mulJ a b c x t zB) .normal ⟨tm 17 [], mulM a b c x (pB (stepP (a, b, c) zPt t)), []⟩
  sp : ∀ a b c t p, ExB 4 Tryz.prog (inOf [us0]) (cdM [1, 0, 1, 0, 1, 1]) (mulJ a b c x t (pB p)) .normal ⟨tm 17 [], mulM a b c x (pB (stepP (a, b, c) p t)), []⟩
  ez : ∀ a b c, ExB 2 Tryz.prog (inOf [us0]) (cdM [1, 1, 1]) ⟨tm 17 mulTs, mulM a b c x zB, []⟩ .ret ⟨tm 17 [(4, .ptr (.own 1) 0 [])], [some ⟨.rw, [.abs a, .abs b, .abs c]⟩, some ⟨.rw, zB⟩], []⟩
  ep : ∀ a b c p, ExB 2 Tryz.prog (inOf [us0]) (cdM [1, 1, 1]) ⟨tm 17 mulTs, mulM a b c x (pB p), []⟩ .ret ⟨tm 17 [(4, .ptr (.own 1) 0 [])], [some ⟨.rw, [.abs a, .abs b, .abs c]⟩, some ⟨.rw, pB p⟩], []⟩
  fz : ∀ a b c, flatB (mulM a b c x zB) = true
  fp : ∀ a b c p, flatB (mulM a b c x (pB p)) = true
  cell : ∀ ρ, cellsL ρ [x] = [LV.tr ρ x]
  kin : ∀ p : Key → Nat → Prop, (∀ t i m, p (.inp t i) m) → x.kin p
set_option maxRecDepth 100000 in
theorem entBB1 : ∀ args w, (callFunc 140 args).run Tryz.prog w = .ok (.enter 140 args) w := ent_of (f := 140) (P := Tryz.prog) rfl rfl rfl
set_option maxRecDepth 100000 in
theorem entCMul : ∀ args w, (callFunc 62 args).run Tryz.prog w = .ok (.enter 62 args) w := ent_of (f := 62) (P := Tryz.prog) rfl rfl rfl
def oMul : Oper := { dst := some 6, op := .assign (.tmp 9), type := 4, pos := "curve.go:85", after := #[], guard := none }
set_option maxRecDepth 100000 in
theorem f46_body : Tryz.f62.body = some (.seq (cdM [0]) (.seq (cdM [0, 1]) (.seq (.seq (cdM [0, 0, 1, 1]) (.block 0 (.rangeFunc (.tmp 8) #[9] (.region 3 #[oMul] false) (cdM [1, 0, 1, 0, 1, 1])))) (cdM [1, 1, 1])))) := by kernel_rfl
theorem follows_mixed : Tryz.prog.follows .mixedOrders = true := mixed
/-- A call that reads, told of a memory with nothing of its own. -/
theorem told_below {f : FuncId} {us : List (List (LV Fe))} {args : List (LV Fe)} {v : LV Fe} (hv : plainB v = true)
    (h : ∀ (ρ : Key → En.Loc) (w : World), Ahead (inOf us) (d0 w.heap.size) ρ [] args w → Calls Tryz.prog f (trs ρ args).toArray w fun e w' => e = .returned (LV.tr ρ v) ∧ Below w.heap.size w w') : En.Told Tryz.prog f us args v [] := by
  intro D ρ w ha
  have ha' : Ahead (inOf us) (d0 w.heap.size) ρ [] args w := ⟨ha.mem, ⟨fun k bl hb => by simp at hb, fun _ _ _ _ _ => trivial⟩, fun b hb => ⟨hb, trivial⟩, ha.kinV, ha.kinM⟩
  refine (h ρ w ha').mono ?_
  rintro e w' ⟨rfl, hb⟩
  exact ⟨ρ, rfl, fun _ _ _ => rfl, ha.mem.below hb, ⟨fun k bl hb => by simp at hb, ha.mine.src⟩, Keeps.of_below hb, pv_kin _ v hv, ha.kinM⟩
set_option maxRecDepth 100000 in
theorem f46_rz (a b c : Fe) : resF Tryz.prog false Tryz.f62 ⟨tm 17 [(4, .ptr (.own 1) 0 [])], [some ⟨.rw, [.abs a, .abs b, .abs c]⟩, some ⟨.rw, zB⟩], []⟩ = some (.agg zB, none) := by kernel_rfl
set_option maxRecDepth 100000 in
theorem f46_rp (a b c : Fe) (p : Pt) : resF Tryz.prog false Tryz.f62 ⟨tm 17 [(4, .ptr (.own 1) 0 [])], [some ⟨.rw, [.abs a, .abs b, .abs c]⟩, some ⟨.rw, pB p⟩], []⟩ = some (ptV p, none) := by kernel_rfl
theorem lt_of_cell {w : World} {a : Addr} {v : Value} (h : w.cell? a = some v) : a.block < w.heap.size := by
  obtain ⟨o, ho, _⟩ := cells_of_cell h
  exact (Array.getElem?_eq_some_iff.1 ho).1
theorem mul_told {us0 : List (LV Fe)} {x : LV Fe} (hR : MulRuns us0 x) {len : Nat} {zs : Nat → Int} (hz : ∀ j, j < len → 0 ≤ zs j ∧ zs j < 256) (hreach : len * 8 ≤ 140737488351232)
    (hB : ∀ (ρ : Key → En.Loc) (w : World), MemRel (inOf [us0]) ρ [] w → BytesAt w.heap.size w (LV.tr ρ x) len zs) (a b c : Fe) :
    En.Told Tryz.prog 62 [us0] [bF [a, b, c], x] (ptV (mulF (a, b, c) len zs)) [] := by
  refine told_below rfl fun ρ w ha => ?_
  refine (callsIn_wide (n := 3)).1 (callsIn_of_wp_marks Tryz.func62 f46_body trivial ?_)
  have h0 := start_rl (fn := Tryz.f62) ha rfl
  refine wpIn_seq ((hR.r0 a b c).run _ _ _ _ _ _ h0 (fun ρ1 a1 w1 he1 hr1 => ?_) none 3)
  refine wpIn_seq ((hR.r1 a b c).run _ _ _ _ _ _ hr1 (fun ρ2 a2 w2 he2 hr2 => ?_) none 3)
  refine wpIn_seq (wpIn_seq ((hR.r2 a b c).run _ _ _ _ _ _ hr2 (fun ρ3 a3 w3 he3 hr3 => ?_) none 3))
  refine wpIn_block ?_
  -- where the bytes lie
  have hin : ∀ t i, ρ (.inp t i) = ρ3 (.inp t i) := fun t i =>
    ((he1 (.inp t i) 0 trivial (Nat.zero_le _)).trans (he2 (.inp t i) 0 trivial (Nat.zero_le _))).trans (he3 (.inp t i) 0 trivial (Nat.zero_le _))
  have hx : LV.tr ρ x = LV.tr ρ3 x := tr_congr (p := fun k _ => ∃ t i, k = .inp t i) (fun k m ⟨t, i, e⟩ => by subst e; exact hin t i) x (hR.kin _ fun t i _ => ⟨t, i, rfl⟩)
  have hkeep : Below w.heap.size w w3 := hr3.keeps.below
  have hsv : BytesAt w.heap.size w3 (LV.tr ρ3 x) len zs := by rw [← hx]; exact (hB ρ w ha.mem).below hkeep
  have hcell := hr3.mem.cell (.own 3) ⟨.rw, [x]⟩ rfl 0 (LV.tr ρ3 x) (by rw [hR.cell]; rfl)
  have hseq := bb_stops Fence.wide (3 - 1) trivial rfl (by omega) (ρ3 (.own 3)).blk ((ρ3 (.own 3)).off + 0) w.heap.size (LV.tr ρ3 x) len zs hz hreach w3 (lt_of_cell hcell) hkeep.size hcell hsv
  refine range_run (I := inOf [us0]) hr3 (gf := 140) (caps := [.ptr (.own 3) 0 []]) rfl entBB1 (o := oMul) ⟨rfl, rfl, rfl⟩ (enc := fun t => .bool t) (lv := fun t => .bool t) (fun _ _ => rfl) (fun _ _ => trivial) (by omega) (Nat.lt_of_sub_eq_succ rfl) (B := 4) (bds_at rfl)
    (fun l => mulM a b c x (mulK (a, b, c) l)) rfl (fun l => ?_) (fun l k bl hk _ => ?_) (fun l t => ?_) hseq (fun D W ρ' hb hD hdef => ?_)
  · cases l with
    | nil => exact hR.fz a b c
    | cons t l => exact hR.fp a b c _
  · match k, hk with
    | 0, _ => exact ⟨_, rfl⟩
    | 1, _ => exact ⟨_, rfl⟩
    | 2, _ => exact ⟨_, rfl⟩
    | 3, _ => exact ⟨_, rfl⟩
  · cases l with
    | nil => exact ⟨_, hR.sz a b c t, rfl⟩
    | cons s l =>
      refine ⟨_, hR.sp a b c t (mulL (a, b, c) (s :: l)), ?_⟩
      show mulM a b c x (pB _) = mulM a b c x (pB (mulL (a, b, c) ((s :: l) ++ [t])))
      rw [mulL_snoc]
  · have hok : ∀ (i : Nat) (v : LV Fe), (tm 17 mulTs)[i]? = some v → v.kin fun k m => okB 4 k ∧ okKey (mulM a b c x zB) ρ3 k m := fun i v hv => kin_and v (bds_at rfl i v hv) (hr3.occT i v hv)
    have hl : ∀ l (k : Nat) (bl : Blk Fe), k < 4 → (mulM a b c x zB)[k]? = some (some bl) → ∃ bl', (mulM a b c x (mulK (a, b, c) l))[k]? = some (some bl') := fun l k bl hk _ => by
      match k, hk with
      | 0, _ => exact ⟨_, rfl⟩
      | 1, _ => exact ⟨_, rfl⟩
      | 2, _ => exact ⟨_, rfl⟩
      | 3, _ => exact ⟨_, rfl⟩
    have hf : flatB (mulM a b c x (mulK (a, b, c) (upto (bitAt zs) (8 * len)))) = true := by
      cases upto (bitAt zs) (8 * len) with
      | nil => exact hR.fz a b c
      | cons t l => exact hR.fp a b c _
    have hrl : Rl (inOf [us0]) (dW w.heap.size W [{ target := .collected D, args := #[] }]) W ρ' ⟨tm 17 mulTs, mulM a b c x (mulK (a, b, c) (upto (bitAt zs) (8 * len))), []⟩ { a3 with defers := [{ target := .collected D, args := #[] }] } W :=
      hb.rl (tmps := tm 17 mulTs) (a := { a3 with defers := [{ target := .collected D, args := #[] }] }) hf (hl _) hr3.size hr3.val hok rfl
    show (cdM [1, 1, 1]).wpIn Fence.wide 3 _ _ _ W
    unfold mulF
    generalize upto (bitAt zs) (8 * len) = L at hrl
    cases L with
    | nil =>
      refine (hR.ez a b c).run _ _ _ _ _ _ hrl (fun ρ'' a' W' he hr' => ?_) none 3
      have := range_end (P := Tryz.prog) (n := 3) rfl hr' hb.keeps hdef hD (f46_rz a b c) trivial
      rw [show LV.tr ρ'' (.agg zB : LV Fe) = LV.tr ρ (ptV zPt) from zPt_tr ρ] at this
      exact this
    | cons t l =>
      refine (hR.ep a b c (mulL (a, b, c) (t :: l))).run _ _ _ _ _ _ hrl (fun ρ'' a' W' he hr' => ?_) none 3
      have := range_end (P := Tryz.prog) (n := 3) rfl hr' hb.keeps hdef hD (f46_rp a b c _) trivial
      rw [pv_tr _ rfl ρ'' ρ] at this
      exact this
end Go.Proofs.YtonmjdnkcngfjaaGreat.En2

/- DERIVED. So many times a point as a contract. -/
set_option linter.all false
namespace Go.Proofs.YtonmjdnkcngfjaaGreat.En2
open Go Go.RowKit Go.Proofs.YtonmjdnkcngfjaaGreat.En

theorem inOf1_ok {us0 : List (LV Fe)} (h : plainL us0) : InpOk (inOf [us0]) := inOf_ok fun l hl => by rw [List.mem_singleton] at hl; subst hl; exact h
set_option maxRecDepth 100000 in
theorem mulN_runs (us0 : List (LV Fe)) (h : plainL us0) : MulRuns us0 .nils where
  r0 a b c := ExB.auto (SMul_ok us0 h) (inOf1_ok h) rfl mixed 60 [some (.own 0), some (.own 1)] (mulN0 us0 a b c) (by unfold condOk mulN0_G; and_intros <;> first | with_reducible rfl | assumption)
  r1 a b c := ExB.auto (SMul_ok us0 h) (inOf1_ok h) rfl mixed 60 [some (.own 0), some (.own 1), some (.own 2)] (mulN1 us0 a b c) (by unfold condOk mulN1_G; and_intros <;> first | with_reducible rfl | assumption)
  r2 a b c := ExB.auto (SMul_ok us0 h) (inOf1_ok h) rfl mixed 60 [some (.own 0), some (.own 1), some (.own 2), some (.own 3)] (mulN2 us0 a b c) (by unfold condOk mulN2_G; and_intros <;> first | with_reducible rfl | assumption)
  sz a b c t := by
    cases t
    · exact ExB.auto (SMul_ok us0 h) (inOf1_ok h) rfl mixed 60 [some (.own 0), some (.own 1), some (.own 2), some (.own 3)] (mulN3f us0 a b c) (by unfold condOk mulN3f_G; and_intros <;> first | with_reducible rfl | assumption)
    · exact ExB.auto (SMul_ok us0 h) (inOf1_ok h) rfl mixed 60 [some (.own 0), some (.own 1), some (.own 2), some (.own 3)] (mulN3t us0 a b c) (by unfold condOk mulN3t_G; and_intros <;> first | with_reducible rfl | assumption)
  sp a b c t p := by
    cases t
    · exact ExB.auto (SMul_ok us0 h) (inOf1_ok h) rfl mixed 60 [some (.own 0), some (.own 1), some (.own 2), some (.own 3)] (mulN4f us0 a b c p) (by unfold condOk mulN4f_G; and_intros <;> first | with_reducible rfl | assumption)
    · exact ExB.auto (SMul_ok us0 h) (inOf1_ok h) rfl mixed 60 [some (.own 0), some (.own 1), some (.own 2), some (.own 3)] (mulN4t us0 a b c p) (by unfold condOk mulN4t_G; and_intros <;> first | with_reducible rfl | assumption)
  ez a b c := ExB.auto (SMul_ok us0 h) (inOf1_ok h) rfl mixed 60 [some (.own 0), some (.own 1)] (mulN5 us0 a b c) (by unfold condOk mulN5_G; and_intros <;> first | with_reducible rfl | assumption)
  ep a b c p := ExB.auto (SMul_ok us0 h) (inOf1_ok h) rfl mixed 60 [some (.own 0), some (.own 1)] (mulN6 us0 a b c p) (by unfold condOk mulN6_G; and_intros <;> first | with_reducible rfl | assumption)
  fz _ _ _ := rfl
  fp _ _ _ _ := rfl
  cell _ := rfl
  kin p hp := trivial
set_option maxRecDepth 100000 in
theorem mulV_runs (us0 : List (LV Fe)) (h : plainL us0) (n : Nat) : MulRuns us0 (.vec (.inp 0 0) n) where
  r0 a b c := ExB.auto (SMul_ok us0 h) (inOf1_ok h) rfl mixed 60 [some (.own 0), some (.own 1)] (mulV0 us0 a b c n) (by unfold condOk mulV0_G; and_intros <;> first | with_reducible rfl | assumption)
  r1 a b c := ExB.auto (SMul_ok us0 h) (inOf1_ok h) rfl mixed 60 [some (.own 0), some (.own 1), some (.own 2)] (mulV1 us0 a b c n) (by unfold condOk mulV1_G; and_intros <;> first | with_reducible rfl | assumption)
  r2 a b c := ExB.auto (SMul_ok us0 h) (inOf1_ok h) rfl mixed 60 [some (.own 0), some (.own 1), some (.own 2), some (.own 3)] (mulV2 us0 a b c n) (by unfold condOk mulV2_G; and_intros <;> first | with_reducible rfl | assumption)
  sz a b c t := by
    cases t
    · exact ExB.auto (SMul_ok us0 h) (inOf1_ok h) rfl mixed 60 [some (.own 0), some (.own 1), some (.own 2), some (.own 3)] (mulV3f us0 a b c n) (by unfold condOk mulV3f_G; and_intros <;> first | with_reducible rfl | assumption)
    · exact ExB.auto (SMul_ok us0 h) (inOf1_ok h) rfl mixed 60 [some (.own 0), some (.own 1), some (.own 2), some (.own 3)] (mulV3t us0 a b c n) (by unfold condOk mulV3t_G; and_intros <;> first | with_reducible rfl | assumption)
  sp a b c t p := by
    cases t
    · exact ExB.auto (SMul_ok us0 h) (inOf1_ok h) rfl mixed 60 [some (.own 0), some (.own 1), some (.own 2), some (.own 3)] (mulV4f us0 a b c n p) (by unfold condOk mulV4f_G; and_intros <;> first | with_reducible rfl | assumption)
    · exact ExB.auto (SMul_ok us0 h) (inOf1_ok h) rfl mixed 60 [some (.own 0), some (.own 1), some (.own 2), some (.own 3)] (mulV4t us0 a b c n p) (by unfold condOk mulV4t_G; and_intros <;> first | with_reducible rfl | assumption)
  ez a b c := ExB.auto (SMul_ok us0 h) (inOf1_ok h) rfl mixed 60 [some (.own 0), some (.own 1)] (mulV5 us0 a b c n) (by unfold condOk mulV5_G; and_intros <;> first | with_reducible rfl | assumption)
  ep a b c p := ExB.auto (SMul_ok us0 h) (inOf1_ok h) rfl mixed 60 [some (.own 0), some (.own 1)] (mulV6 us0 a b c n p) (by unfold condOk mulV6_G; and_intros <;> first | with_reducible rfl | assumption)
  fz _ _ _ := rfl
  fp _ _ _ _ := rfl
  cell _ := rfl
  kin p hp := hp _ _ _
set_option maxRecDepth 100000 in
theorem mulS_runs (us0 : List (LV Fe)) (h : plainL us0) (len cap : Nat) : MulRuns us0 (.slice (.inp 0 0) 0 [] len cap) where
  r0 a b c := ExB.auto (SMul_ok us0 h) (inOf1_ok h) rfl mixed 60 [some (.own 0), some (.own 1)] (mulS0 us0 a b c len cap) (by unfold condOk mulS0_G; and_intros <;> first | with_reducible rfl | assumption)
  r1 a b c := ExB.auto (SMul_ok us0 h) (inOf1_ok h) rfl mixed 60 [some (.own 0), some (.own 1), some (.own 2)] (mulS1 us0 a b c len cap) (by unfold condOk mulS1_G; and_intros <;> first | with_reducible rfl | assumption)
  r2 a b c := ExB.auto (SMul_ok us0 h) (inOf1_ok h) rfl mixed 60 [some (.own 0), some (.own 1), some (.own 2), some (.own 3)] (mulS2 us0 a b c len cap) (by unfold condOk mulS2_G; and_intros <;> first | with_reducible rfl | assumption)
  sz a b c t := by
    cases t
    · exact ExB.auto (SMul_ok us0 h) (inOf1_ok h) rfl mixed 60 [some (.own 0), some (.own 1), some (.own 2), some (.own 3)] (mulS3f us0 a b c len cap) (by unfold condOk mulS3f_G; and_intros <;> first | with_reducible rfl | assumption)
    · exact ExB.auto (SMul_ok us0 h) (inOf1_ok h) rfl mixed 60 [some (.own 0), some (.own 1), some (.own 2), some (.own 3)] (mulS3t us0 a b c len cap) (by unfold condOk mulS3t_G; and_intros <;> first | with_reducible rfl | assumption)
  sp a b c t p := by
    cases t
    · exact ExB.auto (SMul_ok us0 h) (inOf1_ok h) rfl mixed 60 [some (.own 0), some (.own 1), some (.own 2), some (.own 3)] (mulS4f us0 a b c len cap p) (by unfold condOk mulS4f_G; and_intros <;> first | with_reducible rfl | assumption)
    · exact ExB.auto (SMul_ok us0 h) (inOf1_ok h) rfl mixed 60 [some (.own 0), some (.own 1), some (.own 2), some (.own 3)] (mulS4t us0 a b c len cap p) (by unfold condOk mulS4t_G; and_intros <;> first | with_reducible rfl | assumption)
  ez a b c := ExB.auto (SMul_ok us0 h) (inOf1_ok h) rfl mixed 60 [some (.own 0), some (.own 1)] (mulS5 us0 a b c len cap) (by unfold condOk mulS5_G; and_intros <;> first | with_reducible rfl | assumption)
  ep a b c p := ExB.auto (SMul_ok us0 h) (inOf1_ok h) rfl mixed 60 [some (.own 0), some (.own 1)] (mulS6 us0 a b c len cap p) (by unfold condOk mulS6_G; and_intros <;> first | with_reducible rfl | assumption)
  fz _ _ _ := rfl
  fp _ _ _ _ := rfl
  cell _ := rfl
  kin p hp := hp _ _ _
set_option maxRecDepth 100000 in
theorem mulQ_runs (us0 : List (LV Fe)) (h : plainL us0) (i len cap : Nat) : MulRuns us0 (.slice (.inp 0 0) 0 [⟨i, 1, 0⟩] len cap) where
  r0 a b c := ExB.auto (SMul_ok us0 h) (inOf1_ok h) rfl mixed 60 [some (.own 0), some (.own 1)] (mulQ0 us0 a b c i len cap) (by unfold condOk mulQ0_G; and_intros <;> first | with_reducible rfl | assumption)
  r1 a b c := ExB.auto (SMul_ok us0 h) (inOf1_ok h) rfl mixed 60 [some (.own 0), some (.own 1), some (.own 2)] (mulQ1 us0 a b c i len cap) (by unfold condOk mulQ1_G; and_intros <;> first | with_reducible rfl | assumption)
  r2 a b c := ExB.auto (SMul_ok us0 h) (inOf1_ok h) rfl mixed 60 [some (.own 0), some (.own 1), some (.own 2), some (.own 3)] (mulQ2 us0 a b c i len cap) (by unfold condOk mulQ2_G; and_intros <;> first | with_reducible rfl | assumption)
  sz a b c t := by
    cases t
    · exact ExB.auto (SMul_ok us0 h) (inOf1_ok h) rfl mixed 60 [some (.own 0), some (.own 1), some (.own 2), some (.own 3)] (mulQ3f us0 a b c i len cap) (by unfold condOk mulQ3f_G; and_intros <;> first | with_reducible rfl | assumption)
    · exact ExB.auto (SMul_ok us0 h) (inOf1_ok h) rfl mixed 60 [some (.own 0), some (.own 1), some (.own 2), some (.own 3)] (mulQ3t us0 a b c i len cap) (by unfold condOk mulQ3t_G; and_intros <;> first | with_reducible rfl | assumption)
  sp a b c t p := by
    cases t
    · exact ExB.auto (SMul_ok us0 h) (inOf1_ok h) rfl mixed 60 [some (.own 0), some (.own 1), some (.own 2), some (.own 3)] (mulQ4f us0 a b c i len cap p) (by unfold condOk mulQ4f_G; and_intros <;> first | with_reducible rfl | assumption)
    · exact ExB.auto (SMul_ok us0 h) (inOf1_ok h) rfl mixed 60 [some (.own 0), some (.own 1), some (.own 2), some (.own 3)] (mulQ4t us0 a b c i len cap p) (by unfold condOk mulQ4t_G; and_intros <;> first | with_reducible rfl | assumption)
  ez a b c := ExB.auto (SMul_ok us0 h) (inOf1_ok h) rfl mixed 60 [some (.own 0), some (.own 1)] (mulQ5 us0 a b c i len cap) (by unfold condOk mulQ5_G; and_intros <;> first | with_reducible rfl | assumption)
  ep a b c p := ExB.auto (SMul_ok us0 h) (inOf1_ok h) rfl mixed 60 [some (.own 0), some (.own 1)] (mulQ6 us0 a b c i len cap p) (by unfold condOk mulQ6_G; and_intros <;> first | with_reducible rfl | assumption)
  fz _ _ _ := rfl
  fp _ _ _ _ := rfl
  cell _ := rfl
  kin p hp := hp _ _ _

theorem bytesAt_of {us0 : List (LV Fe)} {ρ : Key → En.Loc} {w : World} (hm : MemRel (inOf [us0]) ρ [] w) {i len cap : Nat} {zs : Nat → Int} (hc : ∀ j, j < len → (cellsL ρ us0)[i + j]? = some (.int .u8 (zs j))) : BytesAt w.heap.size w (.slice (some ((ρ (.inp 0 0)).at i)) len cap) len zs := by
  rcases Nat.eq_zero_or_pos len with rfl | hp
  · exact .inl ⟨_, _, rfl, rfl⟩
  · have h0 := hc 0 hp
    have hlt := (List.getElem?_eq_some_iff.1 h0).1
    rw [len_cellsL] at hlt
    have hn : (ρ (.inp 0 0)).none = false := by
      cases hn : (ρ (.inp 0 0)).none with
      | false => rfl
      | true =>
        have : cszL us0 = 0 := hm.empt (.inp 0 0) ⟨.ro, us0⟩ rfl hn
        omega
    refine .inr ⟨_, _, _, rfl, hm.inb (.inp 0 0) ⟨.ro, us0⟩ rfl rfl hn, fun j hj => ?_⟩
    have := hm.cell (.inp 0 0) ⟨.ro, us0⟩ rfl (i + j) _ (hc j hj)
    rw [show (ρ (.inp 0 0)).at (i + j) = ⟨(ρ (.inp 0 0)).blk, (ρ (.inp 0 0)).off + i + j, none⟩ by show (⟨_, _, _⟩ : Addr) = _; rw [Nat.add_assoc]] at this
    exact this
theorem rows_cell (ρ : Key → En.Loc) {n : Nat} {f : Nat → Int} {j : Nat} (h : j < n) : (cellsL ρ [(.rows n 1 fun j => [.int .u8 (f j)] : LV Fe)])[j]? = some (.int .u8 (f j)) := by
  rw [cellsL_rows]
  have := get_rows 1 (fun j => fitTo 1 (cellsL ρ [(.int .u8 (f j) : LV Fe)])) (fun _ => len_fitTo _ _) n j 0 h (by omega)
  rw [Nat.mul_one, Nat.add_zero] at this
  exact this
end Go.Proofs.YtonmjdnkcngfjaaGreat.En2

/- DERIVED. So many times a point, as bytes say: the contract. -/
set_option linter.all false
namespace Go.Proofs.YtonmjdnkcngfjaaGreat.En2
open Go Go.RowKit Go.Proofs.YtonmjdnkcngfjaaGreat.En

/-! ## bytes in a block -/
def flatI (k : IntKind) : List (LV Fe) → Option (List Int)
  | [] => some []
  | .int k' x :: l => match decide (k' = k), flatI k l with
    | true, some t => some (x :: t)
    | _, _ => none
  | _ => none
theorem flatI_some {k : IntKind} : ∀ {us : List (LV Fe)} {l : List Int}, flatI k us = some l → us = l.map fun x => .int k x
  | [], l, h => by cases h; rfl
  | .int k' x :: us, l, h => by
    simp only [flatI] at h
    split at h
    · rename_i t hk ht
      cases h
      have hk := of_decide_eq_true hk
      subst hk
      rw [flatI_some ht]; rfl
    · cases h
  | .any :: _, _, h => by cases h
  | .undef :: _, _, h => by cases h
  | .bool _ :: _, _, h => by cases h
  | .str _ :: _, _, h => by cases h
  | .ptr _ _ _ :: _, _, h => by cases h
  | .nilp :: _, _, h => by cases h
  | .slice _ _ _ _ _ :: _, _, h => by cases h
  | .vec _ _ :: _, _, h => by cases h
  | .nils :: _, _, h => by cases h
  | .nilfn :: _, _, h => by cases h
  | .niliface :: _, _, h => by cases h
  | .abs _ :: _, _, h => by cases h
  | .rows _ _ _ :: _, _, h => by cases h
  | .agg _ :: _, _, h => by cases h
  | .tup _ :: _, _, h => by cases h
  | .iface _ _ :: _, _, h => by cases h
  | .func _ _ :: _, _, h => by cases h
theorem plain_ints (k : IntKind) : ∀ l : List Int, plainL (l.map fun x => (.int k x : LV Fe))
  | [] => trivial
  | _ :: l => ⟨trivial, plain_ints k l⟩
theorem cells_flat (ρ : Key → En.Loc) (k : IntKind) : ∀ l : List Int, cellsL ρ (l.map fun x => (.int k x : LV Fe)) = l.map fun x => .int k x
  | [] => rfl
  | x :: l => by simp [cellsL, LV.cells, cells_flat ρ k l]
/-- A block of bytes: what it holds, told plainly. -/
structure Bys where
  us : List (LV Fe)
  n : Nat
  f : Nat → Int
  c : Prop
def bysU (us : List (LV Fe)) : Option Bys := match flatI .u8 us with
  | some l => some ⟨us, l.length, fun j => l.getD j 0, true = true⟩
  | none => match us with
    | [.rows n z g] => match Nat.beq z 1 with
      | true => some ⟨[.rows n 1 fun j => [.int .u8 (En.byteOf (g j))]], n, fun j => En.byteOf (g j), ∀ j, j < n → Like (g j) [.int .u8 (En.byteOf (g j))]⟩
      | false => none
    | _ => none
def bysOf (I : Inp Fe) (mem : Mem Fe) (k : Key) : Option Bys := match at? I mem k with
  | some bl => match isDead bl.kd with
    | false => bysU bl.us
    | true => none
  | none => none
theorem bysU_ok {us : List (LV Fe)} {b : Bys} (h : bysU us = some b) (hc : b.c) : plainL b.us ∧ Like us b.us ∧ ∀ ρ j, j < b.n → (cellsL ρ b.us)[j]? = some (.int .u8 (b.f j)) := by
  unfold bysU at h
  split at h
  · rename_i l hl
    cases h
    have e := flatI_some hl
    refine ⟨by rw [e]; exact plain_ints _ l, Like.refl _, fun ρ j hj => ?_⟩
    show (cellsL ρ us)[j]? = _
    rw [e, cells_flat, List.getElem?_map]
    have hj : j < l.length := hj
    simp [hj]
  · split at h
    · rename_i n z g _
      split at h
      · rename_i hz
        cases h
        have hz := beqN hz
        subst hz
        exact ⟨⟨fun _ => ⟨trivial, trivial⟩, trivial⟩, Like.rows hc fun i _ p _ => ⟨trivial, trivial⟩, fun ρ j hj => rows_cell ρ hj⟩
      · cases h
    · cases h
theorem bysOf_ok {I : Inp Fe} {mem : Mem Fe} {k : Key} {b : Bys} (h : bysOf I mem k = some b) (hc : b.c) : ∃ bl, at? I mem k = some bl ∧ isDead bl.kd = false ∧ plainL b.us ∧ Like bl.us b.us ∧ ∀ ρ j, j < b.n → (cellsL ρ b.us)[j]? = some (.int .u8 (b.f j)) := by
  unfold bysOf at h
  split at h
  · rename_i bl hb
    split at h
    · rename_i hd
      obtain ⟨h1, h2, h3⟩ := bysU_ok h hc
      exact ⟨bl, hb, hd, h1, h2, h3⟩
    · cases h
  · cases h
def rngB (f : Nat → Int) (i len : Nat) : Prop := ∀ j, j < len → 0 ≤ f (i + j) ∧ f (i + j) < 256

/-! ## groups of elements are plain -/
theorem pF_plain {l t : List (LV Fe)} {a : Fe} (h : pF l = some (a, t)) (ht : plainL t) : plainL l := by
  unfold pF at h
  split at h
  · cases h; exact ⟨trivial, ht⟩
  · split at h
    · cases h; exact ⟨trivial, trivial, trivial, trivial, trivial, trivial, trivial, trivial, trivial, trivial, trivial, trivial, ht⟩
    · cases h
  · cases h
theorem pFs_plain : ∀ (n : Nat) (l : List (LV Fe)) (t : List Fe), pFs n l = some t → plainL l
  | 0, [], _, _ => trivial
  | 0, _ :: _, t, h => by simp [pFs] at h
  | n + 1, l, t, h => by
    simp only [pFs] at h
    split at h
    · rename_i a r hp
      split at h
      · rename_i t' ht
        exact pF_plain hp (pFs_plain n r t' ht)
      · cases h
    · cases h
theorem pA_plain : ∀ (ks : List Nat) (vs : List (LV Fe)) (xs : List (List Fe)), pA ks vs = some xs → plainL vs
  | [], vs, xs, h => by
    unfold pA at h
    split at h
    · trivial
    · cases h
  | k :: ks, vs, xs, h => by
    unfold pA at h
    split at h
    · rename_i l t
      split at h
      · rename_i a ha
        split at h
        · rename_i b hb
          exact ⟨pFs_plain k l a ha, pA_plain ks t b hb⟩
        · cases h
      · cases h
    · cases h
theorem told_group {f : FuncId} {us : List (List (LV Fe))} {u x : LV Fe} {k : Nat} {xs : List Fe} {v : LV Fe} {bls : List (Blk Fe)} (hu : pA [k] [u] = some [xs]) (h : En.Told Tryz.prog f us [bF xs, x] v bls) : En.Told Tryz.prog f us [u, x] v bls := by
  intro D ρ w ha
  have e := (pA_trs _ _ _ hu).2 ρ
  have e : LV.tr ρ u = LV.tr ρ (bF xs) := by
    have : [LV.tr ρ u] = [LV.tr ρ (bF xs)] := e
    exact List.head_eq_of_cons_eq this
  have e2 : trs ρ [u, x] = trs ρ [bF xs, x] := by simp only [trs, e]
  rw [e2]
  refine h D ρ w ⟨ha.mem, ha.mine, ha.new, ⟨?_, ha.kinV.2⟩, ha.kinM⟩
  have : ∀ l : List Fe, plainL (absL l) := fun l => by
    induction l with
    | nil => trivial
    | cons a l ih => exact ⟨trivial, ih⟩
  exact plain_kin _ _ (show LV.plain (bF xs) from this xs)

/-! ## the contract -/
def cmulC (I : Inp Fe) (vs : List (LV Fe)) (mem : Mem Fe) : Option (RdC Fe) := match vs with
  | [u, x] => match pA [3] [u] with
    | some [[a, b, c]] => match x with
      | .nils => some ⟨[], [], [u, .nils], ptV (mulF (a, b, c) 0 fun _ => 0), [], true = true⟩
      | .vec k n => match bysOf I mem k with
        | some y => some ⟨[y.us], [k], [u, .vec (.inp 0 0) n], ptV (mulF (a, b, c) n y.f), [], y.c ∧ y.n = n ∧ rngB y.f 0 n ∧ n * 8 ≤ 140737488351232⟩
        | none => none
      | .slice k o q len cap => match o, q with
        | 0, [] => match bysOf I mem k with
          | some y => some ⟨[y.us], [k], [u, .slice (.inp 0 0) 0 [] len cap], ptV (mulF (a, b, c) len y.f), [], y.c ∧ len ≤ y.n ∧ rngB y.f 0 len ∧ len * 8 ≤ 140737488351232⟩
          | none => none
        | 0, [s] => match Nat.beq s.z 1, Nat.beq s.o 0, bysOf I mem k with
          | true, true, some y => some ⟨[y.us], [k], [u, .slice (.inp 0 0) 0 [⟨s.i, 1, 0⟩] len cap], ptV (mulF (a, b, c) len fun j => y.f (s.i + j)), [], y.c ∧ s.i + len ≤ y.n ∧ rngB y.f s.i len ∧ len * 8 ≤ 140737488351232⟩
          | _, _, _ => none
        | _, _ => none
      | _ => none
    | _ => none
  | _ => none
theorem nil_bytes (ρ : Key → En.Loc) (w : World) (n0 : Nat) : BytesAt n0 w (LV.tr ρ (.nils : LV Fe)) 0 fun _ => 0 := .inl ⟨none, 0, rfl, rfl⟩
/-- What a contract of one group and one slice owes. -/
theorem rdOk_gs {f : FuncId} {I : Inp Fe} {mem : Mem Fe} {u x x' : LV Fe} {k : Key} {y : Bys} {v : LV Fe} {c : Prop} (hu : plainL [u]) (hv : LV.plain v) (hx : x'.ren (keyMap [] (ιOf [k])) = x ∧ x'.fit (keyMap [] (ιOf [k])) (there ([] : Mem Fe))) (hy : bysOf I mem k = some y) (hc : y.c) (h : En.Told Tryz.prog f [y.us] [u, x'] v []) :
    RdOk Tryz.prog f I [u, x] mem ⟨[y.us], [k], [u, x'], v, [], c⟩ where
  args := by
    show [u.ren _, x'.ren _] = [u, x]
    rw [(plain_ren _ (fun _ => True) u hu.1).1, hx.1]
  fit := ⟨(plain_ren _ _ u hu.1).2, hx.2, trivial⟩
  len := rfl
  blk j k' us hk hus := by
    match j with
    | 0 =>
      cases hk; cases hus
      obtain ⟨bl, h1, h2, h3, h4, _⟩ := bysOf_ok hy hc
      exact ⟨bl, h1, h2, h3, h4⟩
    | j + 1 => simp at hk
  told := h
  fitv := (plain_ren _ _ v hv).2
  fitb b hb := absurd hb List.not_mem_nil
theorem cmul_ok : ∀ I vs mem r, cmulC I vs mem = some r → r.c → RdOk Tryz.prog 62 I vs mem r := by
  intro I vs mem r h hc
  unfold cmulC at h
  split at h
  · rename_i u x
    split at h
    · rename_i a b c hu
      have hpu := pA_plain _ _ _ hu
      split at h
      · cases h
        have ht : En.Told Tryz.prog 62 [[]] [u, .nils] (ptV (mulF (a, b, c) 0 fun _ => 0)) [] := told_group hu (mul_told (mulN_runs [] trivial) (fun j hj => absurd hj (Nat.not_lt_zero j)) (by omega) (fun ρ w _ => nil_bytes ρ w _) a b c)
        have e : inOf (A := Fe) [[]] = inOf [] := by
          funext t i
          cases t with
          | zero => cases i <;> rfl
          | succ t => rfl
        unfold En.Told at ht
        rw [e] at ht
        exact {
          args := by
            show [u.ren _, _] = [u, _]
            rw [(plain_ren _ (fun _ => True) u hpu.1).1]; rfl
          fit := ⟨(plain_ren _ _ u hpu.1).2, trivial, trivial⟩
          len := rfl
          blk := fun j k us hk hus => by simp at hk
          told := ht
          fitv := (plain_ren _ _ _ (show LV.plain (ptV _) from ⟨trivial, trivial, trivial, trivial⟩)).2
          fitb := fun b hb => absurd hb List.not_mem_nil }
      · rename_i k n
        split at h
        · rename_i y hy
          cases h
          obtain ⟨h1, h2, h3, h4⟩ := hc
          obtain ⟨bl, _, _, hpl, _, hcell⟩ := bysOf_ok hy h1
          refine rdOk_gs hpu ⟨trivial, trivial, trivial, trivial⟩ ⟨rfl, ⟨fun e => by simp [keyMap, ιOf] at e, trivial⟩⟩ hy h1 (told_group hu (mul_told (mulV_runs y.us hpl n) (fun j hj => by simpa using h3 j hj) h4 (fun ρ w hm => ?_) a b c))
          subst h2
          show BytesAt w.heap.size w (vecV (ρ (.inp 0 0)) y.n) y.n y.f
          unfold vecV
          split
          · rename_i hv
            simp only [Bool.and_eq_true] at hv
            exact .inl ⟨_, 0, rfl, beqN hv.2⟩
          · exact bytesAt_of hm fun j hj => by rw [Nat.zero_add]; exact hcell ρ j hj
        · cases h
      · rename_i k o q len cap
        split at h
        · split at h
          · rename_i y hy
            cases h
            obtain ⟨h1, h2, h3, h4⟩ := hc
            obtain ⟨bl, _, _, hpl, _, hcell⟩ := bysOf_ok hy h1
            refine rdOk_gs hpu ⟨trivial, trivial, trivial, trivial⟩ ⟨rfl, ⟨by simp [keyMap, ιOf], trivial⟩⟩ hy h1 (told_group hu (mul_told (mulS_runs y.us hpl len cap) (fun j hj => by simpa using h3 j hj) h4 (fun ρ w hm => ?_) a b c))
            exact bytesAt_of (i := 0) hm fun j hj => by rw [Nat.zero_add]; exact hcell ρ j (by omega)
          · cases h
        · rename_i s
          split at h
          · rename_i y hz ho hy
            cases h
            obtain ⟨h1, h2, h3, h4⟩ := hc
            obtain ⟨bl, _, _, hpl, _, hcell⟩ := bysOf_ok hy h1
            have hz := beqN hz
            have ho := beqN ho
            obtain ⟨si, sz, so⟩ := s
            subst hz; subst ho
            refine rdOk_gs hpu ⟨trivial, trivial, trivial, trivial⟩ ⟨rfl, ⟨by simp [keyMap, ιOf], trivial⟩⟩ hy h1 (told_group hu (mul_told (mulQ_runs y.us hpl si len cap) h3 h4 (fun ρ w hm => ?_) a b c))
            exact bytesAt_of (i := 0 + si * 1 + 0) hm fun j hj => by rw [show 0 + si * 1 + 0 + j = si + j by omega]; exact hcell ρ (si + j) (by have h2 : si + len ≤ y.n := h2; omega)
          · cases h
        · cases h
      · cases h
    · cases h
  · cases h
noncomputable def conCMul : ConC Tryz.prog Fe := conRd 62 entCMul cmulC cmul_ok
end Go.Proofs.YtonmjdnkcngfjaaGreat.En2

/- DERIVED. The second group: makers of contracts, lists of them, the numbers of a point. -/
set_option linter.all false
namespace Go.Proofs.YtonmjdnkcngfjaaGreat.En2
open Go Go.RowKit Go.Proofs.YtonmjdnkcngfjaaGreat.En

noncomputable def mk0 (f : FuncId) (ent : ∀ args w, (callFunc f args).run Tryz.prog w = .ok (.enter f args) w) (v : LV Fe) (run : Runs f [] v) : ConP Tryz.prog Fe where
  f := f
  fn := nilFn v
  ent := ent
  kin vs v' h p := by
    obtain ⟨_, rfl⟩ := nilFn_some h
    exact pv_kin p _ run.plain
  call vs v' h ρ w := by
    obtain ⟨rfl, rfl⟩ := nilFn_some h
    exact run.run ρ w
noncomputable def mkFn (f : FuncId) (ent : ∀ args w, (callFunc f args).run Tryz.prog w = .ok (.enter f args) w) (fn : List (LV Fe) → Option (LV Fe)) (run : ∀ {vs v}, fn vs = some v → Runs f vs v) : ConP Tryz.prog Fe where
  f := f
  fn := fn
  ent := ent
  kin vs v h p := pv_kin p _ (run h).plain
  call vs v h ρ w := (run h).run ρ w
/-- Groups of elements and a plain bool behind them. -/
def splitB : List (LV Fe) → Option (List (LV Fe) × Bool)
  | [.bool s] => some ([], s)
  | v :: l => match splitB l with
    | some (t, s) => some (v :: t, s)
    | none => none
  | [] => none
theorem splitB_eq : ∀ {l t : List (LV Fe)} {s : Bool}, splitB l = some (t, s) → l = t ++ [.bool s]
  | [], _, _, h => by cases h
  | [v], t, s, h => by
    cases v <;> first | (cases h; rfl) | (simp [splitB] at h)
  | v :: u :: l, t, s, h => by
    have h : (match splitB (u :: l) with
      | some (t, s) => some (v :: t, s)
      | none => none) = some (t, s) := by
      cases v <;> exact h
    split at h
    · rename_i t' s' hs
      cases h
      rw [splitB_eq hs]; rfl
    · cases h
theorem trs_app (ρ : Key → En.Loc) : ∀ l m : List (LV Fe), trs ρ (l ++ m) = trs ρ l ++ trs ρ m
  | [], _ => rfl
  | v :: l, m => by simp only [List.cons_append, trs, trs_app ρ l m]
def fnPB (ks : List Nat) (val : Bool → Fn (sumN ks)) (vs : List (LV Fe)) : Option (LV Fe) := match splitB vs with
  | some (us, s) => match pA ks us with
    | some xs => apF (sumN ks) (val s) xs.flatten
    | none => none
  | none => none
noncomputable def mkPB (f : FuncId) (ent : ∀ args w, (callFunc f args).run Tryz.prog w = .ok (.enter f args) w) (ks : List Nat) (val : Bool → Fn (sumN ks)) (run : ∀ s, AllF (sumN ks) (val s) fun l v => Runs f (bA (cut ks l) ++ [.bool s]) v) : ConP Tryz.prog Fe where
  f := f
  fn := fnPB ks val
  ent := ent
  kin vs v h p := by
    unfold fnPB at h
    split at h
    · rename_i us s hs
      split at h
      · exact pv_kin p v (AllF.at _ _ _ v (run s) h).plain
      · cases h
    · cases h
  call vs v h ρ w := by
    unfold fnPB at h
    split at h
    · rename_i us s hs
      split at h
      · rename_i xs hx
        obtain ⟨e, m⟩ := pA_trs _ _ _ hx
        have := AllF.at _ _ _ v (run s) h
        rw [cut_flat _ _ e] at this
        rw [splitB_eq hs, trs_app, m ρ, ← trs_app]
        exact this.run ρ w
      · cases h
    · cases h
noncomputable abbrev psG : List (ConP Tryz.prog Fe) := [conDouble, conInfinite, conCNeg, conCAdd, conCEqual, conGEqual, conGAdd, conGNeg, conGInf, conGDouble]
noncomputable abbrev SGa (d : FuncId → Nat → Nat → Option Bool) (ps : List (ConP Tryz.prog Fe)) : Sig Fe := SCd d (psG ++ ps)
theorem SGa_ok (d : FuncId → Nat → Nat → Option Bool) (ps : List (ConP Tryz.prog Fe)) : SigOk Tryz.prog (SGa d ps) := SCd_ok _ _
def xyX (p : Pt) : Fe := fmul p.1 (fmul (invF p.2.2) (invF p.2.2))
def xyY (p : Pt) : Fe := fmul (fmul p.2.1 (fmul (invF p.2.2) (invF p.2.2))) (invF p.2.2)
set_option maxRecDepth 100000 in
theorem entCXY : ∀ args w, (callFunc 59 args).run Tryz.prog w = .ok (.enter 59 args) w := ent_of (f := 59) (P := Tryz.prog) rfl rfl rfl
set_option maxRecDepth 100000 in
def cxyV_G (a b c : Fe) : Prop := true = true ∧ true = true ∧ true = true ∧ true = true
set_option maxRecDepth 100000 in
theorem cxyV (a b c : Fe) : (callF Tryz.prog (SGa noD [conInv]) 60 59 [bF [a, b, c]] []).map (fun r => (r.1, r.2.2)) = some (.tup [.agg [.abs (xyX (a, b, c))], .agg [.abs (xyY (a, b, c))]], some (cxyV_G a b c)) := by kernel_rfl
set_option maxRecDepth 100000 in
theorem cxyV_ok (a b c : Fe) : condOk (some (cxyV_G a b c)) := by unfold cxyV_G condOk; and_intros <;> rfl
noncomputable def conCXY : ConP Tryz.prog Fe := mkP 59 entCXY [3] (fun a b c => .tup [.agg [.abs (xyX (a, b, c))], .agg [.abs (xyY (a, b, c))]]) fun a b c => .of (SGa_ok _ _) rfl (cxyV a b c) (cxyV_ok a b c) rfl rfl
end Go.Proofs.YtonmjdnkcngfjaaGreat.En2
