import Derived.Test.YtgmdnickgijkoaaGreatDoorGenSlicePb
import Derived.Test.YtgmdnickgijkoaaGreatDoorProg
import Derived.KernelRfl
namespace Go.Ab
open Go.Proofs
set_option maxRecDepth 20000
noncomputable def Uz : Ctr := ⟨6, [Qr, I64], [I64], fun x => szC Qr x.1 x.2.1⟩
def Qjh : List (List Nat × Ann) := []
def Qg5 : List (List Nat × Nat) := []
noncomputable def QaG : List Ctr := [Y7, VX, XZ]
noncomputable def Qji (n : Nat) (a0 : Qt) (a1 : Int) : Option Int := run Tryz.prog Qjh Qg5 (Qn QaG) Tryz.f6 (Tryz.f6.body.getD .skip) (Qp [I64]) n (Qu [Qr, I64] (a0, a1, ()))
theorem QpJ (n : Nat) (a0 : Qt) (a1 : Int) : Qji n a0 a1 =
  Option.bind (szC Qa a0.1 a1) fun (y1 : Int) =>
  bif decide (y1 < 0) then
   some (-1)
  else
   Option.bind (szC Qa a0.2.1 y1) fun (y2 : Int) =>
   bif decide (y2 < 0) then
    some (-1)
   else
    Option.bind (szC Qa a0.2.2.1 y2) fun (y3 : Int) =>
    bif decide (y3 < 0) then
     some (-1)
    else
     Option.bind (szC (.list .str) a0.2.2.2.1 y3) fun (y4 : Int) =>
     bif decide (y4 < 0) then
      some (-1)
     else
      Option.bind (szC (.list Qm) a0.2.2.2.2 y4) fun (y5 : Int) =>
      bif decide (y5 < 0) then
       some (-1)
      else
       some y5 := by kernel_rfl
theorem Qua (hcs : ∀ x ∈ QaG, Qg Tryz.prog x) (h : ∀ (a0 : Qt) (a1 : Int) y, szC Qr a0 a1 = some y → ∃ n, Qji n a0 a1 = some y) : Qg Tryz.prog Uz := by
 refine Qh (c := Uz) (by kernel_rfl) (by kernel_rfl : Tryz.prog.funcs[6]? = some Tryz.f6) (code := Tryz.f6.body.getD .skip) (by kernel_rfl) (by kernel_rfl) (by kernel_rfl) (A := Qjh) (I := Qg5) hcs ?_
 rintro ⟨a0, a1, u⟩ y hy
 exact h a0 a1 y hy
theorem Qr1 : ∀ x ∈ QaG, Qg Tryz.prog x := (Qb Xl (Qb QaD (Qb Qjg Qi)))
theorem Qub : Qg Tryz.prog Uz := Qua Qr1 fun a0 a1 y hy => by
 obtain ⟨hw, h0, h1, rfl⟩ := QeM hy
 have hw2 : wfD Qa a0.1 ∧ wfD Qa a0.2.1 ∧ wfD Qa a0.2.2.1 ∧ wfD (.list .str) a0.2.2.2.1 ∧ wfD (.list Qm) a0.2.2.2.2 := hw
 have hsz : Ty.size Qr a0 = Ty.size Qa a0.1 + (Ty.size Qa a0.2.1 + (Ty.size Qa a0.2.2.1 + (Ty.size (.list .str) a0.2.2.2.1 + (Ty.size (.list Qm) a0.2.2.2.2)))) := rfl
 refine ⟨0, ?_⟩
 rw [QpJ, hsz]
 rw [JQ hw2.1 (show 0 ≤ a1 by omega) (by omega)]
 simp only [Option.bind_some]
 rcases Int.lt_or_le (a1) ((Ty.size Qa a0.1 : Nat) : Int) with h | h
 ·rw [show Qw (a1) (Ty.size Qa a0.1) = -1 by unfold Qw; rw [if_neg (by omega)]]; rw [decide_eq_true (show (-1 : Int) < 0 by omega)]; simp only [cond_true]; unfold Qw; rw [if_neg (by omega)]
 rw [show Qw (a1) (Ty.size Qa a0.1) = (a1 - ((Ty.size Qa a0.1 : Nat) : Int)) by unfold Qw; rw [if_pos h]]; rw [decide_eq_false (show ¬ (a1 - ((Ty.size Qa a0.1 : Nat) : Int)) < 0 by omega)]; simp only [cond_false]
 have h_0 := h; clear h
 rw [JQ hw2.2.1 (show 0 ≤ (a1 - ((Ty.size Qa a0.1 : Nat) : Int)) by omega) (by omega)]
 simp only [Option.bind_some]
 rcases Int.lt_or_le ((a1 - ((Ty.size Qa a0.1 : Nat) : Int))) ((Ty.size Qa a0.2.1 : Nat) : Int) with h | h
 ·rw [show Qw ((a1 - ((Ty.size Qa a0.1 : Nat) : Int))) (Ty.size Qa a0.2.1) = -1 by unfold Qw; rw [if_neg (by omega)]]; rw [decide_eq_true (show (-1 : Int) < 0 by omega)]; simp only [cond_true]; unfold Qw; rw [if_neg (by omega)]
 rw [show Qw ((a1 - ((Ty.size Qa a0.1 : Nat) : Int))) (Ty.size Qa a0.2.1) = ((a1 - ((Ty.size Qa a0.1 : Nat) : Int)) - ((Ty.size Qa a0.2.1 : Nat) : Int)) by unfold Qw; rw [if_pos h]]; rw [decide_eq_false (show ¬ ((a1 - ((Ty.size Qa a0.1 : Nat) : Int)) - ((Ty.size Qa a0.2.1 : Nat) : Int)) < 0 by omega)]; simp only [cond_false]
 have h_1 := h; clear h
 rw [JQ hw2.2.2.1 (show 0 ≤ ((a1 - ((Ty.size Qa a0.1 : Nat) : Int)) - ((Ty.size Qa a0.2.1 : Nat) : Int)) by omega) (by omega)]
 simp only [Option.bind_some]
 rcases Int.lt_or_le (((a1 - ((Ty.size Qa a0.1 : Nat) : Int)) - ((Ty.size Qa a0.2.1 : Nat) : Int))) ((Ty.size Qa a0.2.2.1 : Nat) : Int) with h | h
 ·rw [show Qw (((a1 - ((Ty.size Qa a0.1 : Nat) : Int)) - ((Ty.size Qa a0.2.1 : Nat) : Int))) (Ty.size Qa a0.2.2.1) = -1 by unfold Qw; rw [if_neg (by omega)]]; rw [decide_eq_true (show (-1 : Int) < 0 by omega)]; simp only [cond_true]; unfold Qw; rw [if_neg (by omega)]
 rw [show Qw (((a1 - ((Ty.size Qa a0.1 : Nat) : Int)) - ((Ty.size Qa a0.2.1 : Nat) : Int))) (Ty.size Qa a0.2.2.1) = (((a1 - ((Ty.size Qa a0.1 : Nat) : Int)) - ((Ty.size Qa a0.2.1 : Nat) : Int)) - ((Ty.size Qa a0.2.2.1 : Nat) : Int)) by unfold Qw; rw [if_pos h]]; rw [decide_eq_false (show ¬ (((a1 - ((Ty.size Qa a0.1 : Nat) : Int)) - ((Ty.size Qa a0.2.1 : Nat) : Int)) - ((Ty.size Qa a0.2.2.1 : Nat) : Int)) < 0 by omega)]; simp only [cond_false]
 have h_2 := h; clear h
 rw [JQ hw2.2.2.2.1 (show 0 ≤ (((a1 - ((Ty.size Qa a0.1 : Nat) : Int)) - ((Ty.size Qa a0.2.1 : Nat) : Int)) - ((Ty.size Qa a0.2.2.1 : Nat) : Int)) by omega) (by omega)]
 simp only [Option.bind_some]
 rcases Int.lt_or_le ((((a1 - ((Ty.size Qa a0.1 : Nat) : Int)) - ((Ty.size Qa a0.2.1 : Nat) : Int)) - ((Ty.size Qa a0.2.2.1 : Nat) : Int))) ((Ty.size (.list .str) a0.2.2.2.1 : Nat) : Int) with h | h
 ·rw [show Qw ((((a1 - ((Ty.size Qa a0.1 : Nat) : Int)) - ((Ty.size Qa a0.2.1 : Nat) : Int)) - ((Ty.size Qa a0.2.2.1 : Nat) : Int))) (Ty.size (.list .str) a0.2.2.2.1) = -1 by unfold Qw; rw [if_neg (by omega)]]; rw [decide_eq_true (show (-1 : Int) < 0 by omega)]; simp only [cond_true]; unfold Qw; rw [if_neg (by omega)]
 rw [show Qw ((((a1 - ((Ty.size Qa a0.1 : Nat) : Int)) - ((Ty.size Qa a0.2.1 : Nat) : Int)) - ((Ty.size Qa a0.2.2.1 : Nat) : Int))) (Ty.size (.list .str) a0.2.2.2.1) = ((((a1 - ((Ty.size Qa a0.1 : Nat) : Int)) - ((Ty.size Qa a0.2.1 : Nat) : Int)) - ((Ty.size Qa a0.2.2.1 : Nat) : Int)) - ((Ty.size (.list .str) a0.2.2.2.1 : Nat) : Int)) by unfold Qw; rw [if_pos h]]; rw [decide_eq_false (show ¬ ((((a1 - ((Ty.size Qa a0.1 : Nat) : Int)) - ((Ty.size Qa a0.2.1 : Nat) : Int)) - ((Ty.size Qa a0.2.2.1 : Nat) : Int)) - ((Ty.size (.list .str) a0.2.2.2.1 : Nat) : Int)) < 0 by omega)]; simp only [cond_false]
 have h_3 := h; clear h
 rw [JQ hw2.2.2.2.2 (show 0 ≤ ((((a1 - ((Ty.size Qa a0.1 : Nat) : Int)) - ((Ty.size Qa a0.2.1 : Nat) : Int)) - ((Ty.size Qa a0.2.2.1 : Nat) : Int)) - ((Ty.size (.list .str) a0.2.2.2.1 : Nat) : Int)) by omega) (by omega)]
 simp only [Option.bind_some]
 rcases Int.lt_or_le (((((a1 - ((Ty.size Qa a0.1 : Nat) : Int)) - ((Ty.size Qa a0.2.1 : Nat) : Int)) - ((Ty.size Qa a0.2.2.1 : Nat) : Int)) - ((Ty.size (.list .str) a0.2.2.2.1 : Nat) : Int))) ((Ty.size (.list Qm) a0.2.2.2.2 : Nat) : Int) with h | h
 ·rw [show Qw (((((a1 - ((Ty.size Qa a0.1 : Nat) : Int)) - ((Ty.size Qa a0.2.1 : Nat) : Int)) - ((Ty.size Qa a0.2.2.1 : Nat) : Int)) - ((Ty.size (.list .str) a0.2.2.2.1 : Nat) : Int))) (Ty.size (.list Qm) a0.2.2.2.2) = -1 by unfold Qw; rw [if_neg (by omega)]]; rw [decide_eq_true (show (-1 : Int) < 0 by omega)]; simp only [cond_true]; unfold Qw; rw [if_neg (by omega)]
 rw [show Qw (((((a1 - ((Ty.size Qa a0.1 : Nat) : Int)) - ((Ty.size Qa a0.2.1 : Nat) : Int)) - ((Ty.size Qa a0.2.2.1 : Nat) : Int)) - ((Ty.size (.list .str) a0.2.2.2.1 : Nat) : Int))) (Ty.size (.list Qm) a0.2.2.2.2) = (((((a1 - ((Ty.size Qa a0.1 : Nat) : Int)) - ((Ty.size Qa a0.2.1 : Nat) : Int)) - ((Ty.size Qa a0.2.2.1 : Nat) : Int)) - ((Ty.size (.list .str) a0.2.2.2.1 : Nat) : Int)) - ((Ty.size (.list Qm) a0.2.2.2.2 : Nat) : Int)) by unfold Qw; rw [if_pos h]]; rw [decide_eq_false (show ¬ (((((a1 - ((Ty.size Qa a0.1 : Nat) : Int)) - ((Ty.size Qa a0.2.1 : Nat) : Int)) - ((Ty.size Qa a0.2.2.1 : Nat) : Int)) - ((Ty.size (.list .str) a0.2.2.2.1 : Nat) : Int)) - ((Ty.size (.list Qm) a0.2.2.2.2 : Nat) : Int)) < 0 by omega)]; simp only [cond_false]
 have h_4 := h; clear h
 unfold Qw; rw [if_pos (by omega)]; congr 1 <;> omega
noncomputable def QcD : Ctr := ⟨64, [Qs, I64], [I64], fun x => szC Qs x.1 x.2.1⟩
def Qqc : List (List Nat × Ann) := []
def Qoo : List (List Nat × Nat) := []
noncomputable def Qf6 : List Ctr := [Y7]
noncomputable def Qqd (n : Nat) (a0 : ZE) (a1 : Int) : Option Int := run Tryz.prog Qqc Qoo (Qn Qf6) Tryz.f64 (Tryz.f64.body.getD .skip) (Qp [I64]) n (Qu [Qs, I64] (a0, a1, ()))
theorem Qwi (n : Nat) (a0 : ZE) (a1 : Int) : Qqd n a0 a1 =
  Option.bind (szC Qa a0.2.1 a1) fun (y1 : Int) =>
  bif decide (y1 < 0) then
   some (-1)
  else
   bif decide (IntKind.wrap .i64 (y1 - (a0.2.2.length : Int)) < 0) then
    some (-1)
   else
    some (IntKind.wrap .i64 (y1 - (a0.2.2.length : Int))) := by kernel_rfl
theorem QzR (hcs : ∀ x ∈ Qf6, Qg Tryz.prog x) (h : ∀ (a0 : ZE) (a1 : Int) y, szC Qs a0 a1 = some y → ∃ n, Qqd n a0 a1 = some y) : Qg Tryz.prog QcD := by
 refine Qh (c := QcD) (by kernel_rfl) (by kernel_rfl : Tryz.prog.funcs[64]? = some Tryz.f64) (code := Tryz.f64.body.getD .skip) (by kernel_rfl) (by kernel_rfl) (by kernel_rfl) (A := Qqc) (I := Qoo) hcs ?_
 rintro ⟨a0, a1, u⟩ y hy
 exact h a0 a1 y hy
theorem QxZ : ∀ x ∈ Qf6, Qg Tryz.prog x := (Qb Xl Qi)
theorem QzS : Qg Tryz.prog QcD := QzR QxZ fun a0 a1 y hy => by
 obtain ⟨hw, h0, h1, rfl⟩ := QeM hy
 have hw2 : wfD I64 a0.1 ∧ wfD Qa a0.2.1 ∧ wfD .str a0.2.2 := hw
 have hsz : Ty.size Qs a0 = Ty.size I64 a0.1 + (Ty.size Qa a0.2.1 + (Ty.size .str a0.2.2)) := rfl
 have z0 : Ty.size I64 a0.1 = 0 := rfl
 have z2 : Ty.size .str a0.2.2 = a0.2.2.length := rfl
 refine ⟨0, ?_⟩
 rw [Qwi, hsz]
 rw [JQ hw2.2.1 (show 0 ≤ a1 by omega) (by omega)]
 simp only [Option.bind_some]
 rcases Int.lt_or_le (a1) ((Ty.size Qa a0.2.1 : Nat) : Int) with h | h
 ·rw [show Qw (a1) (Ty.size Qa a0.2.1) = -1 by unfold Qw; rw [if_neg (by omega)]]; rw [decide_eq_true (show (-1 : Int) < 0 by omega)]; simp only [cond_true]; unfold Qw; rw [if_neg (by omega)]
 rw [show Qw (a1) (Ty.size Qa a0.2.1) = (a1 - ((Ty.size Qa a0.2.1 : Nat) : Int)) by unfold Qw; rw [if_pos h]]; rw [decide_eq_false (show ¬ (a1 - ((Ty.size Qa a0.2.1 : Nat) : Int)) < 0 by omega)]; simp only [cond_false]
 have h_1 := h; clear h
 have hn2 : a0.2.2.length ≤ maxLen := by have := (hw2.2.2).1; unfold maxLen; omega
 rw [Qbm (left := (a1 - ((Ty.size Qa a0.2.1 : Nat) : Int))) (n := a0.2.2.length) (by omega) (by omega) hn2]
 rcases Int.lt_or_le ((a1 - ((Ty.size Qa a0.2.1 : Nat) : Int))) (a0.2.2.length : Int) with h | h
 ·rw [decide_eq_true (show ((a1 - ((Ty.size Qa a0.2.1 : Nat) : Int)) - (a0.2.2.length : Int)) < 0 by omega)]; simp only [cond_true]; unfold Qw; rw [if_neg (by omega)]
 rw [decide_eq_false (show ¬ ((a1 - ((Ty.size Qa a0.2.1 : Nat) : Int)) - (a0.2.2.length : Int)) < 0 by omega)]; simp only [cond_false]
 have h_2 := h; clear h
 unfold Qw; rw [if_pos (by omega)]; congr 1 <;> omega
noncomputable def QcE : Ctr := ⟨95, [Ql, I64], [I64], fun x => szC Ql x.1 x.2.1⟩
def Qqe : List (List Nat × Ann) := []
def Qop : List (List Nat × Nat) := []
noncomputable def Qf7 : List Ctr := [Y7]
noncomputable def Qqf (n : Nat) (a0 : Qo) (a1 : Int) : Option Int := run Tryz.prog Qqe Qop (Qn Qf7) Tryz.f95 (Tryz.f95.body.getD .skip) (Qp [I64]) n (Qu [Ql, I64] (a0, a1, ()))
theorem Qwj (n : Nat) (a0 : Qo) (a1 : Int) : Qqf n a0 a1 =
  bif decide (IntKind.wrap .i64 (a1 - (a0.2.1.length : Int)) < 0) then
   some (-1)
  else
   Option.bind (szC Qa a0.2.2.1 (IntKind.wrap .i64 (a1 - (a0.2.1.length : Int)))) fun (y1 : Int) =>
   bif decide (y1 < 0) then
    some (-1)
   else
    some y1 := by kernel_rfl
theorem QzT (hcs : ∀ x ∈ Qf7, Qg Tryz.prog x) (h : ∀ (a0 : Qo) (a1 : Int) y, szC Ql a0 a1 = some y → ∃ n, Qqf n a0 a1 = some y) : Qg Tryz.prog QcE := by
 refine Qh (c := QcE) (by kernel_rfl) (by kernel_rfl : Tryz.prog.funcs[95]? = some Tryz.f95) (code := Tryz.f95.body.getD .skip) (by kernel_rfl) (by kernel_rfl) (by kernel_rfl) (A := Qqe) (I := Qop) hcs ?_
 rintro ⟨a0, a1, u⟩ y hy
 exact h a0 a1 y hy
theorem Qx0 : ∀ x ∈ Qf7, Qg Tryz.prog x := (Qb Xl Qi)
theorem QzU : Qg Tryz.prog QcE := QzT Qx0 fun a0 a1 y hy => by
 obtain ⟨hw, h0, h1, rfl⟩ := QeM hy
 have hw2 : wfD I64 a0.1 ∧ wfD .str a0.2.1 ∧ wfD Qa a0.2.2.1 ∧ wfD I64 a0.2.2.2 := hw
 have hsz : Ty.size Ql a0 = Ty.size I64 a0.1 + (Ty.size .str a0.2.1 + (Ty.size Qa a0.2.2.1 + (Ty.size I64 a0.2.2.2))) := rfl
 have z0 : Ty.size I64 a0.1 = 0 := rfl
 have z3 : Ty.size I64 a0.2.2.2 = 0 := rfl
 have z1 : Ty.size .str a0.2.1 = a0.2.1.length := rfl
 refine ⟨0, ?_⟩
 rw [Qwj, hsz]
 have hn1 : a0.2.1.length ≤ maxLen := by have := (hw2.2.1).1; unfold maxLen; omega
 rw [Qbm (left := a1) (n := a0.2.1.length) (by omega) (by omega) hn1]
 rcases Int.lt_or_le (a1) (a0.2.1.length : Int) with h | h
 ·rw [decide_eq_true (show (a1 - (a0.2.1.length : Int)) < 0 by omega)]; simp only [cond_true]; unfold Qw; rw [if_neg (by omega)]
 rw [decide_eq_false (show ¬ (a1 - (a0.2.1.length : Int)) < 0 by omega)]; simp only [cond_false]
 have h_1 := h; clear h
 rw [JQ hw2.2.2.1 (show 0 ≤ (a1 - (a0.2.1.length : Int)) by omega) (by omega)]
 simp only [Option.bind_some]
 rcases Int.lt_or_le ((a1 - (a0.2.1.length : Int))) ((Ty.size Qa a0.2.2.1 : Nat) : Int) with h | h
 ·rw [show Qw ((a1 - (a0.2.1.length : Int))) (Ty.size Qa a0.2.2.1) = -1 by unfold Qw; rw [if_neg (by omega)]]; rw [decide_eq_true (show (-1 : Int) < 0 by omega)]; simp only [cond_true]; unfold Qw; rw [if_neg (by omega)]
 rw [show Qw ((a1 - (a0.2.1.length : Int))) (Ty.size Qa a0.2.2.1) = ((a1 - (a0.2.1.length : Int)) - ((Ty.size Qa a0.2.2.1 : Nat) : Int)) by unfold Qw; rw [if_pos h]]; rw [decide_eq_false (show ¬ ((a1 - (a0.2.1.length : Int)) - ((Ty.size Qa a0.2.2.1 : Nat) : Int)) < 0 by omega)]; simp only [cond_false]
 have h_2 := h; clear h
 unfold Qw; rw [if_pos (by omega)]; congr 1 <;> omega
noncomputable def QaH : Ctr := ⟨65, [(.list Ql), I64], [I64], fun x => szC (.list Ql) x.1 x.2.1⟩
def Qf8 : List (List Nat × Ann) := [([0, 5], [.keep 0 0, .keep 0 1, .keep 0 5])]
def QdX : List (List Nat × Nat) := []
noncomputable def WA : List Ctr := [QcE]
noncomputable def Qoq (n : Nat) (a0 : (List Qo)) (a1 : Int) : Option Int := run Tryz.prog Qf8 QdX (Qn WA) Tryz.f65 (Tryz.f65.body.getD .skip) (Qp [I64]) n (Qu [(.list Ql), I64] (a0, a1, ()))
noncomputable abbrev Ea (n : Nat) (x1 : (List Qo)) (x2 : Int) (x3 : Int) : Option Int := lam Tryz.prog Qf8 QdX (Qn WA) Tryz.f65 (Tryz.f65.body.getD .skip) (Qp [I64]) n [0, 5] [.d (.list Ql) x1, .d I64 x2, .d I64 x3]
theorem Quc (n : Nat) (a0 : (List Qo)) (a1 : Int) : Qoq n a0 a1 =
  bif decide (IntKind.wrap .i64 (a1 - (a0.length : Int)) < 0) then
   some (-1)
  else
   Ea n a0 (IntKind.wrap .i64 (a1 - (a0.length : Int))) 0 := by kernel_rfl
theorem Qmx (n : Nat) (x1 : (List Qo)) (x2 : Int) (x3 : Int) : Ea (n + 1) x1 x2 x3 =
  bif decide (x3 < (x1.length : Int)) then
   bif inB x3 x1.length then
    Option.bind (szC Ql (rd x1 x3 (Ty.dflt Ql)) x2) fun (y1 : Int) =>
    bif decide (y1 < 0) then
     some (-1)
    else
     Ea n x1 y1 (IntKind.wrap .i64 (x3 + 1))
   else none
  else
   some x2 := by kernel_rfl
theorem Qx1 (hcs : ∀ x ∈ WA, Qg Tryz.prog x) (h : ∀ (a0 : (List Qo)) (a1 : Int) y, szC (.list Ql) a0 a1 = some y → ∃ n, Qoq n a0 a1 = some y) : Qg Tryz.prog QaH := by
 refine Qh (c := QaH) (by kernel_rfl) (by kernel_rfl : Tryz.prog.funcs[65]? = some Tryz.f65) (code := Tryz.f65.body.getD .skip) (by kernel_rfl) (by kernel_rfl) (by kernel_rfl) (A := Qf8) (I := QdX) hcs ?_
 rintro ⟨a0, a1, u⟩ y hy
 exact h a0 a1 y hy
theorem Qwk : ∀ x ∈ WA, Qg Tryz.prog x := (Qb QzU Qi)
theorem Qx2 : Qg Tryz.prog QaH := Qx1 Qwk fun a0 a1 y hy => by
 obtain ⟨n, hn⟩ := QmY (fun n xs s i => Qmx n xs s i) hy
 exact ⟨n, (Quc n a0 a1).trans hn⟩
noncomputable def WB : Ctr := ⟨27, [Qc, I64], [I64], fun x => szC Qc x.1 x.2.1⟩
def QlQ : List (List Nat × Ann) := []
def Qjj : List (List Nat × Nat) := []
noncomputable def Qcj : List Ctr := [QcD, QaH]
noncomputable def QlR (n : Nat) (a0 : Qd) (a1 : Int) : Option Int := run Tryz.prog QlQ Qjj (Qn Qcj) Tryz.f27 (Tryz.f27.body.getD .skip) (Qp [I64]) n (Qu [Qc, I64] (a0, a1, ()))
theorem Qr2 (n : Nat) (a0 : Qd) (a1 : Int) : QlR n a0 a1 =
  bif decide (IntKind.wrap .i64 (a1 - (a0.1.length : Int)) < 0) then
   some (-1)
  else
   Option.bind (szC Qs a0.2.2.1 (IntKind.wrap .i64 (a1 - (a0.1.length : Int)))) fun (y1 : Int) =>
   bif decide (y1 < 0) then
    some (-1)
   else
    Option.bind (szC Qs a0.2.2.2.1 y1) fun (y2 : Int) =>
    bif decide (y2 < 0) then
     some (-1)
    else
     Option.bind (szC Qs a0.2.2.2.2.1 y2) fun (y3 : Int) =>
     bif decide (y3 < 0) then
      some (-1)
     else
      Option.bind (szC (.list Ql) a0.2.2.2.2.2 y3) fun (y4 : Int) =>
      bif decide (y4 < 0) then
       some (-1)
      else
       some y4 := by kernel_rfl
theorem Qwl (hcs : ∀ x ∈ Qcj, Qg Tryz.prog x) (h : ∀ (a0 : Qd) (a1 : Int) y, szC Qc a0 a1 = some y → ∃ n, QlR n a0 a1 = some y) : Qg Tryz.prog WB := by
 refine Qh (c := WB) (by kernel_rfl) (by kernel_rfl : Tryz.prog.funcs[27]? = some Tryz.f27) (code := Tryz.f27.body.getD .skip) (by kernel_rfl) (by kernel_rfl) (by kernel_rfl) (A := QlQ) (I := Qjj) hcs ?_
 rintro ⟨a0, a1, u⟩ y hy
 exact h a0 a1 y hy
theorem Qud : ∀ x ∈ Qcj, Qg Tryz.prog x := (Qb QzS (Qb Qx2 Qi))
theorem Qwm : Qg Tryz.prog WB := Qwl Qud fun a0 a1 y hy => by
 obtain ⟨hw, h0, h1, rfl⟩ := QeM hy
 have hw2 : wfD .str a0.1 ∧ wfD .bool a0.2.1 ∧ wfD Qs a0.2.2.1 ∧ wfD Qs a0.2.2.2.1 ∧ wfD Qs a0.2.2.2.2.1 ∧ wfD (.list Ql) a0.2.2.2.2.2 := hw
 have hsz : Ty.size Qc a0 = Ty.size .str a0.1 + (Ty.size .bool a0.2.1 + (Ty.size Qs a0.2.2.1 + (Ty.size Qs a0.2.2.2.1 + (Ty.size Qs a0.2.2.2.2.1 + (Ty.size (.list Ql) a0.2.2.2.2.2))))) := rfl
 have z1 : Ty.size .bool a0.2.1 = 0 := rfl
 have z0 : Ty.size .str a0.1 = a0.1.length := rfl
 refine ⟨0, ?_⟩
 rw [Qr2, hsz]
 have hn0 : a0.1.length ≤ maxLen := by have := (hw2.1).1; unfold maxLen; omega
 rw [Qbm (left := a1) (n := a0.1.length) (by omega) (by omega) hn0]
 rcases Int.lt_or_le (a1) (a0.1.length : Int) with h | h
 ·rw [decide_eq_true (show (a1 - (a0.1.length : Int)) < 0 by omega)]; simp only [cond_true]; unfold Qw; rw [if_neg (by omega)]
 rw [decide_eq_false (show ¬ (a1 - (a0.1.length : Int)) < 0 by omega)]; simp only [cond_false]
 have h_0 := h; clear h
 rw [JQ hw2.2.2.1 (show 0 ≤ (a1 - (a0.1.length : Int)) by omega) (by omega)]
 simp only [Option.bind_some]
 rcases Int.lt_or_le ((a1 - (a0.1.length : Int))) ((Ty.size Qs a0.2.2.1 : Nat) : Int) with h | h
 ·rw [show Qw ((a1 - (a0.1.length : Int))) (Ty.size Qs a0.2.2.1) = -1 by unfold Qw; rw [if_neg (by omega)]]; rw [decide_eq_true (show (-1 : Int) < 0 by omega)]; simp only [cond_true]; unfold Qw; rw [if_neg (by omega)]
 rw [show Qw ((a1 - (a0.1.length : Int))) (Ty.size Qs a0.2.2.1) = ((a1 - (a0.1.length : Int)) - ((Ty.size Qs a0.2.2.1 : Nat) : Int)) by unfold Qw; rw [if_pos h]]; rw [decide_eq_false (show ¬ ((a1 - (a0.1.length : Int)) - ((Ty.size Qs a0.2.2.1 : Nat) : Int)) < 0 by omega)]; simp only [cond_false]
 have h_2 := h; clear h
 rw [JQ hw2.2.2.2.1 (show 0 ≤ ((a1 - (a0.1.length : Int)) - ((Ty.size Qs a0.2.2.1 : Nat) : Int)) by omega) (by omega)]
 simp only [Option.bind_some]
 rcases Int.lt_or_le (((a1 - (a0.1.length : Int)) - ((Ty.size Qs a0.2.2.1 : Nat) : Int))) ((Ty.size Qs a0.2.2.2.1 : Nat) : Int) with h | h
 ·rw [show Qw (((a1 - (a0.1.length : Int)) - ((Ty.size Qs a0.2.2.1 : Nat) : Int))) (Ty.size Qs a0.2.2.2.1) = -1 by unfold Qw; rw [if_neg (by omega)]]; rw [decide_eq_true (show (-1 : Int) < 0 by omega)]; simp only [cond_true]; unfold Qw; rw [if_neg (by omega)]
 rw [show Qw (((a1 - (a0.1.length : Int)) - ((Ty.size Qs a0.2.2.1 : Nat) : Int))) (Ty.size Qs a0.2.2.2.1) = (((a1 - (a0.1.length : Int)) - ((Ty.size Qs a0.2.2.1 : Nat) : Int)) - ((Ty.size Qs a0.2.2.2.1 : Nat) : Int)) by unfold Qw; rw [if_pos h]]; rw [decide_eq_false (show ¬ (((a1 - (a0.1.length : Int)) - ((Ty.size Qs a0.2.2.1 : Nat) : Int)) - ((Ty.size Qs a0.2.2.2.1 : Nat) : Int)) < 0 by omega)]; simp only [cond_false]
 have h_3 := h; clear h
 rw [JQ hw2.2.2.2.2.1 (show 0 ≤ (((a1 - (a0.1.length : Int)) - ((Ty.size Qs a0.2.2.1 : Nat) : Int)) - ((Ty.size Qs a0.2.2.2.1 : Nat) : Int)) by omega) (by omega)]
 simp only [Option.bind_some]
 rcases Int.lt_or_le ((((a1 - (a0.1.length : Int)) - ((Ty.size Qs a0.2.2.1 : Nat) : Int)) - ((Ty.size Qs a0.2.2.2.1 : Nat) : Int))) ((Ty.size Qs a0.2.2.2.2.1 : Nat) : Int) with h | h
 ·rw [show Qw ((((a1 - (a0.1.length : Int)) - ((Ty.size Qs a0.2.2.1 : Nat) : Int)) - ((Ty.size Qs a0.2.2.2.1 : Nat) : Int))) (Ty.size Qs a0.2.2.2.2.1) = -1 by unfold Qw; rw [if_neg (by omega)]]; rw [decide_eq_true (show (-1 : Int) < 0 by omega)]; simp only [cond_true]; unfold Qw; rw [if_neg (by omega)]
 rw [show Qw ((((a1 - (a0.1.length : Int)) - ((Ty.size Qs a0.2.2.1 : Nat) : Int)) - ((Ty.size Qs a0.2.2.2.1 : Nat) : Int))) (Ty.size Qs a0.2.2.2.2.1) = ((((a1 - (a0.1.length : Int)) - ((Ty.size Qs a0.2.2.1 : Nat) : Int)) - ((Ty.size Qs a0.2.2.2.1 : Nat) : Int)) - ((Ty.size Qs a0.2.2.2.2.1 : Nat) : Int)) by unfold Qw; rw [if_pos h]]; rw [decide_eq_false (show ¬ ((((a1 - (a0.1.length : Int)) - ((Ty.size Qs a0.2.2.1 : Nat) : Int)) - ((Ty.size Qs a0.2.2.2.1 : Nat) : Int)) - ((Ty.size Qs a0.2.2.2.2.1 : Nat) : Int)) < 0 by omega)]; simp only [cond_false]
 have h_4 := h; clear h
 rw [JQ hw2.2.2.2.2.2 (show 0 ≤ ((((a1 - (a0.1.length : Int)) - ((Ty.size Qs a0.2.2.1 : Nat) : Int)) - ((Ty.size Qs a0.2.2.2.1 : Nat) : Int)) - ((Ty.size Qs a0.2.2.2.2.1 : Nat) : Int)) by omega) (by omega)]
 simp only [Option.bind_some]
 rcases Int.lt_or_le (((((a1 - (a0.1.length : Int)) - ((Ty.size Qs a0.2.2.1 : Nat) : Int)) - ((Ty.size Qs a0.2.2.2.1 : Nat) : Int)) - ((Ty.size Qs a0.2.2.2.2.1 : Nat) : Int))) ((Ty.size (.list Ql) a0.2.2.2.2.2 : Nat) : Int) with h | h
 ·rw [show Qw (((((a1 - (a0.1.length : Int)) - ((Ty.size Qs a0.2.2.1 : Nat) : Int)) - ((Ty.size Qs a0.2.2.2.1 : Nat) : Int)) - ((Ty.size Qs a0.2.2.2.2.1 : Nat) : Int))) (Ty.size (.list Ql) a0.2.2.2.2.2) = -1 by unfold Qw; rw [if_neg (by omega)]]; rw [decide_eq_true (show (-1 : Int) < 0 by omega)]; simp only [cond_true]; unfold Qw; rw [if_neg (by omega)]
 rw [show Qw (((((a1 - (a0.1.length : Int)) - ((Ty.size Qs a0.2.2.1 : Nat) : Int)) - ((Ty.size Qs a0.2.2.2.1 : Nat) : Int)) - ((Ty.size Qs a0.2.2.2.2.1 : Nat) : Int))) (Ty.size (.list Ql) a0.2.2.2.2.2) = (((((a1 - (a0.1.length : Int)) - ((Ty.size Qs a0.2.2.1 : Nat) : Int)) - ((Ty.size Qs a0.2.2.2.1 : Nat) : Int)) - ((Ty.size Qs a0.2.2.2.2.1 : Nat) : Int)) - ((Ty.size (.list Ql) a0.2.2.2.2.2 : Nat) : Int)) by unfold Qw; rw [if_pos h]]; rw [decide_eq_false (show ¬ (((((a1 - (a0.1.length : Int)) - ((Ty.size Qs a0.2.2.1 : Nat) : Int)) - ((Ty.size Qs a0.2.2.2.1 : Nat) : Int)) - ((Ty.size Qs a0.2.2.2.2.1 : Nat) : Int)) - ((Ty.size (.list Ql) a0.2.2.2.2.2 : Nat) : Int)) < 0 by omega)]; simp only [cond_false]
 have h_5 := h; clear h
 unfold Qw; rw [if_pos (by omega)]; congr 1 <;> omega
noncomputable def UA : Ctr := ⟨7, [(.list Qc), I64], [I64], fun x => szC (.list Qc) x.1 x.2.1⟩
def Qck : List (List Nat × Ann) := [([0, 5], [.keep 0 0, .keep 0 1, .keep 0 5])]
def QaI : List (List Nat × Nat) := []
noncomputable def Hy : List Ctr := [WB]
noncomputable def Qjk (n : Nat) (a0 : (List Qd)) (a1 : Int) : Option Int := run Tryz.prog Qck QaI (Qn Hy) Tryz.f7 (Tryz.f7.body.getD .skip) (Qp [I64]) n (Qu [(.list Qc), I64] (a0, a1, ()))
noncomputable abbrev H5 (n : Nat) (x1 : (List Qd)) (x2 : Int) (x3 : Int) : Option Int := lam Tryz.prog Qck QaI (Qn Hy) Tryz.f7 (Tryz.f7.body.getD .skip) (Qp [I64]) n [0, 5] [.d (.list Qc) x1, .d I64 x2, .d I64 x3]
theorem QpK (n : Nat) (a0 : (List Qd)) (a1 : Int) : Qjk n a0 a1 =
  bif decide (IntKind.wrap .i64 (a1 - (a0.length : Int)) < 0) then
   some (-1)
  else
   H5 n a0 (IntKind.wrap .i64 (a1 - (a0.length : Int))) 0 := by kernel_rfl
theorem Qjl (n : Nat) (x1 : (List Qd)) (x2 : Int) (x3 : Int) : H5 (n + 1) x1 x2 x3 =
  bif decide (x3 < (x1.length : Int)) then
   bif inB x3 x1.length then
    Option.bind (szC Qc (rd x1 x3 (Ty.dflt Qc)) x2) fun (y1 : Int) =>
    bif decide (y1 < 0) then
     some (-1)
    else
     H5 n x1 y1 (IntKind.wrap .i64 (x3 + 1))
   else none
  else
   some x2 := by kernel_rfl
theorem Que (hcs : ∀ x ∈ Hy, Qg Tryz.prog x) (h : ∀ (a0 : (List Qd)) (a1 : Int) y, szC (.list Qc) a0 a1 = some y → ∃ n, Qjk n a0 a1 = some y) : Qg Tryz.prog UA := by
 refine Qh (c := UA) (by kernel_rfl) (by kernel_rfl : Tryz.prog.funcs[7]? = some Tryz.f7) (code := Tryz.f7.body.getD .skip) (by kernel_rfl) (by kernel_rfl) (by kernel_rfl) (A := Qck) (I := QaI) hcs ?_
 rintro ⟨a0, a1, u⟩ y hy
 exact h a0 a1 y hy
theorem Qr3 : ∀ x ∈ Hy, Qg Tryz.prog x := (Qb Qwm Qi)
theorem Quf : Qg Tryz.prog UA := Que Qr3 fun a0 a1 y hy => by
 obtain ⟨n, hn⟩ := QmY (fun n xs s i => Qjl n xs s i) hy
 exact ⟨n, (QpK n a0 a1).trans hn⟩
noncomputable def Y8 : Ctr := ⟨45, [Qa, Qa], [.bool], fun x => eqC Qa x.1 x.2.1⟩
def Qqg : List (List Nat × Ann) := []
def Qor : List (List Nat × Nat) := []
noncomputable def Qf9 : List Ctr := []
noncomputable def Qqh (n : Nat) (a0 : Qe) (a1 : Qe) : Option Bool := run Tryz.prog Qqg Qor (Qn Qf9) Tryz.f45 (Tryz.f45.body.getD .skip) (Qp [.bool]) n (Qu [Qa, Qa] (a0, a1, ()))
theorem Qwn (n : Nat) (a0 : Qe) (a1 : Qe) : Qqh n a0 a1 =
  bif !decide (a0.1 = a1.1) then
   some false
  else
   bif !decide (a0.2.1 = a1.2.1) then
    some false
   else
    bif !decide (a0.2.2.1 = a1.2.2.1) then
     some false
    else
     bif !decide (a0.2.2.2 = a1.2.2.2) then
      some false
     else
      some true := by kernel_rfl
theorem QzV (hcs : ∀ x ∈ Qf9, Qg Tryz.prog x) (h : ∀ (a0 : Qe) (a1 : Qe) y, eqC Qa a0 a1 = some y → ∃ n, Qqh n a0 a1 = some y) : Qg Tryz.prog Y8 := by
 refine Qh (c := Y8) (by kernel_rfl) (by kernel_rfl : Tryz.prog.funcs[45]? = some Tryz.f45) (code := Tryz.f45.body.getD .skip) (by kernel_rfl) (by kernel_rfl) (by kernel_rfl) (A := Qqg) (I := Qor) hcs ?_
 rintro ⟨a0, a1, u⟩ y hy
 exact h a0 a1 y hy
theorem Qx3 : ∀ x ∈ Qf9, Qg Tryz.prog x := Qi
theorem Xm : Qg Tryz.prog Y8 := QzV Qx3 fun a0 a1 y hy => by
 obtain ⟨rfl, hw, rfl⟩ := QgA hy
 have hw2 : wfD I64 a0.1 ∧ wfD I64 a0.2.1 ∧ wfD .str a0.2.2.1 ∧ wfD .str a0.2.2.2 := hw
 refine ⟨0, ?_⟩
 rw [Qwn]
 simp []
noncomputable def QcF : Ctr := ⟨90, [Qs, Qs], [.bool], fun x => eqC Qs x.1 x.2.1⟩
def Qqi : List (List Nat × Ann) := []
def Qos : List (List Nat × Nat) := []
noncomputable def Qga : List Ctr := [Y8]
noncomputable def Qqj (n : Nat) (a0 : ZE) (a1 : ZE) : Option Bool := run Tryz.prog Qqi Qos (Qn Qga) Tryz.f90 (Tryz.f90.body.getD .skip) (Qp [.bool]) n (Qu [Qs, Qs] (a0, a1, ()))
theorem Qwo (n : Nat) (a0 : ZE) (a1 : ZE) : Qqj n a0 a1 =
  bif !decide (a0.1 = a1.1) then
   some false
  else
   Option.bind (eqC Qa a0.2.1 a1.2.1) fun (y1 : Bool) =>
   bif !(y1) then
    some false
   else
    bif !decide (a0.2.2 = a1.2.2) then
     some false
    else
     some true := by kernel_rfl
theorem QzW (hcs : ∀ x ∈ Qga, Qg Tryz.prog x) (h : ∀ (a0 : ZE) (a1 : ZE) y, eqC Qs a0 a1 = some y → ∃ n, Qqj n a0 a1 = some y) : Qg Tryz.prog QcF := by
 refine Qh (c := QcF) (by kernel_rfl) (by kernel_rfl : Tryz.prog.funcs[90]? = some Tryz.f90) (code := Tryz.f90.body.getD .skip) (by kernel_rfl) (by kernel_rfl) (by kernel_rfl) (A := Qqi) (I := Qos) hcs ?_
 rintro ⟨a0, a1, u⟩ y hy
 exact h a0 a1 y hy
theorem Qx4 : ∀ x ∈ Qga, Qg Tryz.prog x := (Qb Xm Qi)
theorem QzX : Qg Tryz.prog QcF := QzW Qx4 fun a0 a1 y hy => by
 obtain ⟨rfl, hw, rfl⟩ := QgA hy
 have hw2 : wfD I64 a0.1 ∧ wfD Qa a0.2.1 ∧ wfD .str a0.2.2 := hw
 refine ⟨0, ?_⟩
 rw [Qwo]
 simp [ZJ hw2.2.1]
noncomputable def QcG : Ctr := ⟨119, [Ql, Ql], [.bool], fun x => eqC Ql x.1 x.2.1⟩
def Qqk : List (List Nat × Ann) := []
def Qot : List (List Nat × Nat) := []
noncomputable def Qgb : List Ctr := [Y8]
noncomputable def Qql (n : Nat) (a0 : Qo) (a1 : Qo) : Option Bool := run Tryz.prog Qqk Qot (Qn Qgb) Tryz.f119 (Tryz.f119.body.getD .skip) (Qp [.bool]) n (Qu [Ql, Ql] (a0, a1, ()))
theorem Qwp (n : Nat) (a0 : Qo) (a1 : Qo) : Qql n a0 a1 =
  bif !decide (a0.1 = a1.1) then
   some false
  else
   bif !decide (a0.2.1 = a1.2.1) then
    some false
   else
    Option.bind (eqC Qa a0.2.2.1 a1.2.2.1) fun (y1 : Bool) =>
    bif !(y1) then
     some false
    else
     bif !decide (a0.2.2.2 = a1.2.2.2) then
      some false
     else
      some true := by kernel_rfl
theorem QzY (hcs : ∀ x ∈ Qgb, Qg Tryz.prog x) (h : ∀ (a0 : Qo) (a1 : Qo) y, eqC Ql a0 a1 = some y → ∃ n, Qql n a0 a1 = some y) : Qg Tryz.prog QcG := by
 refine Qh (c := QcG) (by kernel_rfl) (by kernel_rfl : Tryz.prog.funcs[119]? = some Tryz.f119) (code := Tryz.f119.body.getD .skip) (by kernel_rfl) (by kernel_rfl) (by kernel_rfl) (A := Qqk) (I := Qot) hcs ?_
 rintro ⟨a0, a1, u⟩ y hy
 exact h a0 a1 y hy
theorem Qx5 : ∀ x ∈ Qgb, Qg Tryz.prog x := (Qb Xm Qi)
theorem QzZ : Qg Tryz.prog QcG := QzY Qx5 fun a0 a1 y hy => by
 obtain ⟨rfl, hw, rfl⟩ := QgA hy
 have hw2 : wfD I64 a0.1 ∧ wfD .str a0.2.1 ∧ wfD Qa a0.2.2.1 ∧ wfD I64 a0.2.2.2 := hw
 refine ⟨0, ?_⟩
 rw [Qwp]
 simp [ZJ hw2.2.2.1]
noncomputable def QaJ : Ctr := ⟨91, [(.list Ql), (.list Ql)], [.bool], fun x => eqC (.list Ql) x.1 x.2.1⟩
def Qgc : List (List Nat × Ann) := [([0, 4], [.keep 0 0, .keep 0 1, .keep 0 5])]
def QdY : List (List Nat × Nat) := []
noncomputable def WC : List Ctr := [QcG]
noncomputable def Qou (n : Nat) (a0 : (List Qo)) (a1 : (List Qo)) : Option Bool := run Tryz.prog Qgc QdY (Qn WC) Tryz.f91 (Tryz.f91.body.getD .skip) (Qp [.bool]) n (Qu [(.list Ql), (.list Ql)] (a0, a1, ()))
noncomputable abbrev Eb (n : Nat) (x1 : (List Qo)) (x2 : (List Qo)) (x3 : Int) : Option Bool := lam Tryz.prog Qgc QdY (Qn WC) Tryz.f91 (Tryz.f91.body.getD .skip) (Qp [.bool]) n [0, 4] [.d (.list Ql) x1, .d (.list Ql) x2, .d I64 x3]
theorem Qug (n : Nat) (a0 : (List Qo)) (a1 : (List Qo)) : Qou n a0 a1 =
  bif !decide ((a0.length : Int) = (a1.length : Int)) then
   some false
  else
   Eb n a0 a1 0 := by kernel_rfl
theorem Qmy (n : Nat) (x1 : (List Qo)) (x2 : (List Qo)) (x3 : Int) : Eb (n + 1) x1 x2 x3 =
  bif decide (x3 < (x1.length : Int)) then
   bif inB x3 x1.length then
    bif inB x3 x2.length then
     Option.bind (eqC Ql (rd x1 x3 (Ty.dflt Ql)) (rd x2 x3 (Ty.dflt Ql))) fun (y1 : Bool) =>
     bif !(y1) then
      some false
     else
      Eb n x1 x2 (IntKind.wrap .i64 (x3 + 1))
    else none
   else none
  else
   some true := by kernel_rfl
theorem Qx6 (hcs : ∀ x ∈ WC, Qg Tryz.prog x) (h : ∀ (a0 : (List Qo)) (a1 : (List Qo)) y, eqC (.list Ql) a0 a1 = some y → ∃ n, Qou n a0 a1 = some y) : Qg Tryz.prog QaJ := by
 refine Qh (c := QaJ) (by kernel_rfl) (by kernel_rfl : Tryz.prog.funcs[91]? = some Tryz.f91) (code := Tryz.f91.body.getD .skip) (by kernel_rfl) (by kernel_rfl) (by kernel_rfl) (A := Qgc) (I := QdY) hcs ?_
 rintro ⟨a0, a1, u⟩ y hy
 exact h a0 a1 y hy
theorem Qwq : ∀ x ∈ WC, Qg Tryz.prog x := (Qb QzZ Qi)
theorem Qx7 : Qg Tryz.prog QaJ := Qx6 Qwq fun a0 a1 y hy => by
 obtain ⟨n, hn⟩ := Qvb (t := Ql) (body := fun x y K => Option.bind (eqC Ql x y) fun b => bif !b then some false else K ()) (fun x K h => by simp only [ZJ h, Option.bind_some, Bool.not_true, cond_false]) (fun n xs ys i => Qmy n xs ys i) hy
 exact ⟨n, (Qug n a0 a1).trans hn⟩
noncomputable def WD : Ctr := ⟨48, [Qc, Qc], [.bool], fun x => eqC Qc x.1 x.2.1⟩
def QlS : List (List Nat × Ann) := []
def Qjm : List (List Nat × Nat) := []
noncomputable def Qcl : List Ctr := [QcF, QaJ]
noncomputable def QlT (n : Nat) (a0 : Qd) (a1 : Qd) : Option Bool := run Tryz.prog QlS Qjm (Qn Qcl) Tryz.f48 (Tryz.f48.body.getD .skip) (Qp [.bool]) n (Qu [Qc, Qc] (a0, a1, ()))
theorem Qr4 (n : Nat) (a0 : Qd) (a1 : Qd) : QlT n a0 a1 =
  bif !decide (a0.1 = a1.1) then
   some false
  else
   bif a0.2.1 != a1.2.1 then
    some false
   else
    Option.bind (eqC Qs a0.2.2.1 a1.2.2.1) fun (y1 : Bool) =>
    bif !(y1) then
     some false
    else
     Option.bind (eqC Qs a0.2.2.2.1 a1.2.2.2.1) fun (y2 : Bool) =>
     bif !(y2) then
      some false
     else
      Option.bind (eqC Qs a0.2.2.2.2.1 a1.2.2.2.2.1) fun (y3 : Bool) =>
      bif !(y3) then
       some false
      else
       Option.bind (eqC (.list Ql) a0.2.2.2.2.2 a1.2.2.2.2.2) fun (y4 : Bool) =>
       bif !(y4) then
        some false
       else
        some true := by kernel_rfl
theorem Qwr (hcs : ∀ x ∈ Qcl, Qg Tryz.prog x) (h : ∀ (a0 : Qd) (a1 : Qd) y, eqC Qc a0 a1 = some y → ∃ n, QlT n a0 a1 = some y) : Qg Tryz.prog WD := by
 refine Qh (c := WD) (by kernel_rfl) (by kernel_rfl : Tryz.prog.funcs[48]? = some Tryz.f48) (code := Tryz.f48.body.getD .skip) (by kernel_rfl) (by kernel_rfl) (by kernel_rfl) (A := QlS) (I := Qjm) hcs ?_
 rintro ⟨a0, a1, u⟩ y hy
 exact h a0 a1 y hy
theorem Quh : ∀ x ∈ Qcl, Qg Tryz.prog x := (Qb QzX (Qb Qx7 Qi))
theorem Qws : Qg Tryz.prog WD := Qwr Quh fun a0 a1 y hy => by
 obtain ⟨rfl, hw, rfl⟩ := QgA hy
 have hw2 : wfD .str a0.1 ∧ wfD .bool a0.2.1 ∧ wfD Qs a0.2.2.1 ∧ wfD Qs a0.2.2.2.1 ∧ wfD Qs a0.2.2.2.2.1 ∧ wfD (.list Ql) a0.2.2.2.2.2 := hw
 refine ⟨0, ?_⟩
 rw [Qr4]
 simp [ZJ hw2.2.2.1, ZJ hw2.2.2.2.1, ZJ hw2.2.2.2.2.1, ZJ hw2.2.2.2.2.2]
noncomputable def UB : Ctr := ⟨15, [(.list Qc), (.list Qc)], [.bool], fun x => eqC (.list Qc) x.1 x.2.1⟩
def Qcm : List (List Nat × Ann) := [([0, 4], [.keep 0 0, .keep 0 1, .keep 0 5])]
def QaK : List (List Nat × Nat) := []
noncomputable def Hz : List Ctr := [WD]
noncomputable def Qjn (n : Nat) (a0 : (List Qd)) (a1 : (List Qd)) : Option Bool := run Tryz.prog Qcm QaK (Qn Hz) Tryz.f15 (Tryz.f15.body.getD .skip) (Qp [.bool]) n (Qu [(.list Qc), (.list Qc)] (a0, a1, ()))
noncomputable abbrev H6 (n : Nat) (x1 : (List Qd)) (x2 : (List Qd)) (x3 : Int) : Option Bool := lam Tryz.prog Qcm QaK (Qn Hz) Tryz.f15 (Tryz.f15.body.getD .skip) (Qp [.bool]) n [0, 4] [.d (.list Qc) x1, .d (.list Qc) x2, .d I64 x3]
theorem QpL (n : Nat) (a0 : (List Qd)) (a1 : (List Qd)) : Qjn n a0 a1 =
  bif !decide ((a0.length : Int) = (a1.length : Int)) then
   some false
  else
   H6 n a0 a1 0 := by kernel_rfl
theorem Qjo (n : Nat) (x1 : (List Qd)) (x2 : (List Qd)) (x3 : Int) : H6 (n + 1) x1 x2 x3 =
  bif decide (x3 < (x1.length : Int)) then
   bif inB x3 x1.length then
    bif inB x3 x2.length then
     Option.bind (eqC Qc (rd x1 x3 (Ty.dflt Qc)) (rd x2 x3 (Ty.dflt Qc))) fun (y1 : Bool) =>
     bif !(y1) then
      some false
     else
      H6 n x1 x2 (IntKind.wrap .i64 (x3 + 1))
    else none
   else none
  else
   some true := by kernel_rfl
theorem Qui (hcs : ∀ x ∈ Hz, Qg Tryz.prog x) (h : ∀ (a0 : (List Qd)) (a1 : (List Qd)) y, eqC (.list Qc) a0 a1 = some y → ∃ n, Qjn n a0 a1 = some y) : Qg Tryz.prog UB := by
 refine Qh (c := UB) (by kernel_rfl) (by kernel_rfl : Tryz.prog.funcs[15]? = some Tryz.f15) (code := Tryz.f15.body.getD .skip) (by kernel_rfl) (by kernel_rfl) (by kernel_rfl) (A := Qcm) (I := QaK) hcs ?_
 rintro ⟨a0, a1, u⟩ y hy
 exact h a0 a1 y hy
theorem Qr5 : ∀ x ∈ Hz, Qg Tryz.prog x := (Qb Qws Qi)
theorem Quj : Qg Tryz.prog UB := Qui Qr5 fun a0 a1 y hy => by
 obtain ⟨n, hn⟩ := Qvb (t := Qc) (body := fun x y K => Option.bind (eqC Qc x y) fun b => bif !b then some false else K ()) (fun x K h => by simp only [ZJ h, Option.bind_some, Bool.not_true, cond_false]) (fun n xs ys i => Qjo n xs ys i) hy
 exact ⟨n, (QpL n a0 a1).trans hn⟩
noncomputable def H7 : Ctr := ⟨88, [(.list Qa), (.list Qa)], [.bool], fun x => eqC (.list Qa) x.1 x.2.1⟩
def Qgd : List (List Nat × Ann) := [([0, 4], [.keep 0 0, .keep 0 1, .keep 0 5])]
def QdZ : List (List Nat × Nat) := []
noncomputable def WE : List Ctr := [Y8]
noncomputable def Qov (n : Nat) (a0 : (List Qe)) (a1 : (List Qe)) : Option Bool := run Tryz.prog Qgd QdZ (Qn WE) Tryz.f88 (Tryz.f88.body.getD .skip) (Qp [.bool]) n (Qu [(.list Qa), (.list Qa)] (a0, a1, ()))
noncomputable abbrev Ec (n : Nat) (x1 : (List Qe)) (x2 : (List Qe)) (x3 : Int) : Option Bool := lam Tryz.prog Qgd QdZ (Qn WE) Tryz.f88 (Tryz.f88.body.getD .skip) (Qp [.bool]) n [0, 4] [.d (.list Qa) x1, .d (.list Qa) x2, .d I64 x3]
theorem Quk (n : Nat) (a0 : (List Qe)) (a1 : (List Qe)) : Qov n a0 a1 =
  bif !decide ((a0.length : Int) = (a1.length : Int)) then
   some false
  else
   Ec n a0 a1 0 := by kernel_rfl
theorem Qmz (n : Nat) (x1 : (List Qe)) (x2 : (List Qe)) (x3 : Int) : Ec (n + 1) x1 x2 x3 =
  bif decide (x3 < (x1.length : Int)) then
   bif inB x3 x1.length then
    bif inB x3 x2.length then
     Option.bind (eqC Qa (rd x1 x3 (Ty.dflt Qa)) (rd x2 x3 (Ty.dflt Qa))) fun (y1 : Bool) =>
     bif !(y1) then
      some false
     else
      Ec n x1 x2 (IntKind.wrap .i64 (x3 + 1))
    else none
   else none
  else
   some true := by kernel_rfl
theorem Qx8 (hcs : ∀ x ∈ WE, Qg Tryz.prog x) (h : ∀ (a0 : (List Qe)) (a1 : (List Qe)) y, eqC (.list Qa) a0 a1 = some y → ∃ n, Qov n a0 a1 = some y) : Qg Tryz.prog H7 := by
 refine Qh (c := H7) (by kernel_rfl) (by kernel_rfl : Tryz.prog.funcs[88]? = some Tryz.f88) (code := Tryz.f88.body.getD .skip) (by kernel_rfl) (by kernel_rfl) (by kernel_rfl) (A := Qgd) (I := QdZ) hcs ?_
 rintro ⟨a0, a1, u⟩ y hy
 exact h a0 a1 y hy
theorem Qwt : ∀ x ∈ WE, Qg Tryz.prog x := (Qb Xm Qi)
theorem QlU : Qg Tryz.prog H7 := Qx8 Qwt fun a0 a1 y hy => by
 obtain ⟨n, hn⟩ := Qvb (t := Qa) (body := fun x y K => Option.bind (eqC Qa x y) fun b => bif !b then some false else K ()) (fun x K h => by simp only [ZJ h, Option.bind_some, Bool.not_true, cond_false]) (fun n xs ys i => Qmz n xs ys i) hy
 exact ⟨n, (Quk n a0 a1).trans hn⟩
noncomputable def VY : Ctr := ⟨46, [(.list .str), (.list .str)], [.bool], fun x => eqC (.list .str) x.1 x.2.1⟩
def Qcn : List (List Nat × Ann) := [([0, 4], [.keep 0 0, .keep 0 1, .keep 0 5])]
def QaL : List (List Nat × Nat) := []
noncomputable def HA : List Ctr := []
noncomputable def Qjp (n : Nat) (a0 : (List (List Int))) (a1 : (List (List Int))) : Option Bool := run Tryz.prog Qcn QaL (Qn HA) Tryz.f46 (Tryz.f46.body.getD .skip) (Qp [.bool]) n (Qu [(.list .str), (.list .str)] (a0, a1, ()))
noncomputable abbrev H8 (n : Nat) (x1 : (List (List Int))) (x2 : (List (List Int))) (x3 : Int) : Option Bool := lam Tryz.prog Qcn QaL (Qn HA) Tryz.f46 (Tryz.f46.body.getD .skip) (Qp [.bool]) n [0, 4] [.d (.list .str) x1, .d (.list .str) x2, .d I64 x3]
theorem QpM (n : Nat) (a0 : (List (List Int))) (a1 : (List (List Int))) : Qjp n a0 a1 =
  bif !decide ((a0.length : Int) = (a1.length : Int)) then
   some false
  else
   H8 n a0 a1 0 := by kernel_rfl
theorem Qjq (n : Nat) (x1 : (List (List Int))) (x2 : (List (List Int))) (x3 : Int) : H8 (n + 1) x1 x2 x3 =
  bif decide (x3 < (x1.length : Int)) then
   bif inB x3 x1.length then
    bif inB x3 x2.length then
     bif !decide (rd x1 x3 (Ty.dflt .str) = rd x2 x3 (Ty.dflt .str)) then
      some false
     else
      H8 n x1 x2 (IntKind.wrap .i64 (x3 + 1))
    else none
   else none
  else
   some true := by kernel_rfl
theorem Qul (hcs : ∀ x ∈ HA, Qg Tryz.prog x) (h : ∀ (a0 : (List (List Int))) (a1 : (List (List Int))) y, eqC (.list .str) a0 a1 = some y → ∃ n, Qjp n a0 a1 = some y) : Qg Tryz.prog VY := by
 refine Qh (c := VY) (by kernel_rfl) (by kernel_rfl : Tryz.prog.funcs[46]? = some Tryz.f46) (code := Tryz.f46.body.getD .skip) (by kernel_rfl) (by kernel_rfl) (by kernel_rfl) (A := Qcn) (I := QaL) hcs ?_
 rintro ⟨a0, a1, u⟩ y hy
 exact h a0 a1 y hy
theorem Qr6 : ∀ x ∈ HA, Qg Tryz.prog x := Qi
theorem QaM : Qg Tryz.prog VY := Qul Qr6 fun a0 a1 y hy => by
 obtain ⟨n, hn⟩ := Qvb (t := .str) (body := fun x y K => bif !decide (x = y) then some false else K ()) (fun x K h => by simp) (fun n xs ys i => Qjq n xs ys i) hy
 exact ⟨n, (QpM n a0 a1).trans hn⟩
noncomputable def QaN : Ctr := ⟨89, [Qm, Qm], [.bool], fun x => eqC Qm x.1 x.2.1⟩
def Qow : List (List Nat × Ann) := []
def QlV : List (List Nat × Nat) := []
noncomputable def Qd0 : List Ctr := [Y8, H7, VY]
noncomputable def Qox (n : Nat) (a0 : Qz) (a1 : Qz) : Option Bool := run Tryz.prog Qow QlV (Qn Qd0) Tryz.f89 (Tryz.f89.body.getD .skip) (Qp [.bool]) n (Qu [Qm, Qm] (a0, a1, ()))
theorem Qum (n : Nat) (a0 : Qz) (a1 : Qz) : Qox n a0 a1 =
  bif !decide (a0.1 = a1.1) then
   some false
  else
   Option.bind (eqC Qa a0.2.1 a1.2.1) fun (y1 : Bool) =>
   bif !(y1) then
    some false
   else
    Option.bind (eqC (.list Qa) a0.2.2.1 a1.2.2.1) fun (y2 : Bool) =>
    bif !(y2) then
     some false
    else
     Option.bind (eqC (.list .str) a0.2.2.2 a1.2.2.2) fun (y3 : Bool) =>
     bif !(y3) then
      some false
     else
      some true := by kernel_rfl
theorem Qx9 (hcs : ∀ x ∈ Qd0, Qg Tryz.prog x) (h : ∀ (a0 : Qz) (a1 : Qz) y, eqC Qm a0 a1 = some y → ∃ n, Qox n a0 a1 = some y) : Qg Tryz.prog QaN := by
 refine Qh (c := QaN) (by kernel_rfl) (by kernel_rfl : Tryz.prog.funcs[89]? = some Tryz.f89) (code := Tryz.f89.body.getD .skip) (by kernel_rfl) (by kernel_rfl) (by kernel_rfl) (A := Qow) (I := QlV) hcs ?_
 rintro ⟨a0, a1, u⟩ y hy
 exact h a0 a1 y hy
theorem Qwu : ∀ x ∈ Qd0, Qg Tryz.prog x := (Qb Xm (Qb QlU (Qb QaM Qi)))
theorem Qya : Qg Tryz.prog QaN := Qx9 Qwu fun a0 a1 y hy => by
 obtain ⟨rfl, hw, rfl⟩ := QgA hy
 have hw2 : wfD I64 a0.1 ∧ wfD Qa a0.2.1 ∧ wfD (.list Qa) a0.2.2.1 ∧ wfD (.list .str) a0.2.2.2 := hw
 refine ⟨0, ?_⟩
 rw [Qum]
 simp [ZJ hw2.2.1, ZJ hw2.2.2.1, ZJ hw2.2.2.2]
noncomputable def X0 : Ctr := ⟨47, [(.list Qm), (.list Qm)], [.bool], fun x => eqC (.list Qm) x.1 x.2.1⟩
def Qd1 : List (List Nat × Ann) := [([0, 4], [.keep 0 0, .keep 0 1, .keep 0 5])]
def Qco : List (List Nat × Nat) := []
noncomputable def UC : List Ctr := [QaN]
noncomputable def QlW (n : Nat) (a0 : (List Qz)) (a1 : (List Qz)) : Option Bool := run Tryz.prog Qd1 Qco (Qn UC) Tryz.f47 (Tryz.f47.body.getD .skip) (Qp [.bool]) n (Qu [(.list Qm), (.list Qm)] (a0, a1, ()))
noncomputable abbrev UU (n : Nat) (x1 : (List Qz)) (x2 : (List Qz)) (x3 : Int) : Option Bool := lam Tryz.prog Qd1 Qco (Qn UC) Tryz.f47 (Tryz.f47.body.getD .skip) (Qp [.bool]) n [0, 4] [.d (.list Qm) x1, .d (.list Qm) x2, .d I64 x3]
theorem Qr7 (n : Nat) (a0 : (List Qz)) (a1 : (List Qz)) : QlW n a0 a1 =
  bif !decide ((a0.length : Int) = (a1.length : Int)) then
   some false
  else
   UU n a0 a1 0 := by kernel_rfl
theorem QkN (n : Nat) (x1 : (List Qz)) (x2 : (List Qz)) (x3 : Int) : UU (n + 1) x1 x2 x3 =
  bif decide (x3 < (x1.length : Int)) then
   bif inB x3 x1.length then
    bif inB x3 x2.length then
     Option.bind (eqC Qm (rd x1 x3 (Ty.dflt Qm)) (rd x2 x3 (Ty.dflt Qm))) fun (y1 : Bool) =>
     bif !(y1) then
      some false
     else
      UU n x1 x2 (IntKind.wrap .i64 (x3 + 1))
    else none
   else none
  else
   some true := by kernel_rfl
theorem Qwv (hcs : ∀ x ∈ UC, Qg Tryz.prog x) (h : ∀ (a0 : (List Qz)) (a1 : (List Qz)) y, eqC (.list Qm) a0 a1 = some y → ∃ n, QlW n a0 a1 = some y) : Qg Tryz.prog X0 := by
 refine Qh (c := X0) (by kernel_rfl) (by kernel_rfl : Tryz.prog.funcs[47]? = some Tryz.f47) (code := Tryz.f47.body.getD .skip) (by kernel_rfl) (by kernel_rfl) (by kernel_rfl) (A := Qd1) (I := Qco) hcs ?_
 rintro ⟨a0, a1, u⟩ y hy
 exact h a0 a1 y hy
theorem Qun : ∀ x ∈ UC, Qg Tryz.prog x := (Qb Qya Qi)
theorem Qjr : Qg Tryz.prog X0 := Qwv Qun fun a0 a1 y hy => by
 obtain ⟨n, hn⟩ := Qvb (t := Qm) (body := fun x y K => Option.bind (eqC Qm x y) fun b => bif !b then some false else K ()) (fun x K h => by simp only [ZJ h, Option.bind_some, Bool.not_true, cond_false]) (fun n xs ys i => QkN n xs ys i) hy
 exact ⟨n, (Qr7 n a0 a1).trans hn⟩
noncomputable def QaO : Ctr := ⟨44, [Qf, Qf], [.bool], fun x => eqC Qf x.1 x.2.1⟩
def Qoy : List (List Nat × Ann) := []
def QlX : List (List Nat × Nat) := []
noncomputable def Qd2 : List Ctr := [Y8, H7, VY, X0]
noncomputable def Qoz (n : Nat) (a0 : Qj) (a1 : Qj) : Option Bool := run Tryz.prog Qoy QlX (Qn Qd2) Tryz.f44 (Tryz.f44.body.getD .skip) (Qp [.bool]) n (Qu [Qf, Qf] (a0, a1, ()))
theorem Quo (n : Nat) (a0 : Qj) (a1 : Qj) : Qoz n a0 a1 =
  Option.bind (eqC Qa a0.1 a1.1) fun (y1 : Bool) =>
  bif !(y1) then
   some false
  else
   Option.bind (eqC (.list Qa) a0.2.1 a1.2.1) fun (y2 : Bool) =>
   bif !(y2) then
    some false
   else
    Option.bind (eqC (.list .str) a0.2.2.1 a1.2.2.1) fun (y3 : Bool) =>
    bif !(y3) then
     some false
    else
     Option.bind (eqC (.list Qm) a0.2.2.2 a1.2.2.2) fun (y4 : Bool) =>
     bif !(y4) then
      some false
     else
      some true := by kernel_rfl
theorem Qyb (hcs : ∀ x ∈ Qd2, Qg Tryz.prog x) (h : ∀ (a0 : Qj) (a1 : Qj) y, eqC Qf a0 a1 = some y → ∃ n, Qoz n a0 a1 = some y) : Qg Tryz.prog QaO := by
 refine Qh (c := QaO) (by kernel_rfl) (by kernel_rfl : Tryz.prog.funcs[44]? = some Tryz.f44) (code := Tryz.f44.body.getD .skip) (by kernel_rfl) (by kernel_rfl) (by kernel_rfl) (A := Qoy) (I := QlX) hcs ?_
 rintro ⟨a0, a1, u⟩ y hy
 exact h a0 a1 y hy
theorem Qww : ∀ x ∈ Qd2, Qg Tryz.prog x := (Qb Xm (Qb QlU (Qb QaM (Qb Qjr Qi))))
theorem Qyc : Qg Tryz.prog QaO := Qyb Qww fun a0 a1 y hy => by
 obtain ⟨rfl, hw, rfl⟩ := QgA hy
 have hw2 : wfD Qa a0.1 ∧ wfD (.list Qa) a0.2.1 ∧ wfD (.list .str) a0.2.2.1 ∧ wfD (.list Qm) a0.2.2.2 := hw
 refine ⟨0, ?_⟩
 rw [Quo]
 simp [ZJ hw2.1, ZJ hw2.2.1, ZJ hw2.2.2.1, ZJ hw2.2.2.2]
noncomputable def WF : Ctr := ⟨13, [(.list Qf), (.list Qf)], [.bool], fun x => eqC (.list Qf) x.1 x.2.1⟩
def Qd3 : List (List Nat × Ann) := [([0, 4], [.keep 0 0, .keep 0 1, .keep 0 5])]
def Qcp : List (List Nat × Nat) := []
noncomputable def UD : List Ctr := [QaO]
noncomputable def QlY (n : Nat) (a0 : (List Qj)) (a1 : (List Qj)) : Option Bool := run Tryz.prog Qd3 Qcp (Qn UD) Tryz.f13 (Tryz.f13.body.getD .skip) (Qp [.bool]) n (Qu [(.list Qf), (.list Qf)] (a0, a1, ()))
noncomputable abbrev UV (n : Nat) (x1 : (List Qj)) (x2 : (List Qj)) (x3 : Int) : Option Bool := lam Tryz.prog Qd3 Qcp (Qn UD) Tryz.f13 (Tryz.f13.body.getD .skip) (Qp [.bool]) n [0, 4] [.d (.list Qf) x1, .d (.list Qf) x2, .d I64 x3]
theorem Qr8 (n : Nat) (a0 : (List Qj)) (a1 : (List Qj)) : QlY n a0 a1 =
  bif !decide ((a0.length : Int) = (a1.length : Int)) then
   some false
  else
   UV n a0 a1 0 := by kernel_rfl
theorem QkO (n : Nat) (x1 : (List Qj)) (x2 : (List Qj)) (x3 : Int) : UV (n + 1) x1 x2 x3 =
  bif decide (x3 < (x1.length : Int)) then
   bif inB x3 x1.length then
    bif inB x3 x2.length then
     Option.bind (eqC Qf (((rd x1 x3 (Ty.dflt Qf)).1), ((rd x1 x3 (Ty.dflt Qf)).2)) (((rd x2 x3 (Ty.dflt Qf)).1), ((rd x2 x3 (Ty.dflt Qf)).2))) fun (y1 : Bool) =>
     bif !(y1) then
      some false
     else
      UV n x1 x2 (IntKind.wrap .i64 (x3 + 1))
    else none
   else none
  else
   some true := by kernel_rfl
theorem Qwx (hcs : ∀ x ∈ UD, Qg Tryz.prog x) (h : ∀ (a0 : (List Qj)) (a1 : (List Qj)) y, eqC (.list Qf) a0 a1 = some y → ∃ n, QlY n a0 a1 = some y) : Qg Tryz.prog WF := by
 refine Qh (c := WF) (by kernel_rfl) (by kernel_rfl : Tryz.prog.funcs[13]? = some Tryz.f13) (code := Tryz.f13.body.getD .skip) (by kernel_rfl) (by kernel_rfl) (by kernel_rfl) (A := Qd3) (I := Qcp) hcs ?_
 rintro ⟨a0, a1, u⟩ y hy
 exact h a0 a1 y hy
theorem Qup : ∀ x ∈ UD, Qg Tryz.prog x := (Qb Qyc Qi)
theorem Qwy : Qg Tryz.prog WF := Qwx Qup fun a0 a1 y hy => by
 obtain ⟨n, hn⟩ := Qvb (t := Qf) (body := fun x y K => Option.bind (eqC Qf x y) fun b => bif !b then some false else K ()) (fun x K h => by simp only [ZJ h, Option.bind_some, Bool.not_true, cond_false]) (fun n xs ys i => QkO n xs ys i) hy
 exact ⟨n, (Qr8 n a0 a1).trans hn⟩
noncomputable def UE : Ctr := ⟨14, [Qr, Qr], [.bool], fun x => eqC Qr x.1 x.2.1⟩
def Qjs : List (List Nat × Ann) := []
def Qg6 : List (List Nat × Nat) := []
noncomputable def QaP : List Ctr := [Y8, VY, X0]
noncomputable def Qjt (n : Nat) (a0 : Qt) (a1 : Qt) : Option Bool := run Tryz.prog Qjs Qg6 (Qn QaP) Tryz.f14 (Tryz.f14.body.getD .skip) (Qp [.bool]) n (Qu [Qr, Qr] (a0, a1, ()))
theorem QpN (n : Nat) (a0 : Qt) (a1 : Qt) : Qjt n a0 a1 =
  Option.bind (eqC Qa a0.1 a1.1) fun (y1 : Bool) =>
  bif !(y1) then
   some false
  else
   Option.bind (eqC Qa a0.2.1 a1.2.1) fun (y2 : Bool) =>
   bif !(y2) then
    some false
   else
    Option.bind (eqC Qa a0.2.2.1 a1.2.2.1) fun (y3 : Bool) =>
    bif !(y3) then
     some false
    else
     Option.bind (eqC (.list .str) a0.2.2.2.1 a1.2.2.2.1) fun (y4 : Bool) =>
     bif !(y4) then
      some false
     else
      Option.bind (eqC (.list Qm) a0.2.2.2.2 a1.2.2.2.2) fun (y5 : Bool) =>
      bif !(y5) then
       some false
      else
       some true := by kernel_rfl
theorem Quq (hcs : ∀ x ∈ QaP, Qg Tryz.prog x) (h : ∀ (a0 : Qt) (a1 : Qt) y, eqC Qr a0 a1 = some y → ∃ n, Qjt n a0 a1 = some y) : Qg Tryz.prog UE := by
 refine Qh (c := UE) (by kernel_rfl) (by kernel_rfl : Tryz.prog.funcs[14]? = some Tryz.f14) (code := Tryz.f14.body.getD .skip) (by kernel_rfl) (by kernel_rfl) (by kernel_rfl) (A := Qjs) (I := Qg6) hcs ?_
 rintro ⟨a0, a1, u⟩ y hy
 exact h a0 a1 y hy
theorem Qr9 : ∀ x ∈ QaP, Qg Tryz.prog x := (Qb Xm (Qb QaM (Qb Qjr Qi)))
theorem Qur : Qg Tryz.prog UE := Quq Qr9 fun a0 a1 y hy => by
 obtain ⟨rfl, hw, rfl⟩ := QgA hy
 have hw2 : wfD Qa a0.1 ∧ wfD Qa a0.2.1 ∧ wfD Qa a0.2.2.1 ∧ wfD (.list .str) a0.2.2.2.1 ∧ wfD (.list Qm) a0.2.2.2.2 := hw
 refine ⟨0, ?_⟩
 rw [QpN]
 simp [ZJ hw2.1, ZJ hw2.2.1, ZJ hw2.2.2.1, ZJ hw2.2.2.2.1, ZJ hw2.2.2.2.2]
noncomputable def Jx (g0 : (List (List Int))) (x1 : (List Qj)) (x2 : (List Qd)) (x3 : (List Qd)) (x4 : (List Qd)) (x5 : Qt) : Option Bool :=
 Option.bind (QcO (.list Qc) x4 1) fun (y23 : (Int × (List Qd))) =>
 Option.bind (Je y23.2 1) fun (y24 : Int) =>
 bif decide (y24 < 0) then
  some false
 else
  bif !decide (y24 = y23.1) then
   some false
  else
   Option.bind (toC (.list Qf) x1) fun (y25 : (List Qj)) =>
   Option.bind (toC Qr x5) fun (y26 : Qt) =>
   Option.bind (toC (.list Qc) x2) fun (y27 : (List Qd)) =>
   Option.bind (QV g0 y25 y26 y27) fun (y28 : (List Qd)) =>
   Option.bind (eqC (.list Qc) y28 x3) fun (y29 : Bool) =>
   bif !(y29) then
    some false
   else
    Option.bind (Je y23.2 1) fun (y30 : Int) =>
    bif decide (y30 < 0) then
     some false
    else
     bif !decide (y30 = y23.1) then
      some false
     else
      some true
noncomputable def Yx (g0 : (List (List Int))) (a0 : (List Qj)) (a1 : Qt) (a2 : (List Qd)) : Option Bool :=
 Option.bind (szC (.list Qf) a0 1048576) fun (y1 : Int) =>
 bif decide (y1 < 0) then
  some true
 else
  Option.bind (szC Qr a1 y1) fun (y2 : Int) =>
  bif decide (y2 < 0) then
   some true
  else
   Option.bind (szC (.list Qc) a2 y2) fun (y3 : Int) =>
   bif decide (y3 < 0) then
    some true
   else
    Option.bind (toC (.list Qf) a0) fun (y4 : (List Qj)) =>
    Option.bind (toC Qr a1) fun (y5 : Qt) =>
    Option.bind (toC (.list Qc) a2) fun (y6 : (List Qd)) =>
    Option.bind (JE y4 y5 y6) fun (y7 : (List Qd)) =>
    Option.bind (toC (.list Qf) a0) fun (y8 : (List Qj)) =>
    Option.bind (toC Qr a1) fun (y9 : Qt) =>
    Option.bind (toC (.list Qc) a2) fun (y10 : (List Qd)) =>
    Option.bind (QV g0 y8 y9 y10) fun (y11 : (List Qd)) =>
    Option.bind (eqC (.list Qc) y11 y7) fun (y12 : Bool) =>
    bif !(y12) then
     some false
    else
     Option.bind (toC (.list Qf) a0) fun (y13 : (List Qj)) =>
     Option.bind (eqC (.list Qf) y8 y13) fun (y14 : Bool) =>
     bif !(y14) then
      some false
     else
      Option.bind (toC Qr a1) fun (y15 : Qt) =>
      Option.bind (eqC Qr y9 y15) fun (y16 : Bool) =>
      bif !(y16) then
       some false
      else
       Option.bind (toC (.list Qc) a2) fun (y17 : (List Qd)) =>
       Option.bind (eqC (.list Qc) y10 y17) fun (y18 : Bool) =>
       bif !(y18) then
        some false
       else
        Option.bind (QcO (.list Qf) y8 1) fun (y19 : (Int × (List Qj))) =>
        Option.bind (QcO Qr y9 y19.1) fun (y20 : (Int × Qt)) =>
        Option.bind (QcO (.list Qc) y10 y20.1) fun (y21 : (Int × (List Qd))) =>
        bif decide (y21.1 < 0) then
         some false
        else
         Option.bind (eqC (.list Qc) y11 y7) fun (y22 : Bool) =>
         bif !(y22) then
          some false
         else
          Jx g0 a0 a2 y7 y11 a1
def VM : List (List Nat × Ann) := [([1, 30], [.keep 0 0, .keep 0 2, .keep 0 4, .keep 0 8, .drb 0 12 Qc, .boxd 0 4 Qr])]
def Vz : List (List Nat × Nat) := [([12001], 2000009), ([13001], 2000010), ([14001], 2000011), ([15003], 2000021), ([25002], 3000016), ([26002], 3000017), ([27002], 3000018), ([31002], 3000018)]
noncomputable def Yi (g0 : (List (List Int))) : List Ctr := [Wz, Uz, UA, Wu, Uv, Uw, HP, Qi2, QgZ, Qg4, (Qa8 g0), UB, WF, UE, QfX, QeB, QeC, W7, (HX g0)]
noncomputable def HB (g0 : (List (List Int))) (n : Nat) (a0 : (List Qj)) (a1 : Qt) (a2 : (List Qd)) : Option Bool := Er Tryz.prog (Ud [(0, Qq (.list .str) g0)]) VM Vz (Qn (Yi g0)) Tryz.f4 (Tryz.f4.body.getD .skip) (QjS Tryz.prog Tryz.f4 (Qp [.bool])) n (Qu [(.list Qf), Qr, (.list Qc)] (a0, a1, a2, ()))
noncomputable abbrev YI (g0 : (List (List Int))) (n : Nat) (x1 : (List Qj)) (x2 : (List Qd)) (x3 : (List Qd)) (x4 : (List Qd)) (x5 : Qt) : Option Bool := Qhf Tryz.prog (Ud [(0, Qq (.list .str) g0)]) VM Vz (Qn (Yi g0)) Tryz.f4 (Tryz.f4.body.getD .skip) (QjS Tryz.prog Tryz.f4 (Qp [.bool])) n [1, 30] [.d (.list Qf) x1, .d (.list Qc) x2, .ptr 0 4 0, .d (.list Qc) x3, .d (.list Qc) x4, .agg (Qq Qr x5)]
theorem Qcq (g0 : (List (List Int))) (n : Nat) (a0 : (List Qj)) (a1 : Qt) (a2 : (List Qd)) : HB g0 n a0 a1 a2 =
  Option.bind (szC (.list Qf) a0 1048576) fun (y1 : Int) =>
  bif decide (y1 < 0) then
   some true
  else
   Option.bind (szC Qr a1 y1) fun (y2 : Int) =>
   bif decide (y2 < 0) then
    some true
   else
    Option.bind (szC (.list Qc) a2 y2) fun (y3 : Int) =>
    bif decide (y3 < 0) then
     some true
    else
     Option.bind (toC (.list Qf) a0) fun (y4 : (List Qj)) =>
     Option.bind (toC Qr a1) fun (y5 : Qt) =>
     Option.bind (toC (.list Qc) a2) fun (y6 : (List Qd)) =>
     Option.bind (JE y4 y5 y6) fun (y7 : (List Qd)) =>
     Option.bind (toC (.list Qf) a0) fun (y8 : (List Qj)) =>
     Option.bind (toC Qr a1) fun (y9 : Qt) =>
     Option.bind (toC (.list Qc) a2) fun (y10 : (List Qd)) =>
     Option.bind (QV g0 y8 y9 y10) fun (y11 : (List Qd)) =>
     Option.bind (eqC (.list Qc) y11 y7) fun (y12 : Bool) =>
     bif !(y12) then
      some false
     else
      Option.bind (toC (.list Qf) a0) fun (y13 : (List Qj)) =>
      Option.bind (eqC (.list Qf) y8 y13) fun (y14 : Bool) =>
      bif !(y14) then
       some false
      else
       Option.bind (toC Qr a1) fun (y15 : Qt) =>
       Option.bind (eqC Qr y9 y15) fun (y16 : Bool) =>
       bif !(y16) then
        some false
       else
        Option.bind (toC (.list Qc) a2) fun (y17 : (List Qd)) =>
        Option.bind (eqC (.list Qc) y10 y17) fun (y18 : Bool) =>
        bif !(y18) then
         some false
        else
         Option.bind (QcO (.list Qf) y8 1) fun (y19 : (Int × (List Qj))) =>
         Option.bind (QcO Qr y9 y19.1) fun (y20 : (Int × Qt)) =>
         Option.bind (QcO (.list Qc) y10 y20.1) fun (y21 : (Int × (List Qd))) =>
         bif decide (y21.1 < 0) then
          some false
         else
          Option.bind (eqC (.list Qc) y11 y7) fun (y22 : Bool) =>
          bif !(y22) then
           some false
          else
           YI g0 n a0 a2 y7 y11 a1 := by kernel_rfl
theorem U7 (g0 : (List (List Int))) (n : Nat) (x1 : (List Qj)) (x2 : (List Qd)) (x3 : (List Qd)) (x4 : (List Qd)) (x5 : Qt) : YI g0 (n + 1) x1 x2 x3 x4 x5 =
  Option.bind (QcO (.list Qc) x4 1) fun (y23 : (Int × (List Qd))) =>
  Option.bind (Je y23.2 1) fun (y24 : Int) =>
  bif decide (y24 < 0) then
   some false
  else
   bif !decide (y24 = y23.1) then
    some false
   else
    Option.bind (toC (.list Qf) x1) fun (y25 : (List Qj)) =>
    Option.bind (toC Qr x5) fun (y26 : Qt) =>
    Option.bind (toC (.list Qc) x2) fun (y27 : (List Qd)) =>
    Option.bind (QV g0 y25 y26 y27) fun (y28 : (List Qd)) =>
    Option.bind (eqC (.list Qc) y28 x3) fun (y29 : Bool) =>
    bif !(y29) then
     some false
    else
     Option.bind (Je y23.2 1) fun (y30 : Int) =>
     bif decide (y30 < 0) then
      some false
     else
      bif !decide (y30 = y23.1) then
       some false
      else
       some true := by kernel_rfl
theorem QaQ {g0 : (List (List Int))} {x1 : (List Qj)} {x2 : (List Qd)} {x3 : (List Qd)} {x4 : (List Qd)} {x5 : Qt} {r : Bool} (h : Jx g0 x1 x2 x3 x4 x5 = some r) : Ev (fun n => YI g0 n x1 x2 x3 x4 x5) r := by
 rw [Jx] at h
 refine Ev.step ?_ (fun n => U7 g0 n x1 x2 x3 x4 x5)
 exact (Ev.ofBind h fun y23 h => (Ev.ofBind h fun y24 h => (Ev.ofBif h (fun h => (Ev.ofSome h)) (fun h => (Ev.ofBif h (fun h => (Ev.ofSome h)) (fun h => (Ev.ofBind h fun y25 h => (Ev.ofBind h fun y26 h => (Ev.ofBind h fun y27 h => (Ev.ofBind h fun y28 h => (Ev.ofBind h fun y29 h => (Ev.ofBif h (fun h => (Ev.ofSome h)) (fun h => (Ev.ofBind h fun y30 h => (Ev.ofBif h (fun h => (Ev.ofSome h)) (fun h => (Ev.ofBif h (fun h => (Ev.ofSome h)) (fun h => (Ev.ofSome h)))))))))))))))))))
theorem QeU {g0 : (List (List Int))} (a0 : (List Qj)) (a1 : Qt) (a2 : (List Qd)) {r : Bool} (h : Yx g0 a0 a1 a2 = some r) : Ev (fun n => HB g0 n a0 a1 a2) r := by
 rw [Yx] at h
 refine Ev.of_eq ?_ (fun n => Qcq g0 n a0 a1 a2)
 exact (Ev.ofBind h fun y1 h => (Ev.ofBif h (fun h => (Ev.ofSome h)) (fun h => (Ev.ofBind h fun y2 h => (Ev.ofBif h (fun h => (Ev.ofSome h)) (fun h => (Ev.ofBind h fun y3 h => (Ev.ofBif h (fun h => (Ev.ofSome h)) (fun h => (Ev.ofBind h fun y4 h => (Ev.ofBind h fun y5 h => (Ev.ofBind h fun y6 h => (Ev.ofBind h fun y7 h => (Ev.ofBind h fun y8 h => (Ev.ofBind h fun y9 h => (Ev.ofBind h fun y10 h => (Ev.ofBind h fun y11 h => (Ev.ofBind h fun y12 h => (Ev.ofBif h (fun h => (Ev.ofSome h)) (fun h => (Ev.ofBind h fun y13 h => (Ev.ofBind h fun y14 h => (Ev.ofBif h (fun h => (Ev.ofSome h)) (fun h => (Ev.ofBind h fun y15 h => (Ev.ofBind h fun y16 h => (Ev.ofBif h (fun h => (Ev.ofSome h)) (fun h => (Ev.ofBind h fun y17 h => (Ev.ofBind h fun y18 h => (Ev.ofBif h (fun h => (Ev.ofSome h)) (fun h => (Ev.ofBind h fun y19 h => (Ev.ofBind h fun y20 h => (Ev.ofBind h fun y21 h => (Ev.ofBif h (fun h => (Ev.ofSome h)) (fun h => (Ev.ofBind h fun y22 h => (Ev.ofBif h (fun h => (Ev.ofSome h)) (fun h => (QaQ h)))))))))))))))))))))))))))))))))))))))))
end Go.Ab
