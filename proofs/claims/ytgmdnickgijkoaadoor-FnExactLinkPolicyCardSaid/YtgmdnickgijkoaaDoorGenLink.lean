/- generated -/
import Derived.Test.YtgmdnickgijkoaaDoorGenLinka
import Derived.Test.YtgmdnickgijkoaaDoorProg
import Derived.KernelRfl
namespace Go.Ab
open Go.Proofs
set_option maxRecDepth 20000
/-! ## laws.szExpr (69) -/
noncomputable def c_laws_szExpr : Ctr := ⟨69, [TyExpr, I64], [I64], fun x => szC TyExpr x.1 x.2.1⟩
def A_laws_szExpr : List (List Nat × Ann) := []
def In_laws_szExpr : List (List Nat × Nat) := []
noncomputable def cs_laws_szExpr : List Ctr := [c_laws_szAtom]
noncomputable def F_laws_szExpr (n : Nat) (a0 : DExpr) (a1 : Int) : Option Int := run Tryd.prog A_laws_szExpr In_laws_szExpr (conOf cs_laws_szExpr) Tryd.f69 (Tryd.f69.body.getD .skip) (packT [I64]) n (argsV [TyExpr, I64] (a0, a1, ()))
theorem F_laws_szExpr_eq (n : Nat) (a0 : DExpr) (a1 : Int) : F_laws_szExpr n a0 a1 =
    bif decide (IntKind.wrap .i64 (a1 - (a0.2.1.length : Int)) < 0) then
      some (-1)
    else
      Option.bind (szC TyAtom a0.2.2.1 (IntKind.wrap .i64 (a1 - (a0.2.1.length : Int)))) fun (y1 : Int) =>
      bif decide (y1 < 0) then
        some (-1)
      else
        some y1 := by kernel_rfl
theorem mk_laws_szExpr (hcs : ∀ x ∈ cs_laws_szExpr, CtrOk Tryd.prog x) (h : ∀ (a0 : DExpr) (a1 : Int) y, szC TyExpr a0 a1 = some y → ∃ n, F_laws_szExpr n a0 a1 = some y) : CtrOk Tryd.prog c_laws_szExpr := by
  refine ctr_of_run (c := c_laws_szExpr) (by kernel_rfl) (by kernel_rfl : Tryd.prog.funcs[69]? = some Tryd.f69) (code := Tryd.f69.body.getD .skip) (by kernel_rfl) (by kernel_rfl) (by kernel_rfl) (A := A_laws_szExpr) (I := In_laws_szExpr) hcs ?_
  rintro ⟨a0, a1, u⟩ y hy
  exact h a0 a1 y hy

theorem hcs_laws_szExpr : ∀ x ∈ cs_laws_szExpr, CtrOk Tryd.prog x := (conOf_cons ok_laws_szAtom conOf_nil)
theorem ok_laws_szExpr : CtrOk Tryd.prog c_laws_szExpr := mk_laws_szExpr hcs_laws_szExpr fun a0 a1 y hy => by
  obtain ⟨hw, h0, h1, rfl⟩ := szC_inv hy
  have hw2 : wfD I64 a0.1 ∧ wfD .str a0.2.1 ∧ wfD TyAtom a0.2.2.1 ∧ wfD I64 a0.2.2.2 := hw
  have hsz : Ty.size TyExpr a0 = Ty.size I64 a0.1 + (Ty.size .str a0.2.1 + (Ty.size TyAtom a0.2.2.1 + (Ty.size I64 a0.2.2.2))) := rfl
  have z0 : Ty.size I64 a0.1 = 0 := rfl
  have z3 : Ty.size I64 a0.2.2.2 = 0 := rfl
  have z1 : Ty.size .str a0.2.1 = a0.2.1.length := rfl
  refine ⟨0, ?_⟩
  rw [F_laws_szExpr_eq, hsz]
  have hn1 : a0.2.1.length ≤ maxLen := by have := (hw2.2.1).1; unfold maxLen; omega
  rw [lessZ_wrap (left := a1) (n := a0.2.1.length) (by omega) (by omega) hn1]
  rcases Int.lt_or_le (a1) (a0.2.1.length : Int) with h | h
  · rw [decide_eq_true (show (a1 - (a0.2.1.length : Int)) < 0 by omega)]; simp only [cond_true]; unfold lessZ; rw [if_neg (by omega)]
  rw [decide_eq_false (show ¬ (a1 - (a0.2.1.length : Int)) < 0 by omega)]; simp only [cond_false]
  have h_1 := h; clear h
  rw [szC_some hw2.2.2.1 (show 0 ≤ (a1 - (a0.2.1.length : Int)) by omega) (by omega)]
  simp only [Option.bind_some]
  rcases Int.lt_or_le ((a1 - (a0.2.1.length : Int))) ((Ty.size TyAtom a0.2.2.1 : Nat) : Int) with h | h
  · rw [show lessZ ((a1 - (a0.2.1.length : Int))) (Ty.size TyAtom a0.2.2.1) = -1 by unfold lessZ; rw [if_neg (by omega)]]; rw [decide_eq_true (show (-1 : Int) < 0 by omega)]; simp only [cond_true]; unfold lessZ; rw [if_neg (by omega)]
  rw [show lessZ ((a1 - (a0.2.1.length : Int))) (Ty.size TyAtom a0.2.2.1) = ((a1 - (a0.2.1.length : Int)) - ((Ty.size TyAtom a0.2.2.1 : Nat) : Int)) by unfold lessZ; rw [if_pos h]]; rw [decide_eq_false (show ¬ ((a1 - (a0.2.1.length : Int)) - ((Ty.size TyAtom a0.2.2.1 : Nat) : Int)) < 0 by omega)]; simp only [cond_false]
  have h_2 := h; clear h
  unfold lessZ; rw [if_pos (by omega)]; congr 1 <;> omega
/-! ## laws.szExprS (24) -/
noncomputable def c_laws_szExprS : Ctr := ⟨24, [(.list TyExpr), I64], [I64], fun x => szC (.list TyExpr) x.1 x.2.1⟩
def A_laws_szExprS : List (List Nat × Ann) := [([0, 5], [.keep 0 0, .keep 0 1, .keep 0 5])]
def In_laws_szExprS : List (List Nat × Nat) := []
noncomputable def cs_laws_szExprS : List Ctr := [c_laws_szExpr]
noncomputable def F_laws_szExprS (n : Nat) (a0 : (List DExpr)) (a1 : Int) : Option Int := run Tryd.prog A_laws_szExprS In_laws_szExprS (conOf cs_laws_szExprS) Tryd.f24 (Tryd.f24.body.getD .skip) (packT [I64]) n (argsV [(.list TyExpr), I64] (a0, a1, ()))
noncomputable abbrev L_laws_szExprS_0_5 (n : Nat) (x1 : (List DExpr)) (x2 : Int) (x3 : Int) : Option Int := lam Tryd.prog A_laws_szExprS In_laws_szExprS (conOf cs_laws_szExprS) Tryd.f24 (Tryd.f24.body.getD .skip) (packT [I64]) n [0, 5] [.d (.list TyExpr) x1, .d I64 x2, .d I64 x3]
theorem F_laws_szExprS_eq (n : Nat) (a0 : (List DExpr)) (a1 : Int) : F_laws_szExprS n a0 a1 =
    bif decide (IntKind.wrap .i64 (a1 - (a0.length : Int)) < 0) then
      some (-1)
    else
      L_laws_szExprS_0_5 n a0 (IntKind.wrap .i64 (a1 - (a0.length : Int))) 0 := by kernel_rfl
theorem L_laws_szExprS_0_5_eq (n : Nat) (x1 : (List DExpr)) (x2 : Int) (x3 : Int) : L_laws_szExprS_0_5 (n + 1) x1 x2 x3 =
    bif decide (x3 < (x1.length : Int)) then
      bif inB x3 x1.length then
        Option.bind (szC TyExpr (rd x1 x3 (Ty.dflt TyExpr)) x2) fun (y1 : Int) =>
        bif decide (y1 < 0) then
          some (-1)
        else
          L_laws_szExprS_0_5 n x1 y1 (IntKind.wrap .i64 (x3 + 1))
      else none
    else
      some x2 := by kernel_rfl
theorem mk_laws_szExprS (hcs : ∀ x ∈ cs_laws_szExprS, CtrOk Tryd.prog x) (h : ∀ (a0 : (List DExpr)) (a1 : Int) y, szC (.list TyExpr) a0 a1 = some y → ∃ n, F_laws_szExprS n a0 a1 = some y) : CtrOk Tryd.prog c_laws_szExprS := by
  refine ctr_of_run (c := c_laws_szExprS) (by kernel_rfl) (by kernel_rfl : Tryd.prog.funcs[24]? = some Tryd.f24) (code := Tryd.f24.body.getD .skip) (by kernel_rfl) (by kernel_rfl) (by kernel_rfl) (A := A_laws_szExprS) (I := In_laws_szExprS) hcs ?_
  rintro ⟨a0, a1, u⟩ y hy
  exact h a0 a1 y hy

theorem hcs_laws_szExprS : ∀ x ∈ cs_laws_szExprS, CtrOk Tryd.prog x := (conOf_cons ok_laws_szExpr conOf_nil)
theorem ok_laws_szExprS : CtrOk Tryd.prog c_laws_szExprS := mk_laws_szExprS hcs_laws_szExprS fun a0 a1 y hy => by
  obtain ⟨n, hn⟩ := szS_call (fun n xs s i => L_laws_szExprS_0_5_eq n xs s i) hy
  exact ⟨n, (F_laws_szExprS_eq n a0 a1).trans hn⟩
/-! ## laws.szPolicy (5) -/
noncomputable def c_laws_szPolicy : Ctr := ⟨5, [TyPolicy, I64], [I64], fun x => szC TyPolicy x.1 x.2.1⟩
def A_laws_szPolicy : List (List Nat × Ann) := []
def In_laws_szPolicy : List (List Nat × Nat) := []
noncomputable def cs_laws_szPolicy : List Ctr := [c_laws_szHead, c_laws_szExprS]
noncomputable def F_laws_szPolicy (n : Nat) (a0 : DPolicy) (a1 : Int) : Option Int := run Tryd.prog A_laws_szPolicy In_laws_szPolicy (conOf cs_laws_szPolicy) Tryd.f5 (Tryd.f5.body.getD .skip) (packT [I64]) n (argsV [TyPolicy, I64] (a0, a1, ()))
theorem F_laws_szPolicy_eq (n : Nat) (a0 : DPolicy) (a1 : Int) : F_laws_szPolicy n a0 a1 =
    bif decide (IntKind.wrap .i64 (a1 - (a0.1.length : Int)) < 0) then
      some (-1)
    else
      Option.bind (szC TyHead a0.2.2.1 (IntKind.wrap .i64 (a1 - (a0.1.length : Int)))) fun (y1 : Int) =>
      bif decide (y1 < 0) then
        some (-1)
      else
        Option.bind (szC TyHead a0.2.2.2.1 y1) fun (y2 : Int) =>
        bif decide (y2 < 0) then
          some (-1)
        else
          Option.bind (szC TyHead a0.2.2.2.2.1 y2) fun (y3 : Int) =>
          bif decide (y3 < 0) then
            some (-1)
          else
            Option.bind (szC (.list TyExpr) a0.2.2.2.2.2 y3) fun (y4 : Int) =>
            bif decide (y4 < 0) then
              some (-1)
            else
              some y4 := by kernel_rfl
theorem mk_laws_szPolicy (hcs : ∀ x ∈ cs_laws_szPolicy, CtrOk Tryd.prog x) (h : ∀ (a0 : DPolicy) (a1 : Int) y, szC TyPolicy a0 a1 = some y → ∃ n, F_laws_szPolicy n a0 a1 = some y) : CtrOk Tryd.prog c_laws_szPolicy := by
  refine ctr_of_run (c := c_laws_szPolicy) (by kernel_rfl) (by kernel_rfl : Tryd.prog.funcs[5]? = some Tryd.f5) (code := Tryd.f5.body.getD .skip) (by kernel_rfl) (by kernel_rfl) (by kernel_rfl) (A := A_laws_szPolicy) (I := In_laws_szPolicy) hcs ?_
  rintro ⟨a0, a1, u⟩ y hy
  exact h a0 a1 y hy

theorem hcs_laws_szPolicy : ∀ x ∈ cs_laws_szPolicy, CtrOk Tryd.prog x := (conOf_cons ok_laws_szHead (conOf_cons ok_laws_szExprS conOf_nil))
theorem ok_laws_szPolicy : CtrOk Tryd.prog c_laws_szPolicy := mk_laws_szPolicy hcs_laws_szPolicy fun a0 a1 y hy => by
  obtain ⟨hw, h0, h1, rfl⟩ := szC_inv hy
  have hw2 : wfD .str a0.1 ∧ wfD .bool a0.2.1 ∧ wfD TyHead a0.2.2.1 ∧ wfD TyHead a0.2.2.2.1 ∧ wfD TyHead a0.2.2.2.2.1 ∧ wfD (.list TyExpr) a0.2.2.2.2.2 := hw
  have hsz : Ty.size TyPolicy a0 = Ty.size .str a0.1 + (Ty.size .bool a0.2.1 + (Ty.size TyHead a0.2.2.1 + (Ty.size TyHead a0.2.2.2.1 + (Ty.size TyHead a0.2.2.2.2.1 + (Ty.size (.list TyExpr) a0.2.2.2.2.2))))) := rfl
  have z1 : Ty.size .bool a0.2.1 = 0 := rfl
  have z0 : Ty.size .str a0.1 = a0.1.length := rfl
  refine ⟨0, ?_⟩
  rw [F_laws_szPolicy_eq, hsz]
  have hn0 : a0.1.length ≤ maxLen := by have := (hw2.1).1; unfold maxLen; omega
  rw [lessZ_wrap (left := a1) (n := a0.1.length) (by omega) (by omega) hn0]
  rcases Int.lt_or_le (a1) (a0.1.length : Int) with h | h
  · rw [decide_eq_true (show (a1 - (a0.1.length : Int)) < 0 by omega)]; simp only [cond_true]; unfold lessZ; rw [if_neg (by omega)]
  rw [decide_eq_false (show ¬ (a1 - (a0.1.length : Int)) < 0 by omega)]; simp only [cond_false]
  have h_0 := h; clear h
  rw [szC_some hw2.2.2.1 (show 0 ≤ (a1 - (a0.1.length : Int)) by omega) (by omega)]
  simp only [Option.bind_some]
  rcases Int.lt_or_le ((a1 - (a0.1.length : Int))) ((Ty.size TyHead a0.2.2.1 : Nat) : Int) with h | h
  · rw [show lessZ ((a1 - (a0.1.length : Int))) (Ty.size TyHead a0.2.2.1) = -1 by unfold lessZ; rw [if_neg (by omega)]]; rw [decide_eq_true (show (-1 : Int) < 0 by omega)]; simp only [cond_true]; unfold lessZ; rw [if_neg (by omega)]
  rw [show lessZ ((a1 - (a0.1.length : Int))) (Ty.size TyHead a0.2.2.1) = ((a1 - (a0.1.length : Int)) - ((Ty.size TyHead a0.2.2.1 : Nat) : Int)) by unfold lessZ; rw [if_pos h]]; rw [decide_eq_false (show ¬ ((a1 - (a0.1.length : Int)) - ((Ty.size TyHead a0.2.2.1 : Nat) : Int)) < 0 by omega)]; simp only [cond_false]
  have h_2 := h; clear h
  rw [szC_some hw2.2.2.2.1 (show 0 ≤ ((a1 - (a0.1.length : Int)) - ((Ty.size TyHead a0.2.2.1 : Nat) : Int)) by omega) (by omega)]
  simp only [Option.bind_some]
  rcases Int.lt_or_le (((a1 - (a0.1.length : Int)) - ((Ty.size TyHead a0.2.2.1 : Nat) : Int))) ((Ty.size TyHead a0.2.2.2.1 : Nat) : Int) with h | h
  · rw [show lessZ (((a1 - (a0.1.length : Int)) - ((Ty.size TyHead a0.2.2.1 : Nat) : Int))) (Ty.size TyHead a0.2.2.2.1) = -1 by unfold lessZ; rw [if_neg (by omega)]]; rw [decide_eq_true (show (-1 : Int) < 0 by omega)]; simp only [cond_true]; unfold lessZ; rw [if_neg (by omega)]
  rw [show lessZ (((a1 - (a0.1.length : Int)) - ((Ty.size TyHead a0.2.2.1 : Nat) : Int))) (Ty.size TyHead a0.2.2.2.1) = (((a1 - (a0.1.length : Int)) - ((Ty.size TyHead a0.2.2.1 : Nat) : Int)) - ((Ty.size TyHead a0.2.2.2.1 : Nat) : Int)) by unfold lessZ; rw [if_pos h]]; rw [decide_eq_false (show ¬ (((a1 - (a0.1.length : Int)) - ((Ty.size TyHead a0.2.2.1 : Nat) : Int)) - ((Ty.size TyHead a0.2.2.2.1 : Nat) : Int)) < 0 by omega)]; simp only [cond_false]
  have h_3 := h; clear h
  rw [szC_some hw2.2.2.2.2.1 (show 0 ≤ (((a1 - (a0.1.length : Int)) - ((Ty.size TyHead a0.2.2.1 : Nat) : Int)) - ((Ty.size TyHead a0.2.2.2.1 : Nat) : Int)) by omega) (by omega)]
  simp only [Option.bind_some]
  rcases Int.lt_or_le ((((a1 - (a0.1.length : Int)) - ((Ty.size TyHead a0.2.2.1 : Nat) : Int)) - ((Ty.size TyHead a0.2.2.2.1 : Nat) : Int))) ((Ty.size TyHead a0.2.2.2.2.1 : Nat) : Int) with h | h
  · rw [show lessZ ((((a1 - (a0.1.length : Int)) - ((Ty.size TyHead a0.2.2.1 : Nat) : Int)) - ((Ty.size TyHead a0.2.2.2.1 : Nat) : Int))) (Ty.size TyHead a0.2.2.2.2.1) = -1 by unfold lessZ; rw [if_neg (by omega)]]; rw [decide_eq_true (show (-1 : Int) < 0 by omega)]; simp only [cond_true]; unfold lessZ; rw [if_neg (by omega)]
  rw [show lessZ ((((a1 - (a0.1.length : Int)) - ((Ty.size TyHead a0.2.2.1 : Nat) : Int)) - ((Ty.size TyHead a0.2.2.2.1 : Nat) : Int))) (Ty.size TyHead a0.2.2.2.2.1) = ((((a1 - (a0.1.length : Int)) - ((Ty.size TyHead a0.2.2.1 : Nat) : Int)) - ((Ty.size TyHead a0.2.2.2.1 : Nat) : Int)) - ((Ty.size TyHead a0.2.2.2.2.1 : Nat) : Int)) by unfold lessZ; rw [if_pos h]]; rw [decide_eq_false (show ¬ ((((a1 - (a0.1.length : Int)) - ((Ty.size TyHead a0.2.2.1 : Nat) : Int)) - ((Ty.size TyHead a0.2.2.2.1 : Nat) : Int)) - ((Ty.size TyHead a0.2.2.2.2.1 : Nat) : Int)) < 0 by omega)]; simp only [cond_false]
  have h_4 := h; clear h
  rw [szC_some hw2.2.2.2.2.2 (show 0 ≤ ((((a1 - (a0.1.length : Int)) - ((Ty.size TyHead a0.2.2.1 : Nat) : Int)) - ((Ty.size TyHead a0.2.2.2.1 : Nat) : Int)) - ((Ty.size TyHead a0.2.2.2.2.1 : Nat) : Int)) by omega) (by omega)]
  simp only [Option.bind_some]
  rcases Int.lt_or_le (((((a1 - (a0.1.length : Int)) - ((Ty.size TyHead a0.2.2.1 : Nat) : Int)) - ((Ty.size TyHead a0.2.2.2.1 : Nat) : Int)) - ((Ty.size TyHead a0.2.2.2.2.1 : Nat) : Int))) ((Ty.size (.list TyExpr) a0.2.2.2.2.2 : Nat) : Int) with h | h
  · rw [show lessZ (((((a1 - (a0.1.length : Int)) - ((Ty.size TyHead a0.2.2.1 : Nat) : Int)) - ((Ty.size TyHead a0.2.2.2.1 : Nat) : Int)) - ((Ty.size TyHead a0.2.2.2.2.1 : Nat) : Int))) (Ty.size (.list TyExpr) a0.2.2.2.2.2) = -1 by unfold lessZ; rw [if_neg (by omega)]]; rw [decide_eq_true (show (-1 : Int) < 0 by omega)]; simp only [cond_true]; unfold lessZ; rw [if_neg (by omega)]
  rw [show lessZ (((((a1 - (a0.1.length : Int)) - ((Ty.size TyHead a0.2.2.1 : Nat) : Int)) - ((Ty.size TyHead a0.2.2.2.1 : Nat) : Int)) - ((Ty.size TyHead a0.2.2.2.2.1 : Nat) : Int))) (Ty.size (.list TyExpr) a0.2.2.2.2.2) = (((((a1 - (a0.1.length : Int)) - ((Ty.size TyHead a0.2.2.1 : Nat) : Int)) - ((Ty.size TyHead a0.2.2.2.1 : Nat) : Int)) - ((Ty.size TyHead a0.2.2.2.2.1 : Nat) : Int)) - ((Ty.size (.list TyExpr) a0.2.2.2.2.2 : Nat) : Int)) by unfold lessZ; rw [if_pos h]]; rw [decide_eq_false (show ¬ (((((a1 - (a0.1.length : Int)) - ((Ty.size TyHead a0.2.2.1 : Nat) : Int)) - ((Ty.size TyHead a0.2.2.2.1 : Nat) : Int)) - ((Ty.size TyHead a0.2.2.2.2.1 : Nat) : Int)) - ((Ty.size (.list TyExpr) a0.2.2.2.2.2 : Nat) : Int)) < 0 by omega)]; simp only [cond_false]
  have h_5 := h; clear h
  unfold lessZ; rw [if_pos (by omega)]; congr 1 <;> omega
/-! ## laws.eqAtom (82) -/
noncomputable def c_laws_eqAtom : Ctr := ⟨82, [TyAtom, TyAtom], [.bool], fun x => eqC TyAtom x.1 x.2.1⟩
def A_laws_eqAtom : List (List Nat × Ann) := []
def In_laws_eqAtom : List (List Nat × Nat) := []
noncomputable def cs_laws_eqAtom : List Ctr := []
noncomputable def F_laws_eqAtom (n : Nat) (a0 : DAtom) (a1 : DAtom) : Option Bool := run Tryd.prog A_laws_eqAtom In_laws_eqAtom (conOf cs_laws_eqAtom) Tryd.f82 (Tryd.f82.body.getD .skip) (packT [.bool]) n (argsV [TyAtom, TyAtom] (a0, a1, ()))
theorem F_laws_eqAtom_eq (n : Nat) (a0 : DAtom) (a1 : DAtom) : F_laws_eqAtom n a0 a1 =
    bif !decide (a0.1 = a1.1) then
      some false
    else
      bif !decide (a0.2.1 = a1.2.1) then
        some false
      else
        bif !decide (a0.2.2.1 = a1.2.2.1) then
          some false
        else
          bif !decide (a0.2.2.2 = a1.2.2.2) then
            some false
          else
            some true := by kernel_rfl
theorem mk_laws_eqAtom (hcs : ∀ x ∈ cs_laws_eqAtom, CtrOk Tryd.prog x) (h : ∀ (a0 : DAtom) (a1 : DAtom) y, eqC TyAtom a0 a1 = some y → ∃ n, F_laws_eqAtom n a0 a1 = some y) : CtrOk Tryd.prog c_laws_eqAtom := by
  refine ctr_of_run (c := c_laws_eqAtom) (by kernel_rfl) (by kernel_rfl : Tryd.prog.funcs[82]? = some Tryd.f82) (code := Tryd.f82.body.getD .skip) (by kernel_rfl) (by kernel_rfl) (by kernel_rfl) (A := A_laws_eqAtom) (I := In_laws_eqAtom) hcs ?_
  rintro ⟨a0, a1, u⟩ y hy
  exact h a0 a1 y hy

theorem hcs_laws_eqAtom : ∀ x ∈ cs_laws_eqAtom, CtrOk Tryd.prog x := conOf_nil
theorem ok_laws_eqAtom : CtrOk Tryd.prog c_laws_eqAtom := mk_laws_eqAtom hcs_laws_eqAtom fun a0 a1 y hy => by
  obtain ⟨rfl, hw, rfl⟩ := eqC_inv hy
  have hw2 : wfD I64 a0.1 ∧ wfD I64 a0.2.1 ∧ wfD .str a0.2.2.1 ∧ wfD .str a0.2.2.2 := hw
  refine ⟨0, ?_⟩
  rw [F_laws_eqAtom_eq]
  simp []
/-! ## laws.eqHead (38) -/
noncomputable def c_laws_eqHead : Ctr := ⟨38, [TyHead, TyHead], [.bool], fun x => eqC TyHead x.1 x.2.1⟩
def A_laws_eqHead : List (List Nat × Ann) := []
def In_laws_eqHead : List (List Nat × Nat) := []
noncomputable def cs_laws_eqHead : List Ctr := [c_laws_eqAtom]
noncomputable def F_laws_eqHead (n : Nat) (a0 : DHead) (a1 : DHead) : Option Bool := run Tryd.prog A_laws_eqHead In_laws_eqHead (conOf cs_laws_eqHead) Tryd.f38 (Tryd.f38.body.getD .skip) (packT [.bool]) n (argsV [TyHead, TyHead] (a0, a1, ()))
theorem F_laws_eqHead_eq (n : Nat) (a0 : DHead) (a1 : DHead) : F_laws_eqHead n a0 a1 =
    bif !decide (a0.1 = a1.1) then
      some false
    else
      Option.bind (eqC TyAtom a0.2.1 a1.2.1) fun (y1 : Bool) =>
      bif !(y1) then
        some false
      else
        bif !decide (a0.2.2 = a1.2.2) then
          some false
        else
          some true := by kernel_rfl
theorem mk_laws_eqHead (hcs : ∀ x ∈ cs_laws_eqHead, CtrOk Tryd.prog x) (h : ∀ (a0 : DHead) (a1 : DHead) y, eqC TyHead a0 a1 = some y → ∃ n, F_laws_eqHead n a0 a1 = some y) : CtrOk Tryd.prog c_laws_eqHead := by
  refine ctr_of_run (c := c_laws_eqHead) (by kernel_rfl) (by kernel_rfl : Tryd.prog.funcs[38]? = some Tryd.f38) (code := Tryd.f38.body.getD .skip) (by kernel_rfl) (by kernel_rfl) (by kernel_rfl) (A := A_laws_eqHead) (I := In_laws_eqHead) hcs ?_
  rintro ⟨a0, a1, u⟩ y hy
  exact h a0 a1 y hy

theorem hcs_laws_eqHead : ∀ x ∈ cs_laws_eqHead, CtrOk Tryd.prog x := (conOf_cons ok_laws_eqAtom conOf_nil)
theorem ok_laws_eqHead : CtrOk Tryd.prog c_laws_eqHead := mk_laws_eqHead hcs_laws_eqHead fun a0 a1 y hy => by
  obtain ⟨rfl, hw, rfl⟩ := eqC_inv hy
  have hw2 : wfD I64 a0.1 ∧ wfD TyAtom a0.2.1 ∧ wfD .str a0.2.2 := hw
  refine ⟨0, ?_⟩
  rw [F_laws_eqHead_eq]
  simp [eqC_some hw2.2.1]
/-! ## laws.eqExpr (83) -/
noncomputable def c_laws_eqExpr : Ctr := ⟨83, [TyExpr, TyExpr], [.bool], fun x => eqC TyExpr x.1 x.2.1⟩
def A_laws_eqExpr : List (List Nat × Ann) := []
def In_laws_eqExpr : List (List Nat × Nat) := []
noncomputable def cs_laws_eqExpr : List Ctr := [c_laws_eqAtom]
noncomputable def F_laws_eqExpr (n : Nat) (a0 : DExpr) (a1 : DExpr) : Option Bool := run Tryd.prog A_laws_eqExpr In_laws_eqExpr (conOf cs_laws_eqExpr) Tryd.f83 (Tryd.f83.body.getD .skip) (packT [.bool]) n (argsV [TyExpr, TyExpr] (a0, a1, ()))
theorem F_laws_eqExpr_eq (n : Nat) (a0 : DExpr) (a1 : DExpr) : F_laws_eqExpr n a0 a1 =
    bif !decide (a0.1 = a1.1) then
      some false
    else
      bif !decide (a0.2.1 = a1.2.1) then
        some false
      else
        Option.bind (eqC TyAtom a0.2.2.1 a1.2.2.1) fun (y1 : Bool) =>
        bif !(y1) then
          some false
        else
          bif !decide (a0.2.2.2 = a1.2.2.2) then
            some false
          else
            some true := by kernel_rfl
theorem mk_laws_eqExpr (hcs : ∀ x ∈ cs_laws_eqExpr, CtrOk Tryd.prog x) (h : ∀ (a0 : DExpr) (a1 : DExpr) y, eqC TyExpr a0 a1 = some y → ∃ n, F_laws_eqExpr n a0 a1 = some y) : CtrOk Tryd.prog c_laws_eqExpr := by
  refine ctr_of_run (c := c_laws_eqExpr) (by kernel_rfl) (by kernel_rfl : Tryd.prog.funcs[83]? = some Tryd.f83) (code := Tryd.f83.body.getD .skip) (by kernel_rfl) (by kernel_rfl) (by kernel_rfl) (A := A_laws_eqExpr) (I := In_laws_eqExpr) hcs ?_
  rintro ⟨a0, a1, u⟩ y hy
  exact h a0 a1 y hy

theorem hcs_laws_eqExpr : ∀ x ∈ cs_laws_eqExpr, CtrOk Tryd.prog x := (conOf_cons ok_laws_eqAtom conOf_nil)
theorem ok_laws_eqExpr : CtrOk Tryd.prog c_laws_eqExpr := mk_laws_eqExpr hcs_laws_eqExpr fun a0 a1 y hy => by
  obtain ⟨rfl, hw, rfl⟩ := eqC_inv hy
  have hw2 : wfD I64 a0.1 ∧ wfD .str a0.2.1 ∧ wfD TyAtom a0.2.2.1 ∧ wfD I64 a0.2.2.2 := hw
  refine ⟨0, ?_⟩
  rw [F_laws_eqExpr_eq]
  simp [eqC_some hw2.2.2.1]
/-! ## laws.eqExprS (39) -/
noncomputable def c_laws_eqExprS : Ctr := ⟨39, [(.list TyExpr), (.list TyExpr)], [.bool], fun x => eqC (.list TyExpr) x.1 x.2.1⟩
def A_laws_eqExprS : List (List Nat × Ann) := [([0, 4], [.keep 0 0, .keep 0 1, .keep 0 5])]
def In_laws_eqExprS : List (List Nat × Nat) := []
noncomputable def cs_laws_eqExprS : List Ctr := [c_laws_eqExpr]
noncomputable def F_laws_eqExprS (n : Nat) (a0 : (List DExpr)) (a1 : (List DExpr)) : Option Bool := run Tryd.prog A_laws_eqExprS In_laws_eqExprS (conOf cs_laws_eqExprS) Tryd.f39 (Tryd.f39.body.getD .skip) (packT [.bool]) n (argsV [(.list TyExpr), (.list TyExpr)] (a0, a1, ()))
noncomputable abbrev L_laws_eqExprS_0_4 (n : Nat) (x1 : (List DExpr)) (x2 : (List DExpr)) (x3 : Int) : Option Bool := lam Tryd.prog A_laws_eqExprS In_laws_eqExprS (conOf cs_laws_eqExprS) Tryd.f39 (Tryd.f39.body.getD .skip) (packT [.bool]) n [0, 4] [.d (.list TyExpr) x1, .d (.list TyExpr) x2, .d I64 x3]
theorem F_laws_eqExprS_eq (n : Nat) (a0 : (List DExpr)) (a1 : (List DExpr)) : F_laws_eqExprS n a0 a1 =
    bif !decide ((a0.length : Int) = (a1.length : Int)) then
      some false
    else
      L_laws_eqExprS_0_4 n a0 a1 0 := by kernel_rfl
theorem L_laws_eqExprS_0_4_eq (n : Nat) (x1 : (List DExpr)) (x2 : (List DExpr)) (x3 : Int) : L_laws_eqExprS_0_4 (n + 1) x1 x2 x3 =
    bif decide (x3 < (x1.length : Int)) then
      bif inB x3 x1.length then
        bif inB x3 x2.length then
          Option.bind (eqC TyExpr (rd x1 x3 (Ty.dflt TyExpr)) (rd x2 x3 (Ty.dflt TyExpr))) fun (y1 : Bool) =>
          bif !(y1) then
            some false
          else
            L_laws_eqExprS_0_4 n x1 x2 (IntKind.wrap .i64 (x3 + 1))
        else none
      else none
    else
      some true := by kernel_rfl
theorem mk_laws_eqExprS (hcs : ∀ x ∈ cs_laws_eqExprS, CtrOk Tryd.prog x) (h : ∀ (a0 : (List DExpr)) (a1 : (List DExpr)) y, eqC (.list TyExpr) a0 a1 = some y → ∃ n, F_laws_eqExprS n a0 a1 = some y) : CtrOk Tryd.prog c_laws_eqExprS := by
  refine ctr_of_run (c := c_laws_eqExprS) (by kernel_rfl) (by kernel_rfl : Tryd.prog.funcs[39]? = some Tryd.f39) (code := Tryd.f39.body.getD .skip) (by kernel_rfl) (by kernel_rfl) (by kernel_rfl) (A := A_laws_eqExprS) (I := In_laws_eqExprS) hcs ?_
  rintro ⟨a0, a1, u⟩ y hy
  exact h a0 a1 y hy

theorem hcs_laws_eqExprS : ∀ x ∈ cs_laws_eqExprS, CtrOk Tryd.prog x := (conOf_cons ok_laws_eqExpr conOf_nil)
theorem ok_laws_eqExprS : CtrOk Tryd.prog c_laws_eqExprS := mk_laws_eqExprS hcs_laws_eqExprS fun a0 a1 y hy => by
  obtain ⟨n, hn⟩ := eqS_ok (t := TyExpr) (body := fun x y K => Option.bind (eqC TyExpr x y) fun b => bif !b then some false else K ()) (fun x K h => by simp only [eqC_some h, Option.bind_some, Bool.not_true, cond_false]) (fun n xs ys i => L_laws_eqExprS_0_4_eq n xs ys i) hy
  exact ⟨n, (F_laws_eqExprS_eq n a0 a1).trans hn⟩
/-! ## laws.eqPolicy (11) -/
noncomputable def c_laws_eqPolicy : Ctr := ⟨11, [TyPolicy, TyPolicy], [.bool], fun x => eqC TyPolicy x.1 x.2.1⟩
def A_laws_eqPolicy : List (List Nat × Ann) := []
def In_laws_eqPolicy : List (List Nat × Nat) := []
noncomputable def cs_laws_eqPolicy : List Ctr := [c_laws_eqHead, c_laws_eqExprS]
noncomputable def F_laws_eqPolicy (n : Nat) (a0 : DPolicy) (a1 : DPolicy) : Option Bool := run Tryd.prog A_laws_eqPolicy In_laws_eqPolicy (conOf cs_laws_eqPolicy) Tryd.f11 (Tryd.f11.body.getD .skip) (packT [.bool]) n (argsV [TyPolicy, TyPolicy] (a0, a1, ()))
theorem F_laws_eqPolicy_eq (n : Nat) (a0 : DPolicy) (a1 : DPolicy) : F_laws_eqPolicy n a0 a1 =
    bif !decide (a0.1 = a1.1) then
      some false
    else
      bif a0.2.1 != a1.2.1 then
        some false
      else
        Option.bind (eqC TyHead a0.2.2.1 a1.2.2.1) fun (y1 : Bool) =>
        bif !(y1) then
          some false
        else
          Option.bind (eqC TyHead a0.2.2.2.1 a1.2.2.2.1) fun (y2 : Bool) =>
          bif !(y2) then
            some false
          else
            Option.bind (eqC TyHead a0.2.2.2.2.1 a1.2.2.2.2.1) fun (y3 : Bool) =>
            bif !(y3) then
              some false
            else
              Option.bind (eqC (.list TyExpr) a0.2.2.2.2.2 a1.2.2.2.2.2) fun (y4 : Bool) =>
              bif !(y4) then
                some false
              else
                some true := by kernel_rfl
theorem mk_laws_eqPolicy (hcs : ∀ x ∈ cs_laws_eqPolicy, CtrOk Tryd.prog x) (h : ∀ (a0 : DPolicy) (a1 : DPolicy) y, eqC TyPolicy a0 a1 = some y → ∃ n, F_laws_eqPolicy n a0 a1 = some y) : CtrOk Tryd.prog c_laws_eqPolicy := by
  refine ctr_of_run (c := c_laws_eqPolicy) (by kernel_rfl) (by kernel_rfl : Tryd.prog.funcs[11]? = some Tryd.f11) (code := Tryd.f11.body.getD .skip) (by kernel_rfl) (by kernel_rfl) (by kernel_rfl) (A := A_laws_eqPolicy) (I := In_laws_eqPolicy) hcs ?_
  rintro ⟨a0, a1, u⟩ y hy
  exact h a0 a1 y hy

theorem hcs_laws_eqPolicy : ∀ x ∈ cs_laws_eqPolicy, CtrOk Tryd.prog x := (conOf_cons ok_laws_eqHead (conOf_cons ok_laws_eqExprS conOf_nil))
theorem ok_laws_eqPolicy : CtrOk Tryd.prog c_laws_eqPolicy := mk_laws_eqPolicy hcs_laws_eqPolicy fun a0 a1 y hy => by
  obtain ⟨rfl, hw, rfl⟩ := eqC_inv hy
  have hw2 : wfD .str a0.1 ∧ wfD .bool a0.2.1 ∧ wfD TyHead a0.2.2.1 ∧ wfD TyHead a0.2.2.2.1 ∧ wfD TyHead a0.2.2.2.2.1 ∧ wfD (.list TyExpr) a0.2.2.2.2.2 := hw
  refine ⟨0, ?_⟩
  rw [F_laws_eqPolicy_eq]
  simp [eqC_some hw2.2.2.1, eqC_some hw2.2.2.2.1, eqC_some hw2.2.2.2.2.1, eqC_some hw2.2.2.2.2.2]
/-! ## laws.FnExactLinkPolicy (3) -/
noncomputable def P_laws_FnExactLinkPolicy (g0 : (List (List Int))) (a0 : DPolicy) (a1 : (List Int)) (a2 : DAtom) (a3 : DAtom) : Option Bool :=
  bif decide ((1048576 : Int) < (a1.length : Int)) then
    some true
  else
    Option.bind (szC TyPolicy a0 1048576) fun (y1 : Int) =>
    bif decide (y1 < 0) then
      some true
    else
      Option.bind (szC TyAtom a2 y1) fun (y2 : Int) =>
      bif decide (y2 < 0) then
        some true
      else
        Option.bind (szC TyAtom a3 y2) fun (y3 : Int) =>
        bif decide (y3 < 0) then
          some true
        else
          Option.bind (toC TyPolicy a0) fun (y4 : DPolicy) =>
          Option.bind (toC TyAtom a2) fun (y5 : DAtom) =>
          Option.bind (toC TyAtom a3) fun (y6 : DAtom) =>
          Option.bind (P_spec_LinkPolicy y4 a1 y5 y6) fun (y7 : (DPolicy × Bool)) =>
          Option.bind (toC TyPolicy a0) fun (y8 : DPolicy) =>
          Option.bind (toC TyAtom a2) fun (y9 : DAtom) =>
          Option.bind (toC TyAtom a3) fun (y10 : DAtom) =>
          Option.bind (P_impl_LinkPolicy g0 y8 a1 y9 y10) fun (y11 : (DPolicy × Bool)) =>
          Option.bind (eqC TyPolicy y11.1 y7.1) fun (y12 : Bool) =>
          bif !(y12) then
            some false
          else
            bif y11.2 != y7.2 then
              some false
            else
              Option.bind (toC TyPolicy a0) fun (y13 : DPolicy) =>
              Option.bind (eqC TyPolicy y8 y13) fun (y14 : Bool) =>
              bif !(y14) then
                some false
              else
                Option.bind (markC TyPolicy y8 1) fun (y15 : (Int × DPolicy)) =>
                bif decide (y15.1 < 0) then
                  some false
                else
                  Option.bind (eqC TyPolicy y11.1 y7.1) fun (y16 : Bool) =>
                  bif !(y16) then
                    some false
                  else
                    bif y11.2 != y7.2 then
                      some false
                    else
                      Option.bind (markC TyPolicy y11.1 1) fun (y17 : (Int × DPolicy)) =>
                      Option.bind (P_laws_heldPolicy (y11.1.1, y11.1.2.1, y11.1.2.2.1, y11.1.2.2.2.1, y11.1.2.2.2.2.1, y17.2.2.2.2.2.2) 1) fun (y18 : Int) =>
                      bif decide (y18 < 0) then
                        some false
                      else
                        bif !decide (y18 = y17.1) then
                          some false
                        else
                          Option.bind (toC TyPolicy a0) fun (y19 : DPolicy) =>
                          Option.bind (toC TyAtom a2) fun (y20 : DAtom) =>
                          Option.bind (toC TyAtom a3) fun (y21 : DAtom) =>
                          Option.bind (P_impl_LinkPolicy g0 y19 a1 y20 y21) fun (y22 : (DPolicy × Bool)) =>
                          Option.bind (eqC TyPolicy y22.1 y7.1) fun (y23 : Bool) =>
                          bif !(y23) then
                            some false
                          else
                            bif y22.2 != y7.2 then
                              some false
                            else
                              Option.bind (P_laws_heldPolicy (y11.1.1, y11.1.2.1, y11.1.2.2.1, y11.1.2.2.2.1, y11.1.2.2.2.2.1, y17.2.2.2.2.2.2) 1) fun (y24 : Int) =>
                              bif decide (y24 < 0) then
                                some false
                              else
                                bif !decide (y24 = y17.1) then
                                  some false
                                else
                                  some true
def A_laws_FnExactLinkPolicy : List (List Nat × Ann) := []
def In_laws_FnExactLinkPolicy : List (List Nat × Nat) := [([14001], 2000008), ([15006], 2000010), ([21002], 3000012), ([25002], 3000012)]
noncomputable def cs_laws_FnExactLinkPolicy (g0 : (List (List Int))) : List Ctr := [c_laws_szPolicy, c_laws_szAtom, c_laws_toPolicy, c_laws_toAtom, c_spec_LinkPolicy, cd_laws_toPolicy, (cd_impl_LinkPolicy g0), c_laws_eqPolicy, ch_laws_markPolicy, c_laws_heldPolicy, (c_impl_LinkPolicy g0)]
noncomputable def F_laws_FnExactLinkPolicy (g0 : (List (List Int))) (n : Nat) (a0 : DPolicy) (a1 : (List Int)) (a2 : DAtom) (a3 : DAtom) : Option Bool := runE Tryd.prog (glOf [(0, explode (.list .str) g0)]) A_laws_FnExactLinkPolicy In_laws_FnExactLinkPolicy (conOf (cs_laws_FnExactLinkPolicy g0)) Tryd.f3 (Tryd.f3.body.getD .skip) (endD Tryd.prog Tryd.f3 (packT [.bool])) n (argsV [TyPolicy, .str, TyAtom, TyAtom] (a0, a1, a2, a3, ()))
theorem F_laws_FnExactLinkPolicy_eq (g0 : (List (List Int))) (n : Nat) (a0 : DPolicy) (a1 : (List Int)) (a2 : DAtom) (a3 : DAtom) : F_laws_FnExactLinkPolicy g0 n a0 a1 a2 a3 =
    bif decide ((1048576 : Int) < (a1.length : Int)) then
      some true
    else
      Option.bind (szC TyPolicy a0 1048576) fun (y1 : Int) =>
      bif decide (y1 < 0) then
        some true
      else
        Option.bind (szC TyAtom a2 y1) fun (y2 : Int) =>
        bif decide (y2 < 0) then
          some true
        else
          Option.bind (szC TyAtom a3 y2) fun (y3 : Int) =>
          bif decide (y3 < 0) then
            some true
          else
            Option.bind (toC TyPolicy a0) fun (y4 : DPolicy) =>
            Option.bind (toC TyAtom a2) fun (y5 : DAtom) =>
            Option.bind (toC TyAtom a3) fun (y6 : DAtom) =>
            Option.bind (P_spec_LinkPolicy y4 a1 y5 y6) fun (y7 : (DPolicy × Bool)) =>
            Option.bind (toC TyPolicy a0) fun (y8 : DPolicy) =>
            Option.bind (toC TyAtom a2) fun (y9 : DAtom) =>
            Option.bind (toC TyAtom a3) fun (y10 : DAtom) =>
            Option.bind (P_impl_LinkPolicy g0 y8 a1 y9 y10) fun (y11 : (DPolicy × Bool)) =>
            Option.bind (eqC TyPolicy y11.1 y7.1) fun (y12 : Bool) =>
            bif !(y12) then
              some false
            else
              bif y11.2 != y7.2 then
                some false
              else
                Option.bind (toC TyPolicy a0) fun (y13 : DPolicy) =>
                Option.bind (eqC TyPolicy y8 y13) fun (y14 : Bool) =>
                bif !(y14) then
                  some false
                else
                  Option.bind (markC TyPolicy y8 1) fun (y15 : (Int × DPolicy)) =>
                  bif decide (y15.1 < 0) then
                    some false
                  else
                    Option.bind (eqC TyPolicy y11.1 y7.1) fun (y16 : Bool) =>
                    bif !(y16) then
                      some false
                    else
                      bif y11.2 != y7.2 then
                        some false
                      else
                        Option.bind (markC TyPolicy y11.1 1) fun (y17 : (Int × DPolicy)) =>
                        Option.bind (P_laws_heldPolicy (y11.1.1, y11.1.2.1, y11.1.2.2.1, y11.1.2.2.2.1, y11.1.2.2.2.2.1, y17.2.2.2.2.2.2) 1) fun (y18 : Int) =>
                        bif decide (y18 < 0) then
                          some false
                        else
                          bif !decide (y18 = y17.1) then
                            some false
                          else
                            Option.bind (toC TyPolicy a0) fun (y19 : DPolicy) =>
                            Option.bind (toC TyAtom a2) fun (y20 : DAtom) =>
                            Option.bind (toC TyAtom a3) fun (y21 : DAtom) =>
                            Option.bind (P_impl_LinkPolicy g0 y19 a1 y20 y21) fun (y22 : (DPolicy × Bool)) =>
                            Option.bind (eqC TyPolicy y22.1 y7.1) fun (y23 : Bool) =>
                            bif !(y23) then
                              some false
                            else
                              bif y22.2 != y7.2 then
                                some false
                              else
                                Option.bind (P_laws_heldPolicy (y11.1.1, y11.1.2.1, y11.1.2.2.1, y11.1.2.2.2.1, y11.1.2.2.2.2.1, y17.2.2.2.2.2.2) 1) fun (y24 : Int) =>
                                bif decide (y24 < 0) then
                                  some false
                                else
                                  bif !decide (y24 = y17.1) then
                                    some false
                                  else
                                    some true := by kernel_rfl
theorem S_laws_FnExactLinkPolicy {g0 : (List (List Int))} (a0 : DPolicy) (a1 : (List Int)) (a2 : DAtom) (a3 : DAtom) {r : Bool} (h : P_laws_FnExactLinkPolicy g0 a0 a1 a2 a3 = some r) : Ev (fun n => F_laws_FnExactLinkPolicy g0 n a0 a1 a2 a3) r := by
  rw [P_laws_FnExactLinkPolicy] at h
  refine Ev.of_eq ?_ (fun n => F_laws_FnExactLinkPolicy_eq g0 n a0 a1 a2 a3)
  exact (Ev.ofBif h (fun h => (Ev.ofSome h)) (fun h => (Ev.ofBind h fun y1 h => (Ev.ofBif h (fun h => (Ev.ofSome h)) (fun h => (Ev.ofBind h fun y2 h => (Ev.ofBif h (fun h => (Ev.ofSome h)) (fun h => (Ev.ofBind h fun y3 h => (Ev.ofBif h (fun h => (Ev.ofSome h)) (fun h => (Ev.ofBind h fun y4 h => (Ev.ofBind h fun y5 h => (Ev.ofBind h fun y6 h => (Ev.ofBind h fun y7 h => (Ev.ofBind h fun y8 h => (Ev.ofBind h fun y9 h => (Ev.ofBind h fun y10 h => (Ev.ofBind h fun y11 h => (Ev.ofBind h fun y12 h => (Ev.ofBif h (fun h => (Ev.ofSome h)) (fun h => (Ev.ofBif h (fun h => (Ev.ofSome h)) (fun h => (Ev.ofBind h fun y13 h => (Ev.ofBind h fun y14 h => (Ev.ofBif h (fun h => (Ev.ofSome h)) (fun h => (Ev.ofBind h fun y15 h => (Ev.ofBif h (fun h => (Ev.ofSome h)) (fun h => (Ev.ofBind h fun y16 h => (Ev.ofBif h (fun h => (Ev.ofSome h)) (fun h => (Ev.ofBif h (fun h => (Ev.ofSome h)) (fun h => (Ev.ofBind h fun y17 h => (Ev.ofBind h fun y18 h => (Ev.ofBif h (fun h => (Ev.ofSome h)) (fun h => (Ev.ofBif h (fun h => (Ev.ofSome h)) (fun h => (Ev.ofBind h fun y19 h => (Ev.ofBind h fun y20 h => (Ev.ofBind h fun y21 h => (Ev.ofBind h fun y22 h => (Ev.ofBind h fun y23 h => (Ev.ofBif h (fun h => (Ev.ofSome h)) (fun h => (Ev.ofBif h (fun h => (Ev.ofSome h)) (fun h => (Ev.ofBind h fun y24 h => (Ev.ofBif h (fun h => (Ev.ofSome h)) (fun h => (Ev.ofBif h (fun h => (Ev.ofSome h)) (fun h => (Ev.ofSome h)))))))))))))))))))))))))))))))))))))))))))))))))))))))))

end Go.Ab
