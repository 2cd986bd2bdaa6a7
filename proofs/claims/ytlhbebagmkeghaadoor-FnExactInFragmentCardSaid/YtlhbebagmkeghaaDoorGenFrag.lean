/- generated -/
import Derived.Test.YtlhbebagmkeghaaDoorGenFraga
import Derived.Test.YtlhbebagmkeghaaDoorProg
import Derived.KernelRfl
namespace Go.Ab
open Go.Proofs
set_option maxRecDepth 20000
/-! ## laws.szExprS (27) -/
noncomputable def c_laws_szExprS : Ctr := ⟨27, [(.list TyExpr), I64], [I64], fun x => szC (.list TyExpr) x.1 x.2.1⟩
def A_laws_szExprS : List (List Nat × Ann) := [([0, 5], [.keep 0 0, .keep 0 1, .keep 0 5])]
def In_laws_szExprS : List (List Nat × Nat) := []
noncomputable def cs_laws_szExprS : List Ctr := [c_laws_szExpr]
noncomputable def F_laws_szExprS (n : Nat) (a0 : (List DExpr)) (a1 : Int) : Option Int := run Tryd.prog A_laws_szExprS In_laws_szExprS (conOf cs_laws_szExprS) Tryd.f27 (Tryd.f27.body.getD .skip) (packT [I64]) n (argsV [(.list TyExpr), I64] (a0, a1, ()))
noncomputable abbrev L_laws_szExprS_0_5 (n : Nat) (x1 : (List DExpr)) (x2 : Int) (x3 : Int) : Option Int := lam Tryd.prog A_laws_szExprS In_laws_szExprS (conOf cs_laws_szExprS) Tryd.f27 (Tryd.f27.body.getD .skip) (packT [I64]) n [0, 5] [.d (.list TyExpr) x1, .d I64 x2, .d I64 x3]
theorem F_laws_szExprS_eq (n : Nat) (a0 : (List DExpr)) (a1 : Int) : F_laws_szExprS n a0 a1 =
    bif decide (IntKind.wrap .i64 (a1 - (a0.length : Int)) < 0) then
      some (-1)
    else
      L_laws_szExprS_0_5 n a0 (IntKind.wrap .i64 (a1 - (a0.length : Int))) 0 := by kernel_rfl
theorem L_laws_szExprS_0_5_eq (n : Nat) (x1 : (List DExpr)) (x2 : Int) (x3 : Int) : L_laws_szExprS_0_5 (n + 1) x1 x2 x3 =
    bif decide (x3 < (x1.length : Int)) then
      bif inB x3 x1.length then
        Option.bind (szC TyExpr (rd x1 x3 (Ty.dflt TyExpr)) x2) fun (y1 : Int) =>
        bif decide (y1 < 0) then
          some (-1)
        else
          L_laws_szExprS_0_5 n x1 y1 (IntKind.wrap .i64 (x3 + 1))
      else none
    else
      some x2 := by kernel_rfl
theorem mk_laws_szExprS (hcs : ∀ x ∈ cs_laws_szExprS, CtrOk Tryd.prog x) (h : ∀ (a0 : (List DExpr)) (a1 : Int) y, szC (.list TyExpr) a0 a1 = some y → ∃ n, F_laws_szExprS n a0 a1 = some y) : CtrOk Tryd.prog c_laws_szExprS := by
  refine ctr_of_run (c := c_laws_szExprS) (by kernel_rfl) (by kernel_rfl : Tryd.prog.funcs[27]? = some Tryd.f27) (code := Tryd.f27.body.getD .skip) (by kernel_rfl) (by kernel_rfl) (by kernel_rfl) (A := A_laws_szExprS) (I := In_laws_szExprS) hcs ?_
  rintro ⟨a0, a1, u⟩ y hy
  exact h a0 a1 y hy

theorem hcs_laws_szExprS : ∀ x ∈ cs_laws_szExprS, CtrOk Tryd.prog x := (conOf_cons ok_laws_szExpr conOf_nil)
theorem ok_laws_szExprS : CtrOk Tryd.prog c_laws_szExprS := mk_laws_szExprS hcs_laws_szExprS fun a0 a1 y hy => by
  obtain ⟨n, hn⟩ := szS_call (fun n xs s i => L_laws_szExprS_0_5_eq n xs s i) hy
  exact ⟨n, (F_laws_szExprS_eq n a0 a1).trans hn⟩
/-! ## laws.szPolicy (6) -/
noncomputable def c_laws_szPolicy : Ctr := ⟨6, [TyPolicy, I64], [I64], fun x => szC TyPolicy x.1 x.2.1⟩
def A_laws_szPolicy : List (List Nat × Ann) := []
def In_laws_szPolicy : List (List Nat × Nat) := []
noncomputable def cs_laws_szPolicy : List Ctr := [c_laws_szHead, c_laws_szExprS]
noncomputable def F_laws_szPolicy (n : Nat) (a0 : DPolicy) (a1 : Int) : Option Int := run Tryd.prog A_laws_szPolicy In_laws_szPolicy (conOf cs_laws_szPolicy) Tryd.f6 (Tryd.f6.body.getD .skip) (packT [I64]) n (argsV [TyPolicy, I64] (a0, a1, ()))
theorem F_laws_szPolicy_eq (n : Nat) (a0 : DPolicy) (a1 : Int) : F_laws_szPolicy n a0 a1 =
    bif decide (IntKind.wrap .i64 (a1 - (a0.1.length : Int)) < 0) then
      some (-1)
    else
      Option.bind (szC TyHead a0.2.2.1 (IntKind.wrap .i64 (a1 - (a0.1.length : Int)))) fun (y1 : Int) =>
      bif decide (y1 < 0) then
        some (-1)
      else
        Option.bind (szC TyHead a0.2.2.2.1 y1) fun (y2 : Int) =>
        bif decide (y2 < 0) then
          some (-1)
        else
          Option.bind (szC TyHead a0.2.2.2.2.1 y2) fun (y3 : Int) =>
          bif decide (y3 < 0) then
            some (-1)
          else
            Option.bind (szC (.list TyExpr) a0.2.2.2.2.2 y3) fun (y4 : Int) =>
            bif decide (y4 < 0) then
              some (-1)
            else
              some y4 := by kernel_rfl
theorem mk_laws_szPolicy (hcs : ∀ x ∈ cs_laws_szPolicy, CtrOk Tryd.prog x) (h : ∀ (a0 : DPolicy) (a1 : Int) y, szC TyPolicy a0 a1 = some y → ∃ n, F_laws_szPolicy n a0 a1 = some y) : CtrOk Tryd.prog c_laws_szPolicy := by
  refine ctr_of_run (c := c_laws_szPolicy) (by kernel_rfl) (by kernel_rfl : Tryd.prog.funcs[6]? = some Tryd.f6) (code := Tryd.f6.body.getD .skip) (by kernel_rfl) (by kernel_rfl) (by kernel_rfl) (A := A_laws_szPolicy) (I := In_laws_szPolicy) hcs ?_
  rintro ⟨a0, a1, u⟩ y hy
  exact h a0 a1 y hy

theorem hcs_laws_szPolicy : ∀ x ∈ cs_laws_szPolicy, CtrOk Tryd.prog x := (conOf_cons ok_laws_szHead (conOf_cons ok_laws_szExprS conOf_nil))
theorem ok_laws_szPolicy : CtrOk Tryd.prog c_laws_szPolicy := mk_laws_szPolicy hcs_laws_szPolicy fun a0 a1 y hy => by
  obtain ⟨hw, h0, h1, rfl⟩ := szC_inv hy
  have hw2 : wfD .str a0.1 ∧ wfD .bool a0.2.1 ∧ wfD TyHead a0.2.2.1 ∧ wfD TyHead a0.2.2.2.1 ∧ wfD TyHead a0.2.2.2.2.1 ∧ wfD (.list TyExpr) a0.2.2.2.2.2 := hw
  have hsz : Ty.size TyPolicy a0 = Ty.size .str a0.1 + (Ty.size .bool a0.2.1 + (Ty.size TyHead a0.2.2.1 + (Ty.size TyHead a0.2.2.2.1 + (Ty.size TyHead a0.2.2.2.2.1 + (Ty.size (.list TyExpr) a0.2.2.2.2.2))))) := rfl
  have z1 : Ty.size .bool a0.2.1 = 0 := rfl
  have z0 : Ty.size .str a0.1 = a0.1.length := rfl
  refine ⟨0, ?_⟩
  rw [F_laws_szPolicy_eq, hsz]
  have hn0 : a0.1.length ≤ maxLen := by have := (hw2.1).1; unfold maxLen; omega
  rw [lessZ_wrap (left := a1) (n := a0.1.length) (by omega) (by omega) hn0]
  rcases Int.lt_or_le (a1) (a0.1.length : Int) with h | h
  · rw [decide_eq_true (show (a1 - (a0.1.length : Int)) < 0 by omega)]; simp only [cond_true]; unfold lessZ; rw [if_neg (by omega)]
  rw [decide_eq_false (show ¬ (a1 - (a0.1.length : Int)) < 0 by omega)]; simp only [cond_false]
  have h_0 := h; clear h
  rw [szC_some hw2.2.2.1 (show 0 ≤ (a1 - (a0.1.length : Int)) by omega) (by omega)]
  simp only [Option.bind_some]
  rcases Int.lt_or_le ((a1 - (a0.1.length : Int))) ((Ty.size TyHead a0.2.2.1 : Nat) : Int) with h | h
  · rw [show lessZ ((a1 - (a0.1.length : Int))) (Ty.size TyHead a0.2.2.1) = -1 by unfold lessZ; rw [if_neg (by omega)]]; rw [decide_eq_true (show (-1 : Int) < 0 by omega)]; simp only [cond_true]; unfold lessZ; rw [if_neg (by omega)]
  rw [show lessZ ((a1 - (a0.1.length : Int))) (Ty.size TyHead a0.2.2.1) = ((a1 - (a0.1.length : Int)) - ((Ty.size TyHead a0.2.2.1 : Nat) : Int)) by unfold lessZ; rw [if_pos h]]; rw [decide_eq_false (show ¬ ((a1 - (a0.1.length : Int)) - ((Ty.size TyHead a0.2.2.1 : Nat) : Int)) < 0 by omega)]; simp only [cond_false]
  have h_2 := h; clear h
  rw [szC_some hw2.2.2.2.1 (show 0 ≤ ((a1 - (a0.1.length : Int)) - ((Ty.size TyHead a0.2.2.1 : Nat) : Int)) by omega) (by omega)]
  simp only [Option.bind_some]
  rcases Int.lt_or_le (((a1 - (a0.1.length : Int)) - ((Ty.size TyHead a0.2.2.1 : Nat) : Int))) ((Ty.size TyHead a0.2.2.2.1 : Nat) : Int) with h | h
  · rw [show lessZ (((a1 - (a0.1.length : Int)) - ((Ty.size TyHead a0.2.2.1 : Nat) : Int))) (Ty.size TyHead a0.2.2.2.1) = -1 by unfold lessZ; rw [if_neg (by omega)]]; rw [decide_eq_true (show (-1 : Int) < 0 by omega)]; simp only [cond_true]; unfold lessZ; rw [if_neg (by omega)]
  rw [show lessZ (((a1 - (a0.1.length : Int)) - ((Ty.size TyHead a0.2.2.1 : Nat) : Int))) (Ty.size TyHead a0.2.2.2.1) = (((a1 - (a0.1.length : Int)) - ((Ty.size TyHead a0.2.2.1 : Nat) : Int)) - ((Ty.size TyHead a0.2.2.2.1 : Nat) : Int)) by unfold lessZ; rw [if_pos h]]; rw [decide_eq_false (show ¬ (((a1 - (a0.1.length : Int)) - ((Ty.size TyHead a0.2.2.1 : Nat) : Int)) - ((Ty.size TyHead a0.2.2.2.1 : Nat) : Int)) < 0 by omega)]; simp only [cond_false]
  have h_3 := h; clear h
  rw [szC_some hw2.2.2.2.2.1 (show 0 ≤ (((a1 - (a0.1.length : Int)) - ((Ty.size TyHead a0.2.2.1 : Nat) : Int)) - ((Ty.size TyHead a0.2.2.2.1 : Nat) : Int)) by omega) (by omega)]
  simp only [Option.bind_some]
  rcases Int.lt_or_le ((((a1 - (a0.1.length : Int)) - ((Ty.size TyHead a0.2.2.1 : Nat) : Int)) - ((Ty.size TyHead a0.2.2.2.1 : Nat) : Int))) ((Ty.size TyHead a0.2.2.2.2.1 : Nat) : Int) with h | h
  · rw [show lessZ ((((a1 - (a0.1.length : Int)) - ((Ty.size TyHead a0.2.2.1 : Nat) : Int)) - ((Ty.size TyHead a0.2.2.2.1 : Nat) : Int))) (Ty.size TyHead a0.2.2.2.2.1) = -1 by unfold lessZ; rw [if_neg (by omega)]]; rw [decide_eq_true (show (-1 : Int) < 0 by omega)]; simp only [cond_true]; unfold lessZ; rw [if_neg (by omega)]
  rw [show lessZ ((((a1 - (a0.1.length : Int)) - ((Ty.size TyHead a0.2.2.1 : Nat) : Int)) - ((Ty.size TyHead a0.2.2.2.1 : Nat) : Int))) (Ty.size TyHead a0.2.2.2.2.1) = ((((a1 - (a0.1.length : Int)) - ((Ty.size TyHead a0.2.2.1 : Nat) : Int)) - ((Ty.size TyHead a0.2.2.2.1 : Nat) : Int)) - ((Ty.size TyHead a0.2.2.2.2.1 : Nat) : Int)) by unfold lessZ; rw [if_pos h]]; rw [decide_eq_false (show ¬ ((((a1 - (a0.1.length : Int)) - ((Ty.size TyHead a0.2.2.1 : Nat) : Int)) - ((Ty.size TyHead a0.2.2.2.1 : Nat) : Int)) - ((Ty.size TyHead a0.2.2.2.2.1 : Nat) : Int)) < 0 by omega)]; simp only [cond_false]
  have h_4 := h; clear h
  rw [szC_some hw2.2.2.2.2.2 (show 0 ≤ ((((a1 - (a0.1.length : Int)) - ((Ty.size TyHead a0.2.2.1 : Nat) : Int)) - ((Ty.size TyHead a0.2.2.2.1 : Nat) : Int)) - ((Ty.size TyHead a0.2.2.2.2.1 : Nat) : Int)) by omega) (by omega)]
  simp only [Option.bind_some]
  rcases Int.lt_or_le (((((a1 - (a0.1.length : Int)) - ((Ty.size TyHead a0.2.2.1 : Nat) : Int)) - ((Ty.size TyHead a0.2.2.2.1 : Nat) : Int)) - ((Ty.size TyHead a0.2.2.2.2.1 : Nat) : Int))) ((Ty.size (.list TyExpr) a0.2.2.2.2.2 : Nat) : Int) with h | h
  · rw [show lessZ (((((a1 - (a0.1.length : Int)) - ((Ty.size TyHead a0.2.2.1 : Nat) : Int)) - ((Ty.size TyHead a0.2.2.2.1 : Nat) : Int)) - ((Ty.size TyHead a0.2.2.2.2.1 : Nat) : Int))) (Ty.size (.list TyExpr) a0.2.2.2.2.2) = -1 by unfold lessZ; rw [if_neg (by omega)]]; rw [decide_eq_true (show (-1 : Int) < 0 by omega)]; simp only [cond_true]; unfold lessZ; rw [if_neg (by omega)]
  rw [show lessZ (((((a1 - (a0.1.length : Int)) - ((Ty.size TyHead a0.2.2.1 : Nat) : Int)) - ((Ty.size TyHead a0.2.2.2.1 : Nat) : Int)) - ((Ty.size TyHead a0.2.2.2.2.1 : Nat) : Int))) (Ty.size (.list TyExpr) a0.2.2.2.2.2) = (((((a1 - (a0.1.length : Int)) - ((Ty.size TyHead a0.2.2.1 : Nat) : Int)) - ((Ty.size TyHead a0.2.2.2.1 : Nat) : Int)) - ((Ty.size TyHead a0.2.2.2.2.1 : Nat) : Int)) - ((Ty.size (.list TyExpr) a0.2.2.2.2.2 : Nat) : Int)) by unfold lessZ; rw [if_pos h]]; rw [decide_eq_false (show ¬ (((((a1 - (a0.1.length : Int)) - ((Ty.size TyHead a0.2.2.1 : Nat) : Int)) - ((Ty.size TyHead a0.2.2.2.1 : Nat) : Int)) - ((Ty.size TyHead a0.2.2.2.2.1 : Nat) : Int)) - ((Ty.size (.list TyExpr) a0.2.2.2.2.2 : Nat) : Int)) < 0 by omega)]; simp only [cond_false]
  have h_5 := h; clear h
  unfold lessZ; rw [if_pos (by omega)]; congr 1 <;> omega
/-! ## laws.toAtom (13) -/
noncomputable def c_laws_toAtom : Ctr := ⟨13, [TyAtom], [TyAtom], fun x => toC TyAtom x.1⟩
def A_laws_toAtom : List (List Nat × Ann) := []
def In_laws_toAtom : List (List Nat × Nat) := []
noncomputable def cs_laws_toAtom : List Ctr := []
noncomputable def F_laws_toAtom (n : Nat) (a0 : DAtom) : Option DAtom := run Tryd.prog A_laws_toAtom In_laws_toAtom (conOf cs_laws_toAtom) Tryd.f13 (Tryd.f13.body.getD .skip) (packT [TyAtom]) n (argsV [TyAtom] (a0, ()))
theorem F_laws_toAtom_eq (n : Nat) (a0 : DAtom) : F_laws_toAtom n a0 =
    some a0 := by kernel_rfl
theorem mk_laws_toAtom (hcs : ∀ x ∈ cs_laws_toAtom, CtrOk Tryd.prog x) (h : ∀ (a0 : DAtom) y, toC TyAtom a0 = some y → ∃ n, F_laws_toAtom n a0 = some y) : CtrOk Tryd.prog c_laws_toAtom := by
  refine ctr_of_run (c := c_laws_toAtom) (by kernel_rfl) (by kernel_rfl : Tryd.prog.funcs[13]? = some Tryd.f13) (code := Tryd.f13.body.getD .skip) (by kernel_rfl) (by kernel_rfl) (by kernel_rfl) (A := A_laws_toAtom) (I := In_laws_toAtom) hcs ?_
  rintro ⟨a0, u⟩ y hy
  exact h a0 y hy

theorem hcs_laws_toAtom : ∀ x ∈ cs_laws_toAtom, CtrOk Tryd.prog x := conOf_nil
theorem ok_laws_toAtom : CtrOk Tryd.prog c_laws_toAtom := mk_laws_toAtom hcs_laws_toAtom fun a0 y hy => by
  obtain ⟨hw, hs, rfl⟩ := toC_inv hy
  have hw2 : wfD I64 y.1 ∧ wfD I64 y.2.1 ∧ wfD .str y.2.2.1 ∧ wfD .str y.2.2.2 := hw
  have hs2 : Ty.size I64 y.1 + (Ty.size I64 y.2.1 + (Ty.size .str y.2.2.1 + (Ty.size .str y.2.2.2))) ≤ 1073741824 := hs
  refine ⟨0, ?_⟩
  rw [F_laws_toAtom_eq]
  try rfl
/-! ## laws.toHead (32) -/
noncomputable def c_laws_toHead : Ctr := ⟨32, [TyHead], [TyHead], fun x => toC TyHead x.1⟩
def A_laws_toHead : List (List Nat × Ann) := []
def In_laws_toHead : List (List Nat × Nat) := []
noncomputable def cs_laws_toHead : List Ctr := [c_laws_toAtom]
noncomputable def F_laws_toHead (n : Nat) (a0 : DHead) : Option DHead := run Tryd.prog A_laws_toHead In_laws_toHead (conOf cs_laws_toHead) Tryd.f32 (Tryd.f32.body.getD .skip) (packT [TyHead]) n (argsV [TyHead] (a0, ()))
theorem F_laws_toHead_eq (n : Nat) (a0 : DHead) : F_laws_toHead n a0 =
    Option.bind (toC TyAtom a0.2.1) fun (y1 : DAtom) =>
    some (a0.1, y1, a0.2.2) := by kernel_rfl
theorem mk_laws_toHead (hcs : ∀ x ∈ cs_laws_toHead, CtrOk Tryd.prog x) (h : ∀ (a0 : DHead) y, toC TyHead a0 = some y → ∃ n, F_laws_toHead n a0 = some y) : CtrOk Tryd.prog c_laws_toHead := by
  refine ctr_of_run (c := c_laws_toHead) (by kernel_rfl) (by kernel_rfl : Tryd.prog.funcs[32]? = some Tryd.f32) (code := Tryd.f32.body.getD .skip) (by kernel_rfl) (by kernel_rfl) (by kernel_rfl) (A := A_laws_toHead) (I := In_laws_toHead) hcs ?_
  rintro ⟨a0, u⟩ y hy
  exact h a0 y hy

theorem hcs_laws_toHead : ∀ x ∈ cs_laws_toHead, CtrOk Tryd.prog x := (conOf_cons ok_laws_toAtom conOf_nil)
theorem ok_laws_toHead : CtrOk Tryd.prog c_laws_toHead := mk_laws_toHead hcs_laws_toHead fun a0 y hy => by
  obtain ⟨hw, hs, rfl⟩ := toC_inv hy
  have hw2 : wfD I64 y.1 ∧ wfD TyAtom y.2.1 ∧ wfD .str y.2.2 := hw
  have hs2 : Ty.size I64 y.1 + (Ty.size TyAtom y.2.1 + (Ty.size .str y.2.2)) ≤ 1073741824 := hs
  refine ⟨0, ?_⟩
  rw [F_laws_toHead_eq]
  try (rw [toC_some hw2.2.1 (by omega)]; simp only [Option.bind_some])
  try rfl
/-! ## laws.toExpr (83) -/
noncomputable def c_laws_toExpr : Ctr := ⟨83, [TyExpr], [TyExpr], fun x => toC TyExpr x.1⟩
def A_laws_toExpr : List (List Nat × Ann) := []
def In_laws_toExpr : List (List Nat × Nat) := []
noncomputable def cs_laws_toExpr : List Ctr := [c_laws_toAtom]
noncomputable def F_laws_toExpr (n : Nat) (a0 : DExpr) : Option DExpr := run Tryd.prog A_laws_toExpr In_laws_toExpr (conOf cs_laws_toExpr) Tryd.f83 (Tryd.f83.body.getD .skip) (packT [TyExpr]) n (argsV [TyExpr] (a0, ()))
theorem F_laws_toExpr_eq (n : Nat) (a0 : DExpr) : F_laws_toExpr n a0 =
    Option.bind (toC TyAtom a0.2.2.1) fun (y1 : DAtom) =>
    some (a0.1, a0.2.1, y1, a0.2.2.2) := by kernel_rfl
theorem mk_laws_toExpr (hcs : ∀ x ∈ cs_laws_toExpr, CtrOk Tryd.prog x) (h : ∀ (a0 : DExpr) y, toC TyExpr a0 = some y → ∃ n, F_laws_toExpr n a0 = some y) : CtrOk Tryd.prog c_laws_toExpr := by
  refine ctr_of_run (c := c_laws_toExpr) (by kernel_rfl) (by kernel_rfl : Tryd.prog.funcs[83]? = some Tryd.f83) (code := Tryd.f83.body.getD .skip) (by kernel_rfl) (by kernel_rfl) (by kernel_rfl) (A := A_laws_toExpr) (I := In_laws_toExpr) hcs ?_
  rintro ⟨a0, u⟩ y hy
  exact h a0 y hy

theorem hcs_laws_toExpr : ∀ x ∈ cs_laws_toExpr, CtrOk Tryd.prog x := (conOf_cons ok_laws_toAtom conOf_nil)
theorem ok_laws_toExpr : CtrOk Tryd.prog c_laws_toExpr := mk_laws_toExpr hcs_laws_toExpr fun a0 y hy => by
  obtain ⟨hw, hs, rfl⟩ := toC_inv hy
  have hw2 : wfD I64 y.1 ∧ wfD .str y.2.1 ∧ wfD TyAtom y.2.2.1 ∧ wfD I64 y.2.2.2 := hw
  have hs2 : Ty.size I64 y.1 + (Ty.size .str y.2.1 + (Ty.size TyAtom y.2.2.1 + (Ty.size I64 y.2.2.2))) ≤ 1073741824 := hs
  refine ⟨0, ?_⟩
  rw [F_laws_toExpr_eq]
  try (rw [toC_some hw2.2.2.1 (by omega)]; simp only [Option.bind_some])
  try rfl
/-! ## laws.toExprS (33) -/
noncomputable def c_laws_toExprS : Ctr := ⟨33, [(.list TyExpr)], [(.list TyExpr)], fun x => toC (.list TyExpr) x.1⟩
def A_laws_toExprS : List (List Nat × Ann) := [([0, 3], [.keep 0 0, .keep 0 3, .keep 0 4, .rows 0 7 TyExpr])]
def In_laws_toExprS : List (List Nat × Nat) := []
noncomputable def cs_laws_toExprS : List Ctr := [c_laws_toExpr]
noncomputable def F_laws_toExprS (n : Nat) (a0 : (List DExpr)) : Option (List DExpr) := run Tryd.prog A_laws_toExprS In_laws_toExprS (conOf cs_laws_toExprS) Tryd.f33 (Tryd.f33.body.getD .skip) (packT [(.list TyExpr)]) n (argsV [(.list TyExpr)] (a0, ()))
noncomputable abbrev L_laws_toExprS_0_3 (n : Nat) (x1 : (List DExpr)) (x2 : Int) (x3 : (List DExpr)) : Option (List DExpr) := lam Tryd.prog A_laws_toExprS In_laws_toExprS (conOf cs_laws_toExprS) Tryd.f33 (Tryd.f33.body.getD .skip) (packT [(.list TyExpr)]) n [0, 3] [.d (.list TyExpr) x1, .msl 0 7, .d I64 x2, .d (.list TyExpr) x3]
theorem F_laws_toExprS_eq (n : Nat) (a0 : (List DExpr)) : F_laws_toExprS n a0 =
    bif decide ((a0.length : Int) = (a0.length : Int)) && decide ((0 : Int) ≤ (a0.length : Int)) && decide ((a0.length : Int) * 80 ≤ room) && true then
      L_laws_toExprS_0_3 n a0 0 (List.replicate (Int.toNat (a0.length : Int)) (0, ([] : List Int), (0, 0, ([] : List Int), ([] : List Int)), 0))
    else none := by kernel_rfl
theorem L_laws_toExprS_0_3_eq (n : Nat) (x1 : (List DExpr)) (x2 : Int) (x3 : (List DExpr)) : L_laws_toExprS_0_3 (n + 1) x1 x2 x3 =
    bif decide (x2 < (x1.length : Int)) then
      bif inB x2 x1.length then
        Option.bind (toC TyExpr (rd x1 x2 (Ty.dflt TyExpr))) fun (y1 : DExpr) =>
        bif inB x2 x3.length then
          bif inB x2 x3.length && true && true && true && true then
            L_laws_toExprS_0_3 n x1 (IntKind.wrap .i64 (x2 + 1)) (x3.set (Int.toNat x2) y1)
          else none
        else none
      else none
    else
      some x3 := by kernel_rfl
theorem mk_laws_toExprS (hcs : ∀ x ∈ cs_laws_toExprS, CtrOk Tryd.prog x) (h : ∀ (a0 : (List DExpr)) y, toC (.list TyExpr) a0 = some y → ∃ n, F_laws_toExprS n a0 = some y) : CtrOk Tryd.prog c_laws_toExprS := by
  refine ctr_of_run (c := c_laws_toExprS) (by kernel_rfl) (by kernel_rfl : Tryd.prog.funcs[33]? = some Tryd.f33) (code := Tryd.f33.body.getD .skip) (by kernel_rfl) (by kernel_rfl) (by kernel_rfl) (A := A_laws_toExprS) (I := In_laws_toExprS) hcs ?_
  rintro ⟨a0, u⟩ y hy
  exact h a0 y hy

theorem hcs_laws_toExprS : ∀ x ∈ cs_laws_toExprS, CtrOk Tryd.prog x := (conOf_cons ok_laws_toExpr conOf_nil)
theorem ok_laws_toExprS : CtrOk Tryd.prog c_laws_toExprS := mk_laws_toExprS hcs_laws_toExprS fun a0 y hy => by
  obtain ⟨n, hn⟩ := toS_ok (t := TyExpr) (f := toC TyExpr) (fun x h h2 => toC_some h h2) (by_ := 80) (by omega) (fun n xs i out => L_laws_toExprS_0_3_eq n xs i out) hy
  exact ⟨n, (F_laws_toExprS_eq n a0).trans hn⟩
/-! ## laws.toPolicy (8) -/
noncomputable def c_laws_toPolicy : Ctr := ⟨8, [TyPolicy], [TyPolicy], fun x => toC TyPolicy x.1⟩
def A_laws_toPolicy : List (List Nat × Ann) := []
def In_laws_toPolicy : List (List Nat × Nat) := []
noncomputable def cs_laws_toPolicy : List Ctr := [c_laws_toHead, c_laws_toExprS]
noncomputable def F_laws_toPolicy (n : Nat) (a0 : DPolicy) : Option DPolicy := run Tryd.prog A_laws_toPolicy In_laws_toPolicy (conOf cs_laws_toPolicy) Tryd.f8 (Tryd.f8.body.getD .skip) (packT [TyPolicy]) n (argsV [TyPolicy] (a0, ()))
theorem F_laws_toPolicy_eq (n : Nat) (a0 : DPolicy) : F_laws_toPolicy n a0 =
    Option.bind (toC TyHead a0.2.2.1) fun (y1 : DHead) =>
    Option.bind (toC TyHead a0.2.2.2.1) fun (y2 : DHead) =>
    Option.bind (toC TyHead a0.2.2.2.2.1) fun (y3 : DHead) =>
    Option.bind (toC (.list TyExpr) a0.2.2.2.2.2) fun (y4 : (List DExpr)) =>
    some (a0.1, a0.2.1, y1, y2, y3, y4) := by kernel_rfl
theorem mk_laws_toPolicy (hcs : ∀ x ∈ cs_laws_toPolicy, CtrOk Tryd.prog x) (h : ∀ (a0 : DPolicy) y, toC TyPolicy a0 = some y → ∃ n, F_laws_toPolicy n a0 = some y) : CtrOk Tryd.prog c_laws_toPolicy := by
  refine ctr_of_run (c := c_laws_toPolicy) (by kernel_rfl) (by kernel_rfl : Tryd.prog.funcs[8]? = some Tryd.f8) (code := Tryd.f8.body.getD .skip) (by kernel_rfl) (by kernel_rfl) (by kernel_rfl) (A := A_laws_toPolicy) (I := In_laws_toPolicy) hcs ?_
  rintro ⟨a0, u⟩ y hy
  exact h a0 y hy

theorem hcs_laws_toPolicy : ∀ x ∈ cs_laws_toPolicy, CtrOk Tryd.prog x := (conOf_cons ok_laws_toHead (conOf_cons ok_laws_toExprS conOf_nil))
theorem ok_laws_toPolicy : CtrOk Tryd.prog c_laws_toPolicy := mk_laws_toPolicy hcs_laws_toPolicy fun a0 y hy => by
  obtain ⟨hw, hs, rfl⟩ := toC_inv hy
  have hw2 : wfD .str y.1 ∧ wfD .bool y.2.1 ∧ wfD TyHead y.2.2.1 ∧ wfD TyHead y.2.2.2.1 ∧ wfD TyHead y.2.2.2.2.1 ∧ wfD (.list TyExpr) y.2.2.2.2.2 := hw
  have hs2 : Ty.size .str y.1 + (Ty.size .bool y.2.1 + (Ty.size TyHead y.2.2.1 + (Ty.size TyHead y.2.2.2.1 + (Ty.size TyHead y.2.2.2.2.1 + (Ty.size (.list TyExpr) y.2.2.2.2.2))))) ≤ 1073741824 := hs
  refine ⟨0, ?_⟩
  rw [F_laws_toPolicy_eq]
  try (rw [toC_some hw2.2.2.1 (by omega)]; simp only [Option.bind_some])
  try (rw [toC_some hw2.2.2.2.1 (by omega)]; simp only [Option.bind_some])
  try (rw [toC_some hw2.2.2.2.2.1 (by omega)]; simp only [Option.bind_some])
  try (rw [toC_some hw2.2.2.2.2.2 (by omega)]; simp only [Option.bind_some])
  try rfl
/-! ## laws.eqAtom (92) -/
noncomputable def c_laws_eqAtom : Ctr := ⟨92, [TyAtom, TyAtom], [.bool], fun x => eqC TyAtom x.1 x.2.1⟩
def A_laws_eqAtom : List (List Nat × Ann) := []
def In_laws_eqAtom : List (List Nat × Nat) := []
noncomputable def cs_laws_eqAtom : List Ctr := []
noncomputable def F_laws_eqAtom (n : Nat) (a0 : DAtom) (a1 : DAtom) : Option Bool := run Tryd.prog A_laws_eqAtom In_laws_eqAtom (conOf cs_laws_eqAtom) Tryd.f92 (Tryd.f92.body.getD .skip) (packT [.bool]) n (argsV [TyAtom, TyAtom] (a0, a1, ()))
theorem F_laws_eqAtom_eq (n : Nat) (a0 : DAtom) (a1 : DAtom) : F_laws_eqAtom n a0 a1 =
    bif !decide (a0.1 = a1.1) then
      some false
    else
      bif !decide (a0.2.1 = a1.2.1) then
        some false
      else
        bif !decide (a0.2.2.1 = a1.2.2.1) then
          some false
        else
          bif !decide (a0.2.2.2 = a1.2.2.2) then
            some false
          else
            some true := by kernel_rfl
theorem mk_laws_eqAtom (hcs : ∀ x ∈ cs_laws_eqAtom, CtrOk Tryd.prog x) (h : ∀ (a0 : DAtom) (a1 : DAtom) y, eqC TyAtom a0 a1 = some y → ∃ n, F_laws_eqAtom n a0 a1 = some y) : CtrOk Tryd.prog c_laws_eqAtom := by
  refine ctr_of_run (c := c_laws_eqAtom) (by kernel_rfl) (by kernel_rfl : Tryd.prog.funcs[92]? = some Tryd.f92) (code := Tryd.f92.body.getD .skip) (by kernel_rfl) (by kernel_rfl) (by kernel_rfl) (A := A_laws_eqAtom) (I := In_laws_eqAtom) hcs ?_
  rintro ⟨a0, a1, u⟩ y hy
  exact h a0 a1 y hy

theorem hcs_laws_eqAtom : ∀ x ∈ cs_laws_eqAtom, CtrOk Tryd.prog x := conOf_nil
theorem ok_laws_eqAtom : CtrOk Tryd.prog c_laws_eqAtom := mk_laws_eqAtom hcs_laws_eqAtom fun a0 a1 y hy => by
  obtain ⟨rfl, hw, rfl⟩ := eqC_inv hy
  have hw2 : wfD I64 a0.1 ∧ wfD I64 a0.2.1 ∧ wfD .str a0.2.2.1 ∧ wfD .str a0.2.2.2 := hw
  refine ⟨0, ?_⟩
  rw [F_laws_eqAtom_eq]
  simp []
/-! ## laws.eqHead (37) -/
noncomputable def c_laws_eqHead : Ctr := ⟨37, [TyHead, TyHead], [.bool], fun x => eqC TyHead x.1 x.2.1⟩
def A_laws_eqHead : List (List Nat × Ann) := []
def In_laws_eqHead : List (List Nat × Nat) := []
noncomputable def cs_laws_eqHead : List Ctr := [c_laws_eqAtom]
noncomputable def F_laws_eqHead (n : Nat) (a0 : DHead) (a1 : DHead) : Option Bool := run Tryd.prog A_laws_eqHead In_laws_eqHead (conOf cs_laws_eqHead) Tryd.f37 (Tryd.f37.body.getD .skip) (packT [.bool]) n (argsV [TyHead, TyHead] (a0, a1, ()))
theorem F_laws_eqHead_eq (n : Nat) (a0 : DHead) (a1 : DHead) : F_laws_eqHead n a0 a1 =
    bif !decide (a0.1 = a1.1) then
      some false
    else
      Option.bind (eqC TyAtom a0.2.1 a1.2.1) fun (y1 : Bool) =>
      bif !(y1) then
        some false
      else
        bif !decide (a0.2.2 = a1.2.2) then
          some false
        else
          some true := by kernel_rfl
theorem mk_laws_eqHead (hcs : ∀ x ∈ cs_laws_eqHead, CtrOk Tryd.prog x) (h : ∀ (a0 : DHead) (a1 : DHead) y, eqC TyHead a0 a1 = some y → ∃ n, F_laws_eqHead n a0 a1 = some y) : CtrOk Tryd.prog c_laws_eqHead := by
  refine ctr_of_run (c := c_laws_eqHead) (by kernel_rfl) (by kernel_rfl : Tryd.prog.funcs[37]? = some Tryd.f37) (code := Tryd.f37.body.getD .skip) (by kernel_rfl) (by kernel_rfl) (by kernel_rfl) (A := A_laws_eqHead) (I := In_laws_eqHead) hcs ?_
  rintro ⟨a0, a1, u⟩ y hy
  exact h a0 a1 y hy

theorem hcs_laws_eqHead : ∀ x ∈ cs_laws_eqHead, CtrOk Tryd.prog x := (conOf_cons ok_laws_eqAtom conOf_nil)
theorem ok_laws_eqHead : CtrOk Tryd.prog c_laws_eqHead := mk_laws_eqHead hcs_laws_eqHead fun a0 a1 y hy => by
  obtain ⟨rfl, hw, rfl⟩ := eqC_inv hy
  have hw2 : wfD I64 a0.1 ∧ wfD TyAtom a0.2.1 ∧ wfD .str a0.2.2 := hw
  refine ⟨0, ?_⟩
  rw [F_laws_eqHead_eq]
  simp [eqC_some hw2.2.1]
/-! ## laws.eqExpr (93) -/
noncomputable def c_laws_eqExpr : Ctr := ⟨93, [TyExpr, TyExpr], [.bool], fun x => eqC TyExpr x.1 x.2.1⟩
def A_laws_eqExpr : List (List Nat × Ann) := []
def In_laws_eqExpr : List (List Nat × Nat) := []
noncomputable def cs_laws_eqExpr : List Ctr := [c_laws_eqAtom]
noncomputable def F_laws_eqExpr (n : Nat) (a0 : DExpr) (a1 : DExpr) : Option Bool := run Tryd.prog A_laws_eqExpr In_laws_eqExpr (conOf cs_laws_eqExpr) Tryd.f93 (Tryd.f93.body.getD .skip) (packT [.bool]) n (argsV [TyExpr, TyExpr] (a0, a1, ()))
theorem F_laws_eqExpr_eq (n : Nat) (a0 : DExpr) (a1 : DExpr) : F_laws_eqExpr n a0 a1 =
    bif !decide (a0.1 = a1.1) then
      some false
    else
      bif !decide (a0.2.1 = a1.2.1) then
        some false
      else
        Option.bind (eqC TyAtom a0.2.2.1 a1.2.2.1) fun (y1 : Bool) =>
        bif !(y1) then
          some false
        else
          bif !decide (a0.2.2.2 = a1.2.2.2) then
            some false
          else
            some true := by kernel_rfl
theorem mk_laws_eqExpr (hcs : ∀ x ∈ cs_laws_eqExpr, CtrOk Tryd.prog x) (h : ∀ (a0 : DExpr) (a1 : DExpr) y, eqC TyExpr a0 a1 = some y → ∃ n, F_laws_eqExpr n a0 a1 = some y) : CtrOk Tryd.prog c_laws_eqExpr := by
  refine ctr_of_run (c := c_laws_eqExpr) (by kernel_rfl) (by kernel_rfl : Tryd.prog.funcs[93]? = some Tryd.f93) (code := Tryd.f93.body.getD .skip) (by kernel_rfl) (by kernel_rfl) (by kernel_rfl) (A := A_laws_eqExpr) (I := In_laws_eqExpr) hcs ?_
  rintro ⟨a0, a1, u⟩ y hy
  exact h a0 a1 y hy

theorem hcs_laws_eqExpr : ∀ x ∈ cs_laws_eqExpr, CtrOk Tryd.prog x := (conOf_cons ok_laws_eqAtom conOf_nil)
theorem ok_laws_eqExpr : CtrOk Tryd.prog c_laws_eqExpr := mk_laws_eqExpr hcs_laws_eqExpr fun a0 a1 y hy => by
  obtain ⟨rfl, hw, rfl⟩ := eqC_inv hy
  have hw2 : wfD I64 a0.1 ∧ wfD .str a0.2.1 ∧ wfD TyAtom a0.2.2.1 ∧ wfD I64 a0.2.2.2 := hw
  refine ⟨0, ?_⟩
  rw [F_laws_eqExpr_eq]
  simp [eqC_some hw2.2.2.1]
/-! ## laws.eqExprS (38) -/
noncomputable def c_laws_eqExprS : Ctr := ⟨38, [(.list TyExpr), (.list TyExpr)], [.bool], fun x => eqC (.list TyExpr) x.1 x.2.1⟩
def A_laws_eqExprS : List (List Nat × Ann) := [([0, 4], [.keep 0 0, .keep 0 1, .keep 0 5])]
def In_laws_eqExprS : List (List Nat × Nat) := []
noncomputable def cs_laws_eqExprS : List Ctr := [c_laws_eqExpr]
noncomputable def F_laws_eqExprS (n : Nat) (a0 : (List DExpr)) (a1 : (List DExpr)) : Option Bool := run Tryd.prog A_laws_eqExprS In_laws_eqExprS (conOf cs_laws_eqExprS) Tryd.f38 (Tryd.f38.body.getD .skip) (packT [.bool]) n (argsV [(.list TyExpr), (.list TyExpr)] (a0, a1, ()))
noncomputable abbrev L_laws_eqExprS_0_4 (n : Nat) (x1 : (List DExpr)) (x2 : (List DExpr)) (x3 : Int) : Option Bool := lam Tryd.prog A_laws_eqExprS In_laws_eqExprS (conOf cs_laws_eqExprS) Tryd.f38 (Tryd.f38.body.getD .skip) (packT [.bool]) n [0, 4] [.d (.list TyExpr) x1, .d (.list TyExpr) x2, .d I64 x3]
theorem F_laws_eqExprS_eq (n : Nat) (a0 : (List DExpr)) (a1 : (List DExpr)) : F_laws_eqExprS n a0 a1 =
    bif !decide ((a0.length : Int) = (a1.length : Int)) then
      some false
    else
      L_laws_eqExprS_0_4 n a0 a1 0 := by kernel_rfl
theorem L_laws_eqExprS_0_4_eq (n : Nat) (x1 : (List DExpr)) (x2 : (List DExpr)) (x3 : Int) : L_laws_eqExprS_0_4 (n + 1) x1 x2 x3 =
    bif decide (x3 < (x1.length : Int)) then
      bif inB x3 x1.length then
        bif inB x3 x2.length then
          Option.bind (eqC TyExpr (rd x1 x3 (Ty.dflt TyExpr)) (rd x2 x3 (Ty.dflt TyExpr))) fun (y1 : Bool) =>
          bif !(y1) then
            some false
          else
            L_laws_eqExprS_0_4 n x1 x2 (IntKind.wrap .i64 (x3 + 1))
        else none
      else none
    else
      some true := by kernel_rfl
theorem mk_laws_eqExprS (hcs : ∀ x ∈ cs_laws_eqExprS, CtrOk Tryd.prog x) (h : ∀ (a0 : (List DExpr)) (a1 : (List DExpr)) y, eqC (.list TyExpr) a0 a1 = some y → ∃ n, F_laws_eqExprS n a0 a1 = some y) : CtrOk Tryd.prog c_laws_eqExprS := by
  refine ctr_of_run (c := c_laws_eqExprS) (by kernel_rfl) (by kernel_rfl : Tryd.prog.funcs[38]? = some Tryd.f38) (code := Tryd.f38.body.getD .skip) (by kernel_rfl) (by kernel_rfl) (by kernel_rfl) (A := A_laws_eqExprS) (I := In_laws_eqExprS) hcs ?_
  rintro ⟨a0, a1, u⟩ y hy
  exact h a0 a1 y hy

theorem hcs_laws_eqExprS : ∀ x ∈ cs_laws_eqExprS, CtrOk Tryd.prog x := (conOf_cons ok_laws_eqExpr conOf_nil)
theorem ok_laws_eqExprS : CtrOk Tryd.prog c_laws_eqExprS := mk_laws_eqExprS hcs_laws_eqExprS fun a0 a1 y hy => by
  obtain ⟨n, hn⟩ := eqS_ok (t := TyExpr) (body := fun x y K => Option.bind (eqC TyExpr x y) fun b => bif !b then some false else K ()) (fun x K h => by simp only [eqC_some h, Option.bind_some, Bool.not_true, cond_false]) (fun n xs ys i => L_laws_eqExprS_0_4_eq n xs ys i) hy
  exact ⟨n, (F_laws_eqExprS_eq n a0 a1).trans hn⟩
/-! ## laws.eqPolicy (10) -/
noncomputable def c_laws_eqPolicy : Ctr := ⟨10, [TyPolicy, TyPolicy], [.bool], fun x => eqC TyPolicy x.1 x.2.1⟩
def A_laws_eqPolicy : List (List Nat × Ann) := []
def In_laws_eqPolicy : List (List Nat × Nat) := []
noncomputable def cs_laws_eqPolicy : List Ctr := [c_laws_eqHead, c_laws_eqExprS]
noncomputable def F_laws_eqPolicy (n : Nat) (a0 : DPolicy) (a1 : DPolicy) : Option Bool := run Tryd.prog A_laws_eqPolicy In_laws_eqPolicy (conOf cs_laws_eqPolicy) Tryd.f10 (Tryd.f10.body.getD .skip) (packT [.bool]) n (argsV [TyPolicy, TyPolicy] (a0, a1, ()))
theorem F_laws_eqPolicy_eq (n : Nat) (a0 : DPolicy) (a1 : DPolicy) : F_laws_eqPolicy n a0 a1 =
    bif !decide (a0.1 = a1.1) then
      some false
    else
      bif a0.2.1 != a1.2.1 then
        some false
      else
        Option.bind (eqC TyHead a0.2.2.1 a1.2.2.1) fun (y1 : Bool) =>
        bif !(y1) then
          some false
        else
          Option.bind (eqC TyHead a0.2.2.2.1 a1.2.2.2.1) fun (y2 : Bool) =>
          bif !(y2) then
            some false
          else
            Option.bind (eqC TyHead a0.2.2.2.2.1 a1.2.2.2.2.1) fun (y3 : Bool) =>
            bif !(y3) then
              some false
            else
              Option.bind (eqC (.list TyExpr) a0.2.2.2.2.2 a1.2.2.2.2.2) fun (y4 : Bool) =>
              bif !(y4) then
                some false
              else
                some true := by kernel_rfl
theorem mk_laws_eqPolicy (hcs : ∀ x ∈ cs_laws_eqPolicy, CtrOk Tryd.prog x) (h : ∀ (a0 : DPolicy) (a1 : DPolicy) y, eqC TyPolicy a0 a1 = some y → ∃ n, F_laws_eqPolicy n a0 a1 = some y) : CtrOk Tryd.prog c_laws_eqPolicy := by
  refine ctr_of_run (c := c_laws_eqPolicy) (by kernel_rfl) (by kernel_rfl : Tryd.prog.funcs[10]? = some Tryd.f10) (code := Tryd.f10.body.getD .skip) (by kernel_rfl) (by kernel_rfl) (by kernel_rfl) (A := A_laws_eqPolicy) (I := In_laws_eqPolicy) hcs ?_
  rintro ⟨a0, a1, u⟩ y hy
  exact h a0 a1 y hy

theorem hcs_laws_eqPolicy : ∀ x ∈ cs_laws_eqPolicy, CtrOk Tryd.prog x := (conOf_cons ok_laws_eqHead (conOf_cons ok_laws_eqExprS conOf_nil))
theorem ok_laws_eqPolicy : CtrOk Tryd.prog c_laws_eqPolicy := mk_laws_eqPolicy hcs_laws_eqPolicy fun a0 a1 y hy => by
  obtain ⟨rfl, hw, rfl⟩ := eqC_inv hy
  have hw2 : wfD .str a0.1 ∧ wfD .bool a0.2.1 ∧ wfD TyHead a0.2.2.1 ∧ wfD TyHead a0.2.2.2.1 ∧ wfD TyHead a0.2.2.2.2.1 ∧ wfD (.list TyExpr) a0.2.2.2.2.2 := hw
  refine ⟨0, ?_⟩
  rw [F_laws_eqPolicy_eq]
  simp [eqC_some hw2.2.2.1, eqC_some hw2.2.2.2.1, eqC_some hw2.2.2.2.2.1, eqC_some hw2.2.2.2.2.2]
/-! ## laws.FnExactInFragment (3) -/
noncomputable def P_laws_FnExactInFragment (g0 : (List (List Int))) (a0 : DPolicy) : Option Bool :=
  Option.bind (szC TyPolicy a0 1048576) fun (y1 : Int) =>
  bif decide (y1 < 0) then
    some true
  else
    Option.bind (toC TyPolicy a0) fun (y2 : DPolicy) =>
    Option.bind (P_spec_InFragment y2) fun (y3 : Bool) =>
    Option.bind (toC TyPolicy a0) fun (y4 : DPolicy) =>
    Option.bind (P_impl_InFragment g0 y4) fun (y5 : Bool) =>
    bif y5 != y3 then
      some false
    else
      Option.bind (toC TyPolicy a0) fun (y6 : DPolicy) =>
      Option.bind (eqC TyPolicy y4 y6) fun (y7 : Bool) =>
      bif !(y7) then
        some false
      else
        some true
def A_laws_FnExactInFragment : List (List Nat × Ann) := []
def In_laws_FnExactInFragment : List (List Nat × Nat) := []
noncomputable def cs_laws_FnExactInFragment (g0 : (List (List Int))) : List Ctr := [c_laws_szPolicy, c_laws_toPolicy, c_spec_InFragment, (c_impl_InFragment g0), c_laws_eqPolicy]
noncomputable def F_laws_FnExactInFragment (g0 : (List (List Int))) (n : Nat) (a0 : DPolicy) : Option Bool := runE Tryd.prog (glOf [(0, explode (.list .str) g0)]) A_laws_FnExactInFragment In_laws_FnExactInFragment (conOf (cs_laws_FnExactInFragment g0)) Tryd.f3 (Tryd.f3.body.getD .skip) (endD Tryd.prog Tryd.f3 (packT [.bool])) n (argsV [TyPolicy] (a0, ()))
theorem F_laws_FnExactInFragment_eq (g0 : (List (List Int))) (n : Nat) (a0 : DPolicy) : F_laws_FnExactInFragment g0 n a0 =
    Option.bind (szC TyPolicy a0 1048576) fun (y1 : Int) =>
    bif decide (y1 < 0) then
      some true
    else
      Option.bind (toC TyPolicy a0) fun (y2 : DPolicy) =>
      Option.bind (P_spec_InFragment y2) fun (y3 : Bool) =>
      Option.bind (toC TyPolicy a0) fun (y4 : DPolicy) =>
      Option.bind (P_impl_InFragment g0 y4) fun (y5 : Bool) =>
      bif y5 != y3 then
        some false
      else
        Option.bind (toC TyPolicy a0) fun (y6 : DPolicy) =>
        Option.bind (eqC TyPolicy y4 y6) fun (y7 : Bool) =>
        bif !(y7) then
          some false
        else
          some true := by kernel_rfl
theorem S_laws_FnExactInFragment {g0 : (List (List Int))} (a0 : DPolicy) {r : Bool} (h : P_laws_FnExactInFragment g0 a0 = some r) : Ev (fun n => F_laws_FnExactInFragment g0 n a0) r := by
  rw [P_laws_FnExactInFragment] at h
  refine Ev.of_eq ?_ (fun n => F_laws_FnExactInFragment_eq g0 n a0)
  exact (Ev.ofBind h fun y1 h => (Ev.ofBif h (fun h => (Ev.ofSome h)) (fun h => (Ev.ofBind h fun y2 h => (Ev.ofBind h fun y3 h => (Ev.ofBind h fun y4 h => (Ev.ofBind h fun y5 h => (Ev.ofBif h (fun h => (Ev.ofSome h)) (fun h => (Ev.ofBind h fun y6 h => (Ev.ofBind h fun y7 h => (Ev.ofBif h (fun h => (Ev.ofSome h)) (fun h => (Ev.ofSome h))))))))))))))

end Go.Ab
