/- generated -/
import Derived.Test.YtlhbebagmkeghaaGenKepta
import Derived.Test.YtlhbebagmkeghaaProg
import Derived.KernelRfl
namespace Go.Ab
open Go.Proofs
set_option maxRecDepth 20000
/-! ## laws.szRoleSet (15) -/
noncomputable def c_laws_szRoleSet : Ctr := ⟨15, [TyRoleSet, I64], [I64], fun x => szC TyRoleSet x.1 x.2.1⟩
def A_laws_szRoleSet : List (List Nat × Ann) := []
def In_laws_szRoleSet : List (List Nat × Nat) := []
noncomputable def cs_laws_szRoleSet : List Ctr := [c_laws_szRoleS, c_laws_szApartS, c_laws_szStringS]
noncomputable def F_laws_szRoleSet (n : Nat) (a0 : DRoleSet) (a1 : Int) : Option Int := run Try.prog A_laws_szRoleSet In_laws_szRoleSet (conOf cs_laws_szRoleSet) Try.f15 (Try.f15.body.getD .skip) (packT [I64]) n (argsV [TyRoleSet, I64] (a0, a1, ()))
theorem F_laws_szRoleSet_eq (n : Nat) (a0 : DRoleSet) (a1 : Int) : F_laws_szRoleSet n a0 a1 =
    Option.bind (szC (.list TyRole) a0.1 a1) fun (y1 : Int) =>
    bif decide (y1 < 0) then
      some (-1)
    else
      Option.bind (szC (.list TyApart) a0.2.1 y1) fun (y2 : Int) =>
      bif decide (y2 < 0) then
        some (-1)
      else
        Option.bind (szC (.list .str) a0.2.2 y2) fun (y3 : Int) =>
        bif decide (y3 < 0) then
          some (-1)
        else
          some y3 := by kernel_rfl
theorem mk_laws_szRoleSet (hcs : ∀ x ∈ cs_laws_szRoleSet, CtrOk Try.prog x) (h : ∀ (a0 : DRoleSet) (a1 : Int) y, szC TyRoleSet a0 a1 = some y → ∃ n, F_laws_szRoleSet n a0 a1 = some y) : CtrOk Try.prog c_laws_szRoleSet := by
  refine ctr_of_run (c := c_laws_szRoleSet) (by kernel_rfl) (by kernel_rfl : Try.prog.funcs[15]? = some Try.f15) (code := Try.f15.body.getD .skip) (by kernel_rfl) (by kernel_rfl) (by kernel_rfl) (A := A_laws_szRoleSet) (I := In_laws_szRoleSet) hcs ?_
  rintro ⟨a0, a1, u⟩ y hy
  exact h a0 a1 y hy

theorem hcs_laws_szRoleSet : ∀ x ∈ cs_laws_szRoleSet, CtrOk Try.prog x := (conOf_cons ok_laws_szRoleS (conOf_cons ok_laws_szApartS (conOf_cons ok_laws_szStringS conOf_nil)))
theorem ok_laws_szRoleSet : CtrOk Try.prog c_laws_szRoleSet := mk_laws_szRoleSet hcs_laws_szRoleSet fun a0 a1 y hy => by
  obtain ⟨hw, h0, h1, rfl⟩ := szC_inv hy
  have hw2 : wfD (.list TyRole) a0.1 ∧ wfD (.list TyApart) a0.2.1 ∧ wfD (.list .str) a0.2.2 := hw
  have hsz : Ty.size TyRoleSet a0 = Ty.size (.list TyRole) a0.1 + (Ty.size (.list TyApart) a0.2.1 + (Ty.size (.list .str) a0.2.2)) := rfl
  refine ⟨0, ?_⟩
  rw [F_laws_szRoleSet_eq, hsz]
  rw [szC_some hw2.1 (show 0 ≤ a1 by omega) (by omega)]
  simp only [Option.bind_some]
  rcases Int.lt_or_le (a1) ((Ty.size (.list TyRole) a0.1 : Nat) : Int) with h | h
  · rw [show lessZ (a1) (Ty.size (.list TyRole) a0.1) = -1 by unfold lessZ; rw [if_neg (by omega)]]; rw [decide_eq_true (show (-1 : Int) < 0 by omega)]; simp only [cond_true]; unfold lessZ; rw [if_neg (by omega)]
  rw [show lessZ (a1) (Ty.size (.list TyRole) a0.1) = (a1 - ((Ty.size (.list TyRole) a0.1 : Nat) : Int)) by unfold lessZ; rw [if_pos h]]; rw [decide_eq_false (show ¬ (a1 - ((Ty.size (.list TyRole) a0.1 : Nat) : Int)) < 0 by omega)]; simp only [cond_false]
  have h_0 := h; clear h
  rw [szC_some hw2.2.1 (show 0 ≤ (a1 - ((Ty.size (.list TyRole) a0.1 : Nat) : Int)) by omega) (by omega)]
  simp only [Option.bind_some]
  rcases Int.lt_or_le ((a1 - ((Ty.size (.list TyRole) a0.1 : Nat) : Int))) ((Ty.size (.list TyApart) a0.2.1 : Nat) : Int) with h | h
  · rw [show lessZ ((a1 - ((Ty.size (.list TyRole) a0.1 : Nat) : Int))) (Ty.size (.list TyApart) a0.2.1) = -1 by unfold lessZ; rw [if_neg (by omega)]]; rw [decide_eq_true (show (-1 : Int) < 0 by omega)]; simp only [cond_true]; unfold lessZ; rw [if_neg (by omega)]
  rw [show lessZ ((a1 - ((Ty.size (.list TyRole) a0.1 : Nat) : Int))) (Ty.size (.list TyApart) a0.2.1) = ((a1 - ((Ty.size (.list TyRole) a0.1 : Nat) : Int)) - ((Ty.size (.list TyApart) a0.2.1 : Nat) : Int)) by unfold lessZ; rw [if_pos h]]; rw [decide_eq_false (show ¬ ((a1 - ((Ty.size (.list TyRole) a0.1 : Nat) : Int)) - ((Ty.size (.list TyApart) a0.2.1 : Nat) : Int)) < 0 by omega)]; simp only [cond_false]
  have h_1 := h; clear h
  rw [szC_some hw2.2.2 (show 0 ≤ ((a1 - ((Ty.size (.list TyRole) a0.1 : Nat) : Int)) - ((Ty.size (.list TyApart) a0.2.1 : Nat) : Int)) by omega) (by omega)]
  simp only [Option.bind_some]
  rcases Int.lt_or_le (((a1 - ((Ty.size (.list TyRole) a0.1 : Nat) : Int)) - ((Ty.size (.list TyApart) a0.2.1 : Nat) : Int))) ((Ty.size (.list .str) a0.2.2 : Nat) : Int) with h | h
  · rw [show lessZ (((a1 - ((Ty.size (.list TyRole) a0.1 : Nat) : Int)) - ((Ty.size (.list TyApart) a0.2.1 : Nat) : Int))) (Ty.size (.list .str) a0.2.2) = -1 by unfold lessZ; rw [if_neg (by omega)]]; rw [decide_eq_true (show (-1 : Int) < 0 by omega)]; simp only [cond_true]; unfold lessZ; rw [if_neg (by omega)]
  rw [show lessZ (((a1 - ((Ty.size (.list TyRole) a0.1 : Nat) : Int)) - ((Ty.size (.list TyApart) a0.2.1 : Nat) : Int))) (Ty.size (.list .str) a0.2.2) = (((a1 - ((Ty.size (.list TyRole) a0.1 : Nat) : Int)) - ((Ty.size (.list TyApart) a0.2.1 : Nat) : Int)) - ((Ty.size (.list .str) a0.2.2 : Nat) : Int)) by unfold lessZ; rw [if_pos h]]; rw [decide_eq_false (show ¬ (((a1 - ((Ty.size (.list TyRole) a0.1 : Nat) : Int)) - ((Ty.size (.list TyApart) a0.2.1 : Nat) : Int)) - ((Ty.size (.list .str) a0.2.2 : Nat) : Int)) < 0 by omega)]; simp only [cond_false]
  have h_2 := h; clear h
  unfold lessZ; rw [if_pos (by omega)]; congr 1 <;> omega
/-! ## laws.szIntS (43) -/
noncomputable def c_laws_szIntS : Ctr := ⟨43, [(.list I64), I64], [I64], fun x => szC (.list I64) x.1 x.2.1⟩
def A_laws_szIntS : List (List Nat × Ann) := []
def In_laws_szIntS : List (List Nat × Nat) := []
noncomputable def cs_laws_szIntS : List Ctr := []
noncomputable def F_laws_szIntS (n : Nat) (a0 : (List Int)) (a1 : Int) : Option Int := run Try.prog A_laws_szIntS In_laws_szIntS (conOf cs_laws_szIntS) Try.f43 (Try.f43.body.getD .skip) (packT [I64]) n (argsV [(.list I64), I64] (a0, a1, ()))
theorem F_laws_szIntS_eq (n : Nat) (a0 : (List Int)) (a1 : Int) : F_laws_szIntS n a0 a1 =
    bif decide (IntKind.wrap .i64 (a1 - (a0.length : Int)) < 0) then
      some (-1)
    else
      some (IntKind.wrap .i64 (a1 - (a0.length : Int))) := by kernel_rfl
theorem mk_laws_szIntS (hcs : ∀ x ∈ cs_laws_szIntS, CtrOk Try.prog x) (h : ∀ (a0 : (List Int)) (a1 : Int) y, szC (.list I64) a0 a1 = some y → ∃ n, F_laws_szIntS n a0 a1 = some y) : CtrOk Try.prog c_laws_szIntS := by
  refine ctr_of_run (c := c_laws_szIntS) (by kernel_rfl) (by kernel_rfl : Try.prog.funcs[43]? = some Try.f43) (code := Try.f43.body.getD .skip) (by kernel_rfl) (by kernel_rfl) (by kernel_rfl) (A := A_laws_szIntS) (I := In_laws_szIntS) hcs ?_
  rintro ⟨a0, a1, u⟩ y hy
  exact h a0 a1 y hy

theorem hcs_laws_szIntS : ∀ x ∈ cs_laws_szIntS, CtrOk Try.prog x := conOf_nil
theorem ok_laws_szIntS : CtrOk Try.prog c_laws_szIntS := mk_laws_szIntS hcs_laws_szIntS fun a0 a1 y hy => by
  exact ⟨0, (F_laws_szIntS_eq 0 a0 a1).trans (szS_flat (t := I64) (fun _ => rfl) hy)⟩
/-! ## laws.szRoleGrant (99) -/
noncomputable def c_laws_szRoleGrant : Ctr := ⟨99, [TyRoleGrant, I64], [I64], fun x => szC TyRoleGrant x.1 x.2.1⟩
def A_laws_szRoleGrant : List (List Nat × Ann) := []
def In_laws_szRoleGrant : List (List Nat × Nat) := []
noncomputable def cs_laws_szRoleGrant : List Ctr := []
noncomputable def F_laws_szRoleGrant (n : Nat) (a0 : DRoleGrant) (a1 : Int) : Option Int := run Try.prog A_laws_szRoleGrant In_laws_szRoleGrant (conOf cs_laws_szRoleGrant) Try.f99 (Try.f99.body.getD .skip) (packT [I64]) n (argsV [TyRoleGrant, I64] (a0, a1, ()))
theorem F_laws_szRoleGrant_eq (n : Nat) (a0 : DRoleGrant) (a1 : Int) : F_laws_szRoleGrant n a0 a1 =
    bif decide (IntKind.wrap .i64 (a1 - (a0.1.length : Int)) < 0) then
      some (-1)
    else
      bif decide (IntKind.wrap .i64 ((IntKind.wrap .i64 (a1 - (a0.1.length : Int))) - (a0.2.1.length : Int)) < 0) then
        some (-1)
      else
        bif decide (IntKind.wrap .i64 ((IntKind.wrap .i64 ((IntKind.wrap .i64 (a1 - (a0.1.length : Int))) - (a0.2.1.length : Int))) - (a0.2.2.1.length : Int)) < 0) then
          some (-1)
        else
          some (IntKind.wrap .i64 ((IntKind.wrap .i64 ((IntKind.wrap .i64 (a1 - (a0.1.length : Int))) - (a0.2.1.length : Int))) - (a0.2.2.1.length : Int))) := by kernel_rfl
theorem mk_laws_szRoleGrant (hcs : ∀ x ∈ cs_laws_szRoleGrant, CtrOk Try.prog x) (h : ∀ (a0 : DRoleGrant) (a1 : Int) y, szC TyRoleGrant a0 a1 = some y → ∃ n, F_laws_szRoleGrant n a0 a1 = some y) : CtrOk Try.prog c_laws_szRoleGrant := by
  refine ctr_of_run (c := c_laws_szRoleGrant) (by kernel_rfl) (by kernel_rfl : Try.prog.funcs[99]? = some Try.f99) (code := Try.f99.body.getD .skip) (by kernel_rfl) (by kernel_rfl) (by kernel_rfl) (A := A_laws_szRoleGrant) (I := In_laws_szRoleGrant) hcs ?_
  rintro ⟨a0, a1, u⟩ y hy
  exact h a0 a1 y hy

theorem hcs_laws_szRoleGrant : ∀ x ∈ cs_laws_szRoleGrant, CtrOk Try.prog x := conOf_nil
theorem ok_laws_szRoleGrant : CtrOk Try.prog c_laws_szRoleGrant := mk_laws_szRoleGrant hcs_laws_szRoleGrant fun a0 a1 y hy => by
  obtain ⟨hw, h0, h1, rfl⟩ := szC_inv hy
  have hw2 : wfD .str a0.1 ∧ wfD .str a0.2.1 ∧ wfD .str a0.2.2.1 ∧ wfD I64 a0.2.2.2.1 ∧ wfD I64 a0.2.2.2.2.1 ∧ wfD I64 a0.2.2.2.2.2 := hw
  have hsz : Ty.size TyRoleGrant a0 = Ty.size .str a0.1 + (Ty.size .str a0.2.1 + (Ty.size .str a0.2.2.1 + (Ty.size I64 a0.2.2.2.1 + (Ty.size I64 a0.2.2.2.2.1 + (Ty.size I64 a0.2.2.2.2.2))))) := rfl
  have z3 : Ty.size I64 a0.2.2.2.1 = 0 := rfl
  have z4 : Ty.size I64 a0.2.2.2.2.1 = 0 := rfl
  have z5 : Ty.size I64 a0.2.2.2.2.2 = 0 := rfl
  have z0 : Ty.size .str a0.1 = a0.1.length := rfl
  have z1 : Ty.size .str a0.2.1 = a0.2.1.length := rfl
  have z2 : Ty.size .str a0.2.2.1 = a0.2.2.1.length := rfl
  refine ⟨0, ?_⟩
  rw [F_laws_szRoleGrant_eq, hsz]
  have hn0 : a0.1.length ≤ maxLen := by have := (hw2.1).1; unfold maxLen; omega
  rw [lessZ_wrap (left := a1) (n := a0.1.length) (by omega) (by omega) hn0]
  rcases Int.lt_or_le (a1) (a0.1.length : Int) with h | h
  · rw [decide_eq_true (show (a1 - (a0.1.length : Int)) < 0 by omega)]; simp only [cond_true]; unfold lessZ; rw [if_neg (by omega)]
  rw [decide_eq_false (show ¬ (a1 - (a0.1.length : Int)) < 0 by omega)]; simp only [cond_false]
  have h_0 := h; clear h
  have hn1 : a0.2.1.length ≤ maxLen := by have := (hw2.2.1).1; unfold maxLen; omega
  rw [lessZ_wrap (left := (a1 - (a0.1.length : Int))) (n := a0.2.1.length) (by omega) (by omega) hn1]
  rcases Int.lt_or_le ((a1 - (a0.1.length : Int))) (a0.2.1.length : Int) with h | h
  · rw [decide_eq_true (show ((a1 - (a0.1.length : Int)) - (a0.2.1.length : Int)) < 0 by omega)]; simp only [cond_true]; unfold lessZ; rw [if_neg (by omega)]
  rw [decide_eq_false (show ¬ ((a1 - (a0.1.length : Int)) - (a0.2.1.length : Int)) < 0 by omega)]; simp only [cond_false]
  have h_1 := h; clear h
  have hn2 : a0.2.2.1.length ≤ maxLen := by have := (hw2.2.2.1).1; unfold maxLen; omega
  rw [lessZ_wrap (left := ((a1 - (a0.1.length : Int)) - (a0.2.1.length : Int))) (n := a0.2.2.1.length) (by omega) (by omega) hn2]
  rcases Int.lt_or_le (((a1 - (a0.1.length : Int)) - (a0.2.1.length : Int))) (a0.2.2.1.length : Int) with h | h
  · rw [decide_eq_true (show (((a1 - (a0.1.length : Int)) - (a0.2.1.length : Int)) - (a0.2.2.1.length : Int)) < 0 by omega)]; simp only [cond_true]; unfold lessZ; rw [if_neg (by omega)]
  rw [decide_eq_false (show ¬ (((a1 - (a0.1.length : Int)) - (a0.2.1.length : Int)) - (a0.2.2.1.length : Int)) < 0 by omega)]; simp only [cond_false]
  have h_2 := h; clear h
  unfold lessZ; rw [if_pos (by omega)]; congr 1 <;> omega
/-! ## laws.szRoleGrantS (44) -/
noncomputable def c_laws_szRoleGrantS : Ctr := ⟨44, [(.list TyRoleGrant), I64], [I64], fun x => szC (.list TyRoleGrant) x.1 x.2.1⟩
def A_laws_szRoleGrantS : List (List Nat × Ann) := [([0, 5], [.keep 0 0, .keep 0 1, .keep 0 5])]
def In_laws_szRoleGrantS : List (List Nat × Nat) := []
noncomputable def cs_laws_szRoleGrantS : List Ctr := [c_laws_szRoleGrant]
noncomputable def F_laws_szRoleGrantS (n : Nat) (a0 : (List DRoleGrant)) (a1 : Int) : Option Int := run Try.prog A_laws_szRoleGrantS In_laws_szRoleGrantS (conOf cs_laws_szRoleGrantS) Try.f44 (Try.f44.body.getD .skip) (packT [I64]) n (argsV [(.list TyRoleGrant), I64] (a0, a1, ()))
noncomputable abbrev L_laws_szRoleGrantS_0_5 (n : Nat) (x1 : (List DRoleGrant)) (x2 : Int) (x3 : Int) : Option Int := lam Try.prog A_laws_szRoleGrantS In_laws_szRoleGrantS (conOf cs_laws_szRoleGrantS) Try.f44 (Try.f44.body.getD .skip) (packT [I64]) n [0, 5] [.d (.list TyRoleGrant) x1, .d I64 x2, .d I64 x3]
theorem F_laws_szRoleGrantS_eq (n : Nat) (a0 : (List DRoleGrant)) (a1 : Int) : F_laws_szRoleGrantS n a0 a1 =
    bif decide (IntKind.wrap .i64 (a1 - (a0.length : Int)) < 0) then
      some (-1)
    else
      L_laws_szRoleGrantS_0_5 n a0 (IntKind.wrap .i64 (a1 - (a0.length : Int))) 0 := by kernel_rfl
theorem L_laws_szRoleGrantS_0_5_eq (n : Nat) (x1 : (List DRoleGrant)) (x2 : Int) (x3 : Int) : L_laws_szRoleGrantS_0_5 (n + 1) x1 x2 x3 =
    bif decide (x3 < (x1.length : Int)) then
      bif inB x3 x1.length then
        Option.bind (szC TyRoleGrant (rd x1 x3 (Ty.dflt TyRoleGrant)) x2) fun (y1 : Int) =>
        bif decide (y1 < 0) then
          some (-1)
        else
          L_laws_szRoleGrantS_0_5 n x1 y1 (IntKind.wrap .i64 (x3 + 1))
      else none
    else
      some x2 := by kernel_rfl
theorem mk_laws_szRoleGrantS (hcs : ∀ x ∈ cs_laws_szRoleGrantS, CtrOk Try.prog x) (h : ∀ (a0 : (List DRoleGrant)) (a1 : Int) y, szC (.list TyRoleGrant) a0 a1 = some y → ∃ n, F_laws_szRoleGrantS n a0 a1 = some y) : CtrOk Try.prog c_laws_szRoleGrantS := by
  refine ctr_of_run (c := c_laws_szRoleGrantS) (by kernel_rfl) (by kernel_rfl : Try.prog.funcs[44]? = some Try.f44) (code := Try.f44.body.getD .skip) (by kernel_rfl) (by kernel_rfl) (by kernel_rfl) (A := A_laws_szRoleGrantS) (I := In_laws_szRoleGrantS) hcs ?_
  rintro ⟨a0, a1, u⟩ y hy
  exact h a0 a1 y hy

theorem hcs_laws_szRoleGrantS : ∀ x ∈ cs_laws_szRoleGrantS, CtrOk Try.prog x := (conOf_cons ok_laws_szRoleGrant conOf_nil)
theorem ok_laws_szRoleGrantS : CtrOk Try.prog c_laws_szRoleGrantS := mk_laws_szRoleGrantS hcs_laws_szRoleGrantS fun a0 a1 y hy => by
  obtain ⟨n, hn⟩ := szS_call (fun n xs s i => L_laws_szRoleGrantS_0_5_eq n xs s i) hy
  exact ⟨n, (F_laws_szRoleGrantS_eq n a0 a1).trans hn⟩
/-! ## laws.szRoleSession (100) -/
noncomputable def c_laws_szRoleSession : Ctr := ⟨100, [TyRoleSession, I64], [I64], fun x => szC TyRoleSession x.1 x.2.1⟩
def A_laws_szRoleSession : List (List Nat × Ann) := []
def In_laws_szRoleSession : List (List Nat × Nat) := []
noncomputable def cs_laws_szRoleSession : List Ctr := [c_laws_szStringS, c_laws_szRoleGrantS]
noncomputable def F_laws_szRoleSession (n : Nat) (a0 : DRoleSession) (a1 : Int) : Option Int := run Try.prog A_laws_szRoleSession In_laws_szRoleSession (conOf cs_laws_szRoleSession) Try.f100 (Try.f100.body.getD .skip) (packT [I64]) n (argsV [TyRoleSession, I64] (a0, a1, ()))
theorem F_laws_szRoleSession_eq (n : Nat) (a0 : DRoleSession) (a1 : Int) : F_laws_szRoleSession n a0 a1 =
    bif decide (IntKind.wrap .i64 (a1 - (a0.1.length : Int)) < 0) then
      some (-1)
    else
      bif decide (IntKind.wrap .i64 ((IntKind.wrap .i64 (a1 - (a0.1.length : Int))) - (a0.2.1.length : Int)) < 0) then
        some (-1)
      else
        Option.bind (szC (.list .str) a0.2.2.1 (IntKind.wrap .i64 ((IntKind.wrap .i64 (a1 - (a0.1.length : Int))) - (a0.2.1.length : Int)))) fun (y1 : Int) =>
        bif decide (y1 < 0) then
          some (-1)
        else
          Option.bind (szC (.list TyRoleGrant) a0.2.2.2.1 y1) fun (y2 : Int) =>
          bif decide (y2 < 0) then
            some (-1)
          else
            some y2 := by kernel_rfl
theorem mk_laws_szRoleSession (hcs : ∀ x ∈ cs_laws_szRoleSession, CtrOk Try.prog x) (h : ∀ (a0 : DRoleSession) (a1 : Int) y, szC TyRoleSession a0 a1 = some y → ∃ n, F_laws_szRoleSession n a0 a1 = some y) : CtrOk Try.prog c_laws_szRoleSession := by
  refine ctr_of_run (c := c_laws_szRoleSession) (by kernel_rfl) (by kernel_rfl : Try.prog.funcs[100]? = some Try.f100) (code := Try.f100.body.getD .skip) (by kernel_rfl) (by kernel_rfl) (by kernel_rfl) (A := A_laws_szRoleSession) (I := In_laws_szRoleSession) hcs ?_
  rintro ⟨a0, a1, u⟩ y hy
  exact h a0 a1 y hy

theorem hcs_laws_szRoleSession : ∀ x ∈ cs_laws_szRoleSession, CtrOk Try.prog x := (conOf_cons ok_laws_szStringS (conOf_cons ok_laws_szRoleGrantS conOf_nil))
theorem ok_laws_szRoleSession : CtrOk Try.prog c_laws_szRoleSession := mk_laws_szRoleSession hcs_laws_szRoleSession fun a0 a1 y hy => by
  obtain ⟨hw, h0, h1, rfl⟩ := szC_inv hy
  have hw2 : wfD .str a0.1 ∧ wfD .str a0.2.1 ∧ wfD (.list .str) a0.2.2.1 ∧ wfD (.list TyRoleGrant) a0.2.2.2.1 ∧ wfD .bool a0.2.2.2.2 := hw
  have hsz : Ty.size TyRoleSession a0 = Ty.size .str a0.1 + (Ty.size .str a0.2.1 + (Ty.size (.list .str) a0.2.2.1 + (Ty.size (.list TyRoleGrant) a0.2.2.2.1 + (Ty.size .bool a0.2.2.2.2)))) := rfl
  have z4 : Ty.size .bool a0.2.2.2.2 = 0 := rfl
  have z0 : Ty.size .str a0.1 = a0.1.length := rfl
  have z1 : Ty.size .str a0.2.1 = a0.2.1.length := rfl
  refine ⟨0, ?_⟩
  rw [F_laws_szRoleSession_eq, hsz]
  have hn0 : a0.1.length ≤ maxLen := by have := (hw2.1).1; unfold maxLen; omega
  rw [lessZ_wrap (left := a1) (n := a0.1.length) (by omega) (by omega) hn0]
  rcases Int.lt_or_le (a1) (a0.1.length : Int) with h | h
  · rw [decide_eq_true (show (a1 - (a0.1.length : Int)) < 0 by omega)]; simp only [cond_true]; unfold lessZ; rw [if_neg (by omega)]
  rw [decide_eq_false (show ¬ (a1 - (a0.1.length : Int)) < 0 by omega)]; simp only [cond_false]
  have h_0 := h; clear h
  have hn1 : a0.2.1.length ≤ maxLen := by have := (hw2.2.1).1; unfold maxLen; omega
  rw [lessZ_wrap (left := (a1 - (a0.1.length : Int))) (n := a0.2.1.length) (by omega) (by omega) hn1]
  rcases Int.lt_or_le ((a1 - (a0.1.length : Int))) (a0.2.1.length : Int) with h | h
  · rw [decide_eq_true (show ((a1 - (a0.1.length : Int)) - (a0.2.1.length : Int)) < 0 by omega)]; simp only [cond_true]; unfold lessZ; rw [if_neg (by omega)]
  rw [decide_eq_false (show ¬ ((a1 - (a0.1.length : Int)) - (a0.2.1.length : Int)) < 0 by omega)]; simp only [cond_false]
  have h_1 := h; clear h
  rw [szC_some hw2.2.2.1 (show 0 ≤ ((a1 - (a0.1.length : Int)) - (a0.2.1.length : Int)) by omega) (by omega)]
  simp only [Option.bind_some]
  rcases Int.lt_or_le (((a1 - (a0.1.length : Int)) - (a0.2.1.length : Int))) ((Ty.size (.list .str) a0.2.2.1 : Nat) : Int) with h | h
  · rw [show lessZ (((a1 - (a0.1.length : Int)) - (a0.2.1.length : Int))) (Ty.size (.list .str) a0.2.2.1) = -1 by unfold lessZ; rw [if_neg (by omega)]]; rw [decide_eq_true (show (-1 : Int) < 0 by omega)]; simp only [cond_true]; unfold lessZ; rw [if_neg (by omega)]
  rw [show lessZ (((a1 - (a0.1.length : Int)) - (a0.2.1.length : Int))) (Ty.size (.list .str) a0.2.2.1) = (((a1 - (a0.1.length : Int)) - (a0.2.1.length : Int)) - ((Ty.size (.list .str) a0.2.2.1 : Nat) : Int)) by unfold lessZ; rw [if_pos h]]; rw [decide_eq_false (show ¬ (((a1 - (a0.1.length : Int)) - (a0.2.1.length : Int)) - ((Ty.size (.list .str) a0.2.2.1 : Nat) : Int)) < 0 by omega)]; simp only [cond_false]
  have h_2 := h; clear h
  rw [szC_some hw2.2.2.2.1 (show 0 ≤ (((a1 - (a0.1.length : Int)) - (a0.2.1.length : Int)) - ((Ty.size (.list .str) a0.2.2.1 : Nat) : Int)) by omega) (by omega)]
  simp only [Option.bind_some]
  rcases Int.lt_or_le ((((a1 - (a0.1.length : Int)) - (a0.2.1.length : Int)) - ((Ty.size (.list .str) a0.2.2.1 : Nat) : Int))) ((Ty.size (.list TyRoleGrant) a0.2.2.2.1 : Nat) : Int) with h | h
  · rw [show lessZ ((((a1 - (a0.1.length : Int)) - (a0.2.1.length : Int)) - ((Ty.size (.list .str) a0.2.2.1 : Nat) : Int))) (Ty.size (.list TyRoleGrant) a0.2.2.2.1) = -1 by unfold lessZ; rw [if_neg (by omega)]]; rw [decide_eq_true (show (-1 : Int) < 0 by omega)]; simp only [cond_true]; unfold lessZ; rw [if_neg (by omega)]
  rw [show lessZ ((((a1 - (a0.1.length : Int)) - (a0.2.1.length : Int)) - ((Ty.size (.list .str) a0.2.2.1 : Nat) : Int))) (Ty.size (.list TyRoleGrant) a0.2.2.2.1) = ((((a1 - (a0.1.length : Int)) - (a0.2.1.length : Int)) - ((Ty.size (.list .str) a0.2.2.1 : Nat) : Int)) - ((Ty.size (.list TyRoleGrant) a0.2.2.2.1 : Nat) : Int)) by unfold lessZ; rw [if_pos h]]; rw [decide_eq_false (show ¬ ((((a1 - (a0.1.length : Int)) - (a0.2.1.length : Int)) - ((Ty.size (.list .str) a0.2.2.1 : Nat) : Int)) - ((Ty.size (.list TyRoleGrant) a0.2.2.2.1 : Nat) : Int)) < 0 by omega)]; simp only [cond_false]
  have h_3 := h; clear h
  unfold lessZ; rw [if_pos (by omega)]; congr 1 <;> omega
/-! ## laws.szRoleSessionS (45) -/
noncomputable def c_laws_szRoleSessionS : Ctr := ⟨45, [(.list TyRoleSession), I64], [I64], fun x => szC (.list TyRoleSession) x.1 x.2.1⟩
def A_laws_szRoleSessionS : List (List Nat × Ann) := [([0, 5], [.keep 0 0, .keep 0 1, .keep 0 5])]
def In_laws_szRoleSessionS : List (List Nat × Nat) := []
noncomputable def cs_laws_szRoleSessionS : List Ctr := [c_laws_szRoleSession]
noncomputable def F_laws_szRoleSessionS (n : Nat) (a0 : (List DRoleSession)) (a1 : Int) : Option Int := run Try.prog A_laws_szRoleSessionS In_laws_szRoleSessionS (conOf cs_laws_szRoleSessionS) Try.f45 (Try.f45.body.getD .skip) (packT [I64]) n (argsV [(.list TyRoleSession), I64] (a0, a1, ()))
noncomputable abbrev L_laws_szRoleSessionS_0_5 (n : Nat) (x1 : (List DRoleSession)) (x2 : Int) (x3 : Int) : Option Int := lam Try.prog A_laws_szRoleSessionS In_laws_szRoleSessionS (conOf cs_laws_szRoleSessionS) Try.f45 (Try.f45.body.getD .skip) (packT [I64]) n [0, 5] [.d (.list TyRoleSession) x1, .d I64 x2, .d I64 x3]
theorem F_laws_szRoleSessionS_eq (n : Nat) (a0 : (List DRoleSession)) (a1 : Int) : F_laws_szRoleSessionS n a0 a1 =
    bif decide (IntKind.wrap .i64 (a1 - (a0.length : Int)) < 0) then
      some (-1)
    else
      L_laws_szRoleSessionS_0_5 n a0 (IntKind.wrap .i64 (a1 - (a0.length : Int))) 0 := by kernel_rfl
theorem L_laws_szRoleSessionS_0_5_eq (n : Nat) (x1 : (List DRoleSession)) (x2 : Int) (x3 : Int) : L_laws_szRoleSessionS_0_5 (n + 1) x1 x2 x3 =
    bif decide (x3 < (x1.length : Int)) then
      bif inB x3 x1.length then
        Option.bind (szC TyRoleSession (rd x1 x3 (Ty.dflt TyRoleSession)) x2) fun (y1 : Int) =>
        bif decide (y1 < 0) then
          some (-1)
        else
          L_laws_szRoleSessionS_0_5 n x1 y1 (IntKind.wrap .i64 (x3 + 1))
      else none
    else
      some x2 := by kernel_rfl
theorem mk_laws_szRoleSessionS (hcs : ∀ x ∈ cs_laws_szRoleSessionS, CtrOk Try.prog x) (h : ∀ (a0 : (List DRoleSession)) (a1 : Int) y, szC (.list TyRoleSession) a0 a1 = some y → ∃ n, F_laws_szRoleSessionS n a0 a1 = some y) : CtrOk Try.prog c_laws_szRoleSessionS := by
  refine ctr_of_run (c := c_laws_szRoleSessionS) (by kernel_rfl) (by kernel_rfl : Try.prog.funcs[45]? = some Try.f45) (code := Try.f45.body.getD .skip) (by kernel_rfl) (by kernel_rfl) (by kernel_rfl) (A := A_laws_szRoleSessionS) (I := In_laws_szRoleSessionS) hcs ?_
  rintro ⟨a0, a1, u⟩ y hy
  exact h a0 a1 y hy

theorem hcs_laws_szRoleSessionS : ∀ x ∈ cs_laws_szRoleSessionS, CtrOk Try.prog x := (conOf_cons ok_laws_szRoleSession conOf_nil)
theorem ok_laws_szRoleSessionS : CtrOk Try.prog c_laws_szRoleSessionS := mk_laws_szRoleSessionS hcs_laws_szRoleSessionS fun a0 a1 y hy => by
  obtain ⟨n, hn⟩ := szS_call (fun n xs s i => L_laws_szRoleSessionS_0_5_eq n xs s i) hy
  exact ⟨n, (F_laws_szRoleSessionS_eq n a0 a1).trans hn⟩
/-! ## laws.szRoleState (16) -/
noncomputable def c_laws_szRoleState : Ctr := ⟨16, [TyRoleState, I64], [I64], fun x => szC TyRoleState x.1 x.2.1⟩
def A_laws_szRoleState : List (List Nat × Ann) := []
def In_laws_szRoleState : List (List Nat × Nat) := []
noncomputable def cs_laws_szRoleState : List Ctr := [c_laws_szIntS, c_laws_szRoleGrantS, c_laws_szRoleSessionS]
noncomputable def F_laws_szRoleState (n : Nat) (a0 : DRoleState) (a1 : Int) : Option Int := run Try.prog A_laws_szRoleState In_laws_szRoleState (conOf cs_laws_szRoleState) Try.f16 (Try.f16.body.getD .skip) (packT [I64]) n (argsV [TyRoleState, I64] (a0, a1, ()))
theorem F_laws_szRoleState_eq (n : Nat) (a0 : DRoleState) (a1 : Int) : F_laws_szRoleState n a0 a1 =
    Option.bind (szC (.list I64) a0.1 a1) fun (y1 : Int) =>
    bif decide (y1 < 0) then
      some (-1)
    else
      Option.bind (szC (.list TyRoleGrant) a0.2.1 y1) fun (y2 : Int) =>
      bif decide (y2 < 0) then
        some (-1)
      else
        Option.bind (szC (.list TyRoleSession) a0.2.2.1 y2) fun (y3 : Int) =>
        bif decide (y3 < 0) then
          some (-1)
        else
          some y3 := by kernel_rfl
theorem mk_laws_szRoleState (hcs : ∀ x ∈ cs_laws_szRoleState, CtrOk Try.prog x) (h : ∀ (a0 : DRoleState) (a1 : Int) y, szC TyRoleState a0 a1 = some y → ∃ n, F_laws_szRoleState n a0 a1 = some y) : CtrOk Try.prog c_laws_szRoleState := by
  refine ctr_of_run (c := c_laws_szRoleState) (by kernel_rfl) (by kernel_rfl : Try.prog.funcs[16]? = some Try.f16) (code := Try.f16.body.getD .skip) (by kernel_rfl) (by kernel_rfl) (by kernel_rfl) (A := A_laws_szRoleState) (I := In_laws_szRoleState) hcs ?_
  rintro ⟨a0, a1, u⟩ y hy
  exact h a0 a1 y hy

theorem hcs_laws_szRoleState : ∀ x ∈ cs_laws_szRoleState, CtrOk Try.prog x := (conOf_cons ok_laws_szIntS (conOf_cons ok_laws_szRoleGrantS (conOf_cons ok_laws_szRoleSessionS conOf_nil)))
theorem ok_laws_szRoleState : CtrOk Try.prog c_laws_szRoleState := mk_laws_szRoleState hcs_laws_szRoleState fun a0 a1 y hy => by
  obtain ⟨hw, h0, h1, rfl⟩ := szC_inv hy
  have hw2 : wfD (.list I64) a0.1 ∧ wfD (.list TyRoleGrant) a0.2.1 ∧ wfD (.list TyRoleSession) a0.2.2.1 ∧ wfD I64 a0.2.2.2 := hw
  have hsz : Ty.size TyRoleState a0 = Ty.size (.list I64) a0.1 + (Ty.size (.list TyRoleGrant) a0.2.1 + (Ty.size (.list TyRoleSession) a0.2.2.1 + (Ty.size I64 a0.2.2.2))) := rfl
  have z3 : Ty.size I64 a0.2.2.2 = 0 := rfl
  refine ⟨0, ?_⟩
  rw [F_laws_szRoleState_eq, hsz]
  rw [szC_some hw2.1 (show 0 ≤ a1 by omega) (by omega)]
  simp only [Option.bind_some]
  rcases Int.lt_or_le (a1) ((Ty.size (.list I64) a0.1 : Nat) : Int) with h | h
  · rw [show lessZ (a1) (Ty.size (.list I64) a0.1) = -1 by unfold lessZ; rw [if_neg (by omega)]]; rw [decide_eq_true (show (-1 : Int) < 0 by omega)]; simp only [cond_true]; unfold lessZ; rw [if_neg (by omega)]
  rw [show lessZ (a1) (Ty.size (.list I64) a0.1) = (a1 - ((Ty.size (.list I64) a0.1 : Nat) : Int)) by unfold lessZ; rw [if_pos h]]; rw [decide_eq_false (show ¬ (a1 - ((Ty.size (.list I64) a0.1 : Nat) : Int)) < 0 by omega)]; simp only [cond_false]
  have h_0 := h; clear h
  rw [szC_some hw2.2.1 (show 0 ≤ (a1 - ((Ty.size (.list I64) a0.1 : Nat) : Int)) by omega) (by omega)]
  simp only [Option.bind_some]
  rcases Int.lt_or_le ((a1 - ((Ty.size (.list I64) a0.1 : Nat) : Int))) ((Ty.size (.list TyRoleGrant) a0.2.1 : Nat) : Int) with h | h
  · rw [show lessZ ((a1 - ((Ty.size (.list I64) a0.1 : Nat) : Int))) (Ty.size (.list TyRoleGrant) a0.2.1) = -1 by unfold lessZ; rw [if_neg (by omega)]]; rw [decide_eq_true (show (-1 : Int) < 0 by omega)]; simp only [cond_true]; unfold lessZ; rw [if_neg (by omega)]
  rw [show lessZ ((a1 - ((Ty.size (.list I64) a0.1 : Nat) : Int))) (Ty.size (.list TyRoleGrant) a0.2.1) = ((a1 - ((Ty.size (.list I64) a0.1 : Nat) : Int)) - ((Ty.size (.list TyRoleGrant) a0.2.1 : Nat) : Int)) by unfold lessZ; rw [if_pos h]]; rw [decide_eq_false (show ¬ ((a1 - ((Ty.size (.list I64) a0.1 : Nat) : Int)) - ((Ty.size (.list TyRoleGrant) a0.2.1 : Nat) : Int)) < 0 by omega)]; simp only [cond_false]
  have h_1 := h; clear h
  rw [szC_some hw2.2.2.1 (show 0 ≤ ((a1 - ((Ty.size (.list I64) a0.1 : Nat) : Int)) - ((Ty.size (.list TyRoleGrant) a0.2.1 : Nat) : Int)) by omega) (by omega)]
  simp only [Option.bind_some]
  rcases Int.lt_or_le (((a1 - ((Ty.size (.list I64) a0.1 : Nat) : Int)) - ((Ty.size (.list TyRoleGrant) a0.2.1 : Nat) : Int))) ((Ty.size (.list TyRoleSession) a0.2.2.1 : Nat) : Int) with h | h
  · rw [show lessZ (((a1 - ((Ty.size (.list I64) a0.1 : Nat) : Int)) - ((Ty.size (.list TyRoleGrant) a0.2.1 : Nat) : Int))) (Ty.size (.list TyRoleSession) a0.2.2.1) = -1 by unfold lessZ; rw [if_neg (by omega)]]; rw [decide_eq_true (show (-1 : Int) < 0 by omega)]; simp only [cond_true]; unfold lessZ; rw [if_neg (by omega)]
  rw [show lessZ (((a1 - ((Ty.size (.list I64) a0.1 : Nat) : Int)) - ((Ty.size (.list TyRoleGrant) a0.2.1 : Nat) : Int))) (Ty.size (.list TyRoleSession) a0.2.2.1) = (((a1 - ((Ty.size (.list I64) a0.1 : Nat) : Int)) - ((Ty.size (.list TyRoleGrant) a0.2.1 : Nat) : Int)) - ((Ty.size (.list TyRoleSession) a0.2.2.1 : Nat) : Int)) by unfold lessZ; rw [if_pos h]]; rw [decide_eq_false (show ¬ (((a1 - ((Ty.size (.list I64) a0.1 : Nat) : Int)) - ((Ty.size (.list TyRoleGrant) a0.2.1 : Nat) : Int)) - ((Ty.size (.list TyRoleSession) a0.2.2.1 : Nat) : Int)) < 0 by omega)]; simp only [cond_false]
  have h_2 := h; clear h
  unfold lessZ; rw [if_pos (by omega)]; congr 1 <;> omega
/-! ## laws.toStringS (54) -/
noncomputable def c_laws_toStringS : Ctr := ⟨54, [(.list .str)], [(.list .str)], fun x => toC (.list .str) x.1⟩
def A_laws_toStringS : List (List Nat × Ann) := [([0, 3], [.keep 0 0, .keep 0 3, .keep 0 4, .rows 0 7 .str])]
def In_laws_toStringS : List (List Nat × Nat) := []
noncomputable def cs_laws_toStringS : List Ctr := []
noncomputable def F_laws_toStringS (n : Nat) (a0 : (List (List Int))) : Option (List (List Int)) := run Try.prog A_laws_toStringS In_laws_toStringS (conOf cs_laws_toStringS) Try.f54 (Try.f54.body.getD .skip) (packT [(.list .str)]) n (argsV [(.list .str)] (a0, ()))
noncomputable abbrev L_laws_toStringS_0_3 (n : Nat) (x1 : (List (List Int))) (x2 : Int) (x3 : (List (List Int))) : Option (List (List Int)) := lam Try.prog A_laws_toStringS In_laws_toStringS (conOf cs_laws_toStringS) Try.f54 (Try.f54.body.getD .skip) (packT [(.list .str)]) n [0, 3] [.d (.list .str) x1, .msl 0 7, .d I64 x2, .d (.list .str) x3]
theorem F_laws_toStringS_eq (n : Nat) (a0 : (List (List Int))) : F_laws_toStringS n a0 =
    bif decide ((a0.length : Int) = (a0.length : Int)) && decide ((0 : Int) ≤ (a0.length : Int)) && decide ((a0.length : Int) * 16 ≤ room) && true then
      L_laws_toStringS_0_3 n a0 0 (List.replicate (Int.toNat (a0.length : Int)) ([] : List Int))
    else none := by kernel_rfl
theorem L_laws_toStringS_0_3_eq (n : Nat) (x1 : (List (List Int))) (x2 : Int) (x3 : (List (List Int))) : L_laws_toStringS_0_3 (n + 1) x1 x2 x3 =
    bif decide (x2 < (x1.length : Int)) then
      bif inB x2 x1.length then
        bif inB x2 x3.length then
          bif inB x2 x3.length && true && true && true && true then
            L_laws_toStringS_0_3 n x1 (IntKind.wrap .i64 (x2 + 1)) (x3.set (Int.toNat x2) (rd x1 x2 (Ty.dflt .str)))
          else none
        else none
      else none
    else
      some x3 := by kernel_rfl
theorem mk_laws_toStringS (hcs : ∀ x ∈ cs_laws_toStringS, CtrOk Try.prog x) (h : ∀ (a0 : (List (List Int))) y, toC (.list .str) a0 = some y → ∃ n, F_laws_toStringS n a0 = some y) : CtrOk Try.prog c_laws_toStringS := by
  refine ctr_of_run (c := c_laws_toStringS) (by kernel_rfl) (by kernel_rfl : Try.prog.funcs[54]? = some Try.f54) (code := Try.f54.body.getD .skip) (by kernel_rfl) (by kernel_rfl) (by kernel_rfl) (A := A_laws_toStringS) (I := In_laws_toStringS) hcs ?_
  rintro ⟨a0, u⟩ y hy
  exact h a0 y hy

theorem hcs_laws_toStringS : ∀ x ∈ cs_laws_toStringS, CtrOk Try.prog x := conOf_nil
theorem ok_laws_toStringS : CtrOk Try.prog c_laws_toStringS := mk_laws_toStringS hcs_laws_toStringS fun a0 y hy => by
  obtain ⟨n, hn⟩ := toS_ok (t := .str) (f := fun x => some x) (fun x _ _ => rfl) (by_ := 16) (by omega) (fun n xs i out => L_laws_toStringS_0_3_eq n xs i out) hy
  exact ⟨n, (F_laws_toStringS_eq n a0).trans hn⟩
/-! ## laws.toRole (105) -/
noncomputable def c_laws_toRole : Ctr := ⟨105, [TyRole], [TyRole], fun x => toC TyRole x.1⟩
def A_laws_toRole : List (List Nat × Ann) := []
def In_laws_toRole : List (List Nat × Nat) := []
noncomputable def cs_laws_toRole : List Ctr := [c_laws_toStringS]
noncomputable def F_laws_toRole (n : Nat) (a0 : DRole) : Option DRole := run Try.prog A_laws_toRole In_laws_toRole (conOf cs_laws_toRole) Try.f105 (Try.f105.body.getD .skip) (packT [TyRole]) n (argsV [TyRole] (a0, ()))
theorem F_laws_toRole_eq (n : Nat) (a0 : DRole) : F_laws_toRole n a0 =
    Option.bind (toC (.list .str) a0.2.1) fun (y1 : (List (List Int))) =>
    Option.bind (toC (.list .str) a0.2.2) fun (y2 : (List (List Int))) =>
    some (a0.1, y1, y2) := by kernel_rfl
theorem mk_laws_toRole (hcs : ∀ x ∈ cs_laws_toRole, CtrOk Try.prog x) (h : ∀ (a0 : DRole) y, toC TyRole a0 = some y → ∃ n, F_laws_toRole n a0 = some y) : CtrOk Try.prog c_laws_toRole := by
  refine ctr_of_run (c := c_laws_toRole) (by kernel_rfl) (by kernel_rfl : Try.prog.funcs[105]? = some Try.f105) (code := Try.f105.body.getD .skip) (by kernel_rfl) (by kernel_rfl) (by kernel_rfl) (A := A_laws_toRole) (I := In_laws_toRole) hcs ?_
  rintro ⟨a0, u⟩ y hy
  exact h a0 y hy

theorem hcs_laws_toRole : ∀ x ∈ cs_laws_toRole, CtrOk Try.prog x := (conOf_cons ok_laws_toStringS conOf_nil)
theorem ok_laws_toRole : CtrOk Try.prog c_laws_toRole := mk_laws_toRole hcs_laws_toRole fun a0 y hy => by
  obtain ⟨hw, hs, rfl⟩ := toC_inv hy
  have hw2 : wfD .str y.1 ∧ wfD (.list .str) y.2.1 ∧ wfD (.list .str) y.2.2 := hw
  have hs2 : Ty.size .str y.1 + (Ty.size (.list .str) y.2.1 + (Ty.size (.list .str) y.2.2)) ≤ 1073741824 := hs
  refine ⟨0, ?_⟩
  rw [F_laws_toRole_eq]
  try (rw [toC_some hw2.2.1 (by omega)]; simp only [Option.bind_some])
  try (rw [toC_some hw2.2.2 (by omega)]; simp only [Option.bind_some])
  try rfl
/-! ## laws.toRoleS (52) -/
noncomputable def c_laws_toRoleS : Ctr := ⟨52, [(.list TyRole)], [(.list TyRole)], fun x => toC (.list TyRole) x.1⟩
def A_laws_toRoleS : List (List Nat × Ann) := [([0, 3], [.keep 0 0, .keep 0 3, .keep 0 4, .rows 0 7 TyRole])]
def In_laws_toRoleS : List (List Nat × Nat) := []
noncomputable def cs_laws_toRoleS : List Ctr := [c_laws_toRole]
noncomputable def F_laws_toRoleS (n : Nat) (a0 : (List DRole)) : Option (List DRole) := run Try.prog A_laws_toRoleS In_laws_toRoleS (conOf cs_laws_toRoleS) Try.f52 (Try.f52.body.getD .skip) (packT [(.list TyRole)]) n (argsV [(.list TyRole)] (a0, ()))
noncomputable abbrev L_laws_toRoleS_0_3 (n : Nat) (x1 : (List DRole)) (x2 : Int) (x3 : (List DRole)) : Option (List DRole) := lam Try.prog A_laws_toRoleS In_laws_toRoleS (conOf cs_laws_toRoleS) Try.f52 (Try.f52.body.getD .skip) (packT [(.list TyRole)]) n [0, 3] [.d (.list TyRole) x1, .msl 0 7, .d I64 x2, .d (.list TyRole) x3]
theorem F_laws_toRoleS_eq (n : Nat) (a0 : (List DRole)) : F_laws_toRoleS n a0 =
    bif decide ((a0.length : Int) = (a0.length : Int)) && decide ((0 : Int) ≤ (a0.length : Int)) && decide ((a0.length : Int) * 64 ≤ room) && true then
      L_laws_toRoleS_0_3 n a0 0 (List.replicate (Int.toNat (a0.length : Int)) (([] : List Int), [], []))
    else none := by kernel_rfl
theorem L_laws_toRoleS_0_3_eq (n : Nat) (x1 : (List DRole)) (x2 : Int) (x3 : (List DRole)) : L_laws_toRoleS_0_3 (n + 1) x1 x2 x3 =
    bif decide (x2 < (x1.length : Int)) then
      bif inB x2 x1.length then
        Option.bind (toC TyRole (rd x1 x2 (Ty.dflt TyRole))) fun (y1 : DRole) =>
        bif inB x2 x3.length then
          bif inB x2 x3.length && true && true && true && true then
            L_laws_toRoleS_0_3 n x1 (IntKind.wrap .i64 (x2 + 1)) (x3.set (Int.toNat x2) y1)
          else none
        else none
      else none
    else
      some x3 := by kernel_rfl
theorem mk_laws_toRoleS (hcs : ∀ x ∈ cs_laws_toRoleS, CtrOk Try.prog x) (h : ∀ (a0 : (List DRole)) y, toC (.list TyRole) a0 = some y → ∃ n, F_laws_toRoleS n a0 = some y) : CtrOk Try.prog c_laws_toRoleS := by
  refine ctr_of_run (c := c_laws_toRoleS) (by kernel_rfl) (by kernel_rfl : Try.prog.funcs[52]? = some Try.f52) (code := Try.f52.body.getD .skip) (by kernel_rfl) (by kernel_rfl) (by kernel_rfl) (A := A_laws_toRoleS) (I := In_laws_toRoleS) hcs ?_
  rintro ⟨a0, u⟩ y hy
  exact h a0 y hy

theorem hcs_laws_toRoleS : ∀ x ∈ cs_laws_toRoleS, CtrOk Try.prog x := (conOf_cons ok_laws_toRole conOf_nil)
theorem ok_laws_toRoleS : CtrOk Try.prog c_laws_toRoleS := mk_laws_toRoleS hcs_laws_toRoleS fun a0 y hy => by
  obtain ⟨n, hn⟩ := toS_ok (t := TyRole) (f := toC TyRole) (fun x h h2 => toC_some h h2) (by_ := 64) (by omega) (fun n xs i out => L_laws_toRoleS_0_3_eq n xs i out) hy
  exact ⟨n, (F_laws_toRoleS_eq n a0).trans hn⟩
/-! ## laws.toApart (106) -/
noncomputable def c_laws_toApart : Ctr := ⟨106, [TyApart], [TyApart], fun x => toC TyApart x.1⟩
def A_laws_toApart : List (List Nat × Ann) := []
def In_laws_toApart : List (List Nat × Nat) := []
noncomputable def cs_laws_toApart : List Ctr := [c_laws_toStringS]
noncomputable def F_laws_toApart (n : Nat) (a0 : DApart) : Option DApart := run Try.prog A_laws_toApart In_laws_toApart (conOf cs_laws_toApart) Try.f106 (Try.f106.body.getD .skip) (packT [TyApart]) n (argsV [TyApart] (a0, ()))
theorem F_laws_toApart_eq (n : Nat) (a0 : DApart) : F_laws_toApart n a0 =
    Option.bind (toC (.list .str) a0.1) fun (y1 : (List (List Int))) =>
    some (y1, a0.2) := by kernel_rfl
theorem mk_laws_toApart (hcs : ∀ x ∈ cs_laws_toApart, CtrOk Try.prog x) (h : ∀ (a0 : DApart) y, toC TyApart a0 = some y → ∃ n, F_laws_toApart n a0 = some y) : CtrOk Try.prog c_laws_toApart := by
  refine ctr_of_run (c := c_laws_toApart) (by kernel_rfl) (by kernel_rfl : Try.prog.funcs[106]? = some Try.f106) (code := Try.f106.body.getD .skip) (by kernel_rfl) (by kernel_rfl) (by kernel_rfl) (A := A_laws_toApart) (I := In_laws_toApart) hcs ?_
  rintro ⟨a0, u⟩ y hy
  exact h a0 y hy

theorem hcs_laws_toApart : ∀ x ∈ cs_laws_toApart, CtrOk Try.prog x := (conOf_cons ok_laws_toStringS conOf_nil)
theorem ok_laws_toApart : CtrOk Try.prog c_laws_toApart := mk_laws_toApart hcs_laws_toApart fun a0 y hy => by
  obtain ⟨hw, hs, rfl⟩ := toC_inv hy
  have hw2 : wfD (.list .str) y.1 ∧ wfD I64 y.2.1 ∧ wfD .bool y.2.2 := hw
  have hs2 : Ty.size (.list .str) y.1 + (Ty.size I64 y.2.1 + (Ty.size .bool y.2.2)) ≤ 1073741824 := hs
  refine ⟨0, ?_⟩
  rw [F_laws_toApart_eq]
  try (rw [toC_some hw2.1 (by omega)]; simp only [Option.bind_some])
  try rfl
/-! ## laws.toApartS (53) -/
noncomputable def c_laws_toApartS : Ctr := ⟨53, [(.list TyApart)], [(.list TyApart)], fun x => toC (.list TyApart) x.1⟩
def A_laws_toApartS : List (List Nat × Ann) := [([0, 3], [.keep 0 0, .keep 0 3, .keep 0 4, .rows 0 7 TyApart])]
def In_laws_toApartS : List (List Nat × Nat) := []
noncomputable def cs_laws_toApartS : List Ctr := [c_laws_toApart]
noncomputable def F_laws_toApartS (n : Nat) (a0 : (List DApart)) : Option (List DApart) := run Try.prog A_laws_toApartS In_laws_toApartS (conOf cs_laws_toApartS) Try.f53 (Try.f53.body.getD .skip) (packT [(.list TyApart)]) n (argsV [(.list TyApart)] (a0, ()))
noncomputable abbrev L_laws_toApartS_0_3 (n : Nat) (x1 : (List DApart)) (x2 : Int) (x3 : (List DApart)) : Option (List DApart) := lam Try.prog A_laws_toApartS In_laws_toApartS (conOf cs_laws_toApartS) Try.f53 (Try.f53.body.getD .skip) (packT [(.list TyApart)]) n [0, 3] [.d (.list TyApart) x1, .msl 0 7, .d I64 x2, .d (.list TyApart) x3]
theorem F_laws_toApartS_eq (n : Nat) (a0 : (List DApart)) : F_laws_toApartS n a0 =
    bif decide ((a0.length : Int) = (a0.length : Int)) && decide ((0 : Int) ≤ (a0.length : Int)) && decide ((a0.length : Int) * 40 ≤ room) && true then
      L_laws_toApartS_0_3 n a0 0 (List.replicate (Int.toNat (a0.length : Int)) ([], 0, false))
    else none := by kernel_rfl
theorem L_laws_toApartS_0_3_eq (n : Nat) (x1 : (List DApart)) (x2 : Int) (x3 : (List DApart)) : L_laws_toApartS_0_3 (n + 1) x1 x2 x3 =
    bif decide (x2 < (x1.length : Int)) then
      bif inB x2 x1.length then
        Option.bind (toC TyApart (rd x1 x2 (Ty.dflt TyApart))) fun (y1 : DApart) =>
        bif inB x2 x3.length then
          bif inB x2 x3.length && true && true && true && true then
            L_laws_toApartS_0_3 n x1 (IntKind.wrap .i64 (x2 + 1)) (x3.set (Int.toNat x2) y1)
          else none
        else none
      else none
    else
      some x3 := by kernel_rfl
theorem mk_laws_toApartS (hcs : ∀ x ∈ cs_laws_toApartS, CtrOk Try.prog x) (h : ∀ (a0 : (List DApart)) y, toC (.list TyApart) a0 = some y → ∃ n, F_laws_toApartS n a0 = some y) : CtrOk Try.prog c_laws_toApartS := by
  refine ctr_of_run (c := c_laws_toApartS) (by kernel_rfl) (by kernel_rfl : Try.prog.funcs[53]? = some Try.f53) (code := Try.f53.body.getD .skip) (by kernel_rfl) (by kernel_rfl) (by kernel_rfl) (A := A_laws_toApartS) (I := In_laws_toApartS) hcs ?_
  rintro ⟨a0, u⟩ y hy
  exact h a0 y hy

theorem hcs_laws_toApartS : ∀ x ∈ cs_laws_toApartS, CtrOk Try.prog x := (conOf_cons ok_laws_toApart conOf_nil)
theorem ok_laws_toApartS : CtrOk Try.prog c_laws_toApartS := mk_laws_toApartS hcs_laws_toApartS fun a0 y hy => by
  obtain ⟨n, hn⟩ := toS_ok (t := TyApart) (f := toC TyApart) (fun x h h2 => toC_some h h2) (by_ := 40) (by omega) (fun n xs i out => L_laws_toApartS_0_3_eq n xs i out) hy
  exact ⟨n, (F_laws_toApartS_eq n a0).trans hn⟩
/-! ## laws.toRoleSet (18) -/
noncomputable def c_laws_toRoleSet : Ctr := ⟨18, [TyRoleSet], [TyRoleSet], fun x => toC TyRoleSet x.1⟩
def A_laws_toRoleSet : List (List Nat × Ann) := []
def In_laws_toRoleSet : List (List Nat × Nat) := []
noncomputable def cs_laws_toRoleSet : List Ctr := [c_laws_toRoleS, c_laws_toApartS, c_laws_toStringS]
noncomputable def F_laws_toRoleSet (n : Nat) (a0 : DRoleSet) : Option DRoleSet := run Try.prog A_laws_toRoleSet In_laws_toRoleSet (conOf cs_laws_toRoleSet) Try.f18 (Try.f18.body.getD .skip) (packT [TyRoleSet]) n (argsV [TyRoleSet] (a0, ()))
theorem F_laws_toRoleSet_eq (n : Nat) (a0 : DRoleSet) : F_laws_toRoleSet n a0 =
    Option.bind (toC (.list TyRole) a0.1) fun (y1 : (List DRole)) =>
    Option.bind (toC (.list TyApart) a0.2.1) fun (y2 : (List DApart)) =>
    Option.bind (toC (.list .str) a0.2.2) fun (y3 : (List (List Int))) =>
    some (y1, y2, y3) := by kernel_rfl
theorem mk_laws_toRoleSet (hcs : ∀ x ∈ cs_laws_toRoleSet, CtrOk Try.prog x) (h : ∀ (a0 : DRoleSet) y, toC TyRoleSet a0 = some y → ∃ n, F_laws_toRoleSet n a0 = some y) : CtrOk Try.prog c_laws_toRoleSet := by
  refine ctr_of_run (c := c_laws_toRoleSet) (by kernel_rfl) (by kernel_rfl : Try.prog.funcs[18]? = some Try.f18) (code := Try.f18.body.getD .skip) (by kernel_rfl) (by kernel_rfl) (by kernel_rfl) (A := A_laws_toRoleSet) (I := In_laws_toRoleSet) hcs ?_
  rintro ⟨a0, u⟩ y hy
  exact h a0 y hy

theorem hcs_laws_toRoleSet : ∀ x ∈ cs_laws_toRoleSet, CtrOk Try.prog x := (conOf_cons ok_laws_toRoleS (conOf_cons ok_laws_toApartS (conOf_cons ok_laws_toStringS conOf_nil)))
theorem ok_laws_toRoleSet : CtrOk Try.prog c_laws_toRoleSet := mk_laws_toRoleSet hcs_laws_toRoleSet fun a0 y hy => by
  obtain ⟨hw, hs, rfl⟩ := toC_inv hy
  have hw2 : wfD (.list TyRole) y.1 ∧ wfD (.list TyApart) y.2.1 ∧ wfD (.list .str) y.2.2 := hw
  have hs2 : Ty.size (.list TyRole) y.1 + (Ty.size (.list TyApart) y.2.1 + (Ty.size (.list .str) y.2.2)) ≤ 1073741824 := hs
  refine ⟨0, ?_⟩
  rw [F_laws_toRoleSet_eq]
  try (rw [toC_some hw2.1 (by omega)]; simp only [Option.bind_some])
  try (rw [toC_some hw2.2.1 (by omega)]; simp only [Option.bind_some])
  try (rw [toC_some hw2.2.2 (by omega)]; simp only [Option.bind_some])
  try rfl
/-! ## laws.toIntS (55) -/
noncomputable def c_laws_toIntS : Ctr := ⟨55, [(.list I64)], [(.list I64)], fun x => toC (.list I64) x.1⟩
def A_laws_toIntS : List (List Nat × Ann) := [([0, 3], [.keep 0 0, .keep 0 3, .keep 0 4, .rows 0 7 I64])]
def In_laws_toIntS : List (List Nat × Nat) := []
noncomputable def cs_laws_toIntS : List Ctr := []
noncomputable def F_laws_toIntS (n : Nat) (a0 : (List Int)) : Option (List Int) := run Try.prog A_laws_toIntS In_laws_toIntS (conOf cs_laws_toIntS) Try.f55 (Try.f55.body.getD .skip) (packT [(.list I64)]) n (argsV [(.list I64)] (a0, ()))
noncomputable abbrev L_laws_toIntS_0_3 (n : Nat) (x1 : (List Int)) (x2 : Int) (x3 : (List Int)) : Option (List Int) := lam Try.prog A_laws_toIntS In_laws_toIntS (conOf cs_laws_toIntS) Try.f55 (Try.f55.body.getD .skip) (packT [(.list I64)]) n [0, 3] [.d (.list I64) x1, .msl 0 7, .d I64 x2, .d (.list I64) x3]
theorem F_laws_toIntS_eq (n : Nat) (a0 : (List Int)) : F_laws_toIntS n a0 =
    bif decide ((a0.length : Int) = (a0.length : Int)) && decide ((0 : Int) ≤ (a0.length : Int)) && decide ((a0.length : Int) * 8 ≤ room) && true then
      L_laws_toIntS_0_3 n a0 0 (List.replicate (Int.toNat (a0.length : Int)) 0)
    else none := by kernel_rfl
theorem L_laws_toIntS_0_3_eq (n : Nat) (x1 : (List Int)) (x2 : Int) (x3 : (List Int)) : L_laws_toIntS_0_3 (n + 1) x1 x2 x3 =
    bif decide (x2 < (x1.length : Int)) then
      bif inB x2 x1.length then
        bif inB x2 x3.length then
          bif inB x2 x3.length && true && true && true && true then
            L_laws_toIntS_0_3 n x1 (IntKind.wrap .i64 (x2 + 1)) (x3.set (Int.toNat x2) (rd x1 x2 (Ty.dflt I64)))
          else none
        else none
      else none
    else
      some x3 := by kernel_rfl
theorem mk_laws_toIntS (hcs : ∀ x ∈ cs_laws_toIntS, CtrOk Try.prog x) (h : ∀ (a0 : (List Int)) y, toC (.list I64) a0 = some y → ∃ n, F_laws_toIntS n a0 = some y) : CtrOk Try.prog c_laws_toIntS := by
  refine ctr_of_run (c := c_laws_toIntS) (by kernel_rfl) (by kernel_rfl : Try.prog.funcs[55]? = some Try.f55) (code := Try.f55.body.getD .skip) (by kernel_rfl) (by kernel_rfl) (by kernel_rfl) (A := A_laws_toIntS) (I := In_laws_toIntS) hcs ?_
  rintro ⟨a0, u⟩ y hy
  exact h a0 y hy

theorem hcs_laws_toIntS : ∀ x ∈ cs_laws_toIntS, CtrOk Try.prog x := conOf_nil
theorem ok_laws_toIntS : CtrOk Try.prog c_laws_toIntS := mk_laws_toIntS hcs_laws_toIntS fun a0 y hy => by
  obtain ⟨n, hn⟩ := toS_ok (t := I64) (f := fun x => some x) (fun x _ _ => rfl) (by_ := 8) (by omega) (fun n xs i out => L_laws_toIntS_0_3_eq n xs i out) hy
  exact ⟨n, (F_laws_toIntS_eq n a0).trans hn⟩
/-! ## laws.toRoleGrant (107) -/
noncomputable def c_laws_toRoleGrant : Ctr := ⟨107, [TyRoleGrant], [TyRoleGrant], fun x => toC TyRoleGrant x.1⟩
def A_laws_toRoleGrant : List (List Nat × Ann) := []
def In_laws_toRoleGrant : List (List Nat × Nat) := []
noncomputable def cs_laws_toRoleGrant : List Ctr := []
noncomputable def F_laws_toRoleGrant (n : Nat) (a0 : DRoleGrant) : Option DRoleGrant := run Try.prog A_laws_toRoleGrant In_laws_toRoleGrant (conOf cs_laws_toRoleGrant) Try.f107 (Try.f107.body.getD .skip) (packT [TyRoleGrant]) n (argsV [TyRoleGrant] (a0, ()))
theorem F_laws_toRoleGrant_eq (n : Nat) (a0 : DRoleGrant) : F_laws_toRoleGrant n a0 =
    some a0 := by kernel_rfl
theorem mk_laws_toRoleGrant (hcs : ∀ x ∈ cs_laws_toRoleGrant, CtrOk Try.prog x) (h : ∀ (a0 : DRoleGrant) y, toC TyRoleGrant a0 = some y → ∃ n, F_laws_toRoleGrant n a0 = some y) : CtrOk Try.prog c_laws_toRoleGrant := by
  refine ctr_of_run (c := c_laws_toRoleGrant) (by kernel_rfl) (by kernel_rfl : Try.prog.funcs[107]? = some Try.f107) (code := Try.f107.body.getD .skip) (by kernel_rfl) (by kernel_rfl) (by kernel_rfl) (A := A_laws_toRoleGrant) (I := In_laws_toRoleGrant) hcs ?_
  rintro ⟨a0, u⟩ y hy
  exact h a0 y hy

theorem hcs_laws_toRoleGrant : ∀ x ∈ cs_laws_toRoleGrant, CtrOk Try.prog x := conOf_nil
theorem ok_laws_toRoleGrant : CtrOk Try.prog c_laws_toRoleGrant := mk_laws_toRoleGrant hcs_laws_toRoleGrant fun a0 y hy => by
  obtain ⟨hw, hs, rfl⟩ := toC_inv hy
  have hw2 : wfD .str y.1 ∧ wfD .str y.2.1 ∧ wfD .str y.2.2.1 ∧ wfD I64 y.2.2.2.1 ∧ wfD I64 y.2.2.2.2.1 ∧ wfD I64 y.2.2.2.2.2 := hw
  have hs2 : Ty.size .str y.1 + (Ty.size .str y.2.1 + (Ty.size .str y.2.2.1 + (Ty.size I64 y.2.2.2.1 + (Ty.size I64 y.2.2.2.2.1 + (Ty.size I64 y.2.2.2.2.2))))) ≤ 1073741824 := hs
  refine ⟨0, ?_⟩
  rw [F_laws_toRoleGrant_eq]
  try rfl
/-! ## laws.toRoleGrantS (56) -/
noncomputable def c_laws_toRoleGrantS : Ctr := ⟨56, [(.list TyRoleGrant)], [(.list TyRoleGrant)], fun x => toC (.list TyRoleGrant) x.1⟩
def A_laws_toRoleGrantS : List (List Nat × Ann) := [([0, 3], [.keep 0 0, .keep 0 3, .keep 0 4, .rows 0 7 TyRoleGrant])]
def In_laws_toRoleGrantS : List (List Nat × Nat) := []
noncomputable def cs_laws_toRoleGrantS : List Ctr := [c_laws_toRoleGrant]
noncomputable def F_laws_toRoleGrantS (n : Nat) (a0 : (List DRoleGrant)) : Option (List DRoleGrant) := run Try.prog A_laws_toRoleGrantS In_laws_toRoleGrantS (conOf cs_laws_toRoleGrantS) Try.f56 (Try.f56.body.getD .skip) (packT [(.list TyRoleGrant)]) n (argsV [(.list TyRoleGrant)] (a0, ()))
noncomputable abbrev L_laws_toRoleGrantS_0_3 (n : Nat) (x1 : (List DRoleGrant)) (x2 : Int) (x3 : (List DRoleGrant)) : Option (List DRoleGrant) := lam Try.prog A_laws_toRoleGrantS In_laws_toRoleGrantS (conOf cs_laws_toRoleGrantS) Try.f56 (Try.f56.body.getD .skip) (packT [(.list TyRoleGrant)]) n [0, 3] [.d (.list TyRoleGrant) x1, .msl 0 7, .d I64 x2, .d (.list TyRoleGrant) x3]
theorem F_laws_toRoleGrantS_eq (n : Nat) (a0 : (List DRoleGrant)) : F_laws_toRoleGrantS n a0 =
    bif decide ((a0.length : Int) = (a0.length : Int)) && decide ((0 : Int) ≤ (a0.length : Int)) && decide ((a0.length : Int) * 72 ≤ room) && true then
      L_laws_toRoleGrantS_0_3 n a0 0 (List.replicate (Int.toNat (a0.length : Int)) (([] : List Int), ([] : List Int), ([] : List Int), 0, 0, 0))
    else none := by kernel_rfl
theorem L_laws_toRoleGrantS_0_3_eq (n : Nat) (x1 : (List DRoleGrant)) (x2 : Int) (x3 : (List DRoleGrant)) : L_laws_toRoleGrantS_0_3 (n + 1) x1 x2 x3 =
    bif decide (x2 < (x1.length : Int)) then
      bif inB x2 x1.length then
        Option.bind (toC TyRoleGrant (rd x1 x2 (Ty.dflt TyRoleGrant))) fun (y1 : DRoleGrant) =>
        bif inB x2 x3.length then
          bif inB x2 x3.length && true && true && true && true then
            L_laws_toRoleGrantS_0_3 n x1 (IntKind.wrap .i64 (x2 + 1)) (x3.set (Int.toNat x2) y1)
          else none
        else none
      else none
    else
      some x3 := by kernel_rfl
theorem mk_laws_toRoleGrantS (hcs : ∀ x ∈ cs_laws_toRoleGrantS, CtrOk Try.prog x) (h : ∀ (a0 : (List DRoleGrant)) y, toC (.list TyRoleGrant) a0 = some y → ∃ n, F_laws_toRoleGrantS n a0 = some y) : CtrOk Try.prog c_laws_toRoleGrantS := by
  refine ctr_of_run (c := c_laws_toRoleGrantS) (by kernel_rfl) (by kernel_rfl : Try.prog.funcs[56]? = some Try.f56) (code := Try.f56.body.getD .skip) (by kernel_rfl) (by kernel_rfl) (by kernel_rfl) (A := A_laws_toRoleGrantS) (I := In_laws_toRoleGrantS) hcs ?_
  rintro ⟨a0, u⟩ y hy
  exact h a0 y hy

theorem hcs_laws_toRoleGrantS : ∀ x ∈ cs_laws_toRoleGrantS, CtrOk Try.prog x := (conOf_cons ok_laws_toRoleGrant conOf_nil)
theorem ok_laws_toRoleGrantS : CtrOk Try.prog c_laws_toRoleGrantS := mk_laws_toRoleGrantS hcs_laws_toRoleGrantS fun a0 y hy => by
  obtain ⟨n, hn⟩ := toS_ok (t := TyRoleGrant) (f := toC TyRoleGrant) (fun x h h2 => toC_some h h2) (by_ := 72) (by omega) (fun n xs i out => L_laws_toRoleGrantS_0_3_eq n xs i out) hy
  exact ⟨n, (F_laws_toRoleGrantS_eq n a0).trans hn⟩
/-! ## laws.toRoleSession (108) -/
noncomputable def c_laws_toRoleSession : Ctr := ⟨108, [TyRoleSession], [TyRoleSession], fun x => toC TyRoleSession x.1⟩
def A_laws_toRoleSession : List (List Nat × Ann) := []
def In_laws_toRoleSession : List (List Nat × Nat) := []
noncomputable def cs_laws_toRoleSession : List Ctr := [c_laws_toStringS, c_laws_toRoleGrantS]
noncomputable def F_laws_toRoleSession (n : Nat) (a0 : DRoleSession) : Option DRoleSession := run Try.prog A_laws_toRoleSession In_laws_toRoleSession (conOf cs_laws_toRoleSession) Try.f108 (Try.f108.body.getD .skip) (packT [TyRoleSession]) n (argsV [TyRoleSession] (a0, ()))
theorem F_laws_toRoleSession_eq (n : Nat) (a0 : DRoleSession) : F_laws_toRoleSession n a0 =
    Option.bind (toC (.list .str) a0.2.2.1) fun (y1 : (List (List Int))) =>
    Option.bind (toC (.list TyRoleGrant) a0.2.2.2.1) fun (y2 : (List DRoleGrant)) =>
    some (a0.1, a0.2.1, y1, y2, a0.2.2.2.2) := by kernel_rfl
theorem mk_laws_toRoleSession (hcs : ∀ x ∈ cs_laws_toRoleSession, CtrOk Try.prog x) (h : ∀ (a0 : DRoleSession) y, toC TyRoleSession a0 = some y → ∃ n, F_laws_toRoleSession n a0 = some y) : CtrOk Try.prog c_laws_toRoleSession := by
  refine ctr_of_run (c := c_laws_toRoleSession) (by kernel_rfl) (by kernel_rfl : Try.prog.funcs[108]? = some Try.f108) (code := Try.f108.body.getD .skip) (by kernel_rfl) (by kernel_rfl) (by kernel_rfl) (A := A_laws_toRoleSession) (I := In_laws_toRoleSession) hcs ?_
  rintro ⟨a0, u⟩ y hy
  exact h a0 y hy

theorem hcs_laws_toRoleSession : ∀ x ∈ cs_laws_toRoleSession, CtrOk Try.prog x := (conOf_cons ok_laws_toStringS (conOf_cons ok_laws_toRoleGrantS conOf_nil))
theorem ok_laws_toRoleSession : CtrOk Try.prog c_laws_toRoleSession := mk_laws_toRoleSession hcs_laws_toRoleSession fun a0 y hy => by
  obtain ⟨hw, hs, rfl⟩ := toC_inv hy
  have hw2 : wfD .str y.1 ∧ wfD .str y.2.1 ∧ wfD (.list .str) y.2.2.1 ∧ wfD (.list TyRoleGrant) y.2.2.2.1 ∧ wfD .bool y.2.2.2.2 := hw
  have hs2 : Ty.size .str y.1 + (Ty.size .str y.2.1 + (Ty.size (.list .str) y.2.2.1 + (Ty.size (.list TyRoleGrant) y.2.2.2.1 + (Ty.size .bool y.2.2.2.2)))) ≤ 1073741824 := hs
  refine ⟨0, ?_⟩
  rw [F_laws_toRoleSession_eq]
  try (rw [toC_some hw2.2.2.1 (by omega)]; simp only [Option.bind_some])
  try (rw [toC_some hw2.2.2.2.1 (by omega)]; simp only [Option.bind_some])
  try rfl
/-! ## laws.toRoleSessionS (57) -/
noncomputable def c_laws_toRoleSessionS : Ctr := ⟨57, [(.list TyRoleSession)], [(.list TyRoleSession)], fun x => toC (.list TyRoleSession) x.1⟩
def A_laws_toRoleSessionS : List (List Nat × Ann) := [([0, 3], [.keep 0 0, .keep 0 3, .keep 0 4, .rows 0 7 TyRoleSession])]
def In_laws_toRoleSessionS : List (List Nat × Nat) := []
noncomputable def cs_laws_toRoleSessionS : List Ctr := [c_laws_toRoleSession]
noncomputable def F_laws_toRoleSessionS (n : Nat) (a0 : (List DRoleSession)) : Option (List DRoleSession) := run Try.prog A_laws_toRoleSessionS In_laws_toRoleSessionS (conOf cs_laws_toRoleSessionS) Try.f57 (Try.f57.body.getD .skip) (packT [(.list TyRoleSession)]) n (argsV [(.list TyRoleSession)] (a0, ()))
noncomputable abbrev L_laws_toRoleSessionS_0_3 (n : Nat) (x1 : (List DRoleSession)) (x2 : Int) (x3 : (List DRoleSession)) : Option (List DRoleSession) := lam Try.prog A_laws_toRoleSessionS In_laws_toRoleSessionS (conOf cs_laws_toRoleSessionS) Try.f57 (Try.f57.body.getD .skip) (packT [(.list TyRoleSession)]) n [0, 3] [.d (.list TyRoleSession) x1, .msl 0 7, .d I64 x2, .d (.list TyRoleSession) x3]
theorem F_laws_toRoleSessionS_eq (n : Nat) (a0 : (List DRoleSession)) : F_laws_toRoleSessionS n a0 =
    bif decide ((a0.length : Int) = (a0.length : Int)) && decide ((0 : Int) ≤ (a0.length : Int)) && decide ((a0.length : Int) * 88 ≤ room) && true then
      L_laws_toRoleSessionS_0_3 n a0 0 (List.replicate (Int.toNat (a0.length : Int)) (([] : List Int), ([] : List Int), [], [], false))
    else none := by kernel_rfl
theorem L_laws_toRoleSessionS_0_3_eq (n : Nat) (x1 : (List DRoleSession)) (x2 : Int) (x3 : (List DRoleSession)) : L_laws_toRoleSessionS_0_3 (n + 1) x1 x2 x3 =
    bif decide (x2 < (x1.length : Int)) then
      bif inB x2 x1.length then
        Option.bind (toC TyRoleSession (rd x1 x2 (Ty.dflt TyRoleSession))) fun (y1 : DRoleSession) =>
        bif inB x2 x3.length then
          bif inB x2 x3.length && true && true && true && true then
            L_laws_toRoleSessionS_0_3 n x1 (IntKind.wrap .i64 (x2 + 1)) (x3.set (Int.toNat x2) y1)
          else none
        else none
      else none
    else
      some x3 := by kernel_rfl
theorem mk_laws_toRoleSessionS (hcs : ∀ x ∈ cs_laws_toRoleSessionS, CtrOk Try.prog x) (h : ∀ (a0 : (List DRoleSession)) y, toC (.list TyRoleSession) a0 = some y → ∃ n, F_laws_toRoleSessionS n a0 = some y) : CtrOk Try.prog c_laws_toRoleSessionS := by
  refine ctr_of_run (c := c_laws_toRoleSessionS) (by kernel_rfl) (by kernel_rfl : Try.prog.funcs[57]? = some Try.f57) (code := Try.f57.body.getD .skip) (by kernel_rfl) (by kernel_rfl) (by kernel_rfl) (A := A_laws_toRoleSessionS) (I := In_laws_toRoleSessionS) hcs ?_
  rintro ⟨a0, u⟩ y hy
  exact h a0 y hy

theorem hcs_laws_toRoleSessionS : ∀ x ∈ cs_laws_toRoleSessionS, CtrOk Try.prog x := (conOf_cons ok_laws_toRoleSession conOf_nil)
theorem ok_laws_toRoleSessionS : CtrOk Try.prog c_laws_toRoleSessionS := mk_laws_toRoleSessionS hcs_laws_toRoleSessionS fun a0 y hy => by
  obtain ⟨n, hn⟩ := toS_ok (t := TyRoleSession) (f := toC TyRoleSession) (fun x h h2 => toC_some h h2) (by_ := 88) (by omega) (fun n xs i out => L_laws_toRoleSessionS_0_3_eq n xs i out) hy
  exact ⟨n, (F_laws_toRoleSessionS_eq n a0).trans hn⟩
/-! ## laws.toRoleState (19) -/
noncomputable def c_laws_toRoleState : Ctr := ⟨19, [TyRoleState], [TyRoleState], fun x => toC TyRoleState x.1⟩
def A_laws_toRoleState : List (List Nat × Ann) := []
def In_laws_toRoleState : List (List Nat × Nat) := []
noncomputable def cs_laws_toRoleState : List Ctr := [c_laws_toIntS, c_laws_toRoleGrantS, c_laws_toRoleSessionS]
noncomputable def F_laws_toRoleState (n : Nat) (a0 : DRoleState) : Option DRoleState := run Try.prog A_laws_toRoleState In_laws_toRoleState (conOf cs_laws_toRoleState) Try.f19 (Try.f19.body.getD .skip) (packT [TyRoleState]) n (argsV [TyRoleState] (a0, ()))
theorem F_laws_toRoleState_eq (n : Nat) (a0 : DRoleState) : F_laws_toRoleState n a0 =
    Option.bind (toC (.list I64) a0.1) fun (y1 : (List Int)) =>
    Option.bind (toC (.list TyRoleGrant) a0.2.1) fun (y2 : (List DRoleGrant)) =>
    Option.bind (toC (.list TyRoleSession) a0.2.2.1) fun (y3 : (List DRoleSession)) =>
    some (y1, y2, y3, a0.2.2.2) := by kernel_rfl
theorem mk_laws_toRoleState (hcs : ∀ x ∈ cs_laws_toRoleState, CtrOk Try.prog x) (h : ∀ (a0 : DRoleState) y, toC TyRoleState a0 = some y → ∃ n, F_laws_toRoleState n a0 = some y) : CtrOk Try.prog c_laws_toRoleState := by
  refine ctr_of_run (c := c_laws_toRoleState) (by kernel_rfl) (by kernel_rfl : Try.prog.funcs[19]? = some Try.f19) (code := Try.f19.body.getD .skip) (by kernel_rfl) (by kernel_rfl) (by kernel_rfl) (A := A_laws_toRoleState) (I := In_laws_toRoleState) hcs ?_
  rintro ⟨a0, u⟩ y hy
  exact h a0 y hy

theorem hcs_laws_toRoleState : ∀ x ∈ cs_laws_toRoleState, CtrOk Try.prog x := (conOf_cons ok_laws_toIntS (conOf_cons ok_laws_toRoleGrantS (conOf_cons ok_laws_toRoleSessionS conOf_nil)))
theorem ok_laws_toRoleState : CtrOk Try.prog c_laws_toRoleState := mk_laws_toRoleState hcs_laws_toRoleState fun a0 y hy => by
  obtain ⟨hw, hs, rfl⟩ := toC_inv hy
  have hw2 : wfD (.list I64) y.1 ∧ wfD (.list TyRoleGrant) y.2.1 ∧ wfD (.list TyRoleSession) y.2.2.1 ∧ wfD I64 y.2.2.2 := hw
  have hs2 : Ty.size (.list I64) y.1 + (Ty.size (.list TyRoleGrant) y.2.1 + (Ty.size (.list TyRoleSession) y.2.2.1 + (Ty.size I64 y.2.2.2))) ≤ 1073741824 := hs
  refine ⟨0, ?_⟩
  rw [F_laws_toRoleState_eq]
  try (rw [toC_some hw2.1 (by omega)]; simp only [Option.bind_some])
  try (rw [toC_some hw2.2.1 (by omega)]; simp only [Option.bind_some])
  try (rw [toC_some hw2.2.2.1 (by omega)]; simp only [Option.bind_some])
  try rfl
/-! ## laws.eqStringS (25) -/
noncomputable def c_laws_eqStringS : Ctr := ⟨25, [(.list .str), (.list .str)], [.bool], fun x => eqC (.list .str) x.1 x.2.1⟩
def A_laws_eqStringS : List (List Nat × Ann) := [([0, 4], [.keep 0 0, .keep 0 1, .keep 0 5])]
def In_laws_eqStringS : List (List Nat × Nat) := []
noncomputable def cs_laws_eqStringS : List Ctr := []
noncomputable def F_laws_eqStringS (n : Nat) (a0 : (List (List Int))) (a1 : (List (List Int))) : Option Bool := run Try.prog A_laws_eqStringS In_laws_eqStringS (conOf cs_laws_eqStringS) Try.f25 (Try.f25.body.getD .skip) (packT [.bool]) n (argsV [(.list .str), (.list .str)] (a0, a1, ()))
noncomputable abbrev L_laws_eqStringS_0_4 (n : Nat) (x1 : (List (List Int))) (x2 : (List (List Int))) (x3 : Int) : Option Bool := lam Try.prog A_laws_eqStringS In_laws_eqStringS (conOf cs_laws_eqStringS) Try.f25 (Try.f25.body.getD .skip) (packT [.bool]) n [0, 4] [.d (.list .str) x1, .d (.list .str) x2, .d I64 x3]
theorem F_laws_eqStringS_eq (n : Nat) (a0 : (List (List Int))) (a1 : (List (List Int))) : F_laws_eqStringS n a0 a1 =
    bif !decide ((a0.length : Int) = (a1.length : Int)) then
      some false
    else
      L_laws_eqStringS_0_4 n a0 a1 0 := by kernel_rfl
theorem L_laws_eqStringS_0_4_eq (n : Nat) (x1 : (List (List Int))) (x2 : (List (List Int))) (x3 : Int) : L_laws_eqStringS_0_4 (n + 1) x1 x2 x3 =
    bif decide (x3 < (x1.length : Int)) then
      bif inB x3 x1.length then
        bif inB x3 x2.length then
          bif !decide (rd x1 x3 (Ty.dflt .str) = rd x2 x3 (Ty.dflt .str)) then
            some false
          else
            L_laws_eqStringS_0_4 n x1 x2 (IntKind.wrap .i64 (x3 + 1))
        else none
      else none
    else
      some true := by kernel_rfl
theorem mk_laws_eqStringS (hcs : ∀ x ∈ cs_laws_eqStringS, CtrOk Try.prog x) (h : ∀ (a0 : (List (List Int))) (a1 : (List (List Int))) y, eqC (.list .str) a0 a1 = some y → ∃ n, F_laws_eqStringS n a0 a1 = some y) : CtrOk Try.prog c_laws_eqStringS := by
  refine ctr_of_run (c := c_laws_eqStringS) (by kernel_rfl) (by kernel_rfl : Try.prog.funcs[25]? = some Try.f25) (code := Try.f25.body.getD .skip) (by kernel_rfl) (by kernel_rfl) (by kernel_rfl) (A := A_laws_eqStringS) (I := In_laws_eqStringS) hcs ?_
  rintro ⟨a0, a1, u⟩ y hy
  exact h a0 a1 y hy

theorem hcs_laws_eqStringS : ∀ x ∈ cs_laws_eqStringS, CtrOk Try.prog x := conOf_nil
theorem ok_laws_eqStringS : CtrOk Try.prog c_laws_eqStringS := mk_laws_eqStringS hcs_laws_eqStringS fun a0 a1 y hy => by
  obtain ⟨n, hn⟩ := eqS_ok (t := .str) (body := fun x y K => bif !decide (x = y) then some false else K ()) (fun x K h => by simp) (fun n xs ys i => L_laws_eqStringS_0_4_eq n xs ys i) hy
  exact ⟨n, (F_laws_eqStringS_eq n a0 a1).trans hn⟩
/-! ## laws.eqRole (115) -/
noncomputable def c_laws_eqRole : Ctr := ⟨115, [TyRole, TyRole], [.bool], fun x => eqC TyRole x.1 x.2.1⟩
def A_laws_eqRole : List (List Nat × Ann) := []
def In_laws_eqRole : List (List Nat × Nat) := []
noncomputable def cs_laws_eqRole : List Ctr := [c_laws_eqStringS]
noncomputable def F_laws_eqRole (n : Nat) (a0 : DRole) (a1 : DRole) : Option Bool := run Try.prog A_laws_eqRole In_laws_eqRole (conOf cs_laws_eqRole) Try.f115 (Try.f115.body.getD .skip) (packT [.bool]) n (argsV [TyRole, TyRole] (a0, a1, ()))
theorem F_laws_eqRole_eq (n : Nat) (a0 : DRole) (a1 : DRole) : F_laws_eqRole n a0 a1 =
    bif !decide (a0.1 = a1.1) then
      some false
    else
      Option.bind (eqC (.list .str) a0.2.1 a1.2.1) fun (y1 : Bool) =>
      bif !(y1) then
        some false
      else
        Option.bind (eqC (.list .str) a0.2.2 a1.2.2) fun (y2 : Bool) =>
        bif !(y2) then
          some false
        else
          some true := by kernel_rfl
theorem mk_laws_eqRole (hcs : ∀ x ∈ cs_laws_eqRole, CtrOk Try.prog x) (h : ∀ (a0 : DRole) (a1 : DRole) y, eqC TyRole a0 a1 = some y → ∃ n, F_laws_eqRole n a0 a1 = some y) : CtrOk Try.prog c_laws_eqRole := by
  refine ctr_of_run (c := c_laws_eqRole) (by kernel_rfl) (by kernel_rfl : Try.prog.funcs[115]? = some Try.f115) (code := Try.f115.body.getD .skip) (by kernel_rfl) (by kernel_rfl) (by kernel_rfl) (A := A_laws_eqRole) (I := In_laws_eqRole) hcs ?_
  rintro ⟨a0, a1, u⟩ y hy
  exact h a0 a1 y hy

theorem hcs_laws_eqRole : ∀ x ∈ cs_laws_eqRole, CtrOk Try.prog x := (conOf_cons ok_laws_eqStringS conOf_nil)
theorem ok_laws_eqRole : CtrOk Try.prog c_laws_eqRole := mk_laws_eqRole hcs_laws_eqRole fun a0 a1 y hy => by
  obtain ⟨rfl, hw, rfl⟩ := eqC_inv hy
  have hw2 : wfD .str a0.1 ∧ wfD (.list .str) a0.2.1 ∧ wfD (.list .str) a0.2.2 := hw
  refine ⟨0, ?_⟩
  rw [F_laws_eqRole_eq]
  simp [eqC_some hw2.2.1, eqC_some hw2.2.2]
/-! ## laws.eqRoleS (64) -/
noncomputable def c_laws_eqRoleS : Ctr := ⟨64, [(.list TyRole), (.list TyRole)], [.bool], fun x => eqC (.list TyRole) x.1 x.2.1⟩
def A_laws_eqRoleS : List (List Nat × Ann) := [([0, 4], [.keep 0 0, .keep 0 1, .keep 0 5])]
def In_laws_eqRoleS : List (List Nat × Nat) := []
noncomputable def cs_laws_eqRoleS : List Ctr := [c_laws_eqRole]
noncomputable def F_laws_eqRoleS (n : Nat) (a0 : (List DRole)) (a1 : (List DRole)) : Option Bool := run Try.prog A_laws_eqRoleS In_laws_eqRoleS (conOf cs_laws_eqRoleS) Try.f64 (Try.f64.body.getD .skip) (packT [.bool]) n (argsV [(.list TyRole), (.list TyRole)] (a0, a1, ()))
noncomputable abbrev L_laws_eqRoleS_0_4 (n : Nat) (x1 : (List DRole)) (x2 : (List DRole)) (x3 : Int) : Option Bool := lam Try.prog A_laws_eqRoleS In_laws_eqRoleS (conOf cs_laws_eqRoleS) Try.f64 (Try.f64.body.getD .skip) (packT [.bool]) n [0, 4] [.d (.list TyRole) x1, .d (.list TyRole) x2, .d I64 x3]
theorem F_laws_eqRoleS_eq (n : Nat) (a0 : (List DRole)) (a1 : (List DRole)) : F_laws_eqRoleS n a0 a1 =
    bif !decide ((a0.length : Int) = (a1.length : Int)) then
      some false
    else
      L_laws_eqRoleS_0_4 n a0 a1 0 := by kernel_rfl
theorem L_laws_eqRoleS_0_4_eq (n : Nat) (x1 : (List DRole)) (x2 : (List DRole)) (x3 : Int) : L_laws_eqRoleS_0_4 (n + 1) x1 x2 x3 =
    bif decide (x3 < (x1.length : Int)) then
      bif inB x3 x1.length then
        bif inB x3 x2.length then
          Option.bind (eqC TyRole (rd x1 x3 (Ty.dflt TyRole)) (rd x2 x3 (Ty.dflt TyRole))) fun (y1 : Bool) =>
          bif !(y1) then
            some false
          else
            L_laws_eqRoleS_0_4 n x1 x2 (IntKind.wrap .i64 (x3 + 1))
        else none
      else none
    else
      some true := by kernel_rfl
theorem mk_laws_eqRoleS (hcs : ∀ x ∈ cs_laws_eqRoleS, CtrOk Try.prog x) (h : ∀ (a0 : (List DRole)) (a1 : (List DRole)) y, eqC (.list TyRole) a0 a1 = some y → ∃ n, F_laws_eqRoleS n a0 a1 = some y) : CtrOk Try.prog c_laws_eqRoleS := by
  refine ctr_of_run (c := c_laws_eqRoleS) (by kernel_rfl) (by kernel_rfl : Try.prog.funcs[64]? = some Try.f64) (code := Try.f64.body.getD .skip) (by kernel_rfl) (by kernel_rfl) (by kernel_rfl) (A := A_laws_eqRoleS) (I := In_laws_eqRoleS) hcs ?_
  rintro ⟨a0, a1, u⟩ y hy
  exact h a0 a1 y hy

theorem hcs_laws_eqRoleS : ∀ x ∈ cs_laws_eqRoleS, CtrOk Try.prog x := (conOf_cons ok_laws_eqRole conOf_nil)
theorem ok_laws_eqRoleS : CtrOk Try.prog c_laws_eqRoleS := mk_laws_eqRoleS hcs_laws_eqRoleS fun a0 a1 y hy => by
  obtain ⟨n, hn⟩ := eqS_ok (t := TyRole) (body := fun x y K => Option.bind (eqC TyRole x y) fun b => bif !b then some false else K ()) (fun x K h => by simp only [eqC_some h, Option.bind_some, Bool.not_true, cond_false]) (fun n xs ys i => L_laws_eqRoleS_0_4_eq n xs ys i) hy
  exact ⟨n, (F_laws_eqRoleS_eq n a0 a1).trans hn⟩
/-! ## laws.eqApart (116) -/
noncomputable def c_laws_eqApart : Ctr := ⟨116, [TyApart, TyApart], [.bool], fun x => eqC TyApart x.1 x.2.1⟩
def A_laws_eqApart : List (List Nat × Ann) := []
def In_laws_eqApart : List (List Nat × Nat) := []
noncomputable def cs_laws_eqApart : List Ctr := [c_laws_eqStringS]
noncomputable def F_laws_eqApart (n : Nat) (a0 : DApart) (a1 : DApart) : Option Bool := run Try.prog A_laws_eqApart In_laws_eqApart (conOf cs_laws_eqApart) Try.f116 (Try.f116.body.getD .skip) (packT [.bool]) n (argsV [TyApart, TyApart] (a0, a1, ()))
theorem F_laws_eqApart_eq (n : Nat) (a0 : DApart) (a1 : DApart) : F_laws_eqApart n a0 a1 =
    Option.bind (eqC (.list .str) a0.1 a1.1) fun (y1 : Bool) =>
    bif !(y1) then
      some false
    else
      bif !decide (a0.2.1 = a1.2.1) then
        some false
      else
        bif a0.2.2 != a1.2.2 then
          some false
        else
          some true := by kernel_rfl
theorem mk_laws_eqApart (hcs : ∀ x ∈ cs_laws_eqApart, CtrOk Try.prog x) (h : ∀ (a0 : DApart) (a1 : DApart) y, eqC TyApart a0 a1 = some y → ∃ n, F_laws_eqApart n a0 a1 = some y) : CtrOk Try.prog c_laws_eqApart := by
  refine ctr_of_run (c := c_laws_eqApart) (by kernel_rfl) (by kernel_rfl : Try.prog.funcs[116]? = some Try.f116) (code := Try.f116.body.getD .skip) (by kernel_rfl) (by kernel_rfl) (by kernel_rfl) (A := A_laws_eqApart) (I := In_laws_eqApart) hcs ?_
  rintro ⟨a0, a1, u⟩ y hy
  exact h a0 a1 y hy

theorem hcs_laws_eqApart : ∀ x ∈ cs_laws_eqApart, CtrOk Try.prog x := (conOf_cons ok_laws_eqStringS conOf_nil)
theorem ok_laws_eqApart : CtrOk Try.prog c_laws_eqApart := mk_laws_eqApart hcs_laws_eqApart fun a0 a1 y hy => by
  obtain ⟨rfl, hw, rfl⟩ := eqC_inv hy
  have hw2 : wfD (.list .str) a0.1 ∧ wfD I64 a0.2.1 ∧ wfD .bool a0.2.2 := hw
  refine ⟨0, ?_⟩
  rw [F_laws_eqApart_eq]
  simp [eqC_some hw2.1]
/-! ## laws.eqApartS (65) -/
noncomputable def c_laws_eqApartS : Ctr := ⟨65, [(.list TyApart), (.list TyApart)], [.bool], fun x => eqC (.list TyApart) x.1 x.2.1⟩
def A_laws_eqApartS : List (List Nat × Ann) := [([0, 4], [.keep 0 0, .keep 0 1, .keep 0 5])]
def In_laws_eqApartS : List (List Nat × Nat) := []
noncomputable def cs_laws_eqApartS : List Ctr := [c_laws_eqApart]
noncomputable def F_laws_eqApartS (n : Nat) (a0 : (List DApart)) (a1 : (List DApart)) : Option Bool := run Try.prog A_laws_eqApartS In_laws_eqApartS (conOf cs_laws_eqApartS) Try.f65 (Try.f65.body.getD .skip) (packT [.bool]) n (argsV [(.list TyApart), (.list TyApart)] (a0, a1, ()))
noncomputable abbrev L_laws_eqApartS_0_4 (n : Nat) (x1 : (List DApart)) (x2 : (List DApart)) (x3 : Int) : Option Bool := lam Try.prog A_laws_eqApartS In_laws_eqApartS (conOf cs_laws_eqApartS) Try.f65 (Try.f65.body.getD .skip) (packT [.bool]) n [0, 4] [.d (.list TyApart) x1, .d (.list TyApart) x2, .d I64 x3]
theorem F_laws_eqApartS_eq (n : Nat) (a0 : (List DApart)) (a1 : (List DApart)) : F_laws_eqApartS n a0 a1 =
    bif !decide ((a0.length : Int) = (a1.length : Int)) then
      some false
    else
      L_laws_eqApartS_0_4 n a0 a1 0 := by kernel_rfl
theorem L_laws_eqApartS_0_4_eq (n : Nat) (x1 : (List DApart)) (x2 : (List DApart)) (x3 : Int) : L_laws_eqApartS_0_4 (n + 1) x1 x2 x3 =
    bif decide (x3 < (x1.length : Int)) then
      bif inB x3 x1.length then
        bif inB x3 x2.length then
          Option.bind (eqC TyApart (rd x1 x3 (Ty.dflt TyApart)) (rd x2 x3 (Ty.dflt TyApart))) fun (y1 : Bool) =>
          bif !(y1) then
            some false
          else
            L_laws_eqApartS_0_4 n x1 x2 (IntKind.wrap .i64 (x3 + 1))
        else none
      else none
    else
      some true := by kernel_rfl
theorem mk_laws_eqApartS (hcs : ∀ x ∈ cs_laws_eqApartS, CtrOk Try.prog x) (h : ∀ (a0 : (List DApart)) (a1 : (List DApart)) y, eqC (.list TyApart) a0 a1 = some y → ∃ n, F_laws_eqApartS n a0 a1 = some y) : CtrOk Try.prog c_laws_eqApartS := by
  refine ctr_of_run (c := c_laws_eqApartS) (by kernel_rfl) (by kernel_rfl : Try.prog.funcs[65]? = some Try.f65) (code := Try.f65.body.getD .skip) (by kernel_rfl) (by kernel_rfl) (by kernel_rfl) (A := A_laws_eqApartS) (I := In_laws_eqApartS) hcs ?_
  rintro ⟨a0, a1, u⟩ y hy
  exact h a0 a1 y hy

theorem hcs_laws_eqApartS : ∀ x ∈ cs_laws_eqApartS, CtrOk Try.prog x := (conOf_cons ok_laws_eqApart conOf_nil)
theorem ok_laws_eqApartS : CtrOk Try.prog c_laws_eqApartS := mk_laws_eqApartS hcs_laws_eqApartS fun a0 a1 y hy => by
  obtain ⟨n, hn⟩ := eqS_ok (t := TyApart) (body := fun x y K => Option.bind (eqC TyApart x y) fun b => bif !b then some false else K ()) (fun x K h => by simp only [eqC_some h, Option.bind_some, Bool.not_true, cond_false]) (fun n xs ys i => L_laws_eqApartS_0_4_eq n xs ys i) hy
  exact ⟨n, (F_laws_eqApartS_eq n a0 a1).trans hn⟩
/-! ## laws.eqRoleSet (21) -/
noncomputable def c_laws_eqRoleSet : Ctr := ⟨21, [TyRoleSet, TyRoleSet], [.bool], fun x => eqC TyRoleSet x.1 x.2.1⟩
def A_laws_eqRoleSet : List (List Nat × Ann) := []
def In_laws_eqRoleSet : List (List Nat × Nat) := []
noncomputable def cs_laws_eqRoleSet : List Ctr := [c_laws_eqRoleS, c_laws_eqApartS, c_laws_eqStringS]
noncomputable def F_laws_eqRoleSet (n : Nat) (a0 : DRoleSet) (a1 : DRoleSet) : Option Bool := run Try.prog A_laws_eqRoleSet In_laws_eqRoleSet (conOf cs_laws_eqRoleSet) Try.f21 (Try.f21.body.getD .skip) (packT [.bool]) n (argsV [TyRoleSet, TyRoleSet] (a0, a1, ()))
theorem F_laws_eqRoleSet_eq (n : Nat) (a0 : DRoleSet) (a1 : DRoleSet) : F_laws_eqRoleSet n a0 a1 =
    Option.bind (eqC (.list TyRole) a0.1 a1.1) fun (y1 : Bool) =>
    bif !(y1) then
      some false
    else
      Option.bind (eqC (.list TyApart) a0.2.1 a1.2.1) fun (y2 : Bool) =>
      bif !(y2) then
        some false
      else
        Option.bind (eqC (.list .str) a0.2.2 a1.2.2) fun (y3 : Bool) =>
        bif !(y3) then
          some false
        else
          some true := by kernel_rfl
theorem mk_laws_eqRoleSet (hcs : ∀ x ∈ cs_laws_eqRoleSet, CtrOk Try.prog x) (h : ∀ (a0 : DRoleSet) (a1 : DRoleSet) y, eqC TyRoleSet a0 a1 = some y → ∃ n, F_laws_eqRoleSet n a0 a1 = some y) : CtrOk Try.prog c_laws_eqRoleSet := by
  refine ctr_of_run (c := c_laws_eqRoleSet) (by kernel_rfl) (by kernel_rfl : Try.prog.funcs[21]? = some Try.f21) (code := Try.f21.body.getD .skip) (by kernel_rfl) (by kernel_rfl) (by kernel_rfl) (A := A_laws_eqRoleSet) (I := In_laws_eqRoleSet) hcs ?_
  rintro ⟨a0, a1, u⟩ y hy
  exact h a0 a1 y hy

theorem hcs_laws_eqRoleSet : ∀ x ∈ cs_laws_eqRoleSet, CtrOk Try.prog x := (conOf_cons ok_laws_eqRoleS (conOf_cons ok_laws_eqApartS (conOf_cons ok_laws_eqStringS conOf_nil)))
theorem ok_laws_eqRoleSet : CtrOk Try.prog c_laws_eqRoleSet := mk_laws_eqRoleSet hcs_laws_eqRoleSet fun a0 a1 y hy => by
  obtain ⟨rfl, hw, rfl⟩ := eqC_inv hy
  have hw2 : wfD (.list TyRole) a0.1 ∧ wfD (.list TyApart) a0.2.1 ∧ wfD (.list .str) a0.2.2 := hw
  refine ⟨0, ?_⟩
  rw [F_laws_eqRoleSet_eq]
  simp [eqC_some hw2.1, eqC_some hw2.2.1, eqC_some hw2.2.2]
/-! ## laws.eqIntS (66) -/
noncomputable def c_laws_eqIntS : Ctr := ⟨66, [(.list I64), (.list I64)], [.bool], fun x => eqC (.list I64) x.1 x.2.1⟩
def A_laws_eqIntS : List (List Nat × Ann) := [([0, 4], [.keep 0 0, .keep 0 1, .keep 0 5])]
def In_laws_eqIntS : List (List Nat × Nat) := []
noncomputable def cs_laws_eqIntS : List Ctr := []
noncomputable def F_laws_eqIntS (n : Nat) (a0 : (List Int)) (a1 : (List Int)) : Option Bool := run Try.prog A_laws_eqIntS In_laws_eqIntS (conOf cs_laws_eqIntS) Try.f66 (Try.f66.body.getD .skip) (packT [.bool]) n (argsV [(.list I64), (.list I64)] (a0, a1, ()))
noncomputable abbrev L_laws_eqIntS_0_4 (n : Nat) (x1 : (List Int)) (x2 : (List Int)) (x3 : Int) : Option Bool := lam Try.prog A_laws_eqIntS In_laws_eqIntS (conOf cs_laws_eqIntS) Try.f66 (Try.f66.body.getD .skip) (packT [.bool]) n [0, 4] [.d (.list I64) x1, .d (.list I64) x2, .d I64 x3]
theorem F_laws_eqIntS_eq (n : Nat) (a0 : (List Int)) (a1 : (List Int)) : F_laws_eqIntS n a0 a1 =
    bif !decide ((a0.length : Int) = (a1.length : Int)) then
      some false
    else
      L_laws_eqIntS_0_4 n a0 a1 0 := by kernel_rfl
theorem L_laws_eqIntS_0_4_eq (n : Nat) (x1 : (List Int)) (x2 : (List Int)) (x3 : Int) : L_laws_eqIntS_0_4 (n + 1) x1 x2 x3 =
    bif decide (x3 < (x1.length : Int)) then
      bif inB x3 x1.length then
        bif inB x3 x2.length then
          bif !decide (rd x1 x3 (Ty.dflt I64) = rd x2 x3 (Ty.dflt I64)) then
            some false
          else
            L_laws_eqIntS_0_4 n x1 x2 (IntKind.wrap .i64 (x3 + 1))
        else none
      else none
    else
      some true := by kernel_rfl
theorem mk_laws_eqIntS (hcs : ∀ x ∈ cs_laws_eqIntS, CtrOk Try.prog x) (h : ∀ (a0 : (List Int)) (a1 : (List Int)) y, eqC (.list I64) a0 a1 = some y → ∃ n, F_laws_eqIntS n a0 a1 = some y) : CtrOk Try.prog c_laws_eqIntS := by
  refine ctr_of_run (c := c_laws_eqIntS) (by kernel_rfl) (by kernel_rfl : Try.prog.funcs[66]? = some Try.f66) (code := Try.f66.body.getD .skip) (by kernel_rfl) (by kernel_rfl) (by kernel_rfl) (A := A_laws_eqIntS) (I := In_laws_eqIntS) hcs ?_
  rintro ⟨a0, a1, u⟩ y hy
  exact h a0 a1 y hy

theorem hcs_laws_eqIntS : ∀ x ∈ cs_laws_eqIntS, CtrOk Try.prog x := conOf_nil
theorem ok_laws_eqIntS : CtrOk Try.prog c_laws_eqIntS := mk_laws_eqIntS hcs_laws_eqIntS fun a0 a1 y hy => by
  obtain ⟨n, hn⟩ := eqS_ok (t := I64) (body := fun x y K => bif !decide (x = y) then some false else K ()) (fun x K h => by simp) (fun n xs ys i => L_laws_eqIntS_0_4_eq n xs ys i) hy
  exact ⟨n, (F_laws_eqIntS_eq n a0 a1).trans hn⟩
/-! ## laws.eqRoleGrant (117) -/
noncomputable def c_laws_eqRoleGrant : Ctr := ⟨117, [TyRoleGrant, TyRoleGrant], [.bool], fun x => eqC TyRoleGrant x.1 x.2.1⟩
def A_laws_eqRoleGrant : List (List Nat × Ann) := []
def In_laws_eqRoleGrant : List (List Nat × Nat) := []
noncomputable def cs_laws_eqRoleGrant : List Ctr := []
noncomputable def F_laws_eqRoleGrant (n : Nat) (a0 : DRoleGrant) (a1 : DRoleGrant) : Option Bool := run Try.prog A_laws_eqRoleGrant In_laws_eqRoleGrant (conOf cs_laws_eqRoleGrant) Try.f117 (Try.f117.body.getD .skip) (packT [.bool]) n (argsV [TyRoleGrant, TyRoleGrant] (a0, a1, ()))
theorem F_laws_eqRoleGrant_eq (n : Nat) (a0 : DRoleGrant) (a1 : DRoleGrant) : F_laws_eqRoleGrant n a0 a1 =
    bif !decide (a0.1 = a1.1) then
      some false
    else
      bif !decide (a0.2.1 = a1.2.1) then
        some false
      else
        bif !decide (a0.2.2.1 = a1.2.2.1) then
          some false
        else
          bif !decide (a0.2.2.2.1 = a1.2.2.2.1) then
            some false
          else
            bif !decide (a0.2.2.2.2.1 = a1.2.2.2.2.1) then
              some false
            else
              bif !decide (a0.2.2.2.2.2 = a1.2.2.2.2.2) then
                some false
              else
                some true := by kernel_rfl
theorem mk_laws_eqRoleGrant (hcs : ∀ x ∈ cs_laws_eqRoleGrant, CtrOk Try.prog x) (h : ∀ (a0 : DRoleGrant) (a1 : DRoleGrant) y, eqC TyRoleGrant a0 a1 = some y → ∃ n, F_laws_eqRoleGrant n a0 a1 = some y) : CtrOk Try.prog c_laws_eqRoleGrant := by
  refine ctr_of_run (c := c_laws_eqRoleGrant) (by kernel_rfl) (by kernel_rfl : Try.prog.funcs[117]? = some Try.f117) (code := Try.f117.body.getD .skip) (by kernel_rfl) (by kernel_rfl) (by kernel_rfl) (A := A_laws_eqRoleGrant) (I := In_laws_eqRoleGrant) hcs ?_
  rintro ⟨a0, a1, u⟩ y hy
  exact h a0 a1 y hy

theorem hcs_laws_eqRoleGrant : ∀ x ∈ cs_laws_eqRoleGrant, CtrOk Try.prog x := conOf_nil
theorem ok_laws_eqRoleGrant : CtrOk Try.prog c_laws_eqRoleGrant := mk_laws_eqRoleGrant hcs_laws_eqRoleGrant fun a0 a1 y hy => by
  obtain ⟨rfl, hw, rfl⟩ := eqC_inv hy
  have hw2 : wfD .str a0.1 ∧ wfD .str a0.2.1 ∧ wfD .str a0.2.2.1 ∧ wfD I64 a0.2.2.2.1 ∧ wfD I64 a0.2.2.2.2.1 ∧ wfD I64 a0.2.2.2.2.2 := hw
  refine ⟨0, ?_⟩
  rw [F_laws_eqRoleGrant_eq]
  simp []
/-! ## laws.eqRoleGrantS (67) -/
noncomputable def c_laws_eqRoleGrantS : Ctr := ⟨67, [(.list TyRoleGrant), (.list TyRoleGrant)], [.bool], fun x => eqC (.list TyRoleGrant) x.1 x.2.1⟩
def A_laws_eqRoleGrantS : List (List Nat × Ann) := [([0, 4], [.keep 0 0, .keep 0 1, .keep 0 5])]
def In_laws_eqRoleGrantS : List (List Nat × Nat) := []
noncomputable def cs_laws_eqRoleGrantS : List Ctr := [c_laws_eqRoleGrant]
noncomputable def F_laws_eqRoleGrantS (n : Nat) (a0 : (List DRoleGrant)) (a1 : (List DRoleGrant)) : Option Bool := run Try.prog A_laws_eqRoleGrantS In_laws_eqRoleGrantS (conOf cs_laws_eqRoleGrantS) Try.f67 (Try.f67.body.getD .skip) (packT [.bool]) n (argsV [(.list TyRoleGrant), (.list TyRoleGrant)] (a0, a1, ()))
noncomputable abbrev L_laws_eqRoleGrantS_0_4 (n : Nat) (x1 : (List DRoleGrant)) (x2 : (List DRoleGrant)) (x3 : Int) : Option Bool := lam Try.prog A_laws_eqRoleGrantS In_laws_eqRoleGrantS (conOf cs_laws_eqRoleGrantS) Try.f67 (Try.f67.body.getD .skip) (packT [.bool]) n [0, 4] [.d (.list TyRoleGrant) x1, .d (.list TyRoleGrant) x2, .d I64 x3]
theorem F_laws_eqRoleGrantS_eq (n : Nat) (a0 : (List DRoleGrant)) (a1 : (List DRoleGrant)) : F_laws_eqRoleGrantS n a0 a1 =
    bif !decide ((a0.length : Int) = (a1.length : Int)) then
      some false
    else
      L_laws_eqRoleGrantS_0_4 n a0 a1 0 := by kernel_rfl
theorem L_laws_eqRoleGrantS_0_4_eq (n : Nat) (x1 : (List DRoleGrant)) (x2 : (List DRoleGrant)) (x3 : Int) : L_laws_eqRoleGrantS_0_4 (n + 1) x1 x2 x3 =
    bif decide (x3 < (x1.length : Int)) then
      bif inB x3 x1.length then
        bif inB x3 x2.length then
          Option.bind (eqC TyRoleGrant (rd x1 x3 (Ty.dflt TyRoleGrant)) (rd x2 x3 (Ty.dflt TyRoleGrant))) fun (y1 : Bool) =>
          bif !(y1) then
            some false
          else
            L_laws_eqRoleGrantS_0_4 n x1 x2 (IntKind.wrap .i64 (x3 + 1))
        else none
      else none
    else
      some true := by kernel_rfl
theorem mk_laws_eqRoleGrantS (hcs : ∀ x ∈ cs_laws_eqRoleGrantS, CtrOk Try.prog x) (h : ∀ (a0 : (List DRoleGrant)) (a1 : (List DRoleGrant)) y, eqC (.list TyRoleGrant) a0 a1 = some y → ∃ n, F_laws_eqRoleGrantS n a0 a1 = some y) : CtrOk Try.prog c_laws_eqRoleGrantS := by
  refine ctr_of_run (c := c_laws_eqRoleGrantS) (by kernel_rfl) (by kernel_rfl : Try.prog.funcs[67]? = some Try.f67) (code := Try.f67.body.getD .skip) (by kernel_rfl) (by kernel_rfl) (by kernel_rfl) (A := A_laws_eqRoleGrantS) (I := In_laws_eqRoleGrantS) hcs ?_
  rintro ⟨a0, a1, u⟩ y hy
  exact h a0 a1 y hy

theorem hcs_laws_eqRoleGrantS : ∀ x ∈ cs_laws_eqRoleGrantS, CtrOk Try.prog x := (conOf_cons ok_laws_eqRoleGrant conOf_nil)
theorem ok_laws_eqRoleGrantS : CtrOk Try.prog c_laws_eqRoleGrantS := mk_laws_eqRoleGrantS hcs_laws_eqRoleGrantS fun a0 a1 y hy => by
  obtain ⟨n, hn⟩ := eqS_ok (t := TyRoleGrant) (body := fun x y K => Option.bind (eqC TyRoleGrant x y) fun b => bif !b then some false else K ()) (fun x K h => by simp only [eqC_some h, Option.bind_some, Bool.not_true, cond_false]) (fun n xs ys i => L_laws_eqRoleGrantS_0_4_eq n xs ys i) hy
  exact ⟨n, (F_laws_eqRoleGrantS_eq n a0 a1).trans hn⟩
/-! ## laws.eqRoleSession (118) -/
noncomputable def c_laws_eqRoleSession : Ctr := ⟨118, [TyRoleSession, TyRoleSession], [.bool], fun x => eqC TyRoleSession x.1 x.2.1⟩
def A_laws_eqRoleSession : List (List Nat × Ann) := []
def In_laws_eqRoleSession : List (List Nat × Nat) := []
noncomputable def cs_laws_eqRoleSession : List Ctr := [c_laws_eqStringS, c_laws_eqRoleGrantS]
noncomputable def F_laws_eqRoleSession (n : Nat) (a0 : DRoleSession) (a1 : DRoleSession) : Option Bool := run Try.prog A_laws_eqRoleSession In_laws_eqRoleSession (conOf cs_laws_eqRoleSession) Try.f118 (Try.f118.body.getD .skip) (packT [.bool]) n (argsV [TyRoleSession, TyRoleSession] (a0, a1, ()))
theorem F_laws_eqRoleSession_eq (n : Nat) (a0 : DRoleSession) (a1 : DRoleSession) : F_laws_eqRoleSession n a0 a1 =
    bif !decide (a0.1 = a1.1) then
      some false
    else
      bif !decide (a0.2.1 = a1.2.1) then
        some false
      else
        Option.bind (eqC (.list .str) a0.2.2.1 a1.2.2.1) fun (y1 : Bool) =>
        bif !(y1) then
          some false
        else
          Option.bind (eqC (.list TyRoleGrant) a0.2.2.2.1 a1.2.2.2.1) fun (y2 : Bool) =>
          bif !(y2) then
            some false
          else
            bif a0.2.2.2.2 != a1.2.2.2.2 then
              some false
            else
              some true := by kernel_rfl
theorem mk_laws_eqRoleSession (hcs : ∀ x ∈ cs_laws_eqRoleSession, CtrOk Try.prog x) (h : ∀ (a0 : DRoleSession) (a1 : DRoleSession) y, eqC TyRoleSession a0 a1 = some y → ∃ n, F_laws_eqRoleSession n a0 a1 = some y) : CtrOk Try.prog c_laws_eqRoleSession := by
  refine ctr_of_run (c := c_laws_eqRoleSession) (by kernel_rfl) (by kernel_rfl : Try.prog.funcs[118]? = some Try.f118) (code := Try.f118.body.getD .skip) (by kernel_rfl) (by kernel_rfl) (by kernel_rfl) (A := A_laws_eqRoleSession) (I := In_laws_eqRoleSession) hcs ?_
  rintro ⟨a0, a1, u⟩ y hy
  exact h a0 a1 y hy

theorem hcs_laws_eqRoleSession : ∀ x ∈ cs_laws_eqRoleSession, CtrOk Try.prog x := (conOf_cons ok_laws_eqStringS (conOf_cons ok_laws_eqRoleGrantS conOf_nil))
theorem ok_laws_eqRoleSession : CtrOk Try.prog c_laws_eqRoleSession := mk_laws_eqRoleSession hcs_laws_eqRoleSession fun a0 a1 y hy => by
  obtain ⟨rfl, hw, rfl⟩ := eqC_inv hy
  have hw2 : wfD .str a0.1 ∧ wfD .str a0.2.1 ∧ wfD (.list .str) a0.2.2.1 ∧ wfD (.list TyRoleGrant) a0.2.2.2.1 ∧ wfD .bool a0.2.2.2.2 := hw
  refine ⟨0, ?_⟩
  rw [F_laws_eqRoleSession_eq]
  simp [eqC_some hw2.2.2.1, eqC_some hw2.2.2.2.1]
/-! ## laws.eqRoleSessionS (68) -/
noncomputable def c_laws_eqRoleSessionS : Ctr := ⟨68, [(.list TyRoleSession), (.list TyRoleSession)], [.bool], fun x => eqC (.list TyRoleSession) x.1 x.2.1⟩
def A_laws_eqRoleSessionS : List (List Nat × Ann) := [([0, 4], [.keep 0 0, .keep 0 1, .keep 0 5])]
def In_laws_eqRoleSessionS : List (List Nat × Nat) := []
noncomputable def cs_laws_eqRoleSessionS : List Ctr := [c_laws_eqRoleSession]
noncomputable def F_laws_eqRoleSessionS (n : Nat) (a0 : (List DRoleSession)) (a1 : (List DRoleSession)) : Option Bool := run Try.prog A_laws_eqRoleSessionS In_laws_eqRoleSessionS (conOf cs_laws_eqRoleSessionS) Try.f68 (Try.f68.body.getD .skip) (packT [.bool]) n (argsV [(.list TyRoleSession), (.list TyRoleSession)] (a0, a1, ()))
noncomputable abbrev L_laws_eqRoleSessionS_0_4 (n : Nat) (x1 : (List DRoleSession)) (x2 : (List DRoleSession)) (x3 : Int) : Option Bool := lam Try.prog A_laws_eqRoleSessionS In_laws_eqRoleSessionS (conOf cs_laws_eqRoleSessionS) Try.f68 (Try.f68.body.getD .skip) (packT [.bool]) n [0, 4] [.d (.list TyRoleSession) x1, .d (.list TyRoleSession) x2, .d I64 x3]
theorem F_laws_eqRoleSessionS_eq (n : Nat) (a0 : (List DRoleSession)) (a1 : (List DRoleSession)) : F_laws_eqRoleSessionS n a0 a1 =
    bif !decide ((a0.length : Int) = (a1.length : Int)) then
      some false
    else
      L_laws_eqRoleSessionS_0_4 n a0 a1 0 := by kernel_rfl
theorem L_laws_eqRoleSessionS_0_4_eq (n : Nat) (x1 : (List DRoleSession)) (x2 : (List DRoleSession)) (x3 : Int) : L_laws_eqRoleSessionS_0_4 (n + 1) x1 x2 x3 =
    bif decide (x3 < (x1.length : Int)) then
      bif inB x3 x1.length then
        bif inB x3 x2.length then
          Option.bind (eqC TyRoleSession (rd x1 x3 (Ty.dflt TyRoleSession)) (rd x2 x3 (Ty.dflt TyRoleSession))) fun (y1 : Bool) =>
          bif !(y1) then
            some false
          else
            L_laws_eqRoleSessionS_0_4 n x1 x2 (IntKind.wrap .i64 (x3 + 1))
        else none
      else none
    else
      some true := by kernel_rfl
theorem mk_laws_eqRoleSessionS (hcs : ∀ x ∈ cs_laws_eqRoleSessionS, CtrOk Try.prog x) (h : ∀ (a0 : (List DRoleSession)) (a1 : (List DRoleSession)) y, eqC (.list TyRoleSession) a0 a1 = some y → ∃ n, F_laws_eqRoleSessionS n a0 a1 = some y) : CtrOk Try.prog c_laws_eqRoleSessionS := by
  refine ctr_of_run (c := c_laws_eqRoleSessionS) (by kernel_rfl) (by kernel_rfl : Try.prog.funcs[68]? = some Try.f68) (code := Try.f68.body.getD .skip) (by kernel_rfl) (by kernel_rfl) (by kernel_rfl) (A := A_laws_eqRoleSessionS) (I := In_laws_eqRoleSessionS) hcs ?_
  rintro ⟨a0, a1, u⟩ y hy
  exact h a0 a1 y hy

theorem hcs_laws_eqRoleSessionS : ∀ x ∈ cs_laws_eqRoleSessionS, CtrOk Try.prog x := (conOf_cons ok_laws_eqRoleSession conOf_nil)
theorem ok_laws_eqRoleSessionS : CtrOk Try.prog c_laws_eqRoleSessionS := mk_laws_eqRoleSessionS hcs_laws_eqRoleSessionS fun a0 a1 y hy => by
  obtain ⟨n, hn⟩ := eqS_ok (t := TyRoleSession) (body := fun x y K => Option.bind (eqC TyRoleSession x y) fun b => bif !b then some false else K ()) (fun x K h => by simp only [eqC_some h, Option.bind_some, Bool.not_true, cond_false]) (fun n xs ys i => L_laws_eqRoleSessionS_0_4_eq n xs ys i) hy
  exact ⟨n, (F_laws_eqRoleSessionS_eq n a0 a1).trans hn⟩
/-! ## laws.eqRoleState (22) -/
noncomputable def c_laws_eqRoleState : Ctr := ⟨22, [TyRoleState, TyRoleState], [.bool], fun x => eqC TyRoleState x.1 x.2.1⟩
def A_laws_eqRoleState : List (List Nat × Ann) := []
def In_laws_eqRoleState : List (List Nat × Nat) := []
noncomputable def cs_laws_eqRoleState : List Ctr := [c_laws_eqIntS, c_laws_eqRoleGrantS, c_laws_eqRoleSessionS]
noncomputable def F_laws_eqRoleState (n : Nat) (a0 : DRoleState) (a1 : DRoleState) : Option Bool := run Try.prog A_laws_eqRoleState In_laws_eqRoleState (conOf cs_laws_eqRoleState) Try.f22 (Try.f22.body.getD .skip) (packT [.bool]) n (argsV [TyRoleState, TyRoleState] (a0, a1, ()))
theorem F_laws_eqRoleState_eq (n : Nat) (a0 : DRoleState) (a1 : DRoleState) : F_laws_eqRoleState n a0 a1 =
    Option.bind (eqC (.list I64) a0.1 a1.1) fun (y1 : Bool) =>
    bif !(y1) then
      some false
    else
      Option.bind (eqC (.list TyRoleGrant) a0.2.1 a1.2.1) fun (y2 : Bool) =>
      bif !(y2) then
        some false
      else
        Option.bind (eqC (.list TyRoleSession) a0.2.2.1 a1.2.2.1) fun (y3 : Bool) =>
        bif !(y3) then
          some false
        else
          bif !decide (a0.2.2.2 = a1.2.2.2) then
            some false
          else
            some true := by kernel_rfl
theorem mk_laws_eqRoleState (hcs : ∀ x ∈ cs_laws_eqRoleState, CtrOk Try.prog x) (h : ∀ (a0 : DRoleState) (a1 : DRoleState) y, eqC TyRoleState a0 a1 = some y → ∃ n, F_laws_eqRoleState n a0 a1 = some y) : CtrOk Try.prog c_laws_eqRoleState := by
  refine ctr_of_run (c := c_laws_eqRoleState) (by kernel_rfl) (by kernel_rfl : Try.prog.funcs[22]? = some Try.f22) (code := Try.f22.body.getD .skip) (by kernel_rfl) (by kernel_rfl) (by kernel_rfl) (A := A_laws_eqRoleState) (I := In_laws_eqRoleState) hcs ?_
  rintro ⟨a0, a1, u⟩ y hy
  exact h a0 a1 y hy

theorem hcs_laws_eqRoleState : ∀ x ∈ cs_laws_eqRoleState, CtrOk Try.prog x := (conOf_cons ok_laws_eqIntS (conOf_cons ok_laws_eqRoleGrantS (conOf_cons ok_laws_eqRoleSessionS conOf_nil)))
theorem ok_laws_eqRoleState : CtrOk Try.prog c_laws_eqRoleState := mk_laws_eqRoleState hcs_laws_eqRoleState fun a0 a1 y hy => by
  obtain ⟨rfl, hw, rfl⟩ := eqC_inv hy
  have hw2 : wfD (.list I64) a0.1 ∧ wfD (.list TyRoleGrant) a0.2.1 ∧ wfD (.list TyRoleSession) a0.2.2.1 ∧ wfD I64 a0.2.2.2 := hw
  refine ⟨0, ?_⟩
  rw [F_laws_eqRoleState_eq]
  simp [eqC_some hw2.1, eqC_some hw2.2.1, eqC_some hw2.2.2.1]
/-! ## laws.FnExactKeptApart (4) -/
noncomputable def P_laws_FnExactKeptApart (a0 : DRoleSet) (a1 : DRoleState) (a2 : Int) : Option Bool :=
  Option.bind (szC TyRoleSet a0 1048576) fun (y1 : Int) =>
  bif decide (y1 < 0) then
    some true
  else
    Option.bind (szC TyRoleState a1 y1) fun (y2 : Int) =>
    bif decide (y2 < 0) then
      some true
    else
      Option.bind (toC TyRoleSet a0) fun (y3 : DRoleSet) =>
      Option.bind (toC TyRoleState a1) fun (y4 : DRoleState) =>
      Option.bind (P_spec_KeptApart y3 y4 a2) fun (y5 : Bool) =>
      Option.bind (toC TyRoleSet a0) fun (y6 : DRoleSet) =>
      Option.bind (toC TyRoleState a1) fun (y7 : DRoleState) =>
      Option.bind (P_impl_KeptApart y6 y7 a2) fun (y8 : Bool) =>
      bif y8 != y5 then
        some false
      else
        Option.bind (toC TyRoleSet a0) fun (y9 : DRoleSet) =>
        Option.bind (eqC TyRoleSet y6 y9) fun (y10 : Bool) =>
        bif !(y10) then
          some false
        else
          Option.bind (toC TyRoleState a1) fun (y11 : DRoleState) =>
          Option.bind (eqC TyRoleState y7 y11) fun (y12 : Bool) =>
          bif !(y12) then
            some false
          else
            some true
def A_laws_FnExactKeptApart : List (List Nat × Ann) := []
def In_laws_FnExactKeptApart : List (List Nat × Nat) := []
noncomputable def cs_laws_FnExactKeptApart : List Ctr := [c_laws_szRoleSet, c_laws_szRoleState, c_laws_toRoleSet, c_laws_toRoleState, c_spec_KeptApart, c_impl_KeptApart, c_laws_eqRoleSet, c_laws_eqRoleState]
noncomputable def F_laws_FnExactKeptApart (n : Nat) (a0 : DRoleSet) (a1 : DRoleState) (a2 : Int) : Option Bool := run Try.prog A_laws_FnExactKeptApart In_laws_FnExactKeptApart (conOf cs_laws_FnExactKeptApart) Try.f4 (Try.f4.body.getD .skip) (packT [.bool]) n (argsV [TyRoleSet, TyRoleState, I64] (a0, a1, a2, ()))
theorem F_laws_FnExactKeptApart_eq (n : Nat) (a0 : DRoleSet) (a1 : DRoleState) (a2 : Int) : F_laws_FnExactKeptApart n a0 a1 a2 =
    Option.bind (szC TyRoleSet a0 1048576) fun (y1 : Int) =>
    bif decide (y1 < 0) then
      some true
    else
      Option.bind (szC TyRoleState a1 y1) fun (y2 : Int) =>
      bif decide (y2 < 0) then
        some true
      else
        Option.bind (toC TyRoleSet a0) fun (y3 : DRoleSet) =>
        Option.bind (toC TyRoleState a1) fun (y4 : DRoleState) =>
        Option.bind (P_spec_KeptApart y3 y4 a2) fun (y5 : Bool) =>
        Option.bind (toC TyRoleSet a0) fun (y6 : DRoleSet) =>
        Option.bind (toC TyRoleState a1) fun (y7 : DRoleState) =>
        Option.bind (P_impl_KeptApart y6 y7 a2) fun (y8 : Bool) =>
        bif y8 != y5 then
          some false
        else
          Option.bind (toC TyRoleSet a0) fun (y9 : DRoleSet) =>
          Option.bind (eqC TyRoleSet y6 y9) fun (y10 : Bool) =>
          bif !(y10) then
            some false
          else
            Option.bind (toC TyRoleState a1) fun (y11 : DRoleState) =>
            Option.bind (eqC TyRoleState y7 y11) fun (y12 : Bool) =>
            bif !(y12) then
              some false
            else
              some true := by kernel_rfl
theorem S_laws_FnExactKeptApart (a0 : DRoleSet) (a1 : DRoleState) (a2 : Int) {r : Bool} (h : P_laws_FnExactKeptApart a0 a1 a2 = some r) : Ev (fun n => F_laws_FnExactKeptApart n a0 a1 a2) r := by
  rw [P_laws_FnExactKeptApart] at h
  refine Ev.of_eq ?_ (fun n => F_laws_FnExactKeptApart_eq n a0 a1 a2)
  exact (Ev.ofBind h fun y1 h => (Ev.ofBif h (fun h => (Ev.ofSome h)) (fun h => (Ev.ofBind h fun y2 h => (Ev.ofBif h (fun h => (Ev.ofSome h)) (fun h => (Ev.ofBind h fun y3 h => (Ev.ofBind h fun y4 h => (Ev.ofBind h fun y5 h => (Ev.ofBind h fun y6 h => (Ev.ofBind h fun y7 h => (Ev.ofBind h fun y8 h => (Ev.ofBif h (fun h => (Ev.ofSome h)) (fun h => (Ev.ofBind h fun y9 h => (Ev.ofBind h fun y10 h => (Ev.ofBif h (fun h => (Ev.ofSome h)) (fun h => (Ev.ofBind h fun y11 h => (Ev.ofBind h fun y12 h => (Ev.ofBif h (fun h => (Ev.ofSome h)) (fun h => (Ev.ofSome h)))))))))))))))))))))))

end Go.Ab
