/- generated -/
import Derived.Test.YtaaehcjdphienaaGreatGenAutha
import Derived.Test.YtaaehcjdphienaaGreatSortAuth
import Derived.Test.YtaaehcjdphienaaGreatProg
import Derived.KernelRfl
namespace Go.Ab
open Go.Proofs
set_option maxRecDepth 20000
/-! ## laws.markRoleSessionS (44) -/
theorem hot_laws_markRoleSessionS : HotOk Tryz.prog 44 (.list TyRoleSession) := hot_list (tl := 41) (by kernel_rfl : Tryz.prog.funcs[44]? = some Tryz.f44) (c := Tryz.f44.body.getD .skip) (by kernel_rfl) (by kernel_rfl) (gt := (some 45)) (hs := [(15, (.list .str)), (43, (.list TyRoleGrant))]) (text_some text_laws_markText) (hots_cons hot_laws_markStringS (hots_cons hot_laws_markRoleGrantS hots_nil)) (by kernel_rfl)
noncomputable def ch_laws_markRoleSessionS : Ctr := hotOf 44 (.list TyRoleSession) fun x => markC (.list TyRoleSession) x.1 x.2.1
theorem okh_laws_markRoleSessionS : CtrOk Tryz.prog ch_laws_markRoleSessionS := hot_ctr (by kernel_rfl) (by kernel_rfl) hot_laws_markRoleSessionS

/-! ## laws.markRoleState (14) -/
theorem hot_laws_markRoleState : HotOk Tryz.prog 14 TyRoleState := hot_struct (by kernel_rfl : Tryz.prog.funcs[14]? = some Tryz.f14) (c := Tryz.f14.body.getD .skip) (by kernel_rfl) (by kernel_rfl) (gt := none) (hs := [(42, (.list I64)), (43, (.list TyRoleGrant)), (44, (.list TyRoleSession))]) text_none (hots_cons hot_laws_markIntS (hots_cons hot_laws_markRoleGrantS (hots_cons hot_laws_markRoleSessionS hots_nil))) (by kernel_rfl)
noncomputable def ch_laws_markRoleState : Ctr := hotOf 14 TyRoleState fun x => markC TyRoleState x.1 x.2.1
theorem okh_laws_markRoleState : CtrOk Tryz.prog ch_laws_markRoleState := hot_ctr (by kernel_rfl) (by kernel_rfl) hot_laws_markRoleState

/-! ## laws.heldStringS (16) -/
noncomputable def P_laws_heldStringS_0_2 : List (List Int) → Int → Option Int
  | [], x2 =>
      some x2
  | e :: rest, x2 =>
      Option.bind (E_laws_markText x2) fun (y1 : (List Int)) =>
      bif !decide (e = y1) then
        some (-1)
      else
        P_laws_heldStringS_0_2 rest (IntKind.wrap .i64 (x2 + 1))
noncomputable def P_laws_heldStringS (a0 : (List (List Int))) (a1 : Int) : Option Int :=
  lenOk a0 (P_laws_heldStringS_0_2 a0 a1)
noncomputable def c_laws_heldStringS : Ctr := ⟨16, [(.list .str), I64], [I64], fun x => P_laws_heldStringS x.1 x.2.1⟩
def A_laws_heldStringS : List (List Nat × Ann) := [([0, 2], [.keep 0 0, .keep 0 1, .keep 0 5])]
def In_laws_heldStringS : List (List Nat × Nat) := []
noncomputable def cs_laws_heldStringS : List Ctr := [c_laws_markText]
noncomputable def F_laws_heldStringS (n : Nat) (a0 : (List (List Int))) (a1 : Int) : Option Int := run Tryz.prog A_laws_heldStringS In_laws_heldStringS (conOf cs_laws_heldStringS) Tryz.f16 (Tryz.f16.body.getD .skip) (packT [I64]) n (argsV [(.list .str), I64] (a0, a1, ()))
noncomputable abbrev L_laws_heldStringS_0_2 (n : Nat) (x1 : (List (List Int))) (x2 : Int) (x3 : Int) : Option Int := lam Tryz.prog A_laws_heldStringS In_laws_heldStringS (conOf cs_laws_heldStringS) Tryz.f16 (Tryz.f16.body.getD .skip) (packT [I64]) n [0, 2] [.d (.list .str) x1, .d I64 x2, .d I64 x3]
theorem F_laws_heldStringS_eq (n : Nat) (a0 : (List (List Int))) (a1 : Int) : F_laws_heldStringS n a0 a1 =
    L_laws_heldStringS_0_2 n a0 a1 0 := by kernel_rfl
theorem L_laws_heldStringS_0_2_eq (n : Nat) (x1 : (List (List Int))) (x2 : Int) (x3 : Int) : L_laws_heldStringS_0_2 (n + 1) x1 x2 x3 =
    bif decide (x3 < (x1.length : Int)) then
      bif inB x3 x1.length then
        Option.bind (E_laws_markText x2) fun (y1 : (List Int)) =>
        bif !decide (rd x1 x3 (Ty.dflt .str) = y1) then
          some (-1)
        else
          L_laws_heldStringS_0_2 n x1 (IntKind.wrap .i64 (x2 + 1)) (IntKind.wrap .i64 (x3 + 1))
      else none
    else
      some x2 := by kernel_rfl
theorem S_laws_heldStringS_0_2 {x1 : (List (List Int))} (hl : x1.length ≤ maxLen) : ∀ (rest : List (List Int)) (k : Nat) (x2 : Int) (r : Int), rest = x1.drop k → P_laws_heldStringS_0_2 rest x2 = some r → Ev (fun n => L_laws_heldStringS_0_2 n x1 x2 (k : Int)) r := by
  intro rest
  induction rest with
  | nil =>
    intro k x2 r hr h
    have hk := drop_nil hr
    rw [P_laws_heldStringS_0_2] at h
    refine Ev.step ?_ (fun n => L_laws_heldStringS_0_2_eq n x1 x2 (k : Int))
    rw [show decide ((k : Int) < (x1.length : Int)) = false from decide_eq_false (by omega)]
    exact Ev.neg rfl (Ev.ofSome h)
  | cons e rest ih =>
    intro k x2 r hr h
    obtain ⟨hk, hx, hr2⟩ := drop_cons (d := (Ty.dflt .str)) hr
    have hw := wrap_succ hl hk
    have ih2 : ∀ (z2 : Int) (r : Int), P_laws_heldStringS_0_2 rest z2 = some r → Ev (fun n => L_laws_heldStringS_0_2 n x1 z2 (IntKind.wrap .i64 ((k : Int) + 1))) r := by
      intro z2 r h; rw [hw]; exact ih (k + 1) z2 r hr2 h
    rw [P_laws_heldStringS_0_2] at h
    refine Ev.step ?_ (fun n => L_laws_heldStringS_0_2_eq n x1 x2 (k : Int))
    rw [show decide ((k : Int) < (x1.length : Int)) = true from decide_eq_true (by omega), inB_nat2 hk, hx]
    exact Ev.pos rfl (Ev.pos rfl (Ev.ofBind h fun y1 h => (Ev.ofBif h (fun h => (Ev.ofSome h)) (fun h => (ih2 _ _ h)))))
theorem S_laws_heldStringS (a0 : (List (List Int))) (a1 : Int) {r : Int} (h : P_laws_heldStringS a0 a1 = some r) : Ev (fun n => F_laws_heldStringS n a0 a1) r := by
  rw [P_laws_heldStringS] at h
  refine Ev.of_eq ?_ (fun n => F_laws_heldStringS_eq n a0 a1)
  exact (Ev.ofLen h fun hl h => S_laws_heldStringS_0_2 hl _ (0 : Nat) _ _ rfl h)
theorem hcs_laws_heldStringS : ∀ x ∈ cs_laws_heldStringS, CtrOk Tryz.prog x := (conOf_cons ok_laws_markText conOf_nil)
theorem ok_laws_heldStringS : CtrOk Tryz.prog (c_laws_heldStringS) := by
  refine ctr_of_run (c := c_laws_heldStringS) (by kernel_rfl) (by kernel_rfl : Tryz.prog.funcs[16]? = some Tryz.f16) (code := Tryz.f16.body.getD .skip) (by kernel_rfl) (by kernel_rfl) (by kernel_rfl) (A := A_laws_heldStringS) (I := In_laws_heldStringS) (hcs_laws_heldStringS) ?_
  rintro ⟨a0, a1, u⟩ y hy
  exact (S_laws_heldStringS a0 a1 hy).get

/-! ## laws.szStringS (19) -/
noncomputable def c_laws_szStringS : Ctr := ⟨19, [(.list .str), I64], [I64], fun x => szC (.list .str) x.1 x.2.1⟩
def A_laws_szStringS : List (List Nat × Ann) := [([0, 5], [.keep 0 0, .keep 0 1, .keep 0 5])]
def In_laws_szStringS : List (List Nat × Nat) := []
noncomputable def cs_laws_szStringS : List Ctr := []
noncomputable def F_laws_szStringS (n : Nat) (a0 : (List (List Int))) (a1 : Int) : Option Int := run Tryz.prog A_laws_szStringS In_laws_szStringS (conOf cs_laws_szStringS) Tryz.f19 (Tryz.f19.body.getD .skip) (packT [I64]) n (argsV [(.list .str), I64] (a0, a1, ()))
noncomputable abbrev L_laws_szStringS_0_5 (n : Nat) (x1 : (List (List Int))) (x2 : Int) (x3 : Int) : Option Int := lam Tryz.prog A_laws_szStringS In_laws_szStringS (conOf cs_laws_szStringS) Tryz.f19 (Tryz.f19.body.getD .skip) (packT [I64]) n [0, 5] [.d (.list .str) x1, .d I64 x2, .d I64 x3]
theorem F_laws_szStringS_eq (n : Nat) (a0 : (List (List Int))) (a1 : Int) : F_laws_szStringS n a0 a1 =
    bif decide (IntKind.wrap .i64 (a1 - (a0.length : Int)) < 0) then
      some (-1)
    else
      L_laws_szStringS_0_5 n a0 (IntKind.wrap .i64 (a1 - (a0.length : Int))) 0 := by kernel_rfl
theorem L_laws_szStringS_0_5_eq (n : Nat) (x1 : (List (List Int))) (x2 : Int) (x3 : Int) : L_laws_szStringS_0_5 (n + 1) x1 x2 x3 =
    bif decide (x3 < (x1.length : Int)) then
      bif inB x3 x1.length then
        bif decide (IntKind.wrap .i64 (x2 - ((rd x1 x3 (Ty.dflt .str)).length : Int)) < 0) then
          some (-1)
        else
          L_laws_szStringS_0_5 n x1 (IntKind.wrap .i64 (x2 - ((rd x1 x3 (Ty.dflt .str)).length : Int))) (IntKind.wrap .i64 (x3 + 1))
      else none
    else
      some x2 := by kernel_rfl
theorem mk_laws_szStringS (hcs : ∀ x ∈ cs_laws_szStringS, CtrOk Tryz.prog x) (h : ∀ (a0 : (List (List Int))) (a1 : Int) y, szC (.list .str) a0 a1 = some y → ∃ n, F_laws_szStringS n a0 a1 = some y) : CtrOk Tryz.prog c_laws_szStringS := by
  refine ctr_of_run (c := c_laws_szStringS) (by kernel_rfl) (by kernel_rfl : Tryz.prog.funcs[19]? = some Tryz.f19) (code := Tryz.f19.body.getD .skip) (by kernel_rfl) (by kernel_rfl) (by kernel_rfl) (A := A_laws_szStringS) (I := In_laws_szStringS) hcs ?_
  rintro ⟨a0, a1, u⟩ y hy
  exact h a0 a1 y hy

theorem hcs_laws_szStringS : ∀ x ∈ cs_laws_szStringS, CtrOk Tryz.prog x := conOf_nil
theorem ok_laws_szStringS : CtrOk Tryz.prog c_laws_szStringS := mk_laws_szStringS hcs_laws_szStringS fun a0 a1 y hy => by
  obtain ⟨n, hn⟩ := szS_str (fun n xs s i => L_laws_szStringS_0_5_eq n xs s i) hy
  exact ⟨n, (F_laws_szStringS_eq n a0 a1).trans hn⟩
/-! ## laws.szRole (46) -/
noncomputable def c_laws_szRole : Ctr := ⟨46, [TyRole, I64], [I64], fun x => szC TyRole x.1 x.2.1⟩
def A_laws_szRole : List (List Nat × Ann) := []
def In_laws_szRole : List (List Nat × Nat) := []
noncomputable def cs_laws_szRole : List Ctr := [c_laws_szStringS]
noncomputable def F_laws_szRole (n : Nat) (a0 : DRole) (a1 : Int) : Option Int := run Tryz.prog A_laws_szRole In_laws_szRole (conOf cs_laws_szRole) Tryz.f46 (Tryz.f46.body.getD .skip) (packT [I64]) n (argsV [TyRole, I64] (a0, a1, ()))
theorem F_laws_szRole_eq (n : Nat) (a0 : DRole) (a1 : Int) : F_laws_szRole n a0 a1 =
    bif decide (IntKind.wrap .i64 (a1 - (a0.1.length : Int)) < 0) then
      some (-1)
    else
      Option.bind (szC (.list .str) a0.2.1 (IntKind.wrap .i64 (a1 - (a0.1.length : Int)))) fun (y1 : Int) =>
      bif decide (y1 < 0) then
        some (-1)
      else
        Option.bind (szC (.list .str) a0.2.2 y1) fun (y2 : Int) =>
        bif decide (y2 < 0) then
          some (-1)
        else
          some y2 := by kernel_rfl
theorem mk_laws_szRole (hcs : ∀ x ∈ cs_laws_szRole, CtrOk Tryz.prog x) (h : ∀ (a0 : DRole) (a1 : Int) y, szC TyRole a0 a1 = some y → ∃ n, F_laws_szRole n a0 a1 = some y) : CtrOk Tryz.prog c_laws_szRole := by
  refine ctr_of_run (c := c_laws_szRole) (by kernel_rfl) (by kernel_rfl : Tryz.prog.funcs[46]? = some Tryz.f46) (code := Tryz.f46.body.getD .skip) (by kernel_rfl) (by kernel_rfl) (by kernel_rfl) (A := A_laws_szRole) (I := In_laws_szRole) hcs ?_
  rintro ⟨a0, a1, u⟩ y hy
  exact h a0 a1 y hy

theorem hcs_laws_szRole : ∀ x ∈ cs_laws_szRole, CtrOk Tryz.prog x := (conOf_cons ok_laws_szStringS conOf_nil)
theorem ok_laws_szRole : CtrOk Tryz.prog c_laws_szRole := mk_laws_szRole hcs_laws_szRole fun a0 a1 y hy => by
  obtain ⟨hw, h0, h1, rfl⟩ := szC_inv hy
  have hw2 : wfD .str a0.1 ∧ wfD (.list .str) a0.2.1 ∧ wfD (.list .str) a0.2.2 := hw
  have hsz : Ty.size TyRole a0 = Ty.size .str a0.1 + (Ty.size (.list .str) a0.2.1 + (Ty.size (.list .str) a0.2.2)) := rfl
  have z0 : Ty.size .str a0.1 = a0.1.length := rfl
  refine ⟨0, ?_⟩
  rw [F_laws_szRole_eq, hsz]
  have hn0 : a0.1.length ≤ maxLen := by have := (hw2.1).1; unfold maxLen; omega
  rw [lessZ_wrap (left := a1) (n := a0.1.length) (by omega) (by omega) hn0]
  rcases Int.lt_or_le (a1) (a0.1.length : Int) with h | h
  · rw [decide_eq_true (show (a1 - (a0.1.length : Int)) < 0 by omega)]; simp only [cond_true]; unfold lessZ; rw [if_neg (by omega)]
  rw [decide_eq_false (show ¬ (a1 - (a0.1.length : Int)) < 0 by omega)]; simp only [cond_false]
  have h_0 := h; clear h
  rw [szC_some hw2.2.1 (show 0 ≤ (a1 - (a0.1.length : Int)) by omega) (by omega)]
  simp only [Option.bind_some]
  rcases Int.lt_or_le ((a1 - (a0.1.length : Int))) ((Ty.size (.list .str) a0.2.1 : Nat) : Int) with h | h
  · rw [show lessZ ((a1 - (a0.1.length : Int))) (Ty.size (.list .str) a0.2.1) = -1 by unfold lessZ; rw [if_neg (by omega)]]; rw [decide_eq_true (show (-1 : Int) < 0 by omega)]; simp only [cond_true]; unfold lessZ; rw [if_neg (by omega)]
  rw [show lessZ ((a1 - (a0.1.length : Int))) (Ty.size (.list .str) a0.2.1) = ((a1 - (a0.1.length : Int)) - ((Ty.size (.list .str) a0.2.1 : Nat) : Int)) by unfold lessZ; rw [if_pos h]]; rw [decide_eq_false (show ¬ ((a1 - (a0.1.length : Int)) - ((Ty.size (.list .str) a0.2.1 : Nat) : Int)) < 0 by omega)]; simp only [cond_false]
  have h_1 := h; clear h
  rw [szC_some hw2.2.2 (show 0 ≤ ((a1 - (a0.1.length : Int)) - ((Ty.size (.list .str) a0.2.1 : Nat) : Int)) by omega) (by omega)]
  simp only [Option.bind_some]
  rcases Int.lt_or_le (((a1 - (a0.1.length : Int)) - ((Ty.size (.list .str) a0.2.1 : Nat) : Int))) ((Ty.size (.list .str) a0.2.2 : Nat) : Int) with h | h
  · rw [show lessZ (((a1 - (a0.1.length : Int)) - ((Ty.size (.list .str) a0.2.1 : Nat) : Int))) (Ty.size (.list .str) a0.2.2) = -1 by unfold lessZ; rw [if_neg (by omega)]]; rw [decide_eq_true (show (-1 : Int) < 0 by omega)]; simp only [cond_true]; unfold lessZ; rw [if_neg (by omega)]
  rw [show lessZ (((a1 - (a0.1.length : Int)) - ((Ty.size (.list .str) a0.2.1 : Nat) : Int))) (Ty.size (.list .str) a0.2.2) = (((a1 - (a0.1.length : Int)) - ((Ty.size (.list .str) a0.2.1 : Nat) : Int)) - ((Ty.size (.list .str) a0.2.2 : Nat) : Int)) by unfold lessZ; rw [if_pos h]]; rw [decide_eq_false (show ¬ (((a1 - (a0.1.length : Int)) - ((Ty.size (.list .str) a0.2.1 : Nat) : Int)) - ((Ty.size (.list .str) a0.2.2 : Nat) : Int)) < 0 by omega)]; simp only [cond_false]
  have h_2 := h; clear h
  unfold lessZ; rw [if_pos (by omega)]; congr 1 <;> omega
/-! ## laws.szRoleS (17) -/
noncomputable def c_laws_szRoleS : Ctr := ⟨17, [(.list TyRole), I64], [I64], fun x => szC (.list TyRole) x.1 x.2.1⟩
def A_laws_szRoleS : List (List Nat × Ann) := [([0, 5], [.keep 0 0, .keep 0 1, .keep 0 5])]
def In_laws_szRoleS : List (List Nat × Nat) := []
noncomputable def cs_laws_szRoleS : List Ctr := [c_laws_szRole]
noncomputable def F_laws_szRoleS (n : Nat) (a0 : (List DRole)) (a1 : Int) : Option Int := run Tryz.prog A_laws_szRoleS In_laws_szRoleS (conOf cs_laws_szRoleS) Tryz.f17 (Tryz.f17.body.getD .skip) (packT [I64]) n (argsV [(.list TyRole), I64] (a0, a1, ()))
noncomputable abbrev L_laws_szRoleS_0_5 (n : Nat) (x1 : (List DRole)) (x2 : Int) (x3 : Int) : Option Int := lam Tryz.prog A_laws_szRoleS In_laws_szRoleS (conOf cs_laws_szRoleS) Tryz.f17 (Tryz.f17.body.getD .skip) (packT [I64]) n [0, 5] [.d (.list TyRole) x1, .d I64 x2, .d I64 x3]
theorem F_laws_szRoleS_eq (n : Nat) (a0 : (List DRole)) (a1 : Int) : F_laws_szRoleS n a0 a1 =
    bif decide (IntKind.wrap .i64 (a1 - (a0.length : Int)) < 0) then
      some (-1)
    else
      L_laws_szRoleS_0_5 n a0 (IntKind.wrap .i64 (a1 - (a0.length : Int))) 0 := by kernel_rfl
theorem L_laws_szRoleS_0_5_eq (n : Nat) (x1 : (List DRole)) (x2 : Int) (x3 : Int) : L_laws_szRoleS_0_5 (n + 1) x1 x2 x3 =
    bif decide (x3 < (x1.length : Int)) then
      bif inB x3 x1.length then
        Option.bind (szC TyRole (rd x1 x3 (Ty.dflt TyRole)) x2) fun (y1 : Int) =>
        bif decide (y1 < 0) then
          some (-1)
        else
          L_laws_szRoleS_0_5 n x1 y1 (IntKind.wrap .i64 (x3 + 1))
      else none
    else
      some x2 := by kernel_rfl
theorem mk_laws_szRoleS (hcs : ∀ x ∈ cs_laws_szRoleS, CtrOk Tryz.prog x) (h : ∀ (a0 : (List DRole)) (a1 : Int) y, szC (.list TyRole) a0 a1 = some y → ∃ n, F_laws_szRoleS n a0 a1 = some y) : CtrOk Tryz.prog c_laws_szRoleS := by
  refine ctr_of_run (c := c_laws_szRoleS) (by kernel_rfl) (by kernel_rfl : Tryz.prog.funcs[17]? = some Tryz.f17) (code := Tryz.f17.body.getD .skip) (by kernel_rfl) (by kernel_rfl) (by kernel_rfl) (A := A_laws_szRoleS) (I := In_laws_szRoleS) hcs ?_
  rintro ⟨a0, a1, u⟩ y hy
  exact h a0 a1 y hy

theorem hcs_laws_szRoleS : ∀ x ∈ cs_laws_szRoleS, CtrOk Tryz.prog x := (conOf_cons ok_laws_szRole conOf_nil)
theorem ok_laws_szRoleS : CtrOk Tryz.prog c_laws_szRoleS := mk_laws_szRoleS hcs_laws_szRoleS fun a0 a1 y hy => by
  obtain ⟨n, hn⟩ := szS_call (fun n xs s i => L_laws_szRoleS_0_5_eq n xs s i) hy
  exact ⟨n, (F_laws_szRoleS_eq n a0 a1).trans hn⟩
/-! ## laws.szApart (47) -/
noncomputable def c_laws_szApart : Ctr := ⟨47, [TyApart, I64], [I64], fun x => szC TyApart x.1 x.2.1⟩
def A_laws_szApart : List (List Nat × Ann) := []
def In_laws_szApart : List (List Nat × Nat) := []
noncomputable def cs_laws_szApart : List Ctr := [c_laws_szStringS]
noncomputable def F_laws_szApart (n : Nat) (a0 : DApart) (a1 : Int) : Option Int := run Tryz.prog A_laws_szApart In_laws_szApart (conOf cs_laws_szApart) Tryz.f47 (Tryz.f47.body.getD .skip) (packT [I64]) n (argsV [TyApart, I64] (a0, a1, ()))
theorem F_laws_szApart_eq (n : Nat) (a0 : DApart) (a1 : Int) : F_laws_szApart n a0 a1 =
    Option.bind (szC (.list .str) a0.1 a1) fun (y1 : Int) =>
    bif decide (y1 < 0) then
      some (-1)
    else
      some y1 := by kernel_rfl
theorem mk_laws_szApart (hcs : ∀ x ∈ cs_laws_szApart, CtrOk Tryz.prog x) (h : ∀ (a0 : DApart) (a1 : Int) y, szC TyApart a0 a1 = some y → ∃ n, F_laws_szApart n a0 a1 = some y) : CtrOk Tryz.prog c_laws_szApart := by
  refine ctr_of_run (c := c_laws_szApart) (by kernel_rfl) (by kernel_rfl : Tryz.prog.funcs[47]? = some Tryz.f47) (code := Tryz.f47.body.getD .skip) (by kernel_rfl) (by kernel_rfl) (by kernel_rfl) (A := A_laws_szApart) (I := In_laws_szApart) hcs ?_
  rintro ⟨a0, a1, u⟩ y hy
  exact h a0 a1 y hy

theorem hcs_laws_szApart : ∀ x ∈ cs_laws_szApart, CtrOk Tryz.prog x := (conOf_cons ok_laws_szStringS conOf_nil)
theorem ok_laws_szApart : CtrOk Tryz.prog c_laws_szApart := mk_laws_szApart hcs_laws_szApart fun a0 a1 y hy => by
  obtain ⟨hw, h0, h1, rfl⟩ := szC_inv hy
  have hw2 : wfD (.list .str) a0.1 ∧ wfD I64 a0.2.1 ∧ wfD .bool a0.2.2 := hw
  have hsz : Ty.size TyApart a0 = Ty.size (.list .str) a0.1 + (Ty.size I64 a0.2.1 + (Ty.size .bool a0.2.2)) := rfl
  have z1 : Ty.size I64 a0.2.1 = 0 := rfl
  have z2 : Ty.size .bool a0.2.2 = 0 := rfl
  refine ⟨0, ?_⟩
  rw [F_laws_szApart_eq, hsz]
  rw [szC_some hw2.1 (show 0 ≤ a1 by omega) (by omega)]
  simp only [Option.bind_some]
  rcases Int.lt_or_le (a1) ((Ty.size (.list .str) a0.1 : Nat) : Int) with h | h
  · rw [show lessZ (a1) (Ty.size (.list .str) a0.1) = -1 by unfold lessZ; rw [if_neg (by omega)]]; rw [decide_eq_true (show (-1 : Int) < 0 by omega)]; simp only [cond_true]; unfold lessZ; rw [if_neg (by omega)]
  rw [show lessZ (a1) (Ty.size (.list .str) a0.1) = (a1 - ((Ty.size (.list .str) a0.1 : Nat) : Int)) by unfold lessZ; rw [if_pos h]]; rw [decide_eq_false (show ¬ (a1 - ((Ty.size (.list .str) a0.1 : Nat) : Int)) < 0 by omega)]; simp only [cond_false]
  have h_0 := h; clear h
  unfold lessZ; rw [if_pos (by omega)]; congr 1 <;> omega
/-! ## laws.szApartS (18) -/
noncomputable def c_laws_szApartS : Ctr := ⟨18, [(.list TyApart), I64], [I64], fun x => szC (.list TyApart) x.1 x.2.1⟩
def A_laws_szApartS : List (List Nat × Ann) := [([0, 5], [.keep 0 0, .keep 0 1, .keep 0 5])]
def In_laws_szApartS : List (List Nat × Nat) := []
noncomputable def cs_laws_szApartS : List Ctr := [c_laws_szApart]
noncomputable def F_laws_szApartS (n : Nat) (a0 : (List DApart)) (a1 : Int) : Option Int := run Tryz.prog A_laws_szApartS In_laws_szApartS (conOf cs_laws_szApartS) Tryz.f18 (Tryz.f18.body.getD .skip) (packT [I64]) n (argsV [(.list TyApart), I64] (a0, a1, ()))
noncomputable abbrev L_laws_szApartS_0_5 (n : Nat) (x1 : (List DApart)) (x2 : Int) (x3 : Int) : Option Int := lam Tryz.prog A_laws_szApartS In_laws_szApartS (conOf cs_laws_szApartS) Tryz.f18 (Tryz.f18.body.getD .skip) (packT [I64]) n [0, 5] [.d (.list TyApart) x1, .d I64 x2, .d I64 x3]
theorem F_laws_szApartS_eq (n : Nat) (a0 : (List DApart)) (a1 : Int) : F_laws_szApartS n a0 a1 =
    bif decide (IntKind.wrap .i64 (a1 - (a0.length : Int)) < 0) then
      some (-1)
    else
      L_laws_szApartS_0_5 n a0 (IntKind.wrap .i64 (a1 - (a0.length : Int))) 0 := by kernel_rfl
theorem L_laws_szApartS_0_5_eq (n : Nat) (x1 : (List DApart)) (x2 : Int) (x3 : Int) : L_laws_szApartS_0_5 (n + 1) x1 x2 x3 =
    bif decide (x3 < (x1.length : Int)) then
      bif inB x3 x1.length then
        Option.bind (szC TyApart (rd x1 x3 (Ty.dflt TyApart)) x2) fun (y1 : Int) =>
        bif decide (y1 < 0) then
          some (-1)
        else
          L_laws_szApartS_0_5 n x1 y1 (IntKind.wrap .i64 (x3 + 1))
      else none
    else
      some x2 := by kernel_rfl
theorem mk_laws_szApartS (hcs : ∀ x ∈ cs_laws_szApartS, CtrOk Tryz.prog x) (h : ∀ (a0 : (List DApart)) (a1 : Int) y, szC (.list TyApart) a0 a1 = some y → ∃ n, F_laws_szApartS n a0 a1 = some y) : CtrOk Tryz.prog c_laws_szApartS := by
  refine ctr_of_run (c := c_laws_szApartS) (by kernel_rfl) (by kernel_rfl : Tryz.prog.funcs[18]? = some Tryz.f18) (code := Tryz.f18.body.getD .skip) (by kernel_rfl) (by kernel_rfl) (by kernel_rfl) (A := A_laws_szApartS) (I := In_laws_szApartS) hcs ?_
  rintro ⟨a0, a1, u⟩ y hy
  exact h a0 a1 y hy

theorem hcs_laws_szApartS : ∀ x ∈ cs_laws_szApartS, CtrOk Tryz.prog x := (conOf_cons ok_laws_szApart conOf_nil)
theorem ok_laws_szApartS : CtrOk Tryz.prog c_laws_szApartS := mk_laws_szApartS hcs_laws_szApartS fun a0 a1 y hy => by
  obtain ⟨n, hn⟩ := szS_call (fun n xs s i => L_laws_szApartS_0_5_eq n xs s i) hy
  exact ⟨n, (F_laws_szApartS_eq n a0 a1).trans hn⟩
/-! ## laws.szRoleSet (4) -/
noncomputable def c_laws_szRoleSet : Ctr := ⟨4, [TyRoleSet, I64], [I64], fun x => szC TyRoleSet x.1 x.2.1⟩
def A_laws_szRoleSet : List (List Nat × Ann) := []
def In_laws_szRoleSet : List (List Nat × Nat) := []
noncomputable def cs_laws_szRoleSet : List Ctr := [c_laws_szRoleS, c_laws_szApartS, c_laws_szStringS]
noncomputable def F_laws_szRoleSet (n : Nat) (a0 : DRoleSet) (a1 : Int) : Option Int := run Tryz.prog A_laws_szRoleSet In_laws_szRoleSet (conOf cs_laws_szRoleSet) Tryz.f4 (Tryz.f4.body.getD .skip) (packT [I64]) n (argsV [TyRoleSet, I64] (a0, a1, ()))
theorem F_laws_szRoleSet_eq (n : Nat) (a0 : DRoleSet) (a1 : Int) : F_laws_szRoleSet n a0 a1 =
    Option.bind (szC (.list TyRole) a0.1 a1) fun (y1 : Int) =>
    bif decide (y1 < 0) then
      some (-1)
    else
      Option.bind (szC (.list TyApart) a0.2.1 y1) fun (y2 : Int) =>
      bif decide (y2 < 0) then
        some (-1)
      else
        Option.bind (szC (.list .str) a0.2.2 y2) fun (y3 : Int) =>
        bif decide (y3 < 0) then
          some (-1)
        else
          some y3 := by kernel_rfl
theorem mk_laws_szRoleSet (hcs : ∀ x ∈ cs_laws_szRoleSet, CtrOk Tryz.prog x) (h : ∀ (a0 : DRoleSet) (a1 : Int) y, szC TyRoleSet a0 a1 = some y → ∃ n, F_laws_szRoleSet n a0 a1 = some y) : CtrOk Tryz.prog c_laws_szRoleSet := by
  refine ctr_of_run (c := c_laws_szRoleSet) (by kernel_rfl) (by kernel_rfl : Tryz.prog.funcs[4]? = some Tryz.f4) (code := Tryz.f4.body.getD .skip) (by kernel_rfl) (by kernel_rfl) (by kernel_rfl) (A := A_laws_szRoleSet) (I := In_laws_szRoleSet) hcs ?_
  rintro ⟨a0, a1, u⟩ y hy
  exact h a0 a1 y hy

theorem hcs_laws_szRoleSet : ∀ x ∈ cs_laws_szRoleSet, CtrOk Tryz.prog x := (conOf_cons ok_laws_szRoleS (conOf_cons ok_laws_szApartS (conOf_cons ok_laws_szStringS conOf_nil)))
theorem ok_laws_szRoleSet : CtrOk Tryz.prog c_laws_szRoleSet := mk_laws_szRoleSet hcs_laws_szRoleSet fun a0 a1 y hy => by
  obtain ⟨hw, h0, h1, rfl⟩ := szC_inv hy
  have hw2 : wfD (.list TyRole) a0.1 ∧ wfD (.list TyApart) a0.2.1 ∧ wfD (.list .str) a0.2.2 := hw
  have hsz : Ty.size TyRoleSet a0 = Ty.size (.list TyRole) a0.1 + (Ty.size (.list TyApart) a0.2.1 + (Ty.size (.list .str) a0.2.2)) := rfl
  refine ⟨0, ?_⟩
  rw [F_laws_szRoleSet_eq, hsz]
  rw [szC_some hw2.1 (show 0 ≤ a1 by omega) (by omega)]
  simp only [Option.bind_some]
  rcases Int.lt_or_le (a1) ((Ty.size (.list TyRole) a0.1 : Nat) : Int) with h | h
  · rw [show lessZ (a1) (Ty.size (.list TyRole) a0.1) = -1 by unfold lessZ; rw [if_neg (by omega)]]; rw [decide_eq_true (show (-1 : Int) < 0 by omega)]; simp only [cond_true]; unfold lessZ; rw [if_neg (by omega)]
  rw [show lessZ (a1) (Ty.size (.list TyRole) a0.1) = (a1 - ((Ty.size (.list TyRole) a0.1 : Nat) : Int)) by unfold lessZ; rw [if_pos h]]; rw [decide_eq_false (show ¬ (a1 - ((Ty.size (.list TyRole) a0.1 : Nat) : Int)) < 0 by omega)]; simp only [cond_false]
  have h_0 := h; clear h
  rw [szC_some hw2.2.1 (show 0 ≤ (a1 - ((Ty.size (.list TyRole) a0.1 : Nat) : Int)) by omega) (by omega)]
  simp only [Option.bind_some]
  rcases Int.lt_or_le ((a1 - ((Ty.size (.list TyRole) a0.1 : Nat) : Int))) ((Ty.size (.list TyApart) a0.2.1 : Nat) : Int) with h | h
  · rw [show lessZ ((a1 - ((Ty.size (.list TyRole) a0.1 : Nat) : Int))) (Ty.size (.list TyApart) a0.2.1) = -1 by unfold lessZ; rw [if_neg (by omega)]]; rw [decide_eq_true (show (-1 : Int) < 0 by omega)]; simp only [cond_true]; unfold lessZ; rw [if_neg (by omega)]
  rw [show lessZ ((a1 - ((Ty.size (.list TyRole) a0.1 : Nat) : Int))) (Ty.size (.list TyApart) a0.2.1) = ((a1 - ((Ty.size (.list TyRole) a0.1 : Nat) : Int)) - ((Ty.size (.list TyApart) a0.2.1 : Nat) : Int)) by unfold lessZ; rw [if_pos h]]; rw [decide_eq_false (show ¬ ((a1 - ((Ty.size (.list TyRole) a0.1 : Nat) : Int)) - ((Ty.size (.list TyApart) a0.2.1 : Nat) : Int)) < 0 by omega)]; simp only [cond_false]
  have h_1 := h; clear h
  rw [szC_some hw2.2.2 (show 0 ≤ ((a1 - ((Ty.size (.list TyRole) a0.1 : Nat) : Int)) - ((Ty.size (.list TyApart) a0.2.1 : Nat) : Int)) by omega) (by omega)]
  simp only [Option.bind_some]
  rcases Int.lt_or_le (((a1 - ((Ty.size (.list TyRole) a0.1 : Nat) : Int)) - ((Ty.size (.list TyApart) a0.2.1 : Nat) : Int))) ((Ty.size (.list .str) a0.2.2 : Nat) : Int) with h | h
  · rw [show lessZ (((a1 - ((Ty.size (.list TyRole) a0.1 : Nat) : Int)) - ((Ty.size (.list TyApart) a0.2.1 : Nat) : Int))) (Ty.size (.list .str) a0.2.2) = -1 by unfold lessZ; rw [if_neg (by omega)]]; rw [decide_eq_true (show (-1 : Int) < 0 by omega)]; simp only [cond_true]; unfold lessZ; rw [if_neg (by omega)]
  rw [show lessZ (((a1 - ((Ty.size (.list TyRole) a0.1 : Nat) : Int)) - ((Ty.size (.list TyApart) a0.2.1 : Nat) : Int))) (Ty.size (.list .str) a0.2.2) = (((a1 - ((Ty.size (.list TyRole) a0.1 : Nat) : Int)) - ((Ty.size (.list TyApart) a0.2.1 : Nat) : Int)) - ((Ty.size (.list .str) a0.2.2 : Nat) : Int)) by unfold lessZ; rw [if_pos h]]; rw [decide_eq_false (show ¬ (((a1 - ((Ty.size (.list TyRole) a0.1 : Nat) : Int)) - ((Ty.size (.list TyApart) a0.2.1 : Nat) : Int)) - ((Ty.size (.list .str) a0.2.2 : Nat) : Int)) < 0 by omega)]; simp only [cond_false]
  have h_2 := h; clear h
  unfold lessZ; rw [if_pos (by omega)]; congr 1 <;> omega
/-! ## laws.szIntS (20) -/
noncomputable def c_laws_szIntS : Ctr := ⟨20, [(.list I64), I64], [I64], fun x => szC (.list I64) x.1 x.2.1⟩
def A_laws_szIntS : List (List Nat × Ann) := []
def In_laws_szIntS : List (List Nat × Nat) := []
noncomputable def cs_laws_szIntS : List Ctr := []
noncomputable def F_laws_szIntS (n : Nat) (a0 : (List Int)) (a1 : Int) : Option Int := run Tryz.prog A_laws_szIntS In_laws_szIntS (conOf cs_laws_szIntS) Tryz.f20 (Tryz.f20.body.getD .skip) (packT [I64]) n (argsV [(.list I64), I64] (a0, a1, ()))
theorem F_laws_szIntS_eq (n : Nat) (a0 : (List Int)) (a1 : Int) : F_laws_szIntS n a0 a1 =
    bif decide (IntKind.wrap .i64 (a1 - (a0.length : Int)) < 0) then
      some (-1)
    else
      some (IntKind.wrap .i64 (a1 - (a0.length : Int))) := by kernel_rfl
theorem mk_laws_szIntS (hcs : ∀ x ∈ cs_laws_szIntS, CtrOk Tryz.prog x) (h : ∀ (a0 : (List Int)) (a1 : Int) y, szC (.list I64) a0 a1 = some y → ∃ n, F_laws_szIntS n a0 a1 = some y) : CtrOk Tryz.prog c_laws_szIntS := by
  refine ctr_of_run (c := c_laws_szIntS) (by kernel_rfl) (by kernel_rfl : Tryz.prog.funcs[20]? = some Tryz.f20) (code := Tryz.f20.body.getD .skip) (by kernel_rfl) (by kernel_rfl) (by kernel_rfl) (A := A_laws_szIntS) (I := In_laws_szIntS) hcs ?_
  rintro ⟨a0, a1, u⟩ y hy
  exact h a0 a1 y hy

theorem hcs_laws_szIntS : ∀ x ∈ cs_laws_szIntS, CtrOk Tryz.prog x := conOf_nil
theorem ok_laws_szIntS : CtrOk Tryz.prog c_laws_szIntS := mk_laws_szIntS hcs_laws_szIntS fun a0 a1 y hy => by
  exact ⟨0, (F_laws_szIntS_eq 0 a0 a1).trans (szS_flat (t := I64) (fun _ => rfl) hy)⟩
/-! ## laws.szRoleGrant (48) -/
noncomputable def c_laws_szRoleGrant : Ctr := ⟨48, [TyRoleGrant, I64], [I64], fun x => szC TyRoleGrant x.1 x.2.1⟩
def A_laws_szRoleGrant : List (List Nat × Ann) := []
def In_laws_szRoleGrant : List (List Nat × Nat) := []
noncomputable def cs_laws_szRoleGrant : List Ctr := []
noncomputable def F_laws_szRoleGrant (n : Nat) (a0 : DRoleGrant) (a1 : Int) : Option Int := run Tryz.prog A_laws_szRoleGrant In_laws_szRoleGrant (conOf cs_laws_szRoleGrant) Tryz.f48 (Tryz.f48.body.getD .skip) (packT [I64]) n (argsV [TyRoleGrant, I64] (a0, a1, ()))
theorem F_laws_szRoleGrant_eq (n : Nat) (a0 : DRoleGrant) (a1 : Int) : F_laws_szRoleGrant n a0 a1 =
    bif decide (IntKind.wrap .i64 (a1 - (a0.1.length : Int)) < 0) then
      some (-1)
    else
      bif decide (IntKind.wrap .i64 ((IntKind.wrap .i64 (a1 - (a0.1.length : Int))) - (a0.2.1.length : Int)) < 0) then
        some (-1)
      else
        bif decide (IntKind.wrap .i64 ((IntKind.wrap .i64 ((IntKind.wrap .i64 (a1 - (a0.1.length : Int))) - (a0.2.1.length : Int))) - (a0.2.2.1.length : Int)) < 0) then
          some (-1)
        else
          some (IntKind.wrap .i64 ((IntKind.wrap .i64 ((IntKind.wrap .i64 (a1 - (a0.1.length : Int))) - (a0.2.1.length : Int))) - (a0.2.2.1.length : Int))) := by kernel_rfl
theorem mk_laws_szRoleGrant (hcs : ∀ x ∈ cs_laws_szRoleGrant, CtrOk Tryz.prog x) (h : ∀ (a0 : DRoleGrant) (a1 : Int) y, szC TyRoleGrant a0 a1 = some y → ∃ n, F_laws_szRoleGrant n a0 a1 = some y) : CtrOk Tryz.prog c_laws_szRoleGrant := by
  refine ctr_of_run (c := c_laws_szRoleGrant) (by kernel_rfl) (by kernel_rfl : Tryz.prog.funcs[48]? = some Tryz.f48) (code := Tryz.f48.body.getD .skip) (by kernel_rfl) (by kernel_rfl) (by kernel_rfl) (A := A_laws_szRoleGrant) (I := In_laws_szRoleGrant) hcs ?_
  rintro ⟨a0, a1, u⟩ y hy
  exact h a0 a1 y hy

theorem hcs_laws_szRoleGrant : ∀ x ∈ cs_laws_szRoleGrant, CtrOk Tryz.prog x := conOf_nil
theorem ok_laws_szRoleGrant : CtrOk Tryz.prog c_laws_szRoleGrant := mk_laws_szRoleGrant hcs_laws_szRoleGrant fun a0 a1 y hy => by
  obtain ⟨hw, h0, h1, rfl⟩ := szC_inv hy
  have hw2 : wfD .str a0.1 ∧ wfD .str a0.2.1 ∧ wfD .str a0.2.2.1 ∧ wfD I64 a0.2.2.2.1 ∧ wfD I64 a0.2.2.2.2.1 ∧ wfD I64 a0.2.2.2.2.2 := hw
  have hsz : Ty.size TyRoleGrant a0 = Ty.size .str a0.1 + (Ty.size .str a0.2.1 + (Ty.size .str a0.2.2.1 + (Ty.size I64 a0.2.2.2.1 + (Ty.size I64 a0.2.2.2.2.1 + (Ty.size I64 a0.2.2.2.2.2))))) := rfl
  have z3 : Ty.size I64 a0.2.2.2.1 = 0 := rfl
  have z4 : Ty.size I64 a0.2.2.2.2.1 = 0 := rfl
  have z5 : Ty.size I64 a0.2.2.2.2.2 = 0 := rfl
  have z0 : Ty.size .str a0.1 = a0.1.length := rfl
  have z1 : Ty.size .str a0.2.1 = a0.2.1.length := rfl
  have z2 : Ty.size .str a0.2.2.1 = a0.2.2.1.length := rfl
  refine ⟨0, ?_⟩
  rw [F_laws_szRoleGrant_eq, hsz]
  have hn0 : a0.1.length ≤ maxLen := by have := (hw2.1).1; unfold maxLen; omega
  rw [lessZ_wrap (left := a1) (n := a0.1.length) (by omega) (by omega) hn0]
  rcases Int.lt_or_le (a1) (a0.1.length : Int) with h | h
  · rw [decide_eq_true (show (a1 - (a0.1.length : Int)) < 0 by omega)]; simp only [cond_true]; unfold lessZ; rw [if_neg (by omega)]
  rw [decide_eq_false (show ¬ (a1 - (a0.1.length : Int)) < 0 by omega)]; simp only [cond_false]
  have h_0 := h; clear h
  have hn1 : a0.2.1.length ≤ maxLen := by have := (hw2.2.1).1; unfold maxLen; omega
  rw [lessZ_wrap (left := (a1 - (a0.1.length : Int))) (n := a0.2.1.length) (by omega) (by omega) hn1]
  rcases Int.lt_or_le ((a1 - (a0.1.length : Int))) (a0.2.1.length : Int) with h | h
  · rw [decide_eq_true (show ((a1 - (a0.1.length : Int)) - (a0.2.1.length : Int)) < 0 by omega)]; simp only [cond_true]; unfold lessZ; rw [if_neg (by omega)]
  rw [decide_eq_false (show ¬ ((a1 - (a0.1.length : Int)) - (a0.2.1.length : Int)) < 0 by omega)]; simp only [cond_false]
  have h_1 := h; clear h
  have hn2 : a0.2.2.1.length ≤ maxLen := by have := (hw2.2.2.1).1; unfold maxLen; omega
  rw [lessZ_wrap (left := ((a1 - (a0.1.length : Int)) - (a0.2.1.length : Int))) (n := a0.2.2.1.length) (by omega) (by omega) hn2]
  rcases Int.lt_or_le (((a1 - (a0.1.length : Int)) - (a0.2.1.length : Int))) (a0.2.2.1.length : Int) with h | h
  · rw [decide_eq_true (show (((a1 - (a0.1.length : Int)) - (a0.2.1.length : Int)) - (a0.2.2.1.length : Int)) < 0 by omega)]; simp only [cond_true]; unfold lessZ; rw [if_neg (by omega)]
  rw [decide_eq_false (show ¬ (((a1 - (a0.1.length : Int)) - (a0.2.1.length : Int)) - (a0.2.2.1.length : Int)) < 0 by omega)]; simp only [cond_false]
  have h_2 := h; clear h
  unfold lessZ; rw [if_pos (by omega)]; congr 1 <;> omega
/-! ## laws.szRoleGrantS (21) -/
noncomputable def c_laws_szRoleGrantS : Ctr := ⟨21, [(.list TyRoleGrant), I64], [I64], fun x => szC (.list TyRoleGrant) x.1 x.2.1⟩
def A_laws_szRoleGrantS : List (List Nat × Ann) := [([0, 5], [.keep 0 0, .keep 0 1, .keep 0 5])]
def In_laws_szRoleGrantS : List (List Nat × Nat) := []
noncomputable def cs_laws_szRoleGrantS : List Ctr := [c_laws_szRoleGrant]
noncomputable def F_laws_szRoleGrantS (n : Nat) (a0 : (List DRoleGrant)) (a1 : Int) : Option Int := run Tryz.prog A_laws_szRoleGrantS In_laws_szRoleGrantS (conOf cs_laws_szRoleGrantS) Tryz.f21 (Tryz.f21.body.getD .skip) (packT [I64]) n (argsV [(.list TyRoleGrant), I64] (a0, a1, ()))
noncomputable abbrev L_laws_szRoleGrantS_0_5 (n : Nat) (x1 : (List DRoleGrant)) (x2 : Int) (x3 : Int) : Option Int := lam Tryz.prog A_laws_szRoleGrantS In_laws_szRoleGrantS (conOf cs_laws_szRoleGrantS) Tryz.f21 (Tryz.f21.body.getD .skip) (packT [I64]) n [0, 5] [.d (.list TyRoleGrant) x1, .d I64 x2, .d I64 x3]
theorem F_laws_szRoleGrantS_eq (n : Nat) (a0 : (List DRoleGrant)) (a1 : Int) : F_laws_szRoleGrantS n a0 a1 =
    bif decide (IntKind.wrap .i64 (a1 - (a0.length : Int)) < 0) then
      some (-1)
    else
      L_laws_szRoleGrantS_0_5 n a0 (IntKind.wrap .i64 (a1 - (a0.length : Int))) 0 := by kernel_rfl
theorem L_laws_szRoleGrantS_0_5_eq (n : Nat) (x1 : (List DRoleGrant)) (x2 : Int) (x3 : Int) : L_laws_szRoleGrantS_0_5 (n + 1) x1 x2 x3 =
    bif decide (x3 < (x1.length : Int)) then
      bif inB x3 x1.length then
        Option.bind (szC TyRoleGrant (rd x1 x3 (Ty.dflt TyRoleGrant)) x2) fun (y1 : Int) =>
        bif decide (y1 < 0) then
          some (-1)
        else
          L_laws_szRoleGrantS_0_5 n x1 y1 (IntKind.wrap .i64 (x3 + 1))
      else none
    else
      some x2 := by kernel_rfl
theorem mk_laws_szRoleGrantS (hcs : ∀ x ∈ cs_laws_szRoleGrantS, CtrOk Tryz.prog x) (h : ∀ (a0 : (List DRoleGrant)) (a1 : Int) y, szC (.list TyRoleGrant) a0 a1 = some y → ∃ n, F_laws_szRoleGrantS n a0 a1 = some y) : CtrOk Tryz.prog c_laws_szRoleGrantS := by
  refine ctr_of_run (c := c_laws_szRoleGrantS) (by kernel_rfl) (by kernel_rfl : Tryz.prog.funcs[21]? = some Tryz.f21) (code := Tryz.f21.body.getD .skip) (by kernel_rfl) (by kernel_rfl) (by kernel_rfl) (A := A_laws_szRoleGrantS) (I := In_laws_szRoleGrantS) hcs ?_
  rintro ⟨a0, a1, u⟩ y hy
  exact h a0 a1 y hy

theorem hcs_laws_szRoleGrantS : ∀ x ∈ cs_laws_szRoleGrantS, CtrOk Tryz.prog x := (conOf_cons ok_laws_szRoleGrant conOf_nil)
theorem ok_laws_szRoleGrantS : CtrOk Tryz.prog c_laws_szRoleGrantS := mk_laws_szRoleGrantS hcs_laws_szRoleGrantS fun a0 a1 y hy => by
  obtain ⟨n, hn⟩ := szS_call (fun n xs s i => L_laws_szRoleGrantS_0_5_eq n xs s i) hy
  exact ⟨n, (F_laws_szRoleGrantS_eq n a0 a1).trans hn⟩
/-! ## laws.szRoleSession (49) -/
noncomputable def c_laws_szRoleSession : Ctr := ⟨49, [TyRoleSession, I64], [I64], fun x => szC TyRoleSession x.1 x.2.1⟩
def A_laws_szRoleSession : List (List Nat × Ann) := []
def In_laws_szRoleSession : List (List Nat × Nat) := []
noncomputable def cs_laws_szRoleSession : List Ctr := [c_laws_szStringS, c_laws_szRoleGrantS]
noncomputable def F_laws_szRoleSession (n : Nat) (a0 : DRoleSession) (a1 : Int) : Option Int := run Tryz.prog A_laws_szRoleSession In_laws_szRoleSession (conOf cs_laws_szRoleSession) Tryz.f49 (Tryz.f49.body.getD .skip) (packT [I64]) n (argsV [TyRoleSession, I64] (a0, a1, ()))
theorem F_laws_szRoleSession_eq (n : Nat) (a0 : DRoleSession) (a1 : Int) : F_laws_szRoleSession n a0 a1 =
    bif decide (IntKind.wrap .i64 (a1 - (a0.1.length : Int)) < 0) then
      some (-1)
    else
      bif decide (IntKind.wrap .i64 ((IntKind.wrap .i64 (a1 - (a0.1.length : Int))) - (a0.2.1.length : Int)) < 0) then
        some (-1)
      else
        Option.bind (szC (.list .str) a0.2.2.1 (IntKind.wrap .i64 ((IntKind.wrap .i64 (a1 - (a0.1.length : Int))) - (a0.2.1.length : Int)))) fun (y1 : Int) =>
        bif decide (y1 < 0) then
          some (-1)
        else
          Option.bind (szC (.list TyRoleGrant) a0.2.2.2.1 y1) fun (y2 : Int) =>
          bif decide (y2 < 0) then
            some (-1)
          else
            some y2 := by kernel_rfl
theorem mk_laws_szRoleSession (hcs : ∀ x ∈ cs_laws_szRoleSession, CtrOk Tryz.prog x) (h : ∀ (a0 : DRoleSession) (a1 : Int) y, szC TyRoleSession a0 a1 = some y → ∃ n, F_laws_szRoleSession n a0 a1 = some y) : CtrOk Tryz.prog c_laws_szRoleSession := by
  refine ctr_of_run (c := c_laws_szRoleSession) (by kernel_rfl) (by kernel_rfl : Tryz.prog.funcs[49]? = some Tryz.f49) (code := Tryz.f49.body.getD .skip) (by kernel_rfl) (by kernel_rfl) (by kernel_rfl) (A := A_laws_szRoleSession) (I := In_laws_szRoleSession) hcs ?_
  rintro ⟨a0, a1, u⟩ y hy
  exact h a0 a1 y hy

theorem hcs_laws_szRoleSession : ∀ x ∈ cs_laws_szRoleSession, CtrOk Tryz.prog x := (conOf_cons ok_laws_szStringS (conOf_cons ok_laws_szRoleGrantS conOf_nil))
theorem ok_laws_szRoleSession : CtrOk Tryz.prog c_laws_szRoleSession := mk_laws_szRoleSession hcs_laws_szRoleSession fun a0 a1 y hy => by
  obtain ⟨hw, h0, h1, rfl⟩ := szC_inv hy
  have hw2 : wfD .str a0.1 ∧ wfD .str a0.2.1 ∧ wfD (.list .str) a0.2.2.1 ∧ wfD (.list TyRoleGrant) a0.2.2.2.1 ∧ wfD .bool a0.2.2.2.2 := hw
  have hsz : Ty.size TyRoleSession a0 = Ty.size .str a0.1 + (Ty.size .str a0.2.1 + (Ty.size (.list .str) a0.2.2.1 + (Ty.size (.list TyRoleGrant) a0.2.2.2.1 + (Ty.size .bool a0.2.2.2.2)))) := rfl
  have z4 : Ty.size .bool a0.2.2.2.2 = 0 := rfl
  have z0 : Ty.size .str a0.1 = a0.1.length := rfl
  have z1 : Ty.size .str a0.2.1 = a0.2.1.length := rfl
  refine ⟨0, ?_⟩
  rw [F_laws_szRoleSession_eq, hsz]
  have hn0 : a0.1.length ≤ maxLen := by have := (hw2.1).1; unfold maxLen; omega
  rw [lessZ_wrap (left := a1) (n := a0.1.length) (by omega) (by omega) hn0]
  rcases Int.lt_or_le (a1) (a0.1.length : Int) with h | h
  · rw [decide_eq_true (show (a1 - (a0.1.length : Int)) < 0 by omega)]; simp only [cond_true]; unfold lessZ; rw [if_neg (by omega)]
  rw [decide_eq_false (show ¬ (a1 - (a0.1.length : Int)) < 0 by omega)]; simp only [cond_false]
  have h_0 := h; clear h
  have hn1 : a0.2.1.length ≤ maxLen := by have := (hw2.2.1).1; unfold maxLen; omega
  rw [lessZ_wrap (left := (a1 - (a0.1.length : Int))) (n := a0.2.1.length) (by omega) (by omega) hn1]
  rcases Int.lt_or_le ((a1 - (a0.1.length : Int))) (a0.2.1.length : Int) with h | h
  · rw [decide_eq_true (show ((a1 - (a0.1.length : Int)) - (a0.2.1.length : Int)) < 0 by omega)]; simp only [cond_true]; unfold lessZ; rw [if_neg (by omega)]
  rw [decide_eq_false (show ¬ ((a1 - (a0.1.length : Int)) - (a0.2.1.length : Int)) < 0 by omega)]; simp only [cond_false]
  have h_1 := h; clear h
  rw [szC_some hw2.2.2.1 (show 0 ≤ ((a1 - (a0.1.length : Int)) - (a0.2.1.length : Int)) by omega) (by omega)]
  simp only [Option.bind_some]
  rcases Int.lt_or_le (((a1 - (a0.1.length : Int)) - (a0.2.1.length : Int))) ((Ty.size (.list .str) a0.2.2.1 : Nat) : Int) with h | h
  · rw [show lessZ (((a1 - (a0.1.length : Int)) - (a0.2.1.length : Int))) (Ty.size (.list .str) a0.2.2.1) = -1 by unfold lessZ; rw [if_neg (by omega)]]; rw [decide_eq_true (show (-1 : Int) < 0 by omega)]; simp only [cond_true]; unfold lessZ; rw [if_neg (by omega)]
  rw [show lessZ (((a1 - (a0.1.length : Int)) - (a0.2.1.length : Int))) (Ty.size (.list .str) a0.2.2.1) = (((a1 - (a0.1.length : Int)) - (a0.2.1.length : Int)) - ((Ty.size (.list .str) a0.2.2.1 : Nat) : Int)) by unfold lessZ; rw [if_pos h]]; rw [decide_eq_false (show ¬ (((a1 - (a0.1.length : Int)) - (a0.2.1.length : Int)) - ((Ty.size (.list .str) a0.2.2.1 : Nat) : Int)) < 0 by omega)]; simp only [cond_false]
  have h_2 := h; clear h
  rw [szC_some hw2.2.2.2.1 (show 0 ≤ (((a1 - (a0.1.length : Int)) - (a0.2.1.length : Int)) - ((Ty.size (.list .str) a0.2.2.1 : Nat) : Int)) by omega) (by omega)]
  simp only [Option.bind_some]
  rcases Int.lt_or_le ((((a1 - (a0.1.length : Int)) - (a0.2.1.length : Int)) - ((Ty.size (.list .str) a0.2.2.1 : Nat) : Int))) ((Ty.size (.list TyRoleGrant) a0.2.2.2.1 : Nat) : Int) with h | h
  · rw [show lessZ ((((a1 - (a0.1.length : Int)) - (a0.2.1.length : Int)) - ((Ty.size (.list .str) a0.2.2.1 : Nat) : Int))) (Ty.size (.list TyRoleGrant) a0.2.2.2.1) = -1 by unfold lessZ; rw [if_neg (by omega)]]; rw [decide_eq_true (show (-1 : Int) < 0 by omega)]; simp only [cond_true]; unfold lessZ; rw [if_neg (by omega)]
  rw [show lessZ ((((a1 - (a0.1.length : Int)) - (a0.2.1.length : Int)) - ((Ty.size (.list .str) a0.2.2.1 : Nat) : Int))) (Ty.size (.list TyRoleGrant) a0.2.2.2.1) = ((((a1 - (a0.1.length : Int)) - (a0.2.1.length : Int)) - ((Ty.size (.list .str) a0.2.2.1 : Nat) : Int)) - ((Ty.size (.list TyRoleGrant) a0.2.2.2.1 : Nat) : Int)) by unfold lessZ; rw [if_pos h]]; rw [decide_eq_false (show ¬ ((((a1 - (a0.1.length : Int)) - (a0.2.1.length : Int)) - ((Ty.size (.list .str) a0.2.2.1 : Nat) : Int)) - ((Ty.size (.list TyRoleGrant) a0.2.2.2.1 : Nat) : Int)) < 0 by omega)]; simp only [cond_false]
  have h_3 := h; clear h
  unfold lessZ; rw [if_pos (by omega)]; congr 1 <;> omega
/-! ## laws.szRoleSessionS (22) -/
noncomputable def c_laws_szRoleSessionS : Ctr := ⟨22, [(.list TyRoleSession), I64], [I64], fun x => szC (.list TyRoleSession) x.1 x.2.1⟩
def A_laws_szRoleSessionS : List (List Nat × Ann) := [([0, 5], [.keep 0 0, .keep 0 1, .keep 0 5])]
def In_laws_szRoleSessionS : List (List Nat × Nat) := []
noncomputable def cs_laws_szRoleSessionS : List Ctr := [c_laws_szRoleSession]
noncomputable def F_laws_szRoleSessionS (n : Nat) (a0 : (List DRoleSession)) (a1 : Int) : Option Int := run Tryz.prog A_laws_szRoleSessionS In_laws_szRoleSessionS (conOf cs_laws_szRoleSessionS) Tryz.f22 (Tryz.f22.body.getD .skip) (packT [I64]) n (argsV [(.list TyRoleSession), I64] (a0, a1, ()))
noncomputable abbrev L_laws_szRoleSessionS_0_5 (n : Nat) (x1 : (List DRoleSession)) (x2 : Int) (x3 : Int) : Option Int := lam Tryz.prog A_laws_szRoleSessionS In_laws_szRoleSessionS (conOf cs_laws_szRoleSessionS) Tryz.f22 (Tryz.f22.body.getD .skip) (packT [I64]) n [0, 5] [.d (.list TyRoleSession) x1, .d I64 x2, .d I64 x3]
theorem F_laws_szRoleSessionS_eq (n : Nat) (a0 : (List DRoleSession)) (a1 : Int) : F_laws_szRoleSessionS n a0 a1 =
    bif decide (IntKind.wrap .i64 (a1 - (a0.length : Int)) < 0) then
      some (-1)
    else
      L_laws_szRoleSessionS_0_5 n a0 (IntKind.wrap .i64 (a1 - (a0.length : Int))) 0 := by kernel_rfl
theorem L_laws_szRoleSessionS_0_5_eq (n : Nat) (x1 : (List DRoleSession)) (x2 : Int) (x3 : Int) : L_laws_szRoleSessionS_0_5 (n + 1) x1 x2 x3 =
    bif decide (x3 < (x1.length : Int)) then
      bif inB x3 x1.length then
        Option.bind (szC TyRoleSession (rd x1 x3 (Ty.dflt TyRoleSession)) x2) fun (y1 : Int) =>
        bif decide (y1 < 0) then
          some (-1)
        else
          L_laws_szRoleSessionS_0_5 n x1 y1 (IntKind.wrap .i64 (x3 + 1))
      else none
    else
      some x2 := by kernel_rfl
theorem mk_laws_szRoleSessionS (hcs : ∀ x ∈ cs_laws_szRoleSessionS, CtrOk Tryz.prog x) (h : ∀ (a0 : (List DRoleSession)) (a1 : Int) y, szC (.list TyRoleSession) a0 a1 = some y → ∃ n, F_laws_szRoleSessionS n a0 a1 = some y) : CtrOk Tryz.prog c_laws_szRoleSessionS := by
  refine ctr_of_run (c := c_laws_szRoleSessionS) (by kernel_rfl) (by kernel_rfl : Tryz.prog.funcs[22]? = some Tryz.f22) (code := Tryz.f22.body.getD .skip) (by kernel_rfl) (by kernel_rfl) (by kernel_rfl) (A := A_laws_szRoleSessionS) (I := In_laws_szRoleSessionS) hcs ?_
  rintro ⟨a0, a1, u⟩ y hy
  exact h a0 a1 y hy

theorem hcs_laws_szRoleSessionS : ∀ x ∈ cs_laws_szRoleSessionS, CtrOk Tryz.prog x := (conOf_cons ok_laws_szRoleSession conOf_nil)
theorem ok_laws_szRoleSessionS : CtrOk Tryz.prog c_laws_szRoleSessionS := mk_laws_szRoleSessionS hcs_laws_szRoleSessionS fun a0 a1 y hy => by
  obtain ⟨n, hn⟩ := szS_call (fun n xs s i => L_laws_szRoleSessionS_0_5_eq n xs s i) hy
  exact ⟨n, (F_laws_szRoleSessionS_eq n a0 a1).trans hn⟩
/-! ## laws.szRoleState (5) -/
noncomputable def c_laws_szRoleState : Ctr := ⟨5, [TyRoleState, I64], [I64], fun x => szC TyRoleState x.1 x.2.1⟩
def A_laws_szRoleState : List (List Nat × Ann) := []
def In_laws_szRoleState : List (List Nat × Nat) := []
noncomputable def cs_laws_szRoleState : List Ctr := [c_laws_szIntS, c_laws_szRoleGrantS, c_laws_szRoleSessionS]
noncomputable def F_laws_szRoleState (n : Nat) (a0 : DRoleState) (a1 : Int) : Option Int := run Tryz.prog A_laws_szRoleState In_laws_szRoleState (conOf cs_laws_szRoleState) Tryz.f5 (Tryz.f5.body.getD .skip) (packT [I64]) n (argsV [TyRoleState, I64] (a0, a1, ()))
theorem F_laws_szRoleState_eq (n : Nat) (a0 : DRoleState) (a1 : Int) : F_laws_szRoleState n a0 a1 =
    Option.bind (szC (.list I64) a0.1 a1) fun (y1 : Int) =>
    bif decide (y1 < 0) then
      some (-1)
    else
      Option.bind (szC (.list TyRoleGrant) a0.2.1 y1) fun (y2 : Int) =>
      bif decide (y2 < 0) then
        some (-1)
      else
        Option.bind (szC (.list TyRoleSession) a0.2.2.1 y2) fun (y3 : Int) =>
        bif decide (y3 < 0) then
          some (-1)
        else
          some y3 := by kernel_rfl
theorem mk_laws_szRoleState (hcs : ∀ x ∈ cs_laws_szRoleState, CtrOk Tryz.prog x) (h : ∀ (a0 : DRoleState) (a1 : Int) y, szC TyRoleState a0 a1 = some y → ∃ n, F_laws_szRoleState n a0 a1 = some y) : CtrOk Tryz.prog c_laws_szRoleState := by
  refine ctr_of_run (c := c_laws_szRoleState) (by kernel_rfl) (by kernel_rfl : Tryz.prog.funcs[5]? = some Tryz.f5) (code := Tryz.f5.body.getD .skip) (by kernel_rfl) (by kernel_rfl) (by kernel_rfl) (A := A_laws_szRoleState) (I := In_laws_szRoleState) hcs ?_
  rintro ⟨a0, a1, u⟩ y hy
  exact h a0 a1 y hy

theorem hcs_laws_szRoleState : ∀ x ∈ cs_laws_szRoleState, CtrOk Tryz.prog x := (conOf_cons ok_laws_szIntS (conOf_cons ok_laws_szRoleGrantS (conOf_cons ok_laws_szRoleSessionS conOf_nil)))
theorem ok_laws_szRoleState : CtrOk Tryz.prog c_laws_szRoleState := mk_laws_szRoleState hcs_laws_szRoleState fun a0 a1 y hy => by
  obtain ⟨hw, h0, h1, rfl⟩ := szC_inv hy
  have hw2 : wfD (.list I64) a0.1 ∧ wfD (.list TyRoleGrant) a0.2.1 ∧ wfD (.list TyRoleSession) a0.2.2.1 ∧ wfD I64 a0.2.2.2 := hw
  have hsz : Ty.size TyRoleState a0 = Ty.size (.list I64) a0.1 + (Ty.size (.list TyRoleGrant) a0.2.1 + (Ty.size (.list TyRoleSession) a0.2.2.1 + (Ty.size I64 a0.2.2.2))) := rfl
  have z3 : Ty.size I64 a0.2.2.2 = 0 := rfl
  refine ⟨0, ?_⟩
  rw [F_laws_szRoleState_eq, hsz]
  rw [szC_some hw2.1 (show 0 ≤ a1 by omega) (by omega)]
  simp only [Option.bind_some]
  rcases Int.lt_or_le (a1) ((Ty.size (.list I64) a0.1 : Nat) : Int) with h | h
  · rw [show lessZ (a1) (Ty.size (.list I64) a0.1) = -1 by unfold lessZ; rw [if_neg (by omega)]]; rw [decide_eq_true (show (-1 : Int) < 0 by omega)]; simp only [cond_true]; unfold lessZ; rw [if_neg (by omega)]
  rw [show lessZ (a1) (Ty.size (.list I64) a0.1) = (a1 - ((Ty.size (.list I64) a0.1 : Nat) : Int)) by unfold lessZ; rw [if_pos h]]; rw [decide_eq_false (show ¬ (a1 - ((Ty.size (.list I64) a0.1 : Nat) : Int)) < 0 by omega)]; simp only [cond_false]
  have h_0 := h; clear h
  rw [szC_some hw2.2.1 (show 0 ≤ (a1 - ((Ty.size (.list I64) a0.1 : Nat) : Int)) by omega) (by omega)]
  simp only [Option.bind_some]
  rcases Int.lt_or_le ((a1 - ((Ty.size (.list I64) a0.1 : Nat) : Int))) ((Ty.size (.list TyRoleGrant) a0.2.1 : Nat) : Int) with h | h
  · rw [show lessZ ((a1 - ((Ty.size (.list I64) a0.1 : Nat) : Int))) (Ty.size (.list TyRoleGrant) a0.2.1) = -1 by unfold lessZ; rw [if_neg (by omega)]]; rw [decide_eq_true (show (-1 : Int) < 0 by omega)]; simp only [cond_true]; unfold lessZ; rw [if_neg (by omega)]
  rw [show lessZ ((a1 - ((Ty.size (.list I64) a0.1 : Nat) : Int))) (Ty.size (.list TyRoleGrant) a0.2.1) = ((a1 - ((Ty.size (.list I64) a0.1 : Nat) : Int)) - ((Ty.size (.list TyRoleGrant) a0.2.1 : Nat) : Int)) by unfold lessZ; rw [if_pos h]]; rw [decide_eq_false (show ¬ ((a1 - ((Ty.size (.list I64) a0.1 : Nat) : Int)) - ((Ty.size (.list TyRoleGrant) a0.2.1 : Nat) : Int)) < 0 by omega)]; simp only [cond_false]
  have h_1 := h; clear h
  rw [szC_some hw2.2.2.1 (show 0 ≤ ((a1 - ((Ty.size (.list I64) a0.1 : Nat) : Int)) - ((Ty.size (.list TyRoleGrant) a0.2.1 : Nat) : Int)) by omega) (by omega)]
  simp only [Option.bind_some]
  rcases Int.lt_or_le (((a1 - ((Ty.size (.list I64) a0.1 : Nat) : Int)) - ((Ty.size (.list TyRoleGrant) a0.2.1 : Nat) : Int))) ((Ty.size (.list TyRoleSession) a0.2.2.1 : Nat) : Int) with h | h
  · rw [show lessZ (((a1 - ((Ty.size (.list I64) a0.1 : Nat) : Int)) - ((Ty.size (.list TyRoleGrant) a0.2.1 : Nat) : Int))) (Ty.size (.list TyRoleSession) a0.2.2.1) = -1 by unfold lessZ; rw [if_neg (by omega)]]; rw [decide_eq_true (show (-1 : Int) < 0 by omega)]; simp only [cond_true]; unfold lessZ; rw [if_neg (by omega)]
  rw [show lessZ (((a1 - ((Ty.size (.list I64) a0.1 : Nat) : Int)) - ((Ty.size (.list TyRoleGrant) a0.2.1 : Nat) : Int))) (Ty.size (.list TyRoleSession) a0.2.2.1) = (((a1 - ((Ty.size (.list I64) a0.1 : Nat) : Int)) - ((Ty.size (.list TyRoleGrant) a0.2.1 : Nat) : Int)) - ((Ty.size (.list TyRoleSession) a0.2.2.1 : Nat) : Int)) by unfold lessZ; rw [if_pos h]]; rw [decide_eq_false (show ¬ (((a1 - ((Ty.size (.list I64) a0.1 : Nat) : Int)) - ((Ty.size (.list TyRoleGrant) a0.2.1 : Nat) : Int)) - ((Ty.size (.list TyRoleSession) a0.2.2.1 : Nat) : Int)) < 0 by omega)]; simp only [cond_false]
  have h_2 := h; clear h
  unfold lessZ; rw [if_pos (by omega)]; congr 1 <;> omega
/-! ## laws.eqStringS (10) -/
noncomputable def c_laws_eqStringS : Ctr := ⟨10, [(.list .str), (.list .str)], [.bool], fun x => eqC (.list .str) x.1 x.2.1⟩
def A_laws_eqStringS : List (List Nat × Ann) := [([0, 4], [.keep 0 0, .keep 0 1, .keep 0 5])]
def In_laws_eqStringS : List (List Nat × Nat) := []
noncomputable def cs_laws_eqStringS : List Ctr := []
noncomputable def F_laws_eqStringS (n : Nat) (a0 : (List (List Int))) (a1 : (List (List Int))) : Option Bool := run Tryz.prog A_laws_eqStringS In_laws_eqStringS (conOf cs_laws_eqStringS) Tryz.f10 (Tryz.f10.body.getD .skip) (packT [.bool]) n (argsV [(.list .str), (.list .str)] (a0, a1, ()))
noncomputable abbrev L_laws_eqStringS_0_4 (n : Nat) (x1 : (List (List Int))) (x2 : (List (List Int))) (x3 : Int) : Option Bool := lam Tryz.prog A_laws_eqStringS In_laws_eqStringS (conOf cs_laws_eqStringS) Tryz.f10 (Tryz.f10.body.getD .skip) (packT [.bool]) n [0, 4] [.d (.list .str) x1, .d (.list .str) x2, .d I64 x3]
theorem F_laws_eqStringS_eq (n : Nat) (a0 : (List (List Int))) (a1 : (List (List Int))) : F_laws_eqStringS n a0 a1 =
    bif !decide ((a0.length : Int) = (a1.length : Int)) then
      some false
    else
      L_laws_eqStringS_0_4 n a0 a1 0 := by kernel_rfl
theorem L_laws_eqStringS_0_4_eq (n : Nat) (x1 : (List (List Int))) (x2 : (List (List Int))) (x3 : Int) : L_laws_eqStringS_0_4 (n + 1) x1 x2 x3 =
    bif decide (x3 < (x1.length : Int)) then
      bif inB x3 x1.length then
        bif inB x3 x2.length then
          bif !decide (rd x1 x3 (Ty.dflt .str) = rd x2 x3 (Ty.dflt .str)) then
            some false
          else
            L_laws_eqStringS_0_4 n x1 x2 (IntKind.wrap .i64 (x3 + 1))
        else none
      else none
    else
      some true := by kernel_rfl
theorem mk_laws_eqStringS (hcs : ∀ x ∈ cs_laws_eqStringS, CtrOk Tryz.prog x) (h : ∀ (a0 : (List (List Int))) (a1 : (List (List Int))) y, eqC (.list .str) a0 a1 = some y → ∃ n, F_laws_eqStringS n a0 a1 = some y) : CtrOk Tryz.prog c_laws_eqStringS := by
  refine ctr_of_run (c := c_laws_eqStringS) (by kernel_rfl) (by kernel_rfl : Tryz.prog.funcs[10]? = some Tryz.f10) (code := Tryz.f10.body.getD .skip) (by kernel_rfl) (by kernel_rfl) (by kernel_rfl) (A := A_laws_eqStringS) (I := In_laws_eqStringS) hcs ?_
  rintro ⟨a0, a1, u⟩ y hy
  exact h a0 a1 y hy

theorem hcs_laws_eqStringS : ∀ x ∈ cs_laws_eqStringS, CtrOk Tryz.prog x := conOf_nil
theorem ok_laws_eqStringS : CtrOk Tryz.prog c_laws_eqStringS := mk_laws_eqStringS hcs_laws_eqStringS fun a0 a1 y hy => by
  obtain ⟨n, hn⟩ := eqS_ok (t := .str) (body := fun x y K => bif !decide (x = y) then some false else K ()) (fun x K h => by simp) (fun n xs ys i => L_laws_eqStringS_0_4_eq n xs ys i) hy
  exact ⟨n, (F_laws_eqStringS_eq n a0 a1).trans hn⟩
/-! ## laws.eqRole (68) -/
noncomputable def c_laws_eqRole : Ctr := ⟨68, [TyRole, TyRole], [.bool], fun x => eqC TyRole x.1 x.2.1⟩
def A_laws_eqRole : List (List Nat × Ann) := []
def In_laws_eqRole : List (List Nat × Nat) := []
noncomputable def cs_laws_eqRole : List Ctr := [c_laws_eqStringS]
noncomputable def F_laws_eqRole (n : Nat) (a0 : DRole) (a1 : DRole) : Option Bool := run Tryz.prog A_laws_eqRole In_laws_eqRole (conOf cs_laws_eqRole) Tryz.f68 (Tryz.f68.body.getD .skip) (packT [.bool]) n (argsV [TyRole, TyRole] (a0, a1, ()))
theorem F_laws_eqRole_eq (n : Nat) (a0 : DRole) (a1 : DRole) : F_laws_eqRole n a0 a1 =
    bif !decide (a0.1 = a1.1) then
      some false
    else
      Option.bind (eqC (.list .str) a0.2.1 a1.2.1) fun (y1 : Bool) =>
      bif !(y1) then
        some false
      else
        Option.bind (eqC (.list .str) a0.2.2 a1.2.2) fun (y2 : Bool) =>
        bif !(y2) then
          some false
        else
          some true := by kernel_rfl
theorem mk_laws_eqRole (hcs : ∀ x ∈ cs_laws_eqRole, CtrOk Tryz.prog x) (h : ∀ (a0 : DRole) (a1 : DRole) y, eqC TyRole a0 a1 = some y → ∃ n, F_laws_eqRole n a0 a1 = some y) : CtrOk Tryz.prog c_laws_eqRole := by
  refine ctr_of_run (c := c_laws_eqRole) (by kernel_rfl) (by kernel_rfl : Tryz.prog.funcs[68]? = some Tryz.f68) (code := Tryz.f68.body.getD .skip) (by kernel_rfl) (by kernel_rfl) (by kernel_rfl) (A := A_laws_eqRole) (I := In_laws_eqRole) hcs ?_
  rintro ⟨a0, a1, u⟩ y hy
  exact h a0 a1 y hy

theorem hcs_laws_eqRole : ∀ x ∈ cs_laws_eqRole, CtrOk Tryz.prog x := (conOf_cons ok_laws_eqStringS conOf_nil)
theorem ok_laws_eqRole : CtrOk Tryz.prog c_laws_eqRole := mk_laws_eqRole hcs_laws_eqRole fun a0 a1 y hy => by
  obtain ⟨rfl, hw, rfl⟩ := eqC_inv hy
  have hw2 : wfD .str a0.1 ∧ wfD (.list .str) a0.2.1 ∧ wfD (.list .str) a0.2.2 := hw
  refine ⟨0, ?_⟩
  rw [F_laws_eqRole_eq]
  simp [eqC_some hw2.2.1, eqC_some hw2.2.2]
/-! ## laws.eqRoleS (35) -/
noncomputable def c_laws_eqRoleS : Ctr := ⟨35, [(.list TyRole), (.list TyRole)], [.bool], fun x => eqC (.list TyRole) x.1 x.2.1⟩
def A_laws_eqRoleS : List (List Nat × Ann) := [([0, 4], [.keep 0 0, .keep 0 1, .keep 0 5])]
def In_laws_eqRoleS : List (List Nat × Nat) := []
noncomputable def cs_laws_eqRoleS : List Ctr := [c_laws_eqRole]
noncomputable def F_laws_eqRoleS (n : Nat) (a0 : (List DRole)) (a1 : (List DRole)) : Option Bool := run Tryz.prog A_laws_eqRoleS In_laws_eqRoleS (conOf cs_laws_eqRoleS) Tryz.f35 (Tryz.f35.body.getD .skip) (packT [.bool]) n (argsV [(.list TyRole), (.list TyRole)] (a0, a1, ()))
noncomputable abbrev L_laws_eqRoleS_0_4 (n : Nat) (x1 : (List DRole)) (x2 : (List DRole)) (x3 : Int) : Option Bool := lam Tryz.prog A_laws_eqRoleS In_laws_eqRoleS (conOf cs_laws_eqRoleS) Tryz.f35 (Tryz.f35.body.getD .skip) (packT [.bool]) n [0, 4] [.d (.list TyRole) x1, .d (.list TyRole) x2, .d I64 x3]
theorem F_laws_eqRoleS_eq (n : Nat) (a0 : (List DRole)) (a1 : (List DRole)) : F_laws_eqRoleS n a0 a1 =
    bif !decide ((a0.length : Int) = (a1.length : Int)) then
      some false
    else
      L_laws_eqRoleS_0_4 n a0 a1 0 := by kernel_rfl
theorem L_laws_eqRoleS_0_4_eq (n : Nat) (x1 : (List DRole)) (x2 : (List DRole)) (x3 : Int) : L_laws_eqRoleS_0_4 (n + 1) x1 x2 x3 =
    bif decide (x3 < (x1.length : Int)) then
      bif inB x3 x1.length then
        bif inB x3 x2.length then
          Option.bind (eqC TyRole (rd x1 x3 (Ty.dflt TyRole)) (rd x2 x3 (Ty.dflt TyRole))) fun (y1 : Bool) =>
          bif !(y1) then
            some false
          else
            L_laws_eqRoleS_0_4 n x1 x2 (IntKind.wrap .i64 (x3 + 1))
        else none
      else none
    else
      some true := by kernel_rfl
theorem mk_laws_eqRoleS (hcs : ∀ x ∈ cs_laws_eqRoleS, CtrOk Tryz.prog x) (h : ∀ (a0 : (List DRole)) (a1 : (List DRole)) y, eqC (.list TyRole) a0 a1 = some y → ∃ n, F_laws_eqRoleS n a0 a1 = some y) : CtrOk Tryz.prog c_laws_eqRoleS := by
  refine ctr_of_run (c := c_laws_eqRoleS) (by kernel_rfl) (by kernel_rfl : Tryz.prog.funcs[35]? = some Tryz.f35) (code := Tryz.f35.body.getD .skip) (by kernel_rfl) (by kernel_rfl) (by kernel_rfl) (A := A_laws_eqRoleS) (I := In_laws_eqRoleS) hcs ?_
  rintro ⟨a0, a1, u⟩ y hy
  exact h a0 a1 y hy

theorem hcs_laws_eqRoleS : ∀ x ∈ cs_laws_eqRoleS, CtrOk Tryz.prog x := (conOf_cons ok_laws_eqRole conOf_nil)
theorem ok_laws_eqRoleS : CtrOk Tryz.prog c_laws_eqRoleS := mk_laws_eqRoleS hcs_laws_eqRoleS fun a0 a1 y hy => by
  obtain ⟨n, hn⟩ := eqS_ok (t := TyRole) (body := fun x y K => Option.bind (eqC TyRole x y) fun b => bif !b then some false else K ()) (fun x K h => by simp only [eqC_some h, Option.bind_some, Bool.not_true, cond_false]) (fun n xs ys i => L_laws_eqRoleS_0_4_eq n xs ys i) hy
  exact ⟨n, (F_laws_eqRoleS_eq n a0 a1).trans hn⟩
/-! ## laws.eqApart (69) -/
noncomputable def c_laws_eqApart : Ctr := ⟨69, [TyApart, TyApart], [.bool], fun x => eqC TyApart x.1 x.2.1⟩
def A_laws_eqApart : List (List Nat × Ann) := []
def In_laws_eqApart : List (List Nat × Nat) := []
noncomputable def cs_laws_eqApart : List Ctr := [c_laws_eqStringS]
noncomputable def F_laws_eqApart (n : Nat) (a0 : DApart) (a1 : DApart) : Option Bool := run Tryz.prog A_laws_eqApart In_laws_eqApart (conOf cs_laws_eqApart) Tryz.f69 (Tryz.f69.body.getD .skip) (packT [.bool]) n (argsV [TyApart, TyApart] (a0, a1, ()))
theorem F_laws_eqApart_eq (n : Nat) (a0 : DApart) (a1 : DApart) : F_laws_eqApart n a0 a1 =
    Option.bind (eqC (.list .str) a0.1 a1.1) fun (y1 : Bool) =>
    bif !(y1) then
      some false
    else
      bif !decide (a0.2.1 = a1.2.1) then
        some false
      else
        bif a0.2.2 != a1.2.2 then
          some false
        else
          some true := by kernel_rfl
theorem mk_laws_eqApart (hcs : ∀ x ∈ cs_laws_eqApart, CtrOk Tryz.prog x) (h : ∀ (a0 : DApart) (a1 : DApart) y, eqC TyApart a0 a1 = some y → ∃ n, F_laws_eqApart n a0 a1 = some y) : CtrOk Tryz.prog c_laws_eqApart := by
  refine ctr_of_run (c := c_laws_eqApart) (by kernel_rfl) (by kernel_rfl : Tryz.prog.funcs[69]? = some Tryz.f69) (code := Tryz.f69.body.getD .skip) (by kernel_rfl) (by kernel_rfl) (by kernel_rfl) (A := A_laws_eqApart) (I := In_laws_eqApart) hcs ?_
  rintro ⟨a0, a1, u⟩ y hy
  exact h a0 a1 y hy

theorem hcs_laws_eqApart : ∀ x ∈ cs_laws_eqApart, CtrOk Tryz.prog x := (conOf_cons ok_laws_eqStringS conOf_nil)
theorem ok_laws_eqApart : CtrOk Tryz.prog c_laws_eqApart := mk_laws_eqApart hcs_laws_eqApart fun a0 a1 y hy => by
  obtain ⟨rfl, hw, rfl⟩ := eqC_inv hy
  have hw2 : wfD (.list .str) a0.1 ∧ wfD I64 a0.2.1 ∧ wfD .bool a0.2.2 := hw
  refine ⟨0, ?_⟩
  rw [F_laws_eqApart_eq]
  simp [eqC_some hw2.1]
/-! ## laws.eqApartS (36) -/
noncomputable def c_laws_eqApartS : Ctr := ⟨36, [(.list TyApart), (.list TyApart)], [.bool], fun x => eqC (.list TyApart) x.1 x.2.1⟩
def A_laws_eqApartS : List (List Nat × Ann) := [([0, 4], [.keep 0 0, .keep 0 1, .keep 0 5])]
def In_laws_eqApartS : List (List Nat × Nat) := []
noncomputable def cs_laws_eqApartS : List Ctr := [c_laws_eqApart]
noncomputable def F_laws_eqApartS (n : Nat) (a0 : (List DApart)) (a1 : (List DApart)) : Option Bool := run Tryz.prog A_laws_eqApartS In_laws_eqApartS (conOf cs_laws_eqApartS) Tryz.f36 (Tryz.f36.body.getD .skip) (packT [.bool]) n (argsV [(.list TyApart), (.list TyApart)] (a0, a1, ()))
noncomputable abbrev L_laws_eqApartS_0_4 (n : Nat) (x1 : (List DApart)) (x2 : (List DApart)) (x3 : Int) : Option Bool := lam Tryz.prog A_laws_eqApartS In_laws_eqApartS (conOf cs_laws_eqApartS) Tryz.f36 (Tryz.f36.body.getD .skip) (packT [.bool]) n [0, 4] [.d (.list TyApart) x1, .d (.list TyApart) x2, .d I64 x3]
theorem F_laws_eqApartS_eq (n : Nat) (a0 : (List DApart)) (a1 : (List DApart)) : F_laws_eqApartS n a0 a1 =
    bif !decide ((a0.length : Int) = (a1.length : Int)) then
      some false
    else
      L_laws_eqApartS_0_4 n a0 a1 0 := by kernel_rfl
theorem L_laws_eqApartS_0_4_eq (n : Nat) (x1 : (List DApart)) (x2 : (List DApart)) (x3 : Int) : L_laws_eqApartS_0_4 (n + 1) x1 x2 x3 =
    bif decide (x3 < (x1.length : Int)) then
      bif inB x3 x1.length then
        bif inB x3 x2.length then
          Option.bind (eqC TyApart (rd x1 x3 (Ty.dflt TyApart)) (rd x2 x3 (Ty.dflt TyApart))) fun (y1 : Bool) =>
          bif !(y1) then
            some false
          else
            L_laws_eqApartS_0_4 n x1 x2 (IntKind.wrap .i64 (x3 + 1))
        else none
      else none
    else
      some true := by kernel_rfl
theorem mk_laws_eqApartS (hcs : ∀ x ∈ cs_laws_eqApartS, CtrOk Tryz.prog x) (h : ∀ (a0 : (List DApart)) (a1 : (List DApart)) y, eqC (.list TyApart) a0 a1 = some y → ∃ n, F_laws_eqApartS n a0 a1 = some y) : CtrOk Tryz.prog c_laws_eqApartS := by
  refine ctr_of_run (c := c_laws_eqApartS) (by kernel_rfl) (by kernel_rfl : Tryz.prog.funcs[36]? = some Tryz.f36) (code := Tryz.f36.body.getD .skip) (by kernel_rfl) (by kernel_rfl) (by kernel_rfl) (A := A_laws_eqApartS) (I := In_laws_eqApartS) hcs ?_
  rintro ⟨a0, a1, u⟩ y hy
  exact h a0 a1 y hy

theorem hcs_laws_eqApartS : ∀ x ∈ cs_laws_eqApartS, CtrOk Tryz.prog x := (conOf_cons ok_laws_eqApart conOf_nil)
theorem ok_laws_eqApartS : CtrOk Tryz.prog c_laws_eqApartS := mk_laws_eqApartS hcs_laws_eqApartS fun a0 a1 y hy => by
  obtain ⟨n, hn⟩ := eqS_ok (t := TyApart) (body := fun x y K => Option.bind (eqC TyApart x y) fun b => bif !b then some false else K ()) (fun x K h => by simp only [eqC_some h, Option.bind_some, Bool.not_true, cond_false]) (fun n xs ys i => L_laws_eqApartS_0_4_eq n xs ys i) hy
  exact ⟨n, (F_laws_eqApartS_eq n a0 a1).trans hn⟩
/-! ## laws.eqRoleSet (11) -/
noncomputable def c_laws_eqRoleSet : Ctr := ⟨11, [TyRoleSet, TyRoleSet], [.bool], fun x => eqC TyRoleSet x.1 x.2.1⟩
def A_laws_eqRoleSet : List (List Nat × Ann) := []
def In_laws_eqRoleSet : List (List Nat × Nat) := []
noncomputable def cs_laws_eqRoleSet : List Ctr := [c_laws_eqRoleS, c_laws_eqApartS, c_laws_eqStringS]
noncomputable def F_laws_eqRoleSet (n : Nat) (a0 : DRoleSet) (a1 : DRoleSet) : Option Bool := run Tryz.prog A_laws_eqRoleSet In_laws_eqRoleSet (conOf cs_laws_eqRoleSet) Tryz.f11 (Tryz.f11.body.getD .skip) (packT [.bool]) n (argsV [TyRoleSet, TyRoleSet] (a0, a1, ()))
theorem F_laws_eqRoleSet_eq (n : Nat) (a0 : DRoleSet) (a1 : DRoleSet) : F_laws_eqRoleSet n a0 a1 =
    Option.bind (eqC (.list TyRole) a0.1 a1.1) fun (y1 : Bool) =>
    bif !(y1) then
      some false
    else
      Option.bind (eqC (.list TyApart) a0.2.1 a1.2.1) fun (y2 : Bool) =>
      bif !(y2) then
        some false
      else
        Option.bind (eqC (.list .str) a0.2.2 a1.2.2) fun (y3 : Bool) =>
        bif !(y3) then
          some false
        else
          some true := by kernel_rfl
theorem mk_laws_eqRoleSet (hcs : ∀ x ∈ cs_laws_eqRoleSet, CtrOk Tryz.prog x) (h : ∀ (a0 : DRoleSet) (a1 : DRoleSet) y, eqC TyRoleSet a0 a1 = some y → ∃ n, F_laws_eqRoleSet n a0 a1 = some y) : CtrOk Tryz.prog c_laws_eqRoleSet := by
  refine ctr_of_run (c := c_laws_eqRoleSet) (by kernel_rfl) (by kernel_rfl : Tryz.prog.funcs[11]? = some Tryz.f11) (code := Tryz.f11.body.getD .skip) (by kernel_rfl) (by kernel_rfl) (by kernel_rfl) (A := A_laws_eqRoleSet) (I := In_laws_eqRoleSet) hcs ?_
  rintro ⟨a0, a1, u⟩ y hy
  exact h a0 a1 y hy

theorem hcs_laws_eqRoleSet : ∀ x ∈ cs_laws_eqRoleSet, CtrOk Tryz.prog x := (conOf_cons ok_laws_eqRoleS (conOf_cons ok_laws_eqApartS (conOf_cons ok_laws_eqStringS conOf_nil)))
theorem ok_laws_eqRoleSet : CtrOk Tryz.prog c_laws_eqRoleSet := mk_laws_eqRoleSet hcs_laws_eqRoleSet fun a0 a1 y hy => by
  obtain ⟨rfl, hw, rfl⟩ := eqC_inv hy
  have hw2 : wfD (.list TyRole) a0.1 ∧ wfD (.list TyApart) a0.2.1 ∧ wfD (.list .str) a0.2.2 := hw
  refine ⟨0, ?_⟩
  rw [F_laws_eqRoleSet_eq]
  simp [eqC_some hw2.1, eqC_some hw2.2.1, eqC_some hw2.2.2]
/-! ## laws.eqIntS (37) -/
noncomputable def c_laws_eqIntS : Ctr := ⟨37, [(.list I64), (.list I64)], [.bool], fun x => eqC (.list I64) x.1 x.2.1⟩
def A_laws_eqIntS : List (List Nat × Ann) := [([0, 4], [.keep 0 0, .keep 0 1, .keep 0 5])]
def In_laws_eqIntS : List (List Nat × Nat) := []
noncomputable def cs_laws_eqIntS : List Ctr := []
noncomputable def F_laws_eqIntS (n : Nat) (a0 : (List Int)) (a1 : (List Int)) : Option Bool := run Tryz.prog A_laws_eqIntS In_laws_eqIntS (conOf cs_laws_eqIntS) Tryz.f37 (Tryz.f37.body.getD .skip) (packT [.bool]) n (argsV [(.list I64), (.list I64)] (a0, a1, ()))
noncomputable abbrev L_laws_eqIntS_0_4 (n : Nat) (x1 : (List Int)) (x2 : (List Int)) (x3 : Int) : Option Bool := lam Tryz.prog A_laws_eqIntS In_laws_eqIntS (conOf cs_laws_eqIntS) Tryz.f37 (Tryz.f37.body.getD .skip) (packT [.bool]) n [0, 4] [.d (.list I64) x1, .d (.list I64) x2, .d I64 x3]
theorem F_laws_eqIntS_eq (n : Nat) (a0 : (List Int)) (a1 : (List Int)) : F_laws_eqIntS n a0 a1 =
    bif !decide ((a0.length : Int) = (a1.length : Int)) then
      some false
    else
      L_laws_eqIntS_0_4 n a0 a1 0 := by kernel_rfl
theorem L_laws_eqIntS_0_4_eq (n : Nat) (x1 : (List Int)) (x2 : (List Int)) (x3 : Int) : L_laws_eqIntS_0_4 (n + 1) x1 x2 x3 =
    bif decide (x3 < (x1.length : Int)) then
      bif inB x3 x1.length then
        bif inB x3 x2.length then
          bif !decide (rd x1 x3 (Ty.dflt I64) = rd x2 x3 (Ty.dflt I64)) then
            some false
          else
            L_laws_eqIntS_0_4 n x1 x2 (IntKind.wrap .i64 (x3 + 1))
        else none
      else none
    else
      some true := by kernel_rfl
theorem mk_laws_eqIntS (hcs : ∀ x ∈ cs_laws_eqIntS, CtrOk Tryz.prog x) (h : ∀ (a0 : (List Int)) (a1 : (List Int)) y, eqC (.list I64) a0 a1 = some y → ∃ n, F_laws_eqIntS n a0 a1 = some y) : CtrOk Tryz.prog c_laws_eqIntS := by
  refine ctr_of_run (c := c_laws_eqIntS) (by kernel_rfl) (by kernel_rfl : Tryz.prog.funcs[37]? = some Tryz.f37) (code := Tryz.f37.body.getD .skip) (by kernel_rfl) (by kernel_rfl) (by kernel_rfl) (A := A_laws_eqIntS) (I := In_laws_eqIntS) hcs ?_
  rintro ⟨a0, a1, u⟩ y hy
  exact h a0 a1 y hy

theorem hcs_laws_eqIntS : ∀ x ∈ cs_laws_eqIntS, CtrOk Tryz.prog x := conOf_nil
theorem ok_laws_eqIntS : CtrOk Tryz.prog c_laws_eqIntS := mk_laws_eqIntS hcs_laws_eqIntS fun a0 a1 y hy => by
  obtain ⟨n, hn⟩ := eqS_ok (t := I64) (body := fun x y K => bif !decide (x = y) then some false else K ()) (fun x K h => by simp) (fun n xs ys i => L_laws_eqIntS_0_4_eq n xs ys i) hy
  exact ⟨n, (F_laws_eqIntS_eq n a0 a1).trans hn⟩
/-! ## laws.eqRoleGrant (70) -/
noncomputable def c_laws_eqRoleGrant : Ctr := ⟨70, [TyRoleGrant, TyRoleGrant], [.bool], fun x => eqC TyRoleGrant x.1 x.2.1⟩
def A_laws_eqRoleGrant : List (List Nat × Ann) := []
def In_laws_eqRoleGrant : List (List Nat × Nat) := []
noncomputable def cs_laws_eqRoleGrant : List Ctr := []
noncomputable def F_laws_eqRoleGrant (n : Nat) (a0 : DRoleGrant) (a1 : DRoleGrant) : Option Bool := run Tryz.prog A_laws_eqRoleGrant In_laws_eqRoleGrant (conOf cs_laws_eqRoleGrant) Tryz.f70 (Tryz.f70.body.getD .skip) (packT [.bool]) n (argsV [TyRoleGrant, TyRoleGrant] (a0, a1, ()))
theorem F_laws_eqRoleGrant_eq (n : Nat) (a0 : DRoleGrant) (a1 : DRoleGrant) : F_laws_eqRoleGrant n a0 a1 =
    bif !decide (a0.1 = a1.1) then
      some false
    else
      bif !decide (a0.2.1 = a1.2.1) then
        some false
      else
        bif !decide (a0.2.2.1 = a1.2.2.1) then
          some false
        else
          bif !decide (a0.2.2.2.1 = a1.2.2.2.1) then
            some false
          else
            bif !decide (a0.2.2.2.2.1 = a1.2.2.2.2.1) then
              some false
            else
              bif !decide (a0.2.2.2.2.2 = a1.2.2.2.2.2) then
                some false
              else
                some true := by kernel_rfl
theorem mk_laws_eqRoleGrant (hcs : ∀ x ∈ cs_laws_eqRoleGrant, CtrOk Tryz.prog x) (h : ∀ (a0 : DRoleGrant) (a1 : DRoleGrant) y, eqC TyRoleGrant a0 a1 = some y → ∃ n, F_laws_eqRoleGrant n a0 a1 = some y) : CtrOk Tryz.prog c_laws_eqRoleGrant := by
  refine ctr_of_run (c := c_laws_eqRoleGrant) (by kernel_rfl) (by kernel_rfl : Tryz.prog.funcs[70]? = some Tryz.f70) (code := Tryz.f70.body.getD .skip) (by kernel_rfl) (by kernel_rfl) (by kernel_rfl) (A := A_laws_eqRoleGrant) (I := In_laws_eqRoleGrant) hcs ?_
  rintro ⟨a0, a1, u⟩ y hy
  exact h a0 a1 y hy

theorem hcs_laws_eqRoleGrant : ∀ x ∈ cs_laws_eqRoleGrant, CtrOk Tryz.prog x := conOf_nil
theorem ok_laws_eqRoleGrant : CtrOk Tryz.prog c_laws_eqRoleGrant := mk_laws_eqRoleGrant hcs_laws_eqRoleGrant fun a0 a1 y hy => by
  obtain ⟨rfl, hw, rfl⟩ := eqC_inv hy
  have hw2 : wfD .str a0.1 ∧ wfD .str a0.2.1 ∧ wfD .str a0.2.2.1 ∧ wfD I64 a0.2.2.2.1 ∧ wfD I64 a0.2.2.2.2.1 ∧ wfD I64 a0.2.2.2.2.2 := hw
  refine ⟨0, ?_⟩
  rw [F_laws_eqRoleGrant_eq]
  simp []
/-! ## laws.eqRoleGrantS (38) -/
noncomputable def c_laws_eqRoleGrantS : Ctr := ⟨38, [(.list TyRoleGrant), (.list TyRoleGrant)], [.bool], fun x => eqC (.list TyRoleGrant) x.1 x.2.1⟩
def A_laws_eqRoleGrantS : List (List Nat × Ann) := [([0, 4], [.keep 0 0, .keep 0 1, .keep 0 5])]
def In_laws_eqRoleGrantS : List (List Nat × Nat) := []
noncomputable def cs_laws_eqRoleGrantS : List Ctr := [c_laws_eqRoleGrant]
noncomputable def F_laws_eqRoleGrantS (n : Nat) (a0 : (List DRoleGrant)) (a1 : (List DRoleGrant)) : Option Bool := run Tryz.prog A_laws_eqRoleGrantS In_laws_eqRoleGrantS (conOf cs_laws_eqRoleGrantS) Tryz.f38 (Tryz.f38.body.getD .skip) (packT [.bool]) n (argsV [(.list TyRoleGrant), (.list TyRoleGrant)] (a0, a1, ()))
noncomputable abbrev L_laws_eqRoleGrantS_0_4 (n : Nat) (x1 : (List DRoleGrant)) (x2 : (List DRoleGrant)) (x3 : Int) : Option Bool := lam Tryz.prog A_laws_eqRoleGrantS In_laws_eqRoleGrantS (conOf cs_laws_eqRoleGrantS) Tryz.f38 (Tryz.f38.body.getD .skip) (packT [.bool]) n [0, 4] [.d (.list TyRoleGrant) x1, .d (.list TyRoleGrant) x2, .d I64 x3]
theorem F_laws_eqRoleGrantS_eq (n : Nat) (a0 : (List DRoleGrant)) (a1 : (List DRoleGrant)) : F_laws_eqRoleGrantS n a0 a1 =
    bif !decide ((a0.length : Int) = (a1.length : Int)) then
      some false
    else
      L_laws_eqRoleGrantS_0_4 n a0 a1 0 := by kernel_rfl
theorem L_laws_eqRoleGrantS_0_4_eq (n : Nat) (x1 : (List DRoleGrant)) (x2 : (List DRoleGrant)) (x3 : Int) : L_laws_eqRoleGrantS_0_4 (n + 1) x1 x2 x3 =
    bif decide (x3 < (x1.length : Int)) then
      bif inB x3 x1.length then
        bif inB x3 x2.length then
          Option.bind (eqC TyRoleGrant (rd x1 x3 (Ty.dflt TyRoleGrant)) (rd x2 x3 (Ty.dflt TyRoleGrant))) fun (y1 : Bool) =>
          bif !(y1) then
            some false
          else
            L_laws_eqRoleGrantS_0_4 n x1 x2 (IntKind.wrap .i64 (x3 + 1))
        else none
      else none
    else
      some true := by kernel_rfl
theorem mk_laws_eqRoleGrantS (hcs : ∀ x ∈ cs_laws_eqRoleGrantS, CtrOk Tryz.prog x) (h : ∀ (a0 : (List DRoleGrant)) (a1 : (List DRoleGrant)) y, eqC (.list TyRoleGrant) a0 a1 = some y → ∃ n, F_laws_eqRoleGrantS n a0 a1 = some y) : CtrOk Tryz.prog c_laws_eqRoleGrantS := by
  refine ctr_of_run (c := c_laws_eqRoleGrantS) (by kernel_rfl) (by kernel_rfl : Tryz.prog.funcs[38]? = some Tryz.f38) (code := Tryz.f38.body.getD .skip) (by kernel_rfl) (by kernel_rfl) (by kernel_rfl) (A := A_laws_eqRoleGrantS) (I := In_laws_eqRoleGrantS) hcs ?_
  rintro ⟨a0, a1, u⟩ y hy
  exact h a0 a1 y hy

theorem hcs_laws_eqRoleGrantS : ∀ x ∈ cs_laws_eqRoleGrantS, CtrOk Tryz.prog x := (conOf_cons ok_laws_eqRoleGrant conOf_nil)
theorem ok_laws_eqRoleGrantS : CtrOk Tryz.prog c_laws_eqRoleGrantS := mk_laws_eqRoleGrantS hcs_laws_eqRoleGrantS fun a0 a1 y hy => by
  obtain ⟨n, hn⟩ := eqS_ok (t := TyRoleGrant) (body := fun x y K => Option.bind (eqC TyRoleGrant x y) fun b => bif !b then some false else K ()) (fun x K h => by simp only [eqC_some h, Option.bind_some, Bool.not_true, cond_false]) (fun n xs ys i => L_laws_eqRoleGrantS_0_4_eq n xs ys i) hy
  exact ⟨n, (F_laws_eqRoleGrantS_eq n a0 a1).trans hn⟩
/-! ## laws.eqRoleSession (71) -/
noncomputable def c_laws_eqRoleSession : Ctr := ⟨71, [TyRoleSession, TyRoleSession], [.bool], fun x => eqC TyRoleSession x.1 x.2.1⟩
def A_laws_eqRoleSession : List (List Nat × Ann) := []
def In_laws_eqRoleSession : List (List Nat × Nat) := []
noncomputable def cs_laws_eqRoleSession : List Ctr := [c_laws_eqStringS, c_laws_eqRoleGrantS]
noncomputable def F_laws_eqRoleSession (n : Nat) (a0 : DRoleSession) (a1 : DRoleSession) : Option Bool := run Tryz.prog A_laws_eqRoleSession In_laws_eqRoleSession (conOf cs_laws_eqRoleSession) Tryz.f71 (Tryz.f71.body.getD .skip) (packT [.bool]) n (argsV [TyRoleSession, TyRoleSession] (a0, a1, ()))
theorem F_laws_eqRoleSession_eq (n : Nat) (a0 : DRoleSession) (a1 : DRoleSession) : F_laws_eqRoleSession n a0 a1 =
    bif !decide (a0.1 = a1.1) then
      some false
    else
      bif !decide (a0.2.1 = a1.2.1) then
        some false
      else
        Option.bind (eqC (.list .str) a0.2.2.1 a1.2.2.1) fun (y1 : Bool) =>
        bif !(y1) then
          some false
        else
          Option.bind (eqC (.list TyRoleGrant) a0.2.2.2.1 a1.2.2.2.1) fun (y2 : Bool) =>
          bif !(y2) then
            some false
          else
            bif a0.2.2.2.2 != a1.2.2.2.2 then
              some false
            else
              some true := by kernel_rfl
theorem mk_laws_eqRoleSession (hcs : ∀ x ∈ cs_laws_eqRoleSession, CtrOk Tryz.prog x) (h : ∀ (a0 : DRoleSession) (a1 : DRoleSession) y, eqC TyRoleSession a0 a1 = some y → ∃ n, F_laws_eqRoleSession n a0 a1 = some y) : CtrOk Tryz.prog c_laws_eqRoleSession := by
  refine ctr_of_run (c := c_laws_eqRoleSession) (by kernel_rfl) (by kernel_rfl : Tryz.prog.funcs[71]? = some Tryz.f71) (code := Tryz.f71.body.getD .skip) (by kernel_rfl) (by kernel_rfl) (by kernel_rfl) (A := A_laws_eqRoleSession) (I := In_laws_eqRoleSession) hcs ?_
  rintro ⟨a0, a1, u⟩ y hy
  exact h a0 a1 y hy

theorem hcs_laws_eqRoleSession : ∀ x ∈ cs_laws_eqRoleSession, CtrOk Tryz.prog x := (conOf_cons ok_laws_eqStringS (conOf_cons ok_laws_eqRoleGrantS conOf_nil))
theorem ok_laws_eqRoleSession : CtrOk Tryz.prog c_laws_eqRoleSession := mk_laws_eqRoleSession hcs_laws_eqRoleSession fun a0 a1 y hy => by
  obtain ⟨rfl, hw, rfl⟩ := eqC_inv hy
  have hw2 : wfD .str a0.1 ∧ wfD .str a0.2.1 ∧ wfD (.list .str) a0.2.2.1 ∧ wfD (.list TyRoleGrant) a0.2.2.2.1 ∧ wfD .bool a0.2.2.2.2 := hw
  refine ⟨0, ?_⟩
  rw [F_laws_eqRoleSession_eq]
  simp [eqC_some hw2.2.2.1, eqC_some hw2.2.2.2.1]
/-! ## laws.eqRoleSessionS (39) -/
noncomputable def c_laws_eqRoleSessionS : Ctr := ⟨39, [(.list TyRoleSession), (.list TyRoleSession)], [.bool], fun x => eqC (.list TyRoleSession) x.1 x.2.1⟩
def A_laws_eqRoleSessionS : List (List Nat × Ann) := [([0, 4], [.keep 0 0, .keep 0 1, .keep 0 5])]
def In_laws_eqRoleSessionS : List (List Nat × Nat) := []
noncomputable def cs_laws_eqRoleSessionS : List Ctr := [c_laws_eqRoleSession]
noncomputable def F_laws_eqRoleSessionS (n : Nat) (a0 : (List DRoleSession)) (a1 : (List DRoleSession)) : Option Bool := run Tryz.prog A_laws_eqRoleSessionS In_laws_eqRoleSessionS (conOf cs_laws_eqRoleSessionS) Tryz.f39 (Tryz.f39.body.getD .skip) (packT [.bool]) n (argsV [(.list TyRoleSession), (.list TyRoleSession)] (a0, a1, ()))
noncomputable abbrev L_laws_eqRoleSessionS_0_4 (n : Nat) (x1 : (List DRoleSession)) (x2 : (List DRoleSession)) (x3 : Int) : Option Bool := lam Tryz.prog A_laws_eqRoleSessionS In_laws_eqRoleSessionS (conOf cs_laws_eqRoleSessionS) Tryz.f39 (Tryz.f39.body.getD .skip) (packT [.bool]) n [0, 4] [.d (.list TyRoleSession) x1, .d (.list TyRoleSession) x2, .d I64 x3]
theorem F_laws_eqRoleSessionS_eq (n : Nat) (a0 : (List DRoleSession)) (a1 : (List DRoleSession)) : F_laws_eqRoleSessionS n a0 a1 =
    bif !decide ((a0.length : Int) = (a1.length : Int)) then
      some false
    else
      L_laws_eqRoleSessionS_0_4 n a0 a1 0 := by kernel_rfl
theorem L_laws_eqRoleSessionS_0_4_eq (n : Nat) (x1 : (List DRoleSession)) (x2 : (List DRoleSession)) (x3 : Int) : L_laws_eqRoleSessionS_0_4 (n + 1) x1 x2 x3 =
    bif decide (x3 < (x1.length : Int)) then
      bif inB x3 x1.length then
        bif inB x3 x2.length then
          Option.bind (eqC TyRoleSession (rd x1 x3 (Ty.dflt TyRoleSession)) (rd x2 x3 (Ty.dflt TyRoleSession))) fun (y1 : Bool) =>
          bif !(y1) then
            some false
          else
            L_laws_eqRoleSessionS_0_4 n x1 x2 (IntKind.wrap .i64 (x3 + 1))
        else none
      else none
    else
      some true := by kernel_rfl
theorem mk_laws_eqRoleSessionS (hcs : ∀ x ∈ cs_laws_eqRoleSessionS, CtrOk Tryz.prog x) (h : ∀ (a0 : (List DRoleSession)) (a1 : (List DRoleSession)) y, eqC (.list TyRoleSession) a0 a1 = some y → ∃ n, F_laws_eqRoleSessionS n a0 a1 = some y) : CtrOk Tryz.prog c_laws_eqRoleSessionS := by
  refine ctr_of_run (c := c_laws_eqRoleSessionS) (by kernel_rfl) (by kernel_rfl : Tryz.prog.funcs[39]? = some Tryz.f39) (code := Tryz.f39.body.getD .skip) (by kernel_rfl) (by kernel_rfl) (by kernel_rfl) (A := A_laws_eqRoleSessionS) (I := In_laws_eqRoleSessionS) hcs ?_
  rintro ⟨a0, a1, u⟩ y hy
  exact h a0 a1 y hy

theorem hcs_laws_eqRoleSessionS : ∀ x ∈ cs_laws_eqRoleSessionS, CtrOk Tryz.prog x := (conOf_cons ok_laws_eqRoleSession conOf_nil)
theorem ok_laws_eqRoleSessionS : CtrOk Tryz.prog c_laws_eqRoleSessionS := mk_laws_eqRoleSessionS hcs_laws_eqRoleSessionS fun a0 a1 y hy => by
  obtain ⟨n, hn⟩ := eqS_ok (t := TyRoleSession) (body := fun x y K => Option.bind (eqC TyRoleSession x y) fun b => bif !b then some false else K ()) (fun x K h => by simp only [eqC_some h, Option.bind_some, Bool.not_true, cond_false]) (fun n xs ys i => L_laws_eqRoleSessionS_0_4_eq n xs ys i) hy
  exact ⟨n, (F_laws_eqRoleSessionS_eq n a0 a1).trans hn⟩
/-! ## laws.eqRoleState (12) -/
noncomputable def c_laws_eqRoleState : Ctr := ⟨12, [TyRoleState, TyRoleState], [.bool], fun x => eqC TyRoleState x.1 x.2.1⟩
def A_laws_eqRoleState : List (List Nat × Ann) := []
def In_laws_eqRoleState : List (List Nat × Nat) := []
noncomputable def cs_laws_eqRoleState : List Ctr := [c_laws_eqIntS, c_laws_eqRoleGrantS, c_laws_eqRoleSessionS]
noncomputable def F_laws_eqRoleState (n : Nat) (a0 : DRoleState) (a1 : DRoleState) : Option Bool := run Tryz.prog A_laws_eqRoleState In_laws_eqRoleState (conOf cs_laws_eqRoleState) Tryz.f12 (Tryz.f12.body.getD .skip) (packT [.bool]) n (argsV [TyRoleState, TyRoleState] (a0, a1, ()))
theorem F_laws_eqRoleState_eq (n : Nat) (a0 : DRoleState) (a1 : DRoleState) : F_laws_eqRoleState n a0 a1 =
    Option.bind (eqC (.list I64) a0.1 a1.1) fun (y1 : Bool) =>
    bif !(y1) then
      some false
    else
      Option.bind (eqC (.list TyRoleGrant) a0.2.1 a1.2.1) fun (y2 : Bool) =>
      bif !(y2) then
        some false
      else
        Option.bind (eqC (.list TyRoleSession) a0.2.2.1 a1.2.2.1) fun (y3 : Bool) =>
        bif !(y3) then
          some false
        else
          bif !decide (a0.2.2.2 = a1.2.2.2) then
            some false
          else
            some true := by kernel_rfl
theorem mk_laws_eqRoleState (hcs : ∀ x ∈ cs_laws_eqRoleState, CtrOk Tryz.prog x) (h : ∀ (a0 : DRoleState) (a1 : DRoleState) y, eqC TyRoleState a0 a1 = some y → ∃ n, F_laws_eqRoleState n a0 a1 = some y) : CtrOk Tryz.prog c_laws_eqRoleState := by
  refine ctr_of_run (c := c_laws_eqRoleState) (by kernel_rfl) (by kernel_rfl : Tryz.prog.funcs[12]? = some Tryz.f12) (code := Tryz.f12.body.getD .skip) (by kernel_rfl) (by kernel_rfl) (by kernel_rfl) (A := A_laws_eqRoleState) (I := In_laws_eqRoleState) hcs ?_
  rintro ⟨a0, a1, u⟩ y hy
  exact h a0 a1 y hy

theorem hcs_laws_eqRoleState : ∀ x ∈ cs_laws_eqRoleState, CtrOk Tryz.prog x := (conOf_cons ok_laws_eqIntS (conOf_cons ok_laws_eqRoleGrantS (conOf_cons ok_laws_eqRoleSessionS conOf_nil)))
theorem ok_laws_eqRoleState : CtrOk Tryz.prog c_laws_eqRoleState := mk_laws_eqRoleState hcs_laws_eqRoleState fun a0 a1 y hy => by
  obtain ⟨rfl, hw, rfl⟩ := eqC_inv hy
  have hw2 : wfD (.list I64) a0.1 ∧ wfD (.list TyRoleGrant) a0.2.1 ∧ wfD (.list TyRoleSession) a0.2.2.1 ∧ wfD I64 a0.2.2.2 := hw
  refine ⟨0, ?_⟩
  rw [F_laws_eqRoleState_eq]
  simp [eqC_some hw2.1, eqC_some hw2.2.1, eqC_some hw2.2.2.1]
/-! ## laws.FnExactAuthorised (3) -/
noncomputable def P_laws_FnExactAuthorised_1_25 (x1 : (List Int)) (x2 : Int) (x3 : (List (List Int))) (x4 : (List (List Int))) (x5 : DRoleSet) (x6 : DRoleState) : Option Bool :=
  Option.bind (markC (.list .str) x4 1) fun (y17 : (Int × (List (List Int)))) =>
  Option.bind (P_laws_heldStringS y17.2 1) fun (y18 : Int) =>
  bif decide (y18 < 0) then
    some false
  else
    bif !decide (y18 = y17.1) then
      some false
    else
      Option.bind (toC TyRoleSet x5) fun (y19 : DRoleSet) =>
      Option.bind (toC TyRoleState x6) fun (y20 : DRoleState) =>
      Option.bind (P_impl_Authorised y19 y20 x1 x2) fun (y21 : (List (List Int))) =>
      Option.bind (eqC (.list .str) y21 x3) fun (y22 : Bool) =>
      bif !(y22) then
        some false
      else
        Option.bind (P_laws_heldStringS y17.2 1) fun (y23 : Int) =>
        bif decide (y23 < 0) then
          some false
        else
          bif !decide (y23 = y17.1) then
            some false
          else
            some true
noncomputable def P_laws_FnExactAuthorised (a0 : DRoleSet) (a1 : DRoleState) (a2 : (List Int)) (a3 : Int) : Option Bool :=
  bif decide ((1048576 : Int) < (a2.length : Int)) then
    some true
  else
    Option.bind (szC TyRoleSet a0 1048576) fun (y1 : Int) =>
    bif decide (y1 < 0) then
      some true
    else
      Option.bind (szC TyRoleState a1 y1) fun (y2 : Int) =>
      bif decide (y2 < 0) then
        some true
      else
        Option.bind (toC TyRoleSet a0) fun (y3 : DRoleSet) =>
        Option.bind (toC TyRoleState a1) fun (y4 : DRoleState) =>
        Option.bind (P_spec_Authorised y3 y4 a2 a3) fun (y5 : (List (List Int))) =>
        Option.bind (toC TyRoleSet a0) fun (y6 : DRoleSet) =>
        Option.bind (toC TyRoleState a1) fun (y7 : DRoleState) =>
        Option.bind (P_impl_Authorised y6 y7 a2 a3) fun (y8 : (List (List Int))) =>
        Option.bind (eqC (.list .str) y8 y5) fun (y9 : Bool) =>
        bif !(y9) then
          some false
        else
          Option.bind (toC TyRoleSet a0) fun (y10 : DRoleSet) =>
          Option.bind (eqC TyRoleSet y6 y10) fun (y11 : Bool) =>
          bif !(y11) then
            some false
          else
            Option.bind (toC TyRoleState a1) fun (y12 : DRoleState) =>
            Option.bind (eqC TyRoleState y7 y12) fun (y13 : Bool) =>
            bif !(y13) then
              some false
            else
              Option.bind (markC TyRoleSet y6 1) fun (y14 : (Int × DRoleSet)) =>
              Option.bind (markC TyRoleState y7 y14.1) fun (y15 : (Int × DRoleState)) =>
              bif decide (y15.1 < 0) then
                some false
              else
                Option.bind (eqC (.list .str) y8 y5) fun (y16 : Bool) =>
                bif !(y16) then
                  some false
                else
                  P_laws_FnExactAuthorised_1_25 a2 a3 y5 y8 a0 a1
def A_laws_FnExactAuthorised : List (List Nat × Ann) := [([1, 25], [.keep 0 2, .keep 0 3, .keep 0 4, .keep 0 5, .keep 0 10, .drb 0 13 .str, .boxd 0 4 TyRoleSet, .boxd 0 5 TyRoleState])]
def In_laws_FnExactAuthorised : List (List Nat × Nat) := [([11001], 2000007), ([12001], 2000008), ([13004], 2000009), ([21002], 3000013), ([22002], 3000014), ([26002], 3000015)]
noncomputable def cs_laws_FnExactAuthorised : List Ctr := [c_laws_szRoleSet, c_laws_szRoleState, c_laws_toRoleSet, c_laws_toRoleState, c_spec_Authorised, cd_laws_toRoleSet, cd_laws_toRoleState, cd_impl_Authorised, c_laws_eqStringS, c_laws_eqRoleSet, c_laws_eqRoleState, ch_laws_markRoleSet, ch_laws_markRoleState, ch_laws_markStringS, c_laws_heldStringS, c_impl_Authorised]
noncomputable def F_laws_FnExactAuthorised (n : Nat) (a0 : DRoleSet) (a1 : DRoleState) (a2 : (List Int)) (a3 : Int) : Option Bool := run Tryz.prog A_laws_FnExactAuthorised In_laws_FnExactAuthorised (conOf cs_laws_FnExactAuthorised) Tryz.f3 (Tryz.f3.body.getD .skip) (packT [.bool]) n (argsV [TyRoleSet, TyRoleState, .str, I64] (a0, a1, a2, a3, ()))
noncomputable abbrev L_laws_FnExactAuthorised_1_25 (n : Nat) (x1 : (List Int)) (x2 : Int) (x3 : (List (List Int))) (x4 : (List (List Int))) (x5 : DRoleSet) (x6 : DRoleState) : Option Bool := lam Tryz.prog A_laws_FnExactAuthorised In_laws_FnExactAuthorised (conOf cs_laws_FnExactAuthorised) Tryz.f3 (Tryz.f3.body.getD .skip) (packT [.bool]) n [1, 25] [.d .str x1, .d I64 x2, .ptr 0 4 0, .ptr 0 5 0, .d (.list .str) x3, .d (.list .str) x4, .agg (explode TyRoleSet x5), .agg (explode TyRoleState x6)]
theorem F_laws_FnExactAuthorised_eq (n : Nat) (a0 : DRoleSet) (a1 : DRoleState) (a2 : (List Int)) (a3 : Int) : F_laws_FnExactAuthorised n a0 a1 a2 a3 =
    bif decide ((1048576 : Int) < (a2.length : Int)) then
      some true
    else
      Option.bind (szC TyRoleSet a0 1048576) fun (y1 : Int) =>
      bif decide (y1 < 0) then
        some true
      else
        Option.bind (szC TyRoleState a1 y1) fun (y2 : Int) =>
        bif decide (y2 < 0) then
          some true
        else
          Option.bind (toC TyRoleSet a0) fun (y3 : DRoleSet) =>
          Option.bind (toC TyRoleState a1) fun (y4 : DRoleState) =>
          Option.bind (P_spec_Authorised y3 y4 a2 a3) fun (y5 : (List (List Int))) =>
          Option.bind (toC TyRoleSet a0) fun (y6 : DRoleSet) =>
          Option.bind (toC TyRoleState a1) fun (y7 : DRoleState) =>
          Option.bind (P_impl_Authorised y6 y7 a2 a3) fun (y8 : (List (List Int))) =>
          Option.bind (eqC (.list .str) y8 y5) fun (y9 : Bool) =>
          bif !(y9) then
            some false
          else
            Option.bind (toC TyRoleSet a0) fun (y10 : DRoleSet) =>
            Option.bind (eqC TyRoleSet y6 y10) fun (y11 : Bool) =>
            bif !(y11) then
              some false
            else
              Option.bind (toC TyRoleState a1) fun (y12 : DRoleState) =>
              Option.bind (eqC TyRoleState y7 y12) fun (y13 : Bool) =>
              bif !(y13) then
                some false
              else
                Option.bind (markC TyRoleSet y6 1) fun (y14 : (Int × DRoleSet)) =>
                Option.bind (markC TyRoleState y7 y14.1) fun (y15 : (Int × DRoleState)) =>
                bif decide (y15.1 < 0) then
                  some false
                else
                  Option.bind (eqC (.list .str) y8 y5) fun (y16 : Bool) =>
                  bif !(y16) then
                    some false
                  else
                    L_laws_FnExactAuthorised_1_25 n a2 a3 y5 y8 a0 a1 := by kernel_rfl
theorem L_laws_FnExactAuthorised_1_25_eq (n : Nat) (x1 : (List Int)) (x2 : Int) (x3 : (List (List Int))) (x4 : (List (List Int))) (x5 : DRoleSet) (x6 : DRoleState) : L_laws_FnExactAuthorised_1_25 (n + 1) x1 x2 x3 x4 x5 x6 =
    Option.bind (markC (.list .str) x4 1) fun (y17 : (Int × (List (List Int)))) =>
    Option.bind (P_laws_heldStringS y17.2 1) fun (y18 : Int) =>
    bif decide (y18 < 0) then
      some false
    else
      bif !decide (y18 = y17.1) then
        some false
      else
        Option.bind (toC TyRoleSet x5) fun (y19 : DRoleSet) =>
        Option.bind (toC TyRoleState x6) fun (y20 : DRoleState) =>
        Option.bind (P_impl_Authorised y19 y20 x1 x2) fun (y21 : (List (List Int))) =>
        Option.bind (eqC (.list .str) y21 x3) fun (y22 : Bool) =>
        bif !(y22) then
          some false
        else
          Option.bind (P_laws_heldStringS y17.2 1) fun (y23 : Int) =>
          bif decide (y23 < 0) then
            some false
          else
            bif !decide (y23 = y17.1) then
              some false
            else
              some true := by kernel_rfl
theorem S_laws_FnExactAuthorised_1_25 {x1 : (List Int)} {x2 : Int} {x3 : (List (List Int))} {x4 : (List (List Int))} {x5 : DRoleSet} {x6 : DRoleState} {r : Bool} (h : P_laws_FnExactAuthorised_1_25 x1 x2 x3 x4 x5 x6 = some r) : Ev (fun n => L_laws_FnExactAuthorised_1_25 n x1 x2 x3 x4 x5 x6) r := by
  rw [P_laws_FnExactAuthorised_1_25] at h
  refine Ev.step ?_ (fun n => L_laws_FnExactAuthorised_1_25_eq n x1 x2 x3 x4 x5 x6)
  exact (Ev.ofBind h fun y17 h => (Ev.ofBind h fun y18 h => (Ev.ofBif h (fun h => (Ev.ofSome h)) (fun h => (Ev.ofBif h (fun h => (Ev.ofSome h)) (fun h => (Ev.ofBind h fun y19 h => (Ev.ofBind h fun y20 h => (Ev.ofBind h fun y21 h => (Ev.ofBind h fun y22 h => (Ev.ofBif h (fun h => (Ev.ofSome h)) (fun h => (Ev.ofBind h fun y23 h => (Ev.ofBif h (fun h => (Ev.ofSome h)) (fun h => (Ev.ofBif h (fun h => (Ev.ofSome h)) (fun h => (Ev.ofSome h))))))))))))))))))
theorem S_laws_FnExactAuthorised (a0 : DRoleSet) (a1 : DRoleState) (a2 : (List Int)) (a3 : Int) {r : Bool} (h : P_laws_FnExactAuthorised a0 a1 a2 a3 = some r) : Ev (fun n => F_laws_FnExactAuthorised n a0 a1 a2 a3) r := by
  rw [P_laws_FnExactAuthorised] at h
  refine Ev.of_eq ?_ (fun n => F_laws_FnExactAuthorised_eq n a0 a1 a2 a3)
  exact (Ev.ofBif h (fun h => (Ev.ofSome h)) (fun h => (Ev.ofBind h fun y1 h => (Ev.ofBif h (fun h => (Ev.ofSome h)) (fun h => (Ev.ofBind h fun y2 h => (Ev.ofBif h (fun h => (Ev.ofSome h)) (fun h => (Ev.ofBind h fun y3 h => (Ev.ofBind h fun y4 h => (Ev.ofBind h fun y5 h => (Ev.ofBind h fun y6 h => (Ev.ofBind h fun y7 h => (Ev.ofBind h fun y8 h => (Ev.ofBind h fun y9 h => (Ev.ofBif h (fun h => (Ev.ofSome h)) (fun h => (Ev.ofBind h fun y10 h => (Ev.ofBind h fun y11 h => (Ev.ofBif h (fun h => (Ev.ofSome h)) (fun h => (Ev.ofBind h fun y12 h => (Ev.ofBind h fun y13 h => (Ev.ofBif h (fun h => (Ev.ofSome h)) (fun h => (Ev.ofBind h fun y14 h => (Ev.ofBind h fun y15 h => (Ev.ofBif h (fun h => (Ev.ofSome h)) (fun h => (Ev.ofBind h fun y16 h => (Ev.ofBif h (fun h => (Ev.ofSome h)) (fun h => (S_laws_FnExactAuthorised_1_25 h)))))))))))))))))))))))))))))))))

end Go.Ab
