/- generated -/
import Derived.Test.YtpnloaokfmcpcaaGreatDoorGenWorlda
import Derived.Test.YtpnloaokfmcpcaaGreatDoorProg
import Derived.KernelRfl
namespace Go.Ab
open Go.Proofs
set_option maxRecDepth 20000
/-! ## cmp.isNaN[string] (219) -/
noncomputable def T_cmp_isNaN_string (a0 : (List Int)) : Bool :=
  !decide (a0 = a0)
noncomputable def c_cmp_isNaN_string : Ctr := ⟨219, [.str], [.bool], fun x => some (T_cmp_isNaN_string x.1)⟩
def A_cmp_isNaN_string : List (List Nat × Ann) := []
def In_cmp_isNaN_string : List (List Nat × Nat) := []
noncomputable def cs_cmp_isNaN_string : List Ctr := []
noncomputable def F_cmp_isNaN_string (n : Nat) (a0 : (List Int)) : Option Bool := run Tryz.prog A_cmp_isNaN_string In_cmp_isNaN_string (conOf cs_cmp_isNaN_string) Tryz.f219 (Tryz.f219.body.getD .skip) (packT [.bool]) n (argsV [.str] (a0, ()))
theorem F_cmp_isNaN_string_eq (n : Nat) (a0 : (List Int)) : F_cmp_isNaN_string n a0 =
    some (!decide (a0 = a0)) := by kernel_rfl
theorem S_cmp_isNaN_string (n : Nat) (a0 : (List Int)) : F_cmp_isNaN_string n a0 = some (T_cmp_isNaN_string a0) := (F_cmp_isNaN_string_eq n a0).trans rfl
theorem hcs_cmp_isNaN_string : ∀ x ∈ cs_cmp_isNaN_string, CtrOk Tryz.prog x := conOf_nil
theorem ok_cmp_isNaN_string : CtrOk Tryz.prog (c_cmp_isNaN_string) := by
  refine ctr_of_run (c := c_cmp_isNaN_string) (by kernel_rfl) (by kernel_rfl : Tryz.prog.funcs[219]? = some Tryz.f219) (code := Tryz.f219.body.getD .skip) (by kernel_rfl) (by kernel_rfl) (by kernel_rfl) (A := A_cmp_isNaN_string) (I := In_cmp_isNaN_string) (hcs_cmp_isNaN_string) ?_
  rintro ⟨a0, u⟩ y hy
  exact ⟨0, (S_cmp_isNaN_string 0 a0).trans hy⟩

/-! ## cmp.Compare[string] (178) -/
noncomputable def T_cmp_Compare_string (a0 : (List Int)) (a1 : (List Int)) : Int :=
  bif T_cmp_isNaN_string a0 then
    bif T_cmp_isNaN_string a1 then
      0
    else
      (-1)
  else
    bif T_cmp_isNaN_string a1 then
      1
    else
      bif lessI a0 a1 then
        (-1)
      else
        bif lessI a1 a0 then
          1
        else
          0
noncomputable def c_cmp_Compare_string : Ctr := ⟨178, [.str, .str], [I64], fun x => some (T_cmp_Compare_string x.1 x.2.1)⟩
def A_cmp_Compare_string : List (List Nat × Ann) := []
def In_cmp_Compare_string : List (List Nat × Nat) := []
noncomputable def cs_cmp_Compare_string : List Ctr := [c_cmp_isNaN_string]
noncomputable def F_cmp_Compare_string (n : Nat) (a0 : (List Int)) (a1 : (List Int)) : Option Int := run Tryz.prog A_cmp_Compare_string In_cmp_Compare_string (conOf cs_cmp_Compare_string) Tryz.f178 (Tryz.f178.body.getD .skip) (packT [I64]) n (argsV [.str, .str] (a0, a1, ()))
theorem F_cmp_Compare_string_eq (n : Nat) (a0 : (List Int)) (a1 : (List Int)) : F_cmp_Compare_string n a0 a1 =
    bif T_cmp_isNaN_string a0 then
      bif T_cmp_isNaN_string a1 then
        some 0
      else
        some (-1)
    else
      bif T_cmp_isNaN_string a1 then
        some 1
      else
        bif lessI a0 a1 then
          some (-1)
        else
          bif lessI a1 a0 then
            some 1
          else
            some 0 := by kernel_rfl
theorem S_cmp_Compare_string (n : Nat) (a0 : (List Int)) (a1 : (List Int)) : F_cmp_Compare_string n a0 a1 = some (T_cmp_Compare_string a0 a1) := (F_cmp_Compare_string_eq n a0 a1).trans (cond_some (cond_some rfl rfl) (cond_some rfl (cond_some rfl (cond_some rfl rfl))))
theorem hcs_cmp_Compare_string : ∀ x ∈ cs_cmp_Compare_string, CtrOk Tryz.prog x := (conOf_cons ok_cmp_isNaN_string conOf_nil)
theorem ok_cmp_Compare_string : CtrOk Tryz.prog (c_cmp_Compare_string) := by
  refine ctr_of_run (c := c_cmp_Compare_string) (by kernel_rfl) (by kernel_rfl : Tryz.prog.funcs[178]? = some Tryz.f178) (code := Tryz.f178.body.getD .skip) (by kernel_rfl) (by kernel_rfl) (by kernel_rfl) (A := A_cmp_Compare_string) (I := In_cmp_Compare_string) (hcs_cmp_Compare_string) ?_
  rintro ⟨a0, a1, u⟩ y hy
  exact ⟨0, (S_cmp_Compare_string 0 a0 a1).trans hy⟩

/-! ## cmp.Or[int] (176) -/
noncomputable def P_cmp_Or_int_0_3 : List Int → Option Int
  | [] =>
      some (0 : Int)
  | e :: rest =>
      bif !decide (e = (0 : Int)) then
        some e
      else
        P_cmp_Or_int_0_3 rest
noncomputable def P_cmp_Or_int (a0 : (List Int)) : Option Int :=
  lenOk a0 (P_cmp_Or_int_0_3 a0)
noncomputable def c_cmp_Or_int : Ctr := ⟨176, [(.list I64)], [I64], fun x => P_cmp_Or_int x.1⟩
def A_cmp_Or_int : List (List Nat × Ann) := [([0, 3], [.keep 0 3, .keep 0 6, .keep 0 7, .keep 0 8])]
def In_cmp_Or_int : List (List Nat × Nat) := []
noncomputable def cs_cmp_Or_int : List Ctr := []
noncomputable def F_cmp_Or_int (n : Nat) (a0 : (List Int)) : Option Int := run Tryz.prog A_cmp_Or_int In_cmp_Or_int (conOf cs_cmp_Or_int) Tryz.f176 (Tryz.f176.body.getD .skip) (packT [I64]) n (argsV [(.list I64)] (a0, ()))
noncomputable abbrev L_cmp_Or_int_0_3 (n : Nat) (x1 : Int) (x2 : (List Int)) (x3 : Int) (x4 : Int) : Option Int := lam Tryz.prog A_cmp_Or_int In_cmp_Or_int (conOf cs_cmp_Or_int) Tryz.f176 (Tryz.f176.body.getD .skip) (packT [I64]) n [0, 3] [.d I64 x1, .d (.list I64) x2, .d I64 x3, .d I64 x4]
theorem F_cmp_Or_int_eq (n : Nat) (a0 : (List Int)) : F_cmp_Or_int n a0 =
    L_cmp_Or_int_0_3 n 0 a0 (a0.length : Int) 0 := by kernel_rfl
theorem L_cmp_Or_int_0_3_eq (n : Nat) (x1 : Int) (x2 : (List Int)) (x3 : Int) (x4 : Int) : L_cmp_Or_int_0_3 (n + 1) x1 x2 x3 x4 =
    bif decide (x4 < x3) then
      bif inB x4 x2.length then
        bif !decide (rd x2 x4 (Ty.dflt I64) = x1) then
          some (rd x2 x4 (Ty.dflt I64))
        else
          L_cmp_Or_int_0_3 n x1 x2 x3 (IntKind.wrap .i64 (x4 + 1))
      else none
    else
      some x1 := by kernel_rfl
theorem S_cmp_Or_int_0_3 {x2 : (List Int)} (hl : x2.length ≤ maxLen) : ∀ (rest : List Int) (k : Nat) (r : Int), rest = x2.drop k → P_cmp_Or_int_0_3 rest = some r → Ev (fun n => L_cmp_Or_int_0_3 n (0 : Int) x2 (x2.length : Int) (k : Int)) r := by
  intro rest
  induction rest with
  | nil =>
    intro k r hr h
    have hk := drop_nil hr
    rw [P_cmp_Or_int_0_3] at h
    refine Ev.step ?_ (fun n => L_cmp_Or_int_0_3_eq n (0 : Int) x2 (x2.length : Int) (k : Int))
    rw [show decide ((k : Int) < (x2.length : Int)) = false from decide_eq_false (by omega)]
    exact Ev.neg rfl (Ev.ofSome h)
  | cons e rest ih =>
    intro k r hr h
    obtain ⟨hk, hx, hr2⟩ := drop_cons (d := (Ty.dflt I64)) hr
    have hw := wrap_succ hl hk
    have ih2 : ∀ (r : Int), P_cmp_Or_int_0_3 rest = some r → Ev (fun n => L_cmp_Or_int_0_3 n (0 : Int) x2 (x2.length : Int) (IntKind.wrap .i64 ((k : Int) + 1))) r := by
      intro r h; rw [hw]; exact ih (k + 1) r hr2 h
    rw [P_cmp_Or_int_0_3] at h
    refine Ev.step ?_ (fun n => L_cmp_Or_int_0_3_eq n (0 : Int) x2 (x2.length : Int) (k : Int))
    rw [show decide ((k : Int) < (x2.length : Int)) = true from decide_eq_true (by omega), inB_nat2 hk, hx]
    exact Ev.pos rfl (Ev.pos rfl (Ev.ofBif h (fun h => (Ev.ofSome h)) (fun h => (ih2  _ h))))
theorem S_cmp_Or_int (a0 : (List Int)) {r : Int} (h : P_cmp_Or_int a0 = some r) : Ev (fun n => F_cmp_Or_int n a0) r := by
  rw [P_cmp_Or_int] at h
  refine Ev.of_eq ?_ (fun n => F_cmp_Or_int_eq n a0)
  exact (Ev.ofLen h fun hl h => S_cmp_Or_int_0_3 hl _ (0 : Nat) _ rfl h)
theorem hcs_cmp_Or_int : ∀ x ∈ cs_cmp_Or_int, CtrOk Tryz.prog x := conOf_nil
theorem ok_cmp_Or_int : CtrOk Tryz.prog (c_cmp_Or_int) := by
  refine ctr_of_run (c := c_cmp_Or_int) (by kernel_rfl) (by kernel_rfl : Tryz.prog.funcs[176]? = some Tryz.f176) (code := Tryz.f176.body.getD .skip) (by kernel_rfl) (by kernel_rfl) (by kernel_rfl) (A := A_cmp_Or_int) (I := In_cmp_Or_int) (hcs_cmp_Or_int) ?_
  rintro ⟨a0, u⟩ y hy
  exact (S_cmp_Or_int a0 hy).get

/-! ## impl.ycmpAtom (103) -/
noncomputable def P_impl_ycmpAtom (a0 : DAtom) (a1 : DAtom) : Option Int :=
  Option.bind (P_cmp_Or_int ([T_cmp_Compare_int a0.1 a1.1, T_cmp_Compare_int a0.2.1 a1.2.1, T_cmp_Compare_string a0.2.2.2 a1.2.2.2, T_cmp_Compare_string a0.2.2.1 a1.2.2.1] : List Int)) fun (y1 : Int) =>
  some y1
noncomputable def c_impl_ycmpAtom : Ctr := ⟨103, [TyAtom, TyAtom], [I64], fun x => P_impl_ycmpAtom x.1 x.2.1⟩
def A_impl_ycmpAtom : List (List Nat × Ann) := []
def In_impl_ycmpAtom : List (List Nat × Nat) := []
noncomputable def cs_impl_ycmpAtom : List Ctr := [c_cmp_Compare_int, c_cmp_Compare_string, c_cmp_Or_int]
noncomputable def F_impl_ycmpAtom (n : Nat) (a0 : DAtom) (a1 : DAtom) : Option Int := run Tryz.prog A_impl_ycmpAtom In_impl_ycmpAtom (conOf cs_impl_ycmpAtom) Tryz.f103 (Tryz.f103.body.getD .skip) (packT [I64]) n (argsV [TyAtom, TyAtom] (a0, a1, ()))
theorem F_impl_ycmpAtom_eq (n : Nat) (a0 : DAtom) (a1 : DAtom) : F_impl_ycmpAtom n a0 a1 =
    Option.bind (P_cmp_Or_int ([T_cmp_Compare_int a0.1 a1.1, T_cmp_Compare_int a0.2.1 a1.2.1, T_cmp_Compare_string a0.2.2.2 a1.2.2.2, T_cmp_Compare_string a0.2.2.1 a1.2.2.1] : List Int)) fun (y1 : Int) =>
    some y1 := by kernel_rfl
theorem S_impl_ycmpAtom (a0 : DAtom) (a1 : DAtom) {r : Int} (h : P_impl_ycmpAtom a0 a1 = some r) : Ev (fun n => F_impl_ycmpAtom n a0 a1) r := by
  rw [P_impl_ycmpAtom] at h
  refine Ev.of_eq ?_ (fun n => F_impl_ycmpAtom_eq n a0 a1)
  exact (Ev.ofBind h fun y1 h => (Ev.ofSome h))
theorem hcs_impl_ycmpAtom : ∀ x ∈ cs_impl_ycmpAtom, CtrOk Tryz.prog x := (conOf_cons ok_cmp_Compare_int (conOf_cons ok_cmp_Compare_string (conOf_cons ok_cmp_Or_int conOf_nil)))
theorem ok_impl_ycmpAtom : CtrOk Tryz.prog (c_impl_ycmpAtom) := by
  refine ctr_of_run (c := c_impl_ycmpAtom) (by kernel_rfl) (by kernel_rfl : Tryz.prog.funcs[103]? = some Tryz.f103) (code := Tryz.f103.body.getD .skip) (by kernel_rfl) (by kernel_rfl) (by kernel_rfl) (A := A_impl_ycmpAtom) (I := In_impl_ycmpAtom) (hcs_impl_ycmpAtom) ?_
  rintro ⟨a0, a1, u⟩ y hy
  exact (S_impl_ycmpAtom a0 a1 hy).get

/-! ## impl.yrisingAtoms (179) -/
noncomputable def P_impl_yrisingAtoms_0_2 (x1 : (List DAtom)) : List DAtom → Nat → Option Bool
  | [], k =>
      some true
  | e :: rest, k =>
      Option.bind (P_impl_GoodAtom (e)) fun (y1 : Bool) =>
      bif !(y1) then
        some false
      else
        bif decide ((0 : Int) < (k : Int)) then
          bif inB (IntKind.wrap .i64 ((k : Int) - 1)) x1.length then
            Option.bind (P_impl_ycmpAtom (rd x1 (IntKind.wrap .i64 ((k : Int) - 1)) (Ty.dflt TyAtom)) (e)) fun (y2 : Int) =>
            bif decide ((0 : Int) ≤ y2) then
              some false
            else
              P_impl_yrisingAtoms_0_2 x1 rest (k + 1)
          else none
        else
          P_impl_yrisingAtoms_0_2 x1 rest (k + 1)
noncomputable def P_impl_yrisingAtoms (a0 : (List DAtom)) : Option Bool :=
  lenOk a0 (P_impl_yrisingAtoms_0_2 a0 a0 0)
noncomputable def c_impl_yrisingAtoms : Ctr := ⟨179, [(.list TyAtom)], [.bool], fun x => P_impl_yrisingAtoms x.1⟩
def A_impl_yrisingAtoms : List (List Nat × Ann) := [([0, 2], [.keep 0 0, .keep 0 5, .keep 0 6, .keep 0 7])]
def In_impl_yrisingAtoms : List (List Nat × Nat) := []
noncomputable def cs_impl_yrisingAtoms : List Ctr := [c_impl_GoodAtom, c_impl_ycmpAtom]
noncomputable def F_impl_yrisingAtoms (n : Nat) (a0 : (List DAtom)) : Option Bool := run Tryz.prog A_impl_yrisingAtoms In_impl_yrisingAtoms (conOf cs_impl_yrisingAtoms) Tryz.f179 (Tryz.f179.body.getD .skip) (packT [.bool]) n (argsV [(.list TyAtom)] (a0, ()))
noncomputable abbrev L_impl_yrisingAtoms_0_2 (n : Nat) (x1 : (List DAtom)) (x2 : (List DAtom)) (x3 : Int) (x4 : Int) : Option Bool := lam Tryz.prog A_impl_yrisingAtoms In_impl_yrisingAtoms (conOf cs_impl_yrisingAtoms) Tryz.f179 (Tryz.f179.body.getD .skip) (packT [.bool]) n [0, 2] [.d (.list TyAtom) x1, .d (.list TyAtom) x2, .d I64 x3, .d I64 x4]
theorem F_impl_yrisingAtoms_eq (n : Nat) (a0 : (List DAtom)) : F_impl_yrisingAtoms n a0 =
    L_impl_yrisingAtoms_0_2 n a0 a0 (a0.length : Int) 0 := by kernel_rfl
theorem L_impl_yrisingAtoms_0_2_eq (n : Nat) (x1 : (List DAtom)) (x2 : (List DAtom)) (x3 : Int) (x4 : Int) : L_impl_yrisingAtoms_0_2 (n + 1) x1 x2 x3 x4 =
    bif decide (x4 < x3) then
      bif inB x4 x2.length then
        Option.bind (P_impl_GoodAtom (rd x2 x4 (Ty.dflt TyAtom))) fun (y1 : Bool) =>
        bif !(y1) then
          some false
        else
          bif decide ((0 : Int) < x4) then
            bif inB (IntKind.wrap .i64 (x4 - 1)) x1.length then
              Option.bind (P_impl_ycmpAtom (rd x1 (IntKind.wrap .i64 (x4 - 1)) (Ty.dflt TyAtom)) (rd x2 x4 (Ty.dflt TyAtom))) fun (y2 : Int) =>
              bif decide ((0 : Int) ≤ y2) then
                some false
              else
                L_impl_yrisingAtoms_0_2 n x1 x2 x3 (IntKind.wrap .i64 (x4 + 1))
            else none
          else
            L_impl_yrisingAtoms_0_2 n x1 x2 x3 (IntKind.wrap .i64 (x4 + 1))
      else none
    else
      some true := by kernel_rfl
theorem S_impl_yrisingAtoms_0_2 {x1 : (List DAtom)} (hl : x1.length ≤ maxLen) : ∀ (rest : List DAtom) (k : Nat) (r : Bool), rest = x1.drop k → P_impl_yrisingAtoms_0_2 x1 rest k = some r → Ev (fun n => L_impl_yrisingAtoms_0_2 n x1 x1 (x1.length : Int) (k : Int)) r := by
  intro rest
  induction rest with
  | nil =>
    intro k r hr h
    have hk := drop_nil hr
    rw [P_impl_yrisingAtoms_0_2] at h
    refine Ev.step ?_ (fun n => L_impl_yrisingAtoms_0_2_eq n x1 x1 (x1.length : Int) (k : Int))
    rw [show decide ((k : Int) < (x1.length : Int)) = false from decide_eq_false (by omega)]
    exact Ev.neg rfl (Ev.ofSome h)
  | cons e rest ih =>
    intro k r hr h
    obtain ⟨hk, hx, hr2⟩ := drop_cons (d := (Ty.dflt TyAtom)) hr
    have hw := wrap_succ hl hk
    have ih2 : ∀ (r : Bool), P_impl_yrisingAtoms_0_2 x1 rest (k + 1) = some r → Ev (fun n => L_impl_yrisingAtoms_0_2 n x1 x1 (x1.length : Int) (IntKind.wrap .i64 ((k : Int) + 1))) r := by
      intro r h; rw [hw]; exact ih (k + 1) r hr2 h
    rw [P_impl_yrisingAtoms_0_2] at h
    refine Ev.step ?_ (fun n => L_impl_yrisingAtoms_0_2_eq n x1 x1 (x1.length : Int) (k : Int))
    rw [show decide ((k : Int) < (x1.length : Int)) = true from decide_eq_true (by omega), inB_nat2 hk, hx]
    exact Ev.pos rfl (Ev.pos rfl (Ev.ofBind h fun y1 h => (Ev.ofBif h (fun h => (Ev.ofSome h)) (fun h => (Ev.ofBif h (fun h => (Ev.ofBif h (fun h => (Ev.ofBind h fun y2 h => (Ev.ofBif h (fun h => (Ev.ofSome h)) (fun h => (ih2  _ h))))) (fun h => (Ev.ofNone h)))) (fun h => (ih2  _ h)))))))
theorem S_impl_yrisingAtoms (a0 : (List DAtom)) {r : Bool} (h : P_impl_yrisingAtoms a0 = some r) : Ev (fun n => F_impl_yrisingAtoms n a0) r := by
  rw [P_impl_yrisingAtoms] at h
  refine Ev.of_eq ?_ (fun n => F_impl_yrisingAtoms_eq n a0)
  exact (Ev.ofLen h fun hl h => S_impl_yrisingAtoms_0_2 hl _ (0 : Nat) _ rfl h)
theorem hcs_impl_yrisingAtoms : ∀ x ∈ cs_impl_yrisingAtoms, CtrOk Tryz.prog x := (conOf_cons ok_impl_GoodAtom (conOf_cons ok_impl_ycmpAtom conOf_nil))
theorem ok_impl_yrisingAtoms : CtrOk Tryz.prog (c_impl_yrisingAtoms) := by
  refine ctr_of_run (c := c_impl_yrisingAtoms) (by kernel_rfl) (by kernel_rfl : Tryz.prog.funcs[179]? = some Tryz.f179) (code := Tryz.f179.body.getD .skip) (by kernel_rfl) (by kernel_rfl) (by kernel_rfl) (A := A_impl_yrisingAtoms) (I := In_impl_yrisingAtoms) (hcs_impl_yrisingAtoms) ?_
  rintro ⟨a0, u⟩ y hy
  exact (S_impl_yrisingAtoms a0 hy).get

/-! ## impl.ygoodRefs (104) -/
noncomputable def P_impl_ygoodRefs_0_2_1002_1010 : List DAtom → Nat → Option Bool
  | [], k =>
      some true
  | e :: rest, k =>
      bif !decide ((e).1 = 4) then
        some (!decide ((0 : Int) ≤ (k : Int)))
      else
        P_impl_ygoodRefs_0_2_1002_1010 rest (k + 1)
noncomputable def P_impl_ygoodRefs (a0 : (List DAtom)) (a1 : Int) : Option Bool :=
  bif decide ((a0.length : Int) ≤ a1) then
    Option.bind (P_impl_yrisingAtoms a0) fun (y1 : Bool) =>
    bif y1 then
      lenOk a0 (P_impl_ygoodRefs_0_2_1002_1010 a0 0)
    else
      some false
  else
    some false
noncomputable def c_impl_ygoodRefs : Ctr := ⟨104, [(.list TyAtom), I64], [.bool], fun x => P_impl_ygoodRefs x.1 x.2.1⟩
def A_impl_ygoodRefs : List (List Nat × Ann) := [([0, 2, 1002, 1010], [.keep 0 13, .keep 2 0, .keep 2 1, .keep 2 7, .keep 2 8])]
def In_impl_ygoodRefs : List (List Nat × Nat) := [([1010], 180), ([1002, 1010], 220), ([4005, 1002, 1010], 181)]
noncomputable def cs_impl_ygoodRefs : List Ctr := [c_impl_yrisingAtoms]
noncomputable def F_impl_ygoodRefs (n : Nat) (a0 : (List DAtom)) (a1 : Int) : Option Bool := run Tryz.prog A_impl_ygoodRefs In_impl_ygoodRefs (conOf cs_impl_ygoodRefs) Tryz.f104 (Tryz.f104.body.getD .skip) (packT [.bool]) n (argsV [(.list TyAtom), I64] (a0, a1, ()))
noncomputable abbrev L_impl_ygoodRefs_0_2_1002_1010 (n : Nat) (x1 : Bool) (x2 : (List DAtom)) (x3 : Int) (x4 : Int) : Option Bool := lam Tryz.prog A_impl_ygoodRefs In_impl_ygoodRefs (conOf cs_impl_ygoodRefs) Tryz.f104 (Tryz.f104.body.getD .skip) (packT [.bool]) n [0, 2, 1002, 1010] [.d .bool x1, .d (.list TyAtom) x2, .fn 181 [], .d I64 x3, .d I64 x4]
theorem F_impl_ygoodRefs_eq (n : Nat) (a0 : (List DAtom)) (a1 : Int) : F_impl_ygoodRefs n a0 a1 =
    bif decide ((a0.length : Int) ≤ a1) then
      Option.bind (P_impl_yrisingAtoms a0) fun (y1 : Bool) =>
      bif y1 then
        L_impl_ygoodRefs_0_2_1002_1010 n true a0 (a0.length : Int) 0
      else
        some false
    else
      some false := by kernel_rfl
theorem L_impl_ygoodRefs_0_2_1002_1010_eq (n : Nat) (x1 : Bool) (x2 : (List DAtom)) (x3 : Int) (x4 : Int) : L_impl_ygoodRefs_0_2_1002_1010 (n + 1) x1 x2 x3 x4 =
    bif decide (x4 < x3) then
      bif inB x4 x2.length then
        bif !decide ((rd x2 x4 (Ty.dflt TyAtom)).1 = 4) then
          bif x1 then
            some (!decide ((0 : Int) ≤ x4))
          else
            some false
        else
          L_impl_ygoodRefs_0_2_1002_1010 n x1 x2 x3 (IntKind.wrap .i64 (x4 + 1))
      else none
    else
      bif x1 then
        some true
      else
        some false := by kernel_rfl
theorem S_impl_ygoodRefs_0_2_1002_1010 {x2 : (List DAtom)} (hl : x2.length ≤ maxLen) : ∀ (rest : List DAtom) (k : Nat) (r : Bool), rest = x2.drop k → P_impl_ygoodRefs_0_2_1002_1010 rest k = some r → Ev (fun n => L_impl_ygoodRefs_0_2_1002_1010 n true x2 (x2.length : Int) (k : Int)) r := by
  intro rest
  induction rest with
  | nil =>
    intro k r hr h
    have hk := drop_nil hr
    rw [P_impl_ygoodRefs_0_2_1002_1010] at h
    refine Ev.step ?_ (fun n => L_impl_ygoodRefs_0_2_1002_1010_eq n true x2 (x2.length : Int) (k : Int))
    rw [show decide ((k : Int) < (x2.length : Int)) = false from decide_eq_false (by omega)]
    exact Ev.neg rfl (Ev.pos rfl (Ev.ofSome h))
  | cons e rest ih =>
    intro k r hr h
    obtain ⟨hk, hx, hr2⟩ := drop_cons (d := (Ty.dflt TyAtom)) hr
    have hw := wrap_succ hl hk
    have ih2 : ∀ (r : Bool), P_impl_ygoodRefs_0_2_1002_1010 rest (k + 1) = some r → Ev (fun n => L_impl_ygoodRefs_0_2_1002_1010 n true x2 (x2.length : Int) (IntKind.wrap .i64 ((k : Int) + 1))) r := by
      intro r h; rw [hw]; exact ih (k + 1) r hr2 h
    rw [P_impl_ygoodRefs_0_2_1002_1010] at h
    refine Ev.step ?_ (fun n => L_impl_ygoodRefs_0_2_1002_1010_eq n true x2 (x2.length : Int) (k : Int))
    rw [show decide ((k : Int) < (x2.length : Int)) = true from decide_eq_true (by omega), inB_nat2 hk, hx]
    exact Ev.pos rfl (Ev.pos rfl (Ev.ofBif h (fun h => (Ev.pos rfl (Ev.ofSome h))) (fun h => (ih2  _ h))))
theorem S_impl_ygoodRefs (a0 : (List DAtom)) (a1 : Int) {r : Bool} (h : P_impl_ygoodRefs a0 a1 = some r) : Ev (fun n => F_impl_ygoodRefs n a0 a1) r := by
  rw [P_impl_ygoodRefs] at h
  refine Ev.of_eq ?_ (fun n => F_impl_ygoodRefs_eq n a0 a1)
  exact (Ev.ofBif h (fun h => (Ev.ofBind h fun y1 h => (Ev.ofBif h (fun h => (Ev.ofLen h fun hl h => S_impl_ygoodRefs_0_2_1002_1010 hl _ (0 : Nat) _ rfl h)) (fun h => (Ev.ofSome h))))) (fun h => (Ev.ofSome h)))
theorem hcs_impl_ygoodRefs : ∀ x ∈ cs_impl_ygoodRefs, CtrOk Tryz.prog x := (conOf_cons ok_impl_yrisingAtoms conOf_nil)
theorem ok_impl_ygoodRefs : CtrOk Tryz.prog (c_impl_ygoodRefs) := by
  refine ctr_of_run (c := c_impl_ygoodRefs) (by kernel_rfl) (by kernel_rfl : Tryz.prog.funcs[104]? = some Tryz.f104) (code := Tryz.f104.body.getD .skip) (by kernel_rfl) (by kernel_rfl) (by kernel_rfl) (A := A_impl_ygoodRefs) (I := In_impl_ygoodRefs) (hcs_impl_ygoodRefs) ?_
  rintro ⟨a0, a1, u⟩ y hy
  exact (S_impl_ygoodRefs a0 a1 hy).get

/-! ## impl.yallNames (182) -/
noncomputable def P_impl_yallNames_0_2_1002_1001 : List (List Int) → Nat → Option Bool
  | [], k =>
      some true
  | e :: rest, k =>
      Option.bind (P_impl_GoodName (e)) fun (y1 : Bool) =>
      bif !(y1) then
        some (!decide ((0 : Int) ≤ (k : Int)))
      else
        P_impl_yallNames_0_2_1002_1001 rest (k + 1)
noncomputable def P_impl_yallNames (a0 : (List (List Int))) : Option Bool :=
  lenOk a0 (P_impl_yallNames_0_2_1002_1001 a0 0)
noncomputable def c_impl_yallNames : Ctr := ⟨182, [(.list .str)], [.bool], fun x => P_impl_yallNames x.1⟩
def A_impl_yallNames : List (List Nat × Ann) := [([0, 2, 1002, 1001], [.keep 2 0, .keep 2 1, .keep 2 7, .keep 2 8])]
def In_impl_yallNames : List (List Nat × Nat) := [([1001], 172), ([1002, 1001], 216), ([4005, 1002, 1001], 221)]
noncomputable def cs_impl_yallNames : List Ctr := [c_impl_GoodName]
noncomputable def F_impl_yallNames (n : Nat) (a0 : (List (List Int))) : Option Bool := run Tryz.prog A_impl_yallNames In_impl_yallNames (conOf cs_impl_yallNames) Tryz.f182 (Tryz.f182.body.getD .skip) (packT [.bool]) n (argsV [(.list .str)] (a0, ()))
noncomputable abbrev L_impl_yallNames_0_2_1002_1001 (n : Nat) (x1 : (List (List Int))) (x2 : Int) (x3 : Int) : Option Bool := lam Tryz.prog A_impl_yallNames In_impl_yallNames (conOf cs_impl_yallNames) Tryz.f182 (Tryz.f182.body.getD .skip) (packT [.bool]) n [0, 2, 1002, 1001] [.d (.list .str) x1, .fn 221 [], .d I64 x2, .d I64 x3]
theorem F_impl_yallNames_eq (n : Nat) (a0 : (List (List Int))) : F_impl_yallNames n a0 =
    L_impl_yallNames_0_2_1002_1001 n a0 (a0.length : Int) 0 := by kernel_rfl
theorem L_impl_yallNames_0_2_1002_1001_eq (n : Nat) (x1 : (List (List Int))) (x2 : Int) (x3 : Int) : L_impl_yallNames_0_2_1002_1001 (n + 1) x1 x2 x3 =
    bif decide (x3 < x2) then
      bif inB x3 x1.length then
        Option.bind (P_impl_GoodName (rd x1 x3 (Ty.dflt .str))) fun (y1 : Bool) =>
        bif !(y1) then
          some (!decide ((0 : Int) ≤ x3))
        else
          L_impl_yallNames_0_2_1002_1001 n x1 x2 (IntKind.wrap .i64 (x3 + 1))
      else none
    else
      some true := by kernel_rfl
theorem S_impl_yallNames_0_2_1002_1001 {x1 : (List (List Int))} (hl : x1.length ≤ maxLen) : ∀ (rest : List (List Int)) (k : Nat) (r : Bool), rest = x1.drop k → P_impl_yallNames_0_2_1002_1001 rest k = some r → Ev (fun n => L_impl_yallNames_0_2_1002_1001 n x1 (x1.length : Int) (k : Int)) r := by
  intro rest
  induction rest with
  | nil =>
    intro k r hr h
    have hk := drop_nil hr
    rw [P_impl_yallNames_0_2_1002_1001] at h
    refine Ev.step ?_ (fun n => L_impl_yallNames_0_2_1002_1001_eq n x1 (x1.length : Int) (k : Int))
    rw [show decide ((k : Int) < (x1.length : Int)) = false from decide_eq_false (by omega)]
    exact Ev.neg rfl (Ev.ofSome h)
  | cons e rest ih =>
    intro k r hr h
    obtain ⟨hk, hx, hr2⟩ := drop_cons (d := (Ty.dflt .str)) hr
    have hw := wrap_succ hl hk
    have ih2 : ∀ (r : Bool), P_impl_yallNames_0_2_1002_1001 rest (k + 1) = some r → Ev (fun n => L_impl_yallNames_0_2_1002_1001 n x1 (x1.length : Int) (IntKind.wrap .i64 ((k : Int) + 1))) r := by
      intro r h; rw [hw]; exact ih (k + 1) r hr2 h
    rw [P_impl_yallNames_0_2_1002_1001] at h
    refine Ev.step ?_ (fun n => L_impl_yallNames_0_2_1002_1001_eq n x1 (x1.length : Int) (k : Int))
    rw [show decide ((k : Int) < (x1.length : Int)) = true from decide_eq_true (by omega), inB_nat2 hk, hx]
    exact Ev.pos rfl (Ev.pos rfl (Ev.ofBind h fun y1 h => (Ev.ofBif h (fun h => (Ev.ofSome h)) (fun h => (ih2  _ h)))))
theorem S_impl_yallNames (a0 : (List (List Int))) {r : Bool} (h : P_impl_yallNames a0 = some r) : Ev (fun n => F_impl_yallNames n a0) r := by
  rw [P_impl_yallNames] at h
  refine Ev.of_eq ?_ (fun n => F_impl_yallNames_eq n a0)
  exact (Ev.ofLen h fun hl h => S_impl_yallNames_0_2_1002_1001 hl _ (0 : Nat) _ rfl h)
theorem hcs_impl_yallNames : ∀ x ∈ cs_impl_yallNames, CtrOk Tryz.prog x := (conOf_cons ok_impl_GoodName conOf_nil)
theorem ok_impl_yallNames : CtrOk Tryz.prog (c_impl_yallNames) := by
  refine ctr_of_run (c := c_impl_yallNames) (by kernel_rfl) (by kernel_rfl : Tryz.prog.funcs[182]? = some Tryz.f182) (code := Tryz.f182.body.getD .skip) (by kernel_rfl) (by kernel_rfl) (by kernel_rfl) (A := A_impl_yallNames) (I := In_impl_yallNames) (hcs_impl_yallNames) ?_
  rintro ⟨a0, u⟩ y hy
  exact (S_impl_yallNames a0 hy).get

/-! ## impl.yzeroAtom (199) -/
noncomputable def T_impl_yzeroAtom (a0 : DAtom) : Bool :=
  @decide (a0 = (0, 0, ([] : List Int), ([] : List Int))) (Ty.decEq TyAtom a0 (0, 0, ([] : List Int), ([] : List Int)))
noncomputable def c_impl_yzeroAtom : Ctr := ⟨199, [TyAtom], [.bool], fun x => some (T_impl_yzeroAtom x.1)⟩
def A_impl_yzeroAtom : List (List Nat × Ann) := []
def In_impl_yzeroAtom : List (List Nat × Nat) := []
noncomputable def cs_impl_yzeroAtom : List Ctr := []
noncomputable def F_impl_yzeroAtom (n : Nat) (a0 : DAtom) : Option Bool := run Tryz.prog A_impl_yzeroAtom In_impl_yzeroAtom (conOf cs_impl_yzeroAtom) Tryz.f199 (Tryz.f199.body.getD .skip) (packT [.bool]) n (argsV [TyAtom] (a0, ()))
theorem F_impl_yzeroAtom_eq (n : Nat) (a0 : DAtom) : F_impl_yzeroAtom n a0 =
    some (@decide (a0 = (0, 0, ([] : List Int), ([] : List Int))) (Ty.decEq TyAtom a0 (0, 0, ([] : List Int), ([] : List Int)))) := by kernel_rfl
theorem S_impl_yzeroAtom (n : Nat) (a0 : DAtom) : F_impl_yzeroAtom n a0 = some (T_impl_yzeroAtom a0) := (F_impl_yzeroAtom_eq n a0).trans rfl
theorem hcs_impl_yzeroAtom : ∀ x ∈ cs_impl_yzeroAtom, CtrOk Tryz.prog x := conOf_nil
theorem ok_impl_yzeroAtom : CtrOk Tryz.prog (c_impl_yzeroAtom) := by
  refine ctr_of_run (c := c_impl_yzeroAtom) (by kernel_rfl) (by kernel_rfl : Tryz.prog.funcs[199]? = some Tryz.f199) (code := Tryz.f199.body.getD .skip) (by kernel_rfl) (by kernel_rfl) (by kernel_rfl) (A := A_impl_yzeroAtom) (I := In_impl_yzeroAtom) (hcs_impl_yzeroAtom) ?_
  rintro ⟨a0, u⟩ y hy
  exact ⟨0, (S_impl_yzeroAtom 0 a0).trans hy⟩

/-! ## impl.GoodValue (185) -/
noncomputable def P_impl_GoodValue_0_2_1002_7031 : List DAtom → Nat → Option Bool
  | [], k =>
      some true
  | e :: rest, k =>
      Option.bind (P_impl_GoodAtom (e)) fun (y5 : Bool) =>
      bif !(y5) then
        some (!decide ((0 : Int) ≤ (k : Int)))
      else
        P_impl_GoodValue_0_2_1002_7031 rest (k + 1)
noncomputable def P_impl_GoodValue (a0 : DValue) : Option Bool :=
  bif decide (a0.1 = 1) then
    Option.bind (P_impl_GoodAtom a0.2.1) fun (y1 : Bool) =>
    bif y1 then
      bif decide ((a0.2.2.1.length : Int) = 0) then
        some (decide ((a0.2.2.2.length : Int) = 0))
      else
        some false
    else
      some false
  else
    bif decide (a0.1 = 2) then
      bif T_impl_yzeroAtom a0.2.1 then
        bif decide ((a0.2.2.1.length : Int) ≤ 50) then
          bif decide ((a0.2.2.2.length : Int) = 0) then
            Option.bind (P_impl_yrisingAtoms a0.2.2.1) fun (y2 : Bool) =>
            some y2
          else
            some false
        else
          some false
      else
        some false
    else
      bif decide (a0.1 = 3) then
        bif T_impl_yzeroAtom a0.2.1 then
          bif decide ((a0.2.2.2.length : Int) ≤ 50) then
            bif decide ((a0.2.2.1.length : Int) = (a0.2.2.2.length : Int)) then
              Option.bind (P_impl_yallNames a0.2.2.2) fun (y3 : Bool) =>
              bif y3 then
                Option.bind (P_impl_yrising a0.2.2.2) fun (y4 : Bool) =>
                bif y4 then
                  lenOk a0.2.2.1 (P_impl_GoodValue_0_2_1002_7031 a0.2.2.1 0)
                else
                  some false
              else
                some false
            else
              some false
          else
            some false
        else
          some false
      else
        some false
noncomputable def c_impl_GoodValue : Ctr := ⟨185, [TyValue], [.bool], fun x => P_impl_GoodValue x.1⟩
def A_impl_GoodValue : List (List Nat × Ann) := [([0, 2, 1002, 7031], [.keep 0 74, .keep 2 0, .keep 2 1, .keep 2 7, .keep 2 8])]
def In_impl_GoodValue : List (List Nat × Nat) := [([7031], 180), ([1002, 7031], 220), ([4005, 1002, 7031], 223)]
noncomputable def cs_impl_GoodValue : List Ctr := [c_impl_GoodAtom, c_impl_yzeroAtom, c_impl_yrisingAtoms, c_impl_yallNames, c_impl_yrising]
noncomputable def F_impl_GoodValue (n : Nat) (a0 : DValue) : Option Bool := run Tryz.prog A_impl_GoodValue In_impl_GoodValue (conOf cs_impl_GoodValue) Tryz.f185 (Tryz.f185.body.getD .skip) (packT [.bool]) n (argsV [TyValue] (a0, ()))
noncomputable abbrev L_impl_GoodValue_0_2_1002_7031 (n : Nat) (x1 : Bool) (x2 : (List DAtom)) (x3 : Int) (x4 : Int) : Option Bool := lam Tryz.prog A_impl_GoodValue In_impl_GoodValue (conOf cs_impl_GoodValue) Tryz.f185 (Tryz.f185.body.getD .skip) (packT [.bool]) n [0, 2, 1002, 7031] [.d .bool x1, .d (.list TyAtom) x2, .fn 223 [], .d I64 x3, .d I64 x4]
theorem F_impl_GoodValue_eq (n : Nat) (a0 : DValue) : F_impl_GoodValue n a0 =
    bif decide (a0.1 = 1) then
      Option.bind (P_impl_GoodAtom a0.2.1) fun (y1 : Bool) =>
      bif y1 then
        bif decide ((a0.2.2.1.length : Int) = 0) then
          some (decide ((a0.2.2.2.length : Int) = 0))
        else
          some false
      else
        some false
    else
      bif decide (a0.1 = 2) then
        bif T_impl_yzeroAtom a0.2.1 then
          bif decide ((a0.2.2.1.length : Int) ≤ 50) then
            bif decide ((a0.2.2.2.length : Int) = 0) then
              Option.bind (P_impl_yrisingAtoms a0.2.2.1) fun (y2 : Bool) =>
              some y2
            else
              some false
          else
            some false
        else
          some false
      else
        bif decide (a0.1 = 3) then
          bif T_impl_yzeroAtom a0.2.1 then
            bif decide ((a0.2.2.2.length : Int) ≤ 50) then
              bif decide ((a0.2.2.1.length : Int) = (a0.2.2.2.length : Int)) then
                Option.bind (P_impl_yallNames a0.2.2.2) fun (y3 : Bool) =>
                bif y3 then
                  Option.bind (P_impl_yrising a0.2.2.2) fun (y4 : Bool) =>
                  bif y4 then
                    L_impl_GoodValue_0_2_1002_7031 n true a0.2.2.1 (a0.2.2.1.length : Int) 0
                  else
                    some false
                else
                  some false
              else
                some false
            else
              some false
          else
            some false
        else
          some false := by kernel_rfl
theorem L_impl_GoodValue_0_2_1002_7031_eq (n : Nat) (x1 : Bool) (x2 : (List DAtom)) (x3 : Int) (x4 : Int) : L_impl_GoodValue_0_2_1002_7031 (n + 1) x1 x2 x3 x4 =
    bif decide (x4 < x3) then
      bif inB x4 x2.length then
        Option.bind (P_impl_GoodAtom (rd x2 x4 (Ty.dflt TyAtom))) fun (y5 : Bool) =>
        bif !(y5) then
          bif x1 then
            some (!decide ((0 : Int) ≤ x4))
          else
            some false
        else
          L_impl_GoodValue_0_2_1002_7031 n x1 x2 x3 (IntKind.wrap .i64 (x4 + 1))
      else none
    else
      bif x1 then
        some true
      else
        some false := by kernel_rfl
theorem S_impl_GoodValue_0_2_1002_7031 {x2 : (List DAtom)} (hl : x2.length ≤ maxLen) : ∀ (rest : List DAtom) (k : Nat) (r : Bool), rest = x2.drop k → P_impl_GoodValue_0_2_1002_7031 rest k = some r → Ev (fun n => L_impl_GoodValue_0_2_1002_7031 n true x2 (x2.length : Int) (k : Int)) r := by
  intro rest
  induction rest with
  | nil =>
    intro k r hr h
    have hk := drop_nil hr
    rw [P_impl_GoodValue_0_2_1002_7031] at h
    refine Ev.step ?_ (fun n => L_impl_GoodValue_0_2_1002_7031_eq n true x2 (x2.length : Int) (k : Int))
    rw [show decide ((k : Int) < (x2.length : Int)) = false from decide_eq_false (by omega)]
    exact Ev.neg rfl (Ev.pos rfl (Ev.ofSome h))
  | cons e rest ih =>
    intro k r hr h
    obtain ⟨hk, hx, hr2⟩ := drop_cons (d := (Ty.dflt TyAtom)) hr
    have hw := wrap_succ hl hk
    have ih2 : ∀ (r : Bool), P_impl_GoodValue_0_2_1002_7031 rest (k + 1) = some r → Ev (fun n => L_impl_GoodValue_0_2_1002_7031 n true x2 (x2.length : Int) (IntKind.wrap .i64 ((k : Int) + 1))) r := by
      intro r h; rw [hw]; exact ih (k + 1) r hr2 h
    rw [P_impl_GoodValue_0_2_1002_7031] at h
    refine Ev.step ?_ (fun n => L_impl_GoodValue_0_2_1002_7031_eq n true x2 (x2.length : Int) (k : Int))
    rw [show decide ((k : Int) < (x2.length : Int)) = true from decide_eq_true (by omega), inB_nat2 hk, hx]
    exact Ev.pos rfl (Ev.pos rfl (Ev.ofBind h fun y5 h => (Ev.ofBif h (fun h => (Ev.pos rfl (Ev.ofSome h))) (fun h => (ih2  _ h)))))
theorem S_impl_GoodValue (a0 : DValue) {r : Bool} (h : P_impl_GoodValue a0 = some r) : Ev (fun n => F_impl_GoodValue n a0) r := by
  rw [P_impl_GoodValue] at h
  refine Ev.of_eq ?_ (fun n => F_impl_GoodValue_eq n a0)
  exact (Ev.ofBif h (fun h => (Ev.ofBind h fun y1 h => (Ev.ofBif h (fun h => (Ev.ofBif h (fun h => (Ev.ofSome h)) (fun h => (Ev.ofSome h)))) (fun h => (Ev.ofSome h))))) (fun h => (Ev.ofBif h (fun h => (Ev.ofBif h (fun h => (Ev.ofBif h (fun h => (Ev.ofBif h (fun h => (Ev.ofBind h fun y2 h => (Ev.ofSome h))) (fun h => (Ev.ofSome h)))) (fun h => (Ev.ofSome h)))) (fun h => (Ev.ofSome h)))) (fun h => (Ev.ofBif h (fun h => (Ev.ofBif h (fun h => (Ev.ofBif h (fun h => (Ev.ofBif h (fun h => (Ev.ofBind h fun y3 h => (Ev.ofBif h (fun h => (Ev.ofBind h fun y4 h => (Ev.ofBif h (fun h => (Ev.ofLen h fun hl h => S_impl_GoodValue_0_2_1002_7031 hl _ (0 : Nat) _ rfl h)) (fun h => (Ev.ofSome h))))) (fun h => (Ev.ofSome h))))) (fun h => (Ev.ofSome h)))) (fun h => (Ev.ofSome h)))) (fun h => (Ev.ofSome h)))) (fun h => (Ev.ofSome h)))))))
theorem hcs_impl_GoodValue : ∀ x ∈ cs_impl_GoodValue, CtrOk Tryz.prog x := (conOf_cons ok_impl_GoodAtom (conOf_cons ok_impl_yzeroAtom (conOf_cons ok_impl_yrisingAtoms (conOf_cons ok_impl_yallNames (conOf_cons ok_impl_yrising conOf_nil)))))
theorem ok_impl_GoodValue : CtrOk Tryz.prog (c_impl_GoodValue) := by
  refine ctr_of_run (c := c_impl_GoodValue) (by kernel_rfl) (by kernel_rfl : Tryz.prog.funcs[185]? = some Tryz.f185) (code := Tryz.f185.body.getD .skip) (by kernel_rfl) (by kernel_rfl) (by kernel_rfl) (A := A_impl_GoodValue) (I := In_impl_GoodValue) (hcs_impl_GoodValue) ?_
  rintro ⟨a0, u⟩ y hy
  exact (S_impl_GoodValue a0 hy).get

/-! ## impl.ygoodFields (105) -/
noncomputable def P_impl_ygoodFields_0_2_1002_1020 : List DValue → Nat → Option Bool
  | [], k =>
      some true
  | e :: rest, k =>
      bif decide ((e).1 = 3) then
        some (!decide ((0 : Int) ≤ (k : Int)))
      else
        Option.bind (P_impl_GoodValue (e)) fun (y3 : Bool) =>
        bif !(y3) then
          some (!decide ((0 : Int) ≤ (k : Int)))
        else
          P_impl_ygoodFields_0_2_1002_1020 rest (k + 1)
noncomputable def P_impl_ygoodFields (a0 : (List (List Int))) (a1 : (List DValue)) : Option Bool :=
  bif decide ((a0.length : Int) ≤ 20) then
    bif decide ((a0.length : Int) = (a1.length : Int)) then
      Option.bind (P_impl_yallNames a0) fun (y1 : Bool) =>
      bif y1 then
        Option.bind (P_impl_yrising a0) fun (y2 : Bool) =>
        bif y2 then
          lenOk a1 (P_impl_ygoodFields_0_2_1002_1020 a1 0)
        else
          some false
      else
        some false
    else
      some false
  else
    some false
noncomputable def c_impl_ygoodFields : Ctr := ⟨105, [(.list .str), (.list TyValue)], [.bool], fun x => P_impl_ygoodFields x.1 x.2.1⟩
def A_impl_ygoodFields : List (List Nat × Ann) := [([0, 2, 1002, 1020], [.keep 0 23, .keep 2 0, .keep 2 1, .keep 2 7, .keep 2 8])]
def In_impl_ygoodFields : List (List Nat × Nat) := [([1020], 183), ([1002, 1020], 222), ([4005, 1002, 1020], 184)]
noncomputable def cs_impl_ygoodFields : List Ctr := [c_impl_yallNames, c_impl_yrising, c_impl_GoodValue]
noncomputable def F_impl_ygoodFields (n : Nat) (a0 : (List (List Int))) (a1 : (List DValue)) : Option Bool := run Tryz.prog A_impl_ygoodFields In_impl_ygoodFields (conOf cs_impl_ygoodFields) Tryz.f105 (Tryz.f105.body.getD .skip) (packT [.bool]) n (argsV [(.list .str), (.list TyValue)] (a0, a1, ()))
noncomputable abbrev L_impl_ygoodFields_0_2_1002_1020 (n : Nat) (x1 : Bool) (x2 : (List DValue)) (x3 : Int) (x4 : Int) : Option Bool := lam Tryz.prog A_impl_ygoodFields In_impl_ygoodFields (conOf cs_impl_ygoodFields) Tryz.f105 (Tryz.f105.body.getD .skip) (packT [.bool]) n [0, 2, 1002, 1020] [.d .bool x1, .d (.list TyValue) x2, .fn 184 [], .d I64 x3, .d I64 x4]
theorem F_impl_ygoodFields_eq (n : Nat) (a0 : (List (List Int))) (a1 : (List DValue)) : F_impl_ygoodFields n a0 a1 =
    bif decide ((a0.length : Int) ≤ 20) then
      bif decide ((a0.length : Int) = (a1.length : Int)) then
        Option.bind (P_impl_yallNames a0) fun (y1 : Bool) =>
        bif y1 then
          Option.bind (P_impl_yrising a0) fun (y2 : Bool) =>
          bif y2 then
            L_impl_ygoodFields_0_2_1002_1020 n true a1 (a1.length : Int) 0
          else
            some false
        else
          some false
      else
        some false
    else
      some false := by kernel_rfl
theorem L_impl_ygoodFields_0_2_1002_1020_eq (n : Nat) (x1 : Bool) (x2 : (List DValue)) (x3 : Int) (x4 : Int) : L_impl_ygoodFields_0_2_1002_1020 (n + 1) x1 x2 x3 x4 =
    bif decide (x4 < x3) then
      bif inB x4 x2.length then
        bif decide ((rd x2 x4 (Ty.dflt TyValue)).1 = 3) then
          bif x1 then
            some (!decide ((0 : Int) ≤ x4))
          else
            some false
        else
          Option.bind (P_impl_GoodValue (rd x2 x4 (Ty.dflt TyValue))) fun (y3 : Bool) =>
          bif !(y3) then
            bif x1 then
              some (!decide ((0 : Int) ≤ x4))
            else
              some false
          else
            L_impl_ygoodFields_0_2_1002_1020 n x1 x2 x3 (IntKind.wrap .i64 (x4 + 1))
      else none
    else
      bif x1 then
        some true
      else
        some false := by kernel_rfl
theorem S_impl_ygoodFields_0_2_1002_1020 {x2 : (List DValue)} (hl : x2.length ≤ maxLen) : ∀ (rest : List DValue) (k : Nat) (r : Bool), rest = x2.drop k → P_impl_ygoodFields_0_2_1002_1020 rest k = some r → Ev (fun n => L_impl_ygoodFields_0_2_1002_1020 n true x2 (x2.length : Int) (k : Int)) r := by
  intro rest
  induction rest with
  | nil =>
    intro k r hr h
    have hk := drop_nil hr
    rw [P_impl_ygoodFields_0_2_1002_1020] at h
    refine Ev.step ?_ (fun n => L_impl_ygoodFields_0_2_1002_1020_eq n true x2 (x2.length : Int) (k : Int))
    rw [show decide ((k : Int) < (x2.length : Int)) = false from decide_eq_false (by omega)]
    exact Ev.neg rfl (Ev.pos rfl (Ev.ofSome h))
  | cons e rest ih =>
    intro k r hr h
    obtain ⟨hk, hx, hr2⟩ := drop_cons (d := (Ty.dflt TyValue)) hr
    have hw := wrap_succ hl hk
    have ih2 : ∀ (r : Bool), P_impl_ygoodFields_0_2_1002_1020 rest (k + 1) = some r → Ev (fun n => L_impl_ygoodFields_0_2_1002_1020 n true x2 (x2.length : Int) (IntKind.wrap .i64 ((k : Int) + 1))) r := by
      intro r h; rw [hw]; exact ih (k + 1) r hr2 h
    rw [P_impl_ygoodFields_0_2_1002_1020] at h
    refine Ev.step ?_ (fun n => L_impl_ygoodFields_0_2_1002_1020_eq n true x2 (x2.length : Int) (k : Int))
    rw [show decide ((k : Int) < (x2.length : Int)) = true from decide_eq_true (by omega), inB_nat2 hk, hx]
    exact Ev.pos rfl (Ev.pos rfl (Ev.ofBif h (fun h => (Ev.pos rfl (Ev.ofSome h))) (fun h => (Ev.ofBind h fun y3 h => (Ev.ofBif h (fun h => (Ev.pos rfl (Ev.ofSome h))) (fun h => (ih2  _ h)))))))
theorem S_impl_ygoodFields (a0 : (List (List Int))) (a1 : (List DValue)) {r : Bool} (h : P_impl_ygoodFields a0 a1 = some r) : Ev (fun n => F_impl_ygoodFields n a0 a1) r := by
  rw [P_impl_ygoodFields] at h
  refine Ev.of_eq ?_ (fun n => F_impl_ygoodFields_eq n a0 a1)
  exact (Ev.ofBif h (fun h => (Ev.ofBif h (fun h => (Ev.ofBind h fun y1 h => (Ev.ofBif h (fun h => (Ev.ofBind h fun y2 h => (Ev.ofBif h (fun h => (Ev.ofLen h fun hl h => S_impl_ygoodFields_0_2_1002_1020 hl _ (0 : Nat) _ rfl h)) (fun h => (Ev.ofSome h))))) (fun h => (Ev.ofSome h))))) (fun h => (Ev.ofSome h)))) (fun h => (Ev.ofSome h)))
theorem hcs_impl_ygoodFields : ∀ x ∈ cs_impl_ygoodFields, CtrOk Tryz.prog x := (conOf_cons ok_impl_yallNames (conOf_cons ok_impl_yrising (conOf_cons ok_impl_GoodValue conOf_nil)))
theorem ok_impl_ygoodFields : CtrOk Tryz.prog (c_impl_ygoodFields) := by
  refine ctr_of_run (c := c_impl_ygoodFields) (by kernel_rfl) (by kernel_rfl : Tryz.prog.funcs[105]? = some Tryz.f105) (code := Tryz.f105.body.getD .skip) (by kernel_rfl) (by kernel_rfl) (by kernel_rfl) (A := A_impl_ygoodFields) (I := In_impl_ygoodFields) (hcs_impl_ygoodFields) ?_
  rintro ⟨a0, a1, u⟩ y hy
  exact (S_impl_ygoodFields a0 a1 hy).get

/-! ## impl.GoodThings (51) -/
noncomputable def P_impl_GoodThings_0_4 (x1 : (List DThing)) : List DThing → Nat → Option Bool
  | [], k =>
      some true
  | e :: rest, k =>
      Option.bind (P_impl_ygoodRef ((e).1)) fun (y1 : Bool) =>
      bif !(y1) then
        some false
      else
        bif decide ((0 : Int) < (k : Int)) then
          bif inB (IntKind.wrap .i64 ((k : Int) - 1)) x1.length then
            Option.bind (P_impl_ycmpAtom ((rd x1 (IntKind.wrap .i64 ((k : Int) - 1)) (Ty.dflt TyThing)).1) ((e).1)) fun (y2 : Int) =>
            bif decide ((0 : Int) ≤ y2) then
              some false
            else
              Option.bind (P_impl_ygoodRefs (((e).2).1) 50) fun (y3 : Bool) =>
              bif !(y3) then
                some false
              else
                Option.bind (P_impl_ygoodFields ((((e).2).2).1) ((((e).2).2).2)) fun (y4 : Bool) =>
                bif !(y4) then
                  some false
                else
                  P_impl_GoodThings_0_4 x1 rest (k + 1)
          else none
        else
          Option.bind (P_impl_ygoodRefs (((e).2).1) 50) fun (y5 : Bool) =>
          bif !(y5) then
            some false
          else
            Option.bind (P_impl_ygoodFields ((((e).2).2).1) ((((e).2).2).2)) fun (y6 : Bool) =>
            bif !(y6) then
              some false
            else
              P_impl_GoodThings_0_4 x1 rest (k + 1)
noncomputable def P_impl_GoodThings (a0 : (List DThing)) : Option Bool :=
  bif decide ((100 : Int) < (a0.length : Int)) then
    some false
  else
    lenOk a0 (P_impl_GoodThings_0_4 a0 a0 0)
noncomputable def c_impl_GoodThings : Ctr := ⟨51, [(.list TyThing)], [.bool], fun x => P_impl_GoodThings x.1⟩
def A_impl_GoodThings : List (List Nat × Ann) := [([0, 4], [.keep 0 0, .keep 0 8, .keep 0 9, .keep 0 10])]
def In_impl_GoodThings : List (List Nat × Nat) := []
noncomputable def cs_impl_GoodThings : List Ctr := [c_impl_ygoodRef, c_impl_ycmpAtom, c_impl_ygoodRefs, c_impl_ygoodFields]
noncomputable def F_impl_GoodThings (n : Nat) (a0 : (List DThing)) : Option Bool := run Tryz.prog A_impl_GoodThings In_impl_GoodThings (conOf cs_impl_GoodThings) Tryz.f51 (Tryz.f51.body.getD .skip) (packT [.bool]) n (argsV [(.list TyThing)] (a0, ()))
noncomputable abbrev L_impl_GoodThings_0_4 (n : Nat) (x1 : (List DThing)) (x2 : (List DThing)) (x3 : Int) (x4 : Int) : Option Bool := lam Tryz.prog A_impl_GoodThings In_impl_GoodThings (conOf cs_impl_GoodThings) Tryz.f51 (Tryz.f51.body.getD .skip) (packT [.bool]) n [0, 4] [.d (.list TyThing) x1, .d (.list TyThing) x2, .d I64 x3, .d I64 x4]
theorem F_impl_GoodThings_eq (n : Nat) (a0 : (List DThing)) : F_impl_GoodThings n a0 =
    bif decide ((100 : Int) < (a0.length : Int)) then
      some false
    else
      L_impl_GoodThings_0_4 n a0 a0 (a0.length : Int) 0 := by kernel_rfl
theorem L_impl_GoodThings_0_4_eq (n : Nat) (x1 : (List DThing)) (x2 : (List DThing)) (x3 : Int) (x4 : Int) : L_impl_GoodThings_0_4 (n + 1) x1 x2 x3 x4 =
    bif decide (x4 < x3) then
      bif inB x4 x2.length then
        Option.bind (P_impl_ygoodRef ((rd x2 x4 (Ty.dflt TyThing)).1)) fun (y1 : Bool) =>
        bif !(y1) then
          some false
        else
          bif decide ((0 : Int) < x4) then
            bif inB (IntKind.wrap .i64 (x4 - 1)) x1.length then
              Option.bind (P_impl_ycmpAtom ((rd x1 (IntKind.wrap .i64 (x4 - 1)) (Ty.dflt TyThing)).1) ((rd x2 x4 (Ty.dflt TyThing)).1)) fun (y2 : Int) =>
              bif decide ((0 : Int) ≤ y2) then
                some false
              else
                Option.bind (P_impl_ygoodRefs (((rd x2 x4 (Ty.dflt TyThing)).2).1) 50) fun (y3 : Bool) =>
                bif !(y3) then
                  some false
                else
                  Option.bind (P_impl_ygoodFields ((((rd x2 x4 (Ty.dflt TyThing)).2).2).1) ((((rd x2 x4 (Ty.dflt TyThing)).2).2).2)) fun (y4 : Bool) =>
                  bif !(y4) then
                    some false
                  else
                    L_impl_GoodThings_0_4 n x1 x2 x3 (IntKind.wrap .i64 (x4 + 1))
            else none
          else
            Option.bind (P_impl_ygoodRefs (((rd x2 x4 (Ty.dflt TyThing)).2).1) 50) fun (y5 : Bool) =>
            bif !(y5) then
              some false
            else
              Option.bind (P_impl_ygoodFields ((((rd x2 x4 (Ty.dflt TyThing)).2).2).1) ((((rd x2 x4 (Ty.dflt TyThing)).2).2).2)) fun (y6 : Bool) =>
              bif !(y6) then
                some false
              else
                L_impl_GoodThings_0_4 n x1 x2 x3 (IntKind.wrap .i64 (x4 + 1))
      else none
    else
      some true := by kernel_rfl
theorem S_impl_GoodThings_0_4 {x1 : (List DThing)} (hl : x1.length ≤ maxLen) : ∀ (rest : List DThing) (k : Nat) (r : Bool), rest = x1.drop k → P_impl_GoodThings_0_4 x1 rest k = some r → Ev (fun n => L_impl_GoodThings_0_4 n x1 x1 (x1.length : Int) (k : Int)) r := by
  intro rest
  induction rest with
  | nil =>
    intro k r hr h
    have hk := drop_nil hr
    rw [P_impl_GoodThings_0_4] at h
    refine Ev.step ?_ (fun n => L_impl_GoodThings_0_4_eq n x1 x1 (x1.length : Int) (k : Int))
    rw [show decide ((k : Int) < (x1.length : Int)) = false from decide_eq_false (by omega)]
    exact Ev.neg rfl (Ev.ofSome h)
  | cons e rest ih =>
    intro k r hr h
    obtain ⟨hk, hx, hr2⟩ := drop_cons (d := (Ty.dflt TyThing)) hr
    have hw := wrap_succ hl hk
    have ih2 : ∀ (r : Bool), P_impl_GoodThings_0_4 x1 rest (k + 1) = some r → Ev (fun n => L_impl_GoodThings_0_4 n x1 x1 (x1.length : Int) (IntKind.wrap .i64 ((k : Int) + 1))) r := by
      intro r h; rw [hw]; exact ih (k + 1) r hr2 h
    rw [P_impl_GoodThings_0_4] at h
    refine Ev.step ?_ (fun n => L_impl_GoodThings_0_4_eq n x1 x1 (x1.length : Int) (k : Int))
    rw [show decide ((k : Int) < (x1.length : Int)) = true from decide_eq_true (by omega), inB_nat2 hk, hx]
    exact Ev.pos rfl (Ev.pos rfl (Ev.ofBind h fun y1 h => (Ev.ofBif h (fun h => (Ev.ofSome h)) (fun h => (Ev.ofBif h (fun h => (Ev.ofBif h (fun h => (Ev.ofBind h fun y2 h => (Ev.ofBif h (fun h => (Ev.ofSome h)) (fun h => (Ev.ofBind h fun y3 h => (Ev.ofBif h (fun h => (Ev.ofSome h)) (fun h => (Ev.ofBind h fun y4 h => (Ev.ofBif h (fun h => (Ev.ofSome h)) (fun h => (ih2  _ h))))))))))) (fun h => (Ev.ofNone h)))) (fun h => (Ev.ofBind h fun y5 h => (Ev.ofBif h (fun h => (Ev.ofSome h)) (fun h => (Ev.ofBind h fun y6 h => (Ev.ofBif h (fun h => (Ev.ofSome h)) (fun h => (ih2  _ h)))))))))))))
theorem S_impl_GoodThings (a0 : (List DThing)) {r : Bool} (h : P_impl_GoodThings a0 = some r) : Ev (fun n => F_impl_GoodThings n a0) r := by
  rw [P_impl_GoodThings] at h
  refine Ev.of_eq ?_ (fun n => F_impl_GoodThings_eq n a0)
  exact (Ev.ofBif h (fun h => (Ev.ofSome h)) (fun h => (Ev.ofLen h fun hl h => S_impl_GoodThings_0_4 hl _ (0 : Nat) _ rfl h)))
theorem hcs_impl_GoodThings : ∀ x ∈ cs_impl_GoodThings, CtrOk Tryz.prog x := (conOf_cons ok_impl_ygoodRef (conOf_cons ok_impl_ycmpAtom (conOf_cons ok_impl_ygoodRefs (conOf_cons ok_impl_ygoodFields conOf_nil))))
theorem ok_impl_GoodThings : CtrOk Tryz.prog (c_impl_GoodThings) := by
  refine ctr_of_run (c := c_impl_GoodThings) (by kernel_rfl) (by kernel_rfl : Tryz.prog.funcs[51]? = some Tryz.f51) (code := Tryz.f51.body.getD .skip) (by kernel_rfl) (by kernel_rfl) (by kernel_rfl) (A := A_impl_GoodThings) (I := In_impl_GoodThings) (hcs_impl_GoodThings) ?_
  rintro ⟨a0, u⟩ y hy
  exact (S_impl_GoodThings a0 hy).get

/-! ## impl.GoodRequest (52) -/
noncomputable def P_impl_GoodRequest (a0 : DRequest) : Option Bool :=
  Option.bind (P_impl_ygoodRef a0.1) fun (y1 : Bool) =>
  bif y1 then
    Option.bind (P_impl_ygoodRef a0.2.1) fun (y2 : Bool) =>
    bif y2 then
      Option.bind (P_impl_ygoodRef a0.2.2.1) fun (y3 : Bool) =>
      bif y3 then
        Option.bind (P_impl_ygoodFields a0.2.2.2.1 a0.2.2.2.2) fun (y4 : Bool) =>
        some y4
      else
        some false
    else
      some false
  else
    some false
noncomputable def c_impl_GoodRequest : Ctr := ⟨52, [TyRequest], [.bool], fun x => P_impl_GoodRequest x.1⟩
def A_impl_GoodRequest : List (List Nat × Ann) := []
def In_impl_GoodRequest : List (List Nat × Nat) := []
noncomputable def cs_impl_GoodRequest : List Ctr := [c_impl_ygoodRef, c_impl_ygoodFields]
noncomputable def F_impl_GoodRequest (n : Nat) (a0 : DRequest) : Option Bool := run Tryz.prog A_impl_GoodRequest In_impl_GoodRequest (conOf cs_impl_GoodRequest) Tryz.f52 (Tryz.f52.body.getD .skip) (packT [.bool]) n (argsV [TyRequest] (a0, ()))
theorem F_impl_GoodRequest_eq (n : Nat) (a0 : DRequest) : F_impl_GoodRequest n a0 =
    Option.bind (P_impl_ygoodRef a0.1) fun (y1 : Bool) =>
    bif y1 then
      Option.bind (P_impl_ygoodRef a0.2.1) fun (y2 : Bool) =>
      bif y2 then
        Option.bind (P_impl_ygoodRef a0.2.2.1) fun (y3 : Bool) =>
        bif y3 then
          Option.bind (P_impl_ygoodFields a0.2.2.2.1 a0.2.2.2.2) fun (y4 : Bool) =>
          some y4
        else
          some false
      else
        some false
    else
      some false := by kernel_rfl
theorem S_impl_GoodRequest (a0 : DRequest) {r : Bool} (h : P_impl_GoodRequest a0 = some r) : Ev (fun n => F_impl_GoodRequest n a0) r := by
  rw [P_impl_GoodRequest] at h
  refine Ev.of_eq ?_ (fun n => F_impl_GoodRequest_eq n a0)
  exact (Ev.ofBind h fun y1 h => (Ev.ofBif h (fun h => (Ev.ofBind h fun y2 h => (Ev.ofBif h (fun h => (Ev.ofBind h fun y3 h => (Ev.ofBif h (fun h => (Ev.ofBind h fun y4 h => (Ev.ofSome h))) (fun h => (Ev.ofSome h))))) (fun h => (Ev.ofSome h))))) (fun h => (Ev.ofSome h))))
theorem hcs_impl_GoodRequest : ∀ x ∈ cs_impl_GoodRequest, CtrOk Tryz.prog x := (conOf_cons ok_impl_ygoodRef (conOf_cons ok_impl_ygoodFields conOf_nil))
theorem ok_impl_GoodRequest : CtrOk Tryz.prog (c_impl_GoodRequest) := by
  refine ctr_of_run (c := c_impl_GoodRequest) (by kernel_rfl) (by kernel_rfl : Tryz.prog.funcs[52]? = some Tryz.f52) (code := Tryz.f52.body.getD .skip) (by kernel_rfl) (by kernel_rfl) (by kernel_rfl) (A := A_impl_GoodRequest) (I := In_impl_GoodRequest) (hcs_impl_GoodRequest) ?_
  rintro ⟨a0, u⟩ y hy
  exact (S_impl_GoodRequest a0 hy).get

/-! ## impl.yatomFits (187) -/
noncomputable def P_impl_yatomFits (g1 : (List ((List Int) × Int))) (a0 : DAtom) (a1 : (List Int)) : Option Bool :=
  Option.bind (P_strings_CutPrefix a1 ([114, 101, 102, 32] : List Int)) fun (y1 : ((List Int) × Bool)) =>
  bif y1.2 then
    bif decide (a0.1 = 4) then
      some (decide (a0.2.2.2 = y1.1))
    else
      some false
  else
    some (decide (getM .str g1 a1 0 = a0.1))
noncomputable def c_impl_yatomFits (g1 : (List ((List Int) × Int))) : Ctr := ⟨187, [TyAtom, .str], [.bool], fun x => P_impl_yatomFits g1 x.1 x.2.1⟩
def A_impl_yatomFits : List (List Nat × Ann) := []
def In_impl_yatomFits : List (List Nat × Nat) := []
noncomputable def cs_impl_yatomFits (g1 : (List ((List Int) × Int))) : List Ctr := [c_strings_CutPrefix]
noncomputable def F_impl_yatomFits (g1 : (List ((List Int) × Int))) (n : Nat) (a0 : DAtom) (a1 : (List Int)) : Option Bool := runE Tryz.prog (glOf [(1, explode (.map .str I64) g1)]) A_impl_yatomFits In_impl_yatomFits (conOf (cs_impl_yatomFits g1)) Tryz.f187 (Tryz.f187.body.getD .skip) (endD Tryz.prog Tryz.f187 (packT [.bool])) n (argsV [TyAtom, .str] (a0, a1, ()))
theorem F_impl_yatomFits_eq (g1 : (List ((List Int) × Int))) (n : Nat) (a0 : DAtom) (a1 : (List Int)) : F_impl_yatomFits g1 n a0 a1 =
    Option.bind (P_strings_CutPrefix a1 ([114, 101, 102, 32] : List Int)) fun (y1 : ((List Int) × Bool)) =>
    bif y1.2 then
      bif decide (a0.1 = 4) then
        some (decide (a0.2.2.2 = y1.1))
      else
        some false
    else
      some (decide (getM .str g1 a1 0 = a0.1)) := by kernel_rfl
theorem S_impl_yatomFits {g1 : (List ((List Int) × Int))} (a0 : DAtom) (a1 : (List Int)) {r : Bool} (h : P_impl_yatomFits g1 a0 a1 = some r) : Ev (fun n => F_impl_yatomFits g1 n a0 a1) r := by
  rw [P_impl_yatomFits] at h
  refine Ev.of_eq ?_ (fun n => F_impl_yatomFits_eq g1 n a0 a1)
  exact (Ev.ofBind h fun y1 h => (Ev.ofBif h (fun h => (Ev.ofBif h (fun h => (Ev.ofSome h)) (fun h => (Ev.ofSome h)))) (fun h => (Ev.ofSome h))))
theorem hcs_impl_yatomFits (g1 : (List ((List Int) × Int))) : ∀ x ∈ cs_impl_yatomFits g1, CtrOkG Tryz.prog (glOf [(1, explode (.map .str I64) g1)]) x := (conOf_cons ok_strings_CutPrefix.any conOf_nil)
theorem ok_impl_yatomFits (g1 : (List ((List Int) × Int))) : CtrOkG Tryz.prog (glOf [(1, explode (.map .str I64) g1)]) (c_impl_yatomFits g1) := by
  refine ctr_of_run (c := c_impl_yatomFits g1) (by kernel_rfl) (by kernel_rfl : Tryz.prog.funcs[187]? = some Tryz.f187) (code := Tryz.f187.body.getD .skip) (by kernel_rfl) (by kernel_rfl) (by kernel_rfl) (A := A_impl_yatomFits) (I := In_impl_yatomFits) (hcs_impl_yatomFits g1) ?_
  rintro ⟨a0, a1, u⟩ y hy
  exact (S_impl_yatomFits a0 a1 hy).get

/-! ## impl.FitsKind (110) -/
noncomputable def P_impl_FitsKind_0_2_1002_6007 (g1 : (List ((List Int) × Int))) (x5 : (List Int)) : List DAtom → Nat → Option Bool
  | [], k =>
      some true
  | e :: rest, k =>
      Option.bind (P_impl_yatomFits g1 (e) x5) fun (y5 : Bool) =>
      bif !(y5) then
        some (!decide ((0 : Int) ≤ (k : Int)))
      else
        P_impl_FitsKind_0_2_1002_6007 g1 x5 rest (k + 1)
noncomputable def P_impl_FitsKind_1_5 (g1 : (List ((List Int) × Int))) (x1 : Bool) (x2 : DValue) (x3 : (List Int)) : Option Bool :=
  bif x1 then
    bif decide (x2.1 = 2) then
      lenOk x2.2.2.1 (P_impl_FitsKind_0_2_1002_6007 g1 x3 x2.2.2.1 0)
    else
      some false
  else
    bif decide (x2.1 = 1) then
      Option.bind (P_impl_yatomFits g1 x2.2.1 x3) fun (y6 : Bool) =>
      some y6
    else
      some false
noncomputable def P_impl_FitsKind (g1 : (List ((List Int) × Int))) (a0 : DValue) (a1 : (List Int)) : Option Bool :=
  Option.bind (P_strings_CutPrefix a1 ([115, 101, 116, 32] : List Int)) fun (y1 : ((List Int) × Bool)) =>
  Option.bind (P_strings_CutPrefix y1.1 ([114, 101, 102, 32] : List Int)) fun (y2 : ((List Int) × Bool)) =>
  Option.bind (P_impl_GoodValue a0) fun (y3 : Bool) =>
  bif !(y3) then
    some false
  else
    bif y2.2 then
      Option.bind (P_impl_GoodName y2.1) fun (y4 : Bool) =>
      bif !(y4) then
        some false
      else
        bif !(y2.2) then
          bif decide (getM .str g1 y1.1 0 = 0) then
            some false
          else
            P_impl_FitsKind_1_5 g1 y1.2 a0 y1.1
        else
          P_impl_FitsKind_1_5 g1 y1.2 a0 y1.1
    else
      bif !(y2.2) then
        bif decide (getM .str g1 y1.1 0 = 0) then
          some false
        else
          P_impl_FitsKind_1_5 g1 y1.2 a0 y1.1
      else
        P_impl_FitsKind_1_5 g1 y1.2 a0 y1.1
noncomputable def c_impl_FitsKind (g1 : (List ((List Int) × Int))) : Ctr := ⟨110, [TyValue, .str], [.bool], fun x => P_impl_FitsKind g1 x.1 x.2.1⟩
def A_impl_FitsKind : List (List Nat × Ann) := [([1, 5], [.keep 0 2, .keep 0 5, .keep 0 6, .boxd 0 2 TyValue, .box 0 5 1]), ([0, 2, 1002, 6007], [.keep 0 44, .keep 2 0, .keep 2 1, .keep 2 7, .keep 2 8, .box 0 5 1])]
def In_impl_FitsKind : List (List Nat × Nat) := [([6007], 180), ([1002, 6007], 220), ([4005, 1002, 6007], 186)]
noncomputable def cs_impl_FitsKind (g1 : (List ((List Int) × Int))) : List Ctr := [c_strings_CutPrefix, c_impl_GoodValue, c_impl_GoodName, (c_impl_yatomFits g1)]
noncomputable def F_impl_FitsKind (g1 : (List ((List Int) × Int))) (n : Nat) (a0 : DValue) (a1 : (List Int)) : Option Bool := runE Tryz.prog (glOf [(1, explode (.map .str I64) g1)]) A_impl_FitsKind In_impl_FitsKind (conOf (cs_impl_FitsKind g1)) Tryz.f110 (Tryz.f110.body.getD .skip) (endD Tryz.prog Tryz.f110 (packT [.bool])) n (argsV [TyValue, .str] (a0, a1, ()))
noncomputable abbrev L_impl_FitsKind_1_5 (g1 : (List ((List Int) × Int))) (n : Nat) (x1 : Bool) (x2 : DValue) (x3 : (List Int)) : Option Bool := lamE Tryz.prog (glOf [(1, explode (.map .str I64) g1)]) A_impl_FitsKind In_impl_FitsKind (conOf (cs_impl_FitsKind g1)) Tryz.f110 (Tryz.f110.body.getD .skip) (endD Tryz.prog Tryz.f110 (packT [.bool])) n [1, 5] [.ptr 0 2 0, .ptr 0 5 0, .d .bool x1, .agg (explode TyValue x2), .agg [.d .str x3]]
noncomputable abbrev L_impl_FitsKind_0_2_1002_6007 (g1 : (List ((List Int) × Int))) (n : Nat) (x1 : Bool) (x2 : (List DAtom)) (x3 : Int) (x4 : Int) (x5 : (List Int)) : Option Bool := lamE Tryz.prog (glOf [(1, explode (.map .str I64) g1)]) A_impl_FitsKind In_impl_FitsKind (conOf (cs_impl_FitsKind g1)) Tryz.f110 (Tryz.f110.body.getD .skip) (endD Tryz.prog Tryz.f110 (packT [.bool])) n [0, 2, 1002, 6007] [.d .bool x1, .d (.list TyAtom) x2, .fn 186 [.ptr 0 5 0], .d I64 x3, .d I64 x4, .agg [.d .str x5]]
theorem F_impl_FitsKind_eq (g1 : (List ((List Int) × Int))) (n : Nat) (a0 : DValue) (a1 : (List Int)) : F_impl_FitsKind g1 n a0 a1 =
    Option.bind (P_strings_CutPrefix a1 ([115, 101, 116, 32] : List Int)) fun (y1 : ((List Int) × Bool)) =>
    Option.bind (P_strings_CutPrefix y1.1 ([114, 101, 102, 32] : List Int)) fun (y2 : ((List Int) × Bool)) =>
    Option.bind (P_impl_GoodValue a0) fun (y3 : Bool) =>
    bif !(y3) then
      some false
    else
      bif y2.2 then
        Option.bind (P_impl_GoodName y2.1) fun (y4 : Bool) =>
        bif !(y4) then
          some false
        else
          bif !(y2.2) then
            bif decide (getM .str g1 y1.1 0 = 0) then
              some false
            else
              L_impl_FitsKind_1_5 g1 n y1.2 a0 y1.1
          else
            L_impl_FitsKind_1_5 g1 n y1.2 a0 y1.1
      else
        bif !(y2.2) then
          bif decide (getM .str g1 y1.1 0 = 0) then
            some false
          else
            L_impl_FitsKind_1_5 g1 n y1.2 a0 y1.1
        else
          L_impl_FitsKind_1_5 g1 n y1.2 a0 y1.1 := by kernel_rfl
theorem L_impl_FitsKind_1_5_eq (g1 : (List ((List Int) × Int))) (n : Nat) (x1 : Bool) (x2 : DValue) (x3 : (List Int)) : L_impl_FitsKind_1_5 g1 (n + 1) x1 x2 x3 =
    bif x1 then
      bif decide (x2.1 = 2) then
        L_impl_FitsKind_0_2_1002_6007 g1 n true x2.2.2.1 (x2.2.2.1.length : Int) 0 x3
      else
        some false
    else
      bif decide (x2.1 = 1) then
        Option.bind (P_impl_yatomFits g1 x2.2.1 x3) fun (y6 : Bool) =>
        some y6
      else
        some false := by kernel_rfl
theorem L_impl_FitsKind_0_2_1002_6007_eq (g1 : (List ((List Int) × Int))) (n : Nat) (x1 : Bool) (x2 : (List DAtom)) (x3 : Int) (x4 : Int) (x5 : (List Int)) : L_impl_FitsKind_0_2_1002_6007 g1 (n + 1) x1 x2 x3 x4 x5 =
    bif decide (x4 < x3) then
      bif inB x4 x2.length then
        Option.bind (P_impl_yatomFits g1 (rd x2 x4 (Ty.dflt TyAtom)) x5) fun (y5 : Bool) =>
        bif !(y5) then
          bif x1 then
            some (!decide ((0 : Int) ≤ x4))
          else
            some false
        else
          L_impl_FitsKind_0_2_1002_6007 g1 n x1 x2 x3 (IntKind.wrap .i64 (x4 + 1)) x5
      else none
    else
      bif x1 then
        some true
      else
        some false := by kernel_rfl
theorem S_impl_FitsKind_0_2_1002_6007 {g1 : (List ((List Int) × Int))} {x2 : (List DAtom)} {x5 : (List Int)} (hl : x2.length ≤ maxLen) : ∀ (rest : List DAtom) (k : Nat) (r : Bool), rest = x2.drop k → P_impl_FitsKind_0_2_1002_6007 g1 x5 rest k = some r → Ev (fun n => L_impl_FitsKind_0_2_1002_6007 g1 n true x2 (x2.length : Int) (k : Int) x5) r := by
  intro rest
  induction rest with
  | nil =>
    intro k r hr h
    have hk := drop_nil hr
    rw [P_impl_FitsKind_0_2_1002_6007] at h
    refine Ev.step ?_ (fun n => L_impl_FitsKind_0_2_1002_6007_eq g1 n true x2 (x2.length : Int) (k : Int) x5)
    rw [show decide ((k : Int) < (x2.length : Int)) = false from decide_eq_false (by omega)]
    exact Ev.neg rfl (Ev.pos rfl (Ev.ofSome h))
  | cons e rest ih =>
    intro k r hr h
    obtain ⟨hk, hx, hr2⟩ := drop_cons (d := (Ty.dflt TyAtom)) hr
    have hw := wrap_succ hl hk
    have ih2 : ∀ (r : Bool), P_impl_FitsKind_0_2_1002_6007 g1 x5 rest (k + 1) = some r → Ev (fun n => L_impl_FitsKind_0_2_1002_6007 g1 n true x2 (x2.length : Int) (IntKind.wrap .i64 ((k : Int) + 1)) x5) r := by
      intro r h; rw [hw]; exact ih (k + 1) r hr2 h
    rw [P_impl_FitsKind_0_2_1002_6007] at h
    refine Ev.step ?_ (fun n => L_impl_FitsKind_0_2_1002_6007_eq g1 n true x2 (x2.length : Int) (k : Int) x5)
    rw [show decide ((k : Int) < (x2.length : Int)) = true from decide_eq_true (by omega), inB_nat2 hk, hx]
    exact Ev.pos rfl (Ev.pos rfl (Ev.ofBind h fun y5 h => (Ev.ofBif h (fun h => (Ev.pos rfl (Ev.ofSome h))) (fun h => (ih2  _ h)))))
theorem S_impl_FitsKind_1_5 {g1 : (List ((List Int) × Int))} {x1 : Bool} {x2 : DValue} {x3 : (List Int)} {r : Bool} (h : P_impl_FitsKind_1_5 g1 x1 x2 x3 = some r) : Ev (fun n => L_impl_FitsKind_1_5 g1 n x1 x2 x3) r := by
  rw [P_impl_FitsKind_1_5] at h
  refine Ev.step ?_ (fun n => L_impl_FitsKind_1_5_eq g1 n x1 x2 x3)
  exact (Ev.ofBif h (fun h => (Ev.ofBif h (fun h => (Ev.ofLen h fun hl h => S_impl_FitsKind_0_2_1002_6007 hl _ (0 : Nat) _ rfl h)) (fun h => (Ev.ofSome h)))) (fun h => (Ev.ofBif h (fun h => (Ev.ofBind h fun y6 h => (Ev.ofSome h))) (fun h => (Ev.ofSome h)))))
theorem S_impl_FitsKind {g1 : (List ((List Int) × Int))} (a0 : DValue) (a1 : (List Int)) {r : Bool} (h : P_impl_FitsKind g1 a0 a1 = some r) : Ev (fun n => F_impl_FitsKind g1 n a0 a1) r := by
  rw [P_impl_FitsKind] at h
  refine Ev.of_eq ?_ (fun n => F_impl_FitsKind_eq g1 n a0 a1)
  exact (Ev.ofBind h fun y1 h => (Ev.ofBind h fun y2 h => (Ev.ofBind h fun y3 h => (Ev.ofBif h (fun h => (Ev.ofSome h)) (fun h => (Ev.ofBif h (fun h => (Ev.ofBind h fun y4 h => (Ev.ofBif h (fun h => (Ev.ofSome h)) (fun h => (Ev.ofBif h (fun h => (Ev.ofBif h (fun h => (Ev.ofSome h)) (fun h => (S_impl_FitsKind_1_5 h)))) (fun h => (S_impl_FitsKind_1_5 h))))))) (fun h => (Ev.ofBif h (fun h => (Ev.ofBif h (fun h => (Ev.ofSome h)) (fun h => (S_impl_FitsKind_1_5 h)))) (fun h => (S_impl_FitsKind_1_5 h))))))))))
theorem hcs_impl_FitsKind (g1 : (List ((List Int) × Int))) : ∀ x ∈ cs_impl_FitsKind g1, CtrOkG Tryz.prog (glOf [(1, explode (.map .str I64) g1)]) x := (conOf_cons ok_strings_CutPrefix.any (conOf_cons ok_impl_GoodValue.any (conOf_cons ok_impl_GoodName.any (conOf_cons (ok_impl_yatomFits g1) conOf_nil))))
theorem ok_impl_FitsKind (g1 : (List ((List Int) × Int))) : CtrOkG Tryz.prog (glOf [(1, explode (.map .str I64) g1)]) (c_impl_FitsKind g1) := by
  refine ctr_of_run (c := c_impl_FitsKind g1) (by kernel_rfl) (by kernel_rfl : Tryz.prog.funcs[110]? = some Tryz.f110) (code := Tryz.f110.body.getD .skip) (by kernel_rfl) (by kernel_rfl) (by kernel_rfl) (A := A_impl_FitsKind) (I := In_impl_FitsKind) (hcs_impl_FitsKind g1) ?_
  rintro ⟨a0, a1, u⟩ y hy
  exact (S_impl_FitsKind a0 a1 hy).get

/-! ## impl.yatomsOf (111) -/
noncomputable def T_impl_yatomsOf (a0 : DValue) : (List DAtom) :=
  bif decide (a0.1 = 1) then
    ([a0.2.1] : List DAtom)
  else
    a0.2.2.1
noncomputable def c_impl_yatomsOf : Ctr := ⟨111, [TyValue], [(.list TyAtom)], fun x => some (T_impl_yatomsOf x.1)⟩
def A_impl_yatomsOf : List (List Nat × Ann) := []
def In_impl_yatomsOf : List (List Nat × Nat) := []
noncomputable def cs_impl_yatomsOf : List Ctr := []
noncomputable def F_impl_yatomsOf (n : Nat) (a0 : DValue) : Option (List DAtom) := run Tryz.prog A_impl_yatomsOf In_impl_yatomsOf (conOf cs_impl_yatomsOf) Tryz.f111 (Tryz.f111.body.getD .skip) (packT [(.list TyAtom)]) n (argsV [TyValue] (a0, ()))
theorem F_impl_yatomsOf_eq (n : Nat) (a0 : DValue) : F_impl_yatomsOf n a0 =
    bif decide (a0.1 = 1) then
      some ([a0.2.1] : List DAtom)
    else
      some a0.2.2.1 := by kernel_rfl
theorem S_impl_yatomsOf (n : Nat) (a0 : DValue) : F_impl_yatomsOf n a0 = some (T_impl_yatomsOf a0) := (F_impl_yatomsOf_eq n a0).trans (cond_some rfl rfl)
theorem hcs_impl_yatomsOf : ∀ x ∈ cs_impl_yatomsOf, CtrOk Tryz.prog x := conOf_nil
theorem ok_impl_yatomsOf : CtrOk Tryz.prog (c_impl_yatomsOf) := by
  refine ctr_of_run (c := c_impl_yatomsOf) (by kernel_rfl) (by kernel_rfl : Tryz.prog.funcs[111]? = some Tryz.f111) (code := Tryz.f111.body.getD .skip) (by kernel_rfl) (by kernel_rfl) (by kernel_rfl) (A := A_impl_yatomsOf) (I := In_impl_yatomsOf) (hcs_impl_yatomsOf) ?_
  rintro ⟨a0, u⟩ y hy
  exact ⟨0, (S_impl_yatomsOf 0 a0).trans hy⟩

/-! ## impl.yfindThing (55) -/
noncomputable def P_impl_yfindThing_0_2_1002 (x6 : DAtom) : List DThing → Nat → Option (DThing × Bool)
  | [], k =>
      some (((0, 0, ([] : List Int), ([] : List Int)), [], [], []), false)
  | e :: rest, k =>
      bif @decide (((e).1) = x6) (Ty.decEq TyAtom ((e).1) x6) then
        bif decide ((k : Int) < 0) then
          some (((0, 0, ([] : List Int), ([] : List Int)), [], [], []), false)
        else
          some ((((e).1), ((e).2)), true)
      else
        P_impl_yfindThing_0_2_1002 x6 rest (k + 1)
noncomputable def P_impl_yfindThing (a0 : (List DThing)) (a1 : DAtom) : Option (DThing × Bool) :=
  lenOk a0 (P_impl_yfindThing_0_2_1002 a1 a0 0)
noncomputable def c_impl_yfindThing : Ctr := ⟨55, [(.list TyThing), TyAtom], [TyThing, .bool], fun x => P_impl_yfindThing x.1 x.2.1⟩
def A_impl_yfindThing : List (List Nat × Ann) := [([0, 2, 1002], [.keep 0 0, .keep 0 4, .keep 1 0, .keep 1 1, .keep 1 7, .keep 1 8, .boxd 0 4 TyThing, .boxd 0 3 TyAtom])]
def In_impl_yfindThing : List (List Nat × Nat) := [([1002], 114), ([4005, 1002], 115)]
noncomputable def cs_impl_yfindThing : List Ctr := []
noncomputable def F_impl_yfindThing (n : Nat) (a0 : (List DThing)) (a1 : DAtom) : Option (DThing × Bool) := run Tryz.prog A_impl_yfindThing In_impl_yfindThing (conOf cs_impl_yfindThing) Tryz.f55 (Tryz.f55.body.getD .skip) (packT [TyThing, .bool]) n (argsV [(.list TyThing), TyAtom] (a0, a1, ()))
noncomputable abbrev L_impl_yfindThing_0_2_1002 (n : Nat) (x1 : (List DThing)) (x2 : (List DThing)) (x3 : Int) (x4 : Int) (x5 : DThing) (x6 : DAtom) : Option (DThing × Bool) := lam Tryz.prog A_impl_yfindThing In_impl_yfindThing (conOf cs_impl_yfindThing) Tryz.f55 (Tryz.f55.body.getD .skip) (packT [TyThing, .bool]) n [0, 2, 1002] [.d (.list TyThing) x1, .ptr 0 4 0, .d (.list TyThing) x2, .fn 115 [.ptr 0 3 0], .d I64 x3, .d I64 x4, .agg (explode TyThing x5), .agg (explode TyAtom x6)]
theorem F_impl_yfindThing_eq (n : Nat) (a0 : (List DThing)) (a1 : DAtom) : F_impl_yfindThing n a0 a1 =
    L_impl_yfindThing_0_2_1002 n a0 a0 (a0.length : Int) 0 ((0, 0, ([] : List Int), ([] : List Int)), [], [], []) a1 := by kernel_rfl
theorem L_impl_yfindThing_0_2_1002_eq (n : Nat) (x1 : (List DThing)) (x2 : (List DThing)) (x3 : Int) (x4 : Int) (x5 : DThing) (x6 : DAtom) : L_impl_yfindThing_0_2_1002 (n + 1) x1 x2 x3 x4 x5 x6 =
    bif decide (x4 < x3) then
      bif inB x4 x2.length then
        bif @decide (((rd x2 x4 (Ty.dflt TyThing)).1) = x6) (Ty.decEq TyAtom ((rd x2 x4 (Ty.dflt TyThing)).1) x6) then
          bif decide (x4 < 0) then
            some (((0, 0, ([] : List Int), ([] : List Int)), [], [], []), false)
          else
            bif inB x4 x1.length then
              some ((((rd x1 x4 (Ty.dflt TyThing)).1), ((rd x1 x4 (Ty.dflt TyThing)).2)), true)
            else none
        else
          L_impl_yfindThing_0_2_1002 n x1 x2 x3 (IntKind.wrap .i64 (x4 + 1)) x5 x6
      else none
    else
      some (((0, 0, ([] : List Int), ([] : List Int)), [], [], []), false) := by kernel_rfl
theorem S_impl_yfindThing_0_2_1002 {x1 : (List DThing)} {x5 : DThing} {x6 : DAtom} (hl : x1.length ≤ maxLen) : ∀ (rest : List DThing) (k : Nat) (r : (DThing × Bool)), rest = x1.drop k → P_impl_yfindThing_0_2_1002 x6 rest k = some r → Ev (fun n => L_impl_yfindThing_0_2_1002 n x1 x1 (x1.length : Int) (k : Int) x5 x6) r := by
  intro rest
  induction rest with
  | nil =>
    intro k r hr h
    have hk := drop_nil hr
    rw [P_impl_yfindThing_0_2_1002] at h
    refine Ev.step ?_ (fun n => L_impl_yfindThing_0_2_1002_eq n x1 x1 (x1.length : Int) (k : Int) x5 x6)
    rw [show decide ((k : Int) < (x1.length : Int)) = false from decide_eq_false (by omega)]
    exact Ev.neg rfl (Ev.ofSome h)
  | cons e rest ih =>
    intro k r hr h
    obtain ⟨hk, hx, hr2⟩ := drop_cons (d := (Ty.dflt TyThing)) hr
    have hw := wrap_succ hl hk
    have ih2 : ∀ (r : (DThing × Bool)), P_impl_yfindThing_0_2_1002 x6 rest (k + 1) = some r → Ev (fun n => L_impl_yfindThing_0_2_1002 n x1 x1 (x1.length : Int) (IntKind.wrap .i64 ((k : Int) + 1)) x5 x6) r := by
      intro r h; rw [hw]; exact ih (k + 1) r hr2 h
    rw [P_impl_yfindThing_0_2_1002] at h
    refine Ev.step ?_ (fun n => L_impl_yfindThing_0_2_1002_eq n x1 x1 (x1.length : Int) (k : Int) x5 x6)
    rw [show decide ((k : Int) < (x1.length : Int)) = true from decide_eq_true (by omega), inB_nat2 hk, hx]
    exact Ev.pos rfl (Ev.pos rfl (Ev.ofBif h (fun h => (Ev.ofBif h (fun h => (Ev.ofSome h)) (fun h => (Ev.pos rfl (Ev.ofSome h))))) (fun h => (ih2  _ h))))
theorem S_impl_yfindThing (a0 : (List DThing)) (a1 : DAtom) {r : (DThing × Bool)} (h : P_impl_yfindThing a0 a1 = some r) : Ev (fun n => F_impl_yfindThing n a0 a1) r := by
  rw [P_impl_yfindThing] at h
  refine Ev.of_eq ?_ (fun n => F_impl_yfindThing_eq n a0 a1)
  exact (Ev.ofLen h fun hl h => S_impl_yfindThing_0_2_1002 hl _ (0 : Nat) _ rfl h)
theorem hcs_impl_yfindThing : ∀ x ∈ cs_impl_yfindThing, CtrOk Tryz.prog x := conOf_nil
theorem ok_impl_yfindThing : CtrOk Tryz.prog (c_impl_yfindThing) := by
  refine ctr_of_run (c := c_impl_yfindThing) (by kernel_rfl) (by kernel_rfl : Tryz.prog.funcs[55]? = some Tryz.f55) (code := Tryz.f55.body.getD .skip) (by kernel_rfl) (by kernel_rfl) (by kernel_rfl) (A := A_impl_yfindThing) (I := In_impl_yfindThing) (hcs_impl_yfindThing) ?_
  rintro ⟨a0, a1, u⟩ y hy
  exact (S_impl_yfindThing a0 a1 hy).get

/-! ## slices.Index[[]string,string] (116) -/
noncomputable def P_slices_Index_string_string_0_2 (x2 : (List Int)) : List (List Int) → Nat → Option Int
  | [], k =>
      some (-1)
  | e :: rest, k =>
      bif decide (x2 = e) then
        some (k : Int)
      else
        P_slices_Index_string_string_0_2 x2 rest (k + 1)
noncomputable def P_slices_Index_string_string (a0 : (List (List Int))) (a1 : (List Int)) : Option Int :=
  lenOk a0 (P_slices_Index_string_string_0_2 a1 a0 0)
noncomputable def c_slices_Index_string_string : Ctr := ⟨116, [(.list .str), .str], [I64], fun x => P_slices_Index_string_string x.1 x.2.1⟩
def A_slices_Index_string_string : List (List Nat × Ann) := [([0, 2], [.keep 0 0, .keep 0 1, .keep 0 7, .keep 0 8])]
def In_slices_Index_string_string : List (List Nat × Nat) := []
noncomputable def cs_slices_Index_string_string : List Ctr := []
noncomputable def F_slices_Index_string_string (n : Nat) (a0 : (List (List Int))) (a1 : (List Int)) : Option Int := run Tryz.prog A_slices_Index_string_string In_slices_Index_string_string (conOf cs_slices_Index_string_string) Tryz.f116 (Tryz.f116.body.getD .skip) (packT [I64]) n (argsV [(.list .str), .str] (a0, a1, ()))
noncomputable abbrev L_slices_Index_string_string_0_2 (n : Nat) (x1 : (List (List Int))) (x2 : (List Int)) (x3 : Int) (x4 : Int) : Option Int := lam Tryz.prog A_slices_Index_string_string In_slices_Index_string_string (conOf cs_slices_Index_string_string) Tryz.f116 (Tryz.f116.body.getD .skip) (packT [I64]) n [0, 2] [.d (.list .str) x1, .d .str x2, .d I64 x3, .d I64 x4]
theorem F_slices_Index_string_string_eq (n : Nat) (a0 : (List (List Int))) (a1 : (List Int)) : F_slices_Index_string_string n a0 a1 =
    L_slices_Index_string_string_0_2 n a0 a1 (a0.length : Int) 0 := by kernel_rfl
theorem L_slices_Index_string_string_0_2_eq (n : Nat) (x1 : (List (List Int))) (x2 : (List Int)) (x3 : Int) (x4 : Int) : L_slices_Index_string_string_0_2 (n + 1) x1 x2 x3 x4 =
    bif decide (x4 < x3) then
      bif inB x4 x1.length then
        bif decide (x2 = rd x1 x4 (Ty.dflt .str)) then
          some x4
        else
          L_slices_Index_string_string_0_2 n x1 x2 x3 (IntKind.wrap .i64 (x4 + 1))
      else none
    else
      some (-1) := by kernel_rfl
theorem S_slices_Index_string_string_0_2 {x1 : (List (List Int))} {x2 : (List Int)} (hl : x1.length ≤ maxLen) : ∀ (rest : List (List Int)) (k : Nat) (r : Int), rest = x1.drop k → P_slices_Index_string_string_0_2 x2 rest k = some r → Ev (fun n => L_slices_Index_string_string_0_2 n x1 x2 (x1.length : Int) (k : Int)) r := by
  intro rest
  induction rest with
  | nil =>
    intro k r hr h
    have hk := drop_nil hr
    rw [P_slices_Index_string_string_0_2] at h
    refine Ev.step ?_ (fun n => L_slices_Index_string_string_0_2_eq n x1 x2 (x1.length : Int) (k : Int))
    rw [show decide ((k : Int) < (x1.length : Int)) = false from decide_eq_false (by omega)]
    exact Ev.neg rfl (Ev.ofSome h)
  | cons e rest ih =>
    intro k r hr h
    obtain ⟨hk, hx, hr2⟩ := drop_cons (d := (Ty.dflt .str)) hr
    have hw := wrap_succ hl hk
    have ih2 : ∀ (r : Int), P_slices_Index_string_string_0_2 x2 rest (k + 1) = some r → Ev (fun n => L_slices_Index_string_string_0_2 n x1 x2 (x1.length : Int) (IntKind.wrap .i64 ((k : Int) + 1))) r := by
      intro r h; rw [hw]; exact ih (k + 1) r hr2 h
    rw [P_slices_Index_string_string_0_2] at h
    refine Ev.step ?_ (fun n => L_slices_Index_string_string_0_2_eq n x1 x2 (x1.length : Int) (k : Int))
    rw [show decide ((k : Int) < (x1.length : Int)) = true from decide_eq_true (by omega), inB_nat2 hk, hx]
    exact Ev.pos rfl (Ev.pos rfl (Ev.ofBif h (fun h => (Ev.ofSome h)) (fun h => (ih2  _ h))))
theorem S_slices_Index_string_string (a0 : (List (List Int))) (a1 : (List Int)) {r : Int} (h : P_slices_Index_string_string a0 a1 = some r) : Ev (fun n => F_slices_Index_string_string n a0 a1) r := by
  rw [P_slices_Index_string_string] at h
  refine Ev.of_eq ?_ (fun n => F_slices_Index_string_string_eq n a0 a1)
  exact (Ev.ofLen h fun hl h => S_slices_Index_string_string_0_2 hl _ (0 : Nat) _ rfl h)
theorem hcs_slices_Index_string_string : ∀ x ∈ cs_slices_Index_string_string, CtrOk Tryz.prog x := conOf_nil
theorem ok_slices_Index_string_string : CtrOk Tryz.prog (c_slices_Index_string_string) := by
  refine ctr_of_run (c := c_slices_Index_string_string) (by kernel_rfl) (by kernel_rfl : Tryz.prog.funcs[116]? = some Tryz.f116) (code := Tryz.f116.body.getD .skip) (by kernel_rfl) (by kernel_rfl) (by kernel_rfl) (A := A_slices_Index_string_string) (I := In_slices_Index_string_string) (hcs_slices_Index_string_string) ?_
  rintro ⟨a0, a1, u⟩ y hy
  exact (S_slices_Index_string_string a0 a1 hy).get

/-! ## slices.Contains[[]string,string] (56) -/
noncomputable def P_slices_Contains_string_string (a0 : (List (List Int))) (a1 : (List Int)) : Option Bool :=
  Option.bind (P_slices_Index_string_string a0 a1) fun (y1 : Int) =>
  some (decide ((0 : Int) ≤ y1))
noncomputable def c_slices_Contains_string_string : Ctr := ⟨56, [(.list .str), .str], [.bool], fun x => P_slices_Contains_string_string x.1 x.2.1⟩
def A_slices_Contains_string_string : List (List Nat × Ann) := []
def In_slices_Contains_string_string : List (List Nat × Nat) := []
noncomputable def cs_slices_Contains_string_string : List Ctr := [c_slices_Index_string_string]
noncomputable def F_slices_Contains_string_string (n : Nat) (a0 : (List (List Int))) (a1 : (List Int)) : Option Bool := run Tryz.prog A_slices_Contains_string_string In_slices_Contains_string_string (conOf cs_slices_Contains_string_string) Tryz.f56 (Tryz.f56.body.getD .skip) (packT [.bool]) n (argsV [(.list .str), .str] (a0, a1, ()))
theorem F_slices_Contains_string_string_eq (n : Nat) (a0 : (List (List Int))) (a1 : (List Int)) : F_slices_Contains_string_string n a0 a1 =
    Option.bind (P_slices_Index_string_string a0 a1) fun (y1 : Int) =>
    some (decide ((0 : Int) ≤ y1)) := by kernel_rfl
theorem S_slices_Contains_string_string (a0 : (List (List Int))) (a1 : (List Int)) {r : Bool} (h : P_slices_Contains_string_string a0 a1 = some r) : Ev (fun n => F_slices_Contains_string_string n a0 a1) r := by
  rw [P_slices_Contains_string_string] at h
  refine Ev.of_eq ?_ (fun n => F_slices_Contains_string_string_eq n a0 a1)
  exact (Ev.ofBind h fun y1 h => (Ev.ofSome h))
theorem hcs_slices_Contains_string_string : ∀ x ∈ cs_slices_Contains_string_string, CtrOk Tryz.prog x := (conOf_cons ok_slices_Index_string_string conOf_nil)
theorem ok_slices_Contains_string_string : CtrOk Tryz.prog (c_slices_Contains_string_string) := by
  refine ctr_of_run (c := c_slices_Contains_string_string) (by kernel_rfl) (by kernel_rfl : Tryz.prog.funcs[56]? = some Tryz.f56) (code := Tryz.f56.body.getD .skip) (by kernel_rfl) (by kernel_rfl) (by kernel_rfl) (A := A_slices_Contains_string_string) (I := In_slices_Contains_string_string) (hcs_slices_Contains_string_string) ?_
  rintro ⟨a0, a1, u⟩ y hy
  exact (S_slices_Contains_string_string a0 a1 hy).get

/-! ## impl.yfieldsFit (54) -/
noncomputable def P_impl_yfieldsFit_0_8 (g1 : (List ((List Int) × Int))) (K0 : Option Bool) (x1 : (List DThing)) : List DAtom → Option Bool
  | [] =>
      K0
  | e :: rest =>
      Option.bind (P_impl_yfindThing x1 (e)) fun (y2 : (DThing × Bool)) =>
      bif decide ((e).1 = 4) then
        bif !(y2.2) then
          some false
        else
          P_impl_yfieldsFit_0_8 g1 K0 x1 rest
      else
        P_impl_yfieldsFit_0_8 g1 K0 x1 rest
noncomputable def P_impl_yfieldsFit_0_2_4002 (g1 : (List ((List Int) × Int))) (K0 : Option Bool) (x1 : (List DThing)) (x2 : (List DValue)) (x4 : Int) (x8 : (List Int)) : List DAttrKind → Option Bool
  | [] =>
      some false
  | e :: rest =>
      bif decide ((e).1 = x8) then
        bif inB x4 x2.length then
          Option.bind (P_impl_FitsKind g1 (rd x2 x4 (Ty.dflt TyValue)) (((e).2).1)) fun (y1 : Bool) =>
          bif !(y1) then
            some false
          else
            bif inB x4 x2.length then
              lenOk (T_impl_yatomsOf (rd x2 x4 (Ty.dflt TyValue))) (P_impl_yfieldsFit_0_8 g1 K0 x1 (T_impl_yatomsOf (rd x2 x4 (Ty.dflt TyValue))))
            else none
        else none
      else
        P_impl_yfieldsFit_0_2_4002 g1 K0 x1 x2 x4 x8 rest
noncomputable def P_impl_yfieldsFit_0_2_1002_15002 (g1 : (List ((List Int) × Int))) (x4 : (List (List Int))) : List DAttrKind → Nat → Option Bool
  | [], k =>
      some true
  | e :: rest, k =>
      bif ((e).2).2 then
        Option.bind (P_slices_Contains_string_string x4 ((e).1)) fun (y3 : Bool) =>
        bif !(y3) then
          some (!decide ((0 : Int) ≤ (k : Int)))
        else
          P_impl_yfieldsFit_0_2_1002_15002 g1 x4 rest (k + 1)
      else
        P_impl_yfieldsFit_0_2_1002_15002 g1 x4 rest (k + 1)
noncomputable def P_impl_yfieldsFit_0_2 (g1 : (List ((List Int) × Int))) (x1 : (List DThing)) (x2 : (List DValue)) (x3 : (List DAttrKind)) (x4 : (List (List Int))) : List (List Int) → Nat → Option Bool
  | [], k =>
      lenOk x3 (P_impl_yfieldsFit_0_2_1002_15002 g1 x4 x3 0)
  | e :: rest, k =>
      lenOk x3 (P_impl_yfieldsFit_0_2_4002 g1 (P_impl_yfieldsFit_0_2 g1 x1 x2 x3 x4 rest (k + 1)) x1 x2 (k : Int) (e) x3)
noncomputable def P_impl_yfieldsFit (g1 : (List ((List Int) × Int))) (a0 : (List DThing)) (a1 : (List (List Int))) (a2 : (List DValue)) (a3 : (List DAttrKind)) : Option Bool :=
  lenOk a1 (P_impl_yfieldsFit_0_2 g1 a0 a2 a3 a1 a1 0)
noncomputable def c_impl_yfieldsFit (g1 : (List ((List Int) × Int))) : Ctr := ⟨54, [(.list TyThing), (.list .str), (.list TyValue), (.list TyAttrKind)], [.bool], fun x => P_impl_yfieldsFit g1 x.1 x.2.1 x.2.2.1 x.2.2.2.1⟩
def A_impl_yfieldsFit : List (List Nat × Ann) := [([0, 2], [.keep 0 0, .keep 0 2, .keep 0 3, .keep 0 5, .keep 0 17, .keep 0 18, .keep 0 19, .box 0 5 1]), ([0, 2, 4002], [.keep 0 0, .keep 0 2, .keep 0 3, .keep 0 5, .keep 0 9, .keep 0 17, .keep 0 18, .keep 0 19, .keep 1 1, .keep 1 2, .keep 1 6, .keep 1 11, .keep 1 12, .keep 1 13, .box 0 5 1, .boxd 1 6 TyAttrKind]), ([0, 8], [.keep 0 0, .keep 0 2, .keep 0 3, .keep 0 5, .keep 0 17, .keep 0 18, .keep 0 19, .keep 0 46, .keep 0 47, .keep 0 48, .box 0 5 1]), ([0, 2, 1002, 15002], [.keep 2 0, .keep 2 1, .keep 2 7, .keep 2 8, .box 0 5 1])]
def In_impl_yfieldsFit : List (List Nat × Nat) := [([4002], 108), ([4002, 4002], 109), ([15002], 112), ([1002, 15002], 188), ([4005, 1002, 15002], 113)]
noncomputable def cs_impl_yfieldsFit (g1 : (List ((List Int) × Int))) : List Ctr := [(c_impl_FitsKind g1), c_impl_yatomsOf, c_impl_yfindThing, c_slices_Contains_string_string]
noncomputable def F_impl_yfieldsFit (g1 : (List ((List Int) × Int))) (n : Nat) (a0 : (List DThing)) (a1 : (List (List Int))) (a2 : (List DValue)) (a3 : (List DAttrKind)) : Option Bool := runE Tryz.prog (glOf [(1, explode (.map .str I64) g1)]) A_impl_yfieldsFit In_impl_yfieldsFit (conOf (cs_impl_yfieldsFit g1)) Tryz.f54 (Tryz.f54.body.getD .skip) (endD Tryz.prog Tryz.f54 (packT [.bool])) n (argsV [(.list TyThing), (.list .str), (.list TyValue), (.list TyAttrKind)] (a0, a1, a2, a3, ()))
noncomputable abbrev L_impl_yfieldsFit_0_2 (g1 : (List ((List Int) × Int))) (n : Nat) (x1 : (List DThing)) (x2 : (List DValue)) (x3 : (List DAttrKind)) (x4 : (List (List Int))) (x5 : Int) (x6 : Int) (x7 : (List (List Int))) : Option Bool := lamE Tryz.prog (glOf [(1, explode (.map .str I64) g1)]) A_impl_yfieldsFit In_impl_yfieldsFit (conOf (cs_impl_yfieldsFit g1)) Tryz.f54 (Tryz.f54.body.getD .skip) (endD Tryz.prog Tryz.f54 (packT [.bool])) n [0, 2] [.d (.list TyThing) x1, .d (.list TyValue) x2, .d (.list TyAttrKind) x3, .ptr 0 5 0, .d (.list .str) x4, .d I64 x5, .d I64 x6, .agg [.d (.list .str) x7]]
noncomputable abbrev L_impl_yfieldsFit_0_2_4002 (g1 : (List ((List Int) × Int))) (n : Nat) (x1 : (List DThing)) (x2 : (List DValue)) (x3 : (List DAttrKind)) (x4 : Int) (x5 : (List (List Int))) (x6 : Int) (x7 : Int) (x8 : (List Int)) (x9 : (List DAttrKind)) (x10 : Int) (x11 : Int) (x12 : (List (List Int))) (x13 : DAttrKind) : Option Bool := lamE Tryz.prog (glOf [(1, explode (.map .str I64) g1)]) A_impl_yfieldsFit In_impl_yfieldsFit (conOf (cs_impl_yfieldsFit g1)) Tryz.f54 (Tryz.f54.body.getD .skip) (endD Tryz.prog Tryz.f54 (packT [.bool])) n [0, 2, 4002] [.d (.list TyThing) x1, .d (.list TyValue) x2, .d (.list TyAttrKind) x3, .ptr 0 5 0, .d I64 x4, .d (.list .str) x5, .d I64 x6, .d I64 x7, .fn 109 [], .d .str x8, .ptr 1 6 0, .d (.list TyAttrKind) x9, .d I64 x10, .d I64 x11, .agg [.d (.list .str) x12], .agg (explode TyAttrKind x13)]
noncomputable abbrev L_impl_yfieldsFit_0_8 (g1 : (List ((List Int) × Int))) (n : Nat) (x1 : (List DThing)) (x2 : (List DValue)) (x3 : (List DAttrKind)) (x4 : (List (List Int))) (x5 : Int) (x6 : Int) (x7 : (List DAtom)) (x8 : Int) (x9 : Int) (x10 : (List (List Int))) : Option Bool := lamE Tryz.prog (glOf [(1, explode (.map .str I64) g1)]) A_impl_yfieldsFit In_impl_yfieldsFit (conOf (cs_impl_yfieldsFit g1)) Tryz.f54 (Tryz.f54.body.getD .skip) (endD Tryz.prog Tryz.f54 (packT [.bool])) n [0, 8] [.d (.list TyThing) x1, .d (.list TyValue) x2, .d (.list TyAttrKind) x3, .ptr 0 5 0, .d (.list .str) x4, .d I64 x5, .d I64 x6, .d (.list TyAtom) x7, .d I64 x8, .d I64 x9, .agg [.d (.list .str) x10]]
noncomputable abbrev L_impl_yfieldsFit_0_2_1002_15002 (g1 : (List ((List Int) × Int))) (n : Nat) (x1 : (List DAttrKind)) (x2 : Int) (x3 : Int) (x4 : (List (List Int))) : Option Bool := lamE Tryz.prog (glOf [(1, explode (.map .str I64) g1)]) A_impl_yfieldsFit In_impl_yfieldsFit (conOf (cs_impl_yfieldsFit g1)) Tryz.f54 (Tryz.f54.body.getD .skip) (endD Tryz.prog Tryz.f54 (packT [.bool])) n [0, 2, 1002, 15002] [.d (.list TyAttrKind) x1, .fn 113 [.ptr 0 5 0], .d I64 x2, .d I64 x3, .agg [.d (.list .str) x4]]
theorem F_impl_yfieldsFit_eq (g1 : (List ((List Int) × Int))) (n : Nat) (a0 : (List DThing)) (a1 : (List (List Int))) (a2 : (List DValue)) (a3 : (List DAttrKind)) : F_impl_yfieldsFit g1 n a0 a1 a2 a3 =
    L_impl_yfieldsFit_0_2 g1 n a0 a2 a3 a1 (a1.length : Int) 0 a1 := by kernel_rfl
theorem L_impl_yfieldsFit_0_2_eq (g1 : (List ((List Int) × Int))) (n : Nat) (x1 : (List DThing)) (x2 : (List DValue)) (x3 : (List DAttrKind)) (x4 : (List (List Int))) (x5 : Int) (x6 : Int) (x7 : (List (List Int))) : L_impl_yfieldsFit_0_2 g1 (n + 1) x1 x2 x3 x4 x5 x6 x7 =
    bif decide (x6 < x5) then
      bif inB x6 x4.length then
        L_impl_yfieldsFit_0_2_4002 g1 n x1 x2 x3 x6 x4 x5 x6 (rd x4 x6 (Ty.dflt .str)) x3 (x3.length : Int) 0 x7 (([] : List Int), ([] : List Int), false)
      else none
    else
      L_impl_yfieldsFit_0_2_1002_15002 g1 n x3 (x3.length : Int) 0 x7 := by kernel_rfl
theorem L_impl_yfieldsFit_0_2_4002_eq (g1 : (List ((List Int) × Int))) (n : Nat) (x1 : (List DThing)) (x2 : (List DValue)) (x3 : (List DAttrKind)) (x4 : Int) (x5 : (List (List Int))) (x6 : Int) (x7 : Int) (x8 : (List Int)) (x9 : (List DAttrKind)) (x10 : Int) (x11 : Int) (x12 : (List (List Int))) (x13 : DAttrKind) : L_impl_yfieldsFit_0_2_4002 g1 (n + 1) x1 x2 x3 x4 x5 x6 x7 x8 x9 x10 x11 x12 x13 =
    bif decide (x11 < x10) then
      bif inB x11 x9.length then
        bif decide ((rd x9 x11 (Ty.dflt TyAttrKind)).1 = x8) then
          bif inB x4 x2.length then
            Option.bind (P_impl_FitsKind g1 (rd x2 x4 (Ty.dflt TyValue)) (((rd x9 x11 (Ty.dflt TyAttrKind)).2).1)) fun (y1 : Bool) =>
            bif !(y1) then
              some false
            else
              bif inB x4 x2.length then
                L_impl_yfieldsFit_0_8 g1 n x1 x2 x3 x5 x6 x7 (T_impl_yatomsOf (rd x2 x4 (Ty.dflt TyValue))) ((T_impl_yatomsOf (rd x2 x4 (Ty.dflt TyValue))).length : Int) 0 x12
              else none
          else none
        else
          L_impl_yfieldsFit_0_2_4002 g1 n x1 x2 x3 x4 x5 x6 x7 x8 x9 x10 (IntKind.wrap .i64 (x11 + 1)) x12 x13
      else none
    else
      some false := by kernel_rfl
theorem L_impl_yfieldsFit_0_8_eq (g1 : (List ((List Int) × Int))) (n : Nat) (x1 : (List DThing)) (x2 : (List DValue)) (x3 : (List DAttrKind)) (x4 : (List (List Int))) (x5 : Int) (x6 : Int) (x7 : (List DAtom)) (x8 : Int) (x9 : Int) (x10 : (List (List Int))) : L_impl_yfieldsFit_0_8 g1 (n + 1) x1 x2 x3 x4 x5 x6 x7 x8 x9 x10 =
    bif decide (x9 < x8) then
      bif inB x9 x7.length then
        Option.bind (P_impl_yfindThing x1 (rd x7 x9 (Ty.dflt TyAtom))) fun (y2 : (DThing × Bool)) =>
        bif decide ((rd x7 x9 (Ty.dflt TyAtom)).1 = 4) then
          bif !(y2.2) then
            some false
          else
            L_impl_yfieldsFit_0_8 g1 n x1 x2 x3 x4 x5 x6 x7 x8 (IntKind.wrap .i64 (x9 + 1)) x10
        else
          L_impl_yfieldsFit_0_8 g1 n x1 x2 x3 x4 x5 x6 x7 x8 (IntKind.wrap .i64 (x9 + 1)) x10
      else none
    else
      L_impl_yfieldsFit_0_2 g1 n x1 x2 x3 x4 x5 (IntKind.wrap .i64 (x6 + 1)) x10 := by kernel_rfl
theorem L_impl_yfieldsFit_0_2_1002_15002_eq (g1 : (List ((List Int) × Int))) (n : Nat) (x1 : (List DAttrKind)) (x2 : Int) (x3 : Int) (x4 : (List (List Int))) : L_impl_yfieldsFit_0_2_1002_15002 g1 (n + 1) x1 x2 x3 x4 =
    bif decide (x3 < x2) then
      bif inB x3 x1.length then
        bif ((rd x1 x3 (Ty.dflt TyAttrKind)).2).2 then
          Option.bind (P_slices_Contains_string_string x4 ((rd x1 x3 (Ty.dflt TyAttrKind)).1)) fun (y3 : Bool) =>
          bif !(y3) then
            some (!decide ((0 : Int) ≤ x3))
          else
            L_impl_yfieldsFit_0_2_1002_15002 g1 n x1 x2 (IntKind.wrap .i64 (x3 + 1)) x4
        else
          L_impl_yfieldsFit_0_2_1002_15002 g1 n x1 x2 (IntKind.wrap .i64 (x3 + 1)) x4
      else none
    else
      some true := by kernel_rfl
theorem S_impl_yfieldsFit_0_8 {g1 : (List ((List Int) × Int))} {K0 : Option Bool} {x1 : (List DThing)} {x2 : (List DValue)} {x3 : (List DAttrKind)} {x4 : (List (List Int))} {x5 : Int} {x6 : Int} {x7 : (List DAtom)} (hl : x7.length ≤ maxLen) (hK0 : ∀  (r : Bool), K0 = some r → Ev (fun n => L_impl_yfieldsFit_0_2 g1 n x1 x2 x3 x4 x5 (IntKind.wrap .i64 (x6 + 1)) x4) r) : ∀ (rest : List DAtom) (k : Nat) (r : Bool), rest = x7.drop k → P_impl_yfieldsFit_0_8 g1 K0 x1 rest = some r → Ev (fun n => L_impl_yfieldsFit_0_8 g1 n x1 x2 x3 x4 x5 x6 x7 (x7.length : Int) (k : Int) x4) r := by
  intro rest
  induction rest with
  | nil =>
    intro k r hr h
    have hk := drop_nil hr
    rw [P_impl_yfieldsFit_0_8] at h
    refine Ev.step ?_ (fun n => L_impl_yfieldsFit_0_8_eq g1 n x1 x2 x3 x4 x5 x6 x7 (x7.length : Int) (k : Int) x4)
    rw [show decide ((k : Int) < (x7.length : Int)) = false from decide_eq_false (by omega)]
    exact Ev.neg rfl (hK0  _ h)
  | cons e rest ih =>
    intro k r hr h
    obtain ⟨hk, hx, hr2⟩ := drop_cons (d := (Ty.dflt TyAtom)) hr
    have hw := wrap_succ hl hk
    have ih2 : ∀ (r : Bool), P_impl_yfieldsFit_0_8 g1 K0 x1 rest = some r → Ev (fun n => L_impl_yfieldsFit_0_8 g1 n x1 x2 x3 x4 x5 x6 x7 (x7.length : Int) (IntKind.wrap .i64 ((k : Int) + 1)) x4) r := by
      intro r h; rw [hw]; exact ih (k + 1) r hr2 h
    rw [P_impl_yfieldsFit_0_8] at h
    refine Ev.step ?_ (fun n => L_impl_yfieldsFit_0_8_eq g1 n x1 x2 x3 x4 x5 x6 x7 (x7.length : Int) (k : Int) x4)
    rw [show decide ((k : Int) < (x7.length : Int)) = true from decide_eq_true (by omega), inB_nat2 hk, hx]
    exact Ev.pos rfl (Ev.pos rfl (Ev.ofBind h fun y2 h => (Ev.ofBif h (fun h => (Ev.ofBif h (fun h => (Ev.ofSome h)) (fun h => (ih2  _ h)))) (fun h => (ih2  _ h)))))
theorem S_impl_yfieldsFit_0_2_4002 {g1 : (List ((List Int) × Int))} {K0 : Option Bool} {x1 : (List DThing)} {x2 : (List DValue)} {x3 : (List DAttrKind)} {x4 : Int} {x5 : (List (List Int))} {x6 : Int} {x8 : (List Int)} {x13 : DAttrKind} (hl : x3.length ≤ maxLen) (hK0 : ∀  (r : Bool), K0 = some r → Ev (fun n => L_impl_yfieldsFit_0_2 g1 n x1 x2 x3 x5 x6 (IntKind.wrap .i64 (x4 + 1)) x5) r) : ∀ (rest : List DAttrKind) (k : Nat) (r : Bool), rest = x3.drop k → P_impl_yfieldsFit_0_2_4002 g1 K0 x1 x2 x4 x8 rest = some r → Ev (fun n => L_impl_yfieldsFit_0_2_4002 g1 n x1 x2 x3 x4 x5 x6 x4 x8 x3 (x3.length : Int) (k : Int) x5 x13) r := by
  intro rest
  induction rest with
  | nil =>
    intro k r hr h
    have hk := drop_nil hr
    rw [P_impl_yfieldsFit_0_2_4002] at h
    refine Ev.step ?_ (fun n => L_impl_yfieldsFit_0_2_4002_eq g1 n x1 x2 x3 x4 x5 x6 x4 x8 x3 (x3.length : Int) (k : Int) x5 x13)
    rw [show decide ((k : Int) < (x3.length : Int)) = false from decide_eq_false (by omega)]
    exact Ev.neg rfl (Ev.ofSome h)
  | cons e rest ih =>
    intro k r hr h
    obtain ⟨hk, hx, hr2⟩ := drop_cons (d := (Ty.dflt TyAttrKind)) hr
    have hw := wrap_succ hl hk
    have ih2 : ∀ (r : Bool), P_impl_yfieldsFit_0_2_4002 g1 K0 x1 x2 x4 x8 rest = some r → Ev (fun n => L_impl_yfieldsFit_0_2_4002 g1 n x1 x2 x3 x4 x5 x6 x4 x8 x3 (x3.length : Int) (IntKind.wrap .i64 ((k : Int) + 1)) x5 x13) r := by
      intro r h; rw [hw]; exact ih (k + 1) r hr2 h
    rw [P_impl_yfieldsFit_0_2_4002] at h
    refine Ev.step ?_ (fun n => L_impl_yfieldsFit_0_2_4002_eq g1 n x1 x2 x3 x4 x5 x6 x4 x8 x3 (x3.length : Int) (k : Int) x5 x13)
    rw [show decide ((k : Int) < (x3.length : Int)) = true from decide_eq_true (by omega), inB_nat2 hk, hx]
    exact Ev.pos rfl (Ev.pos rfl (Ev.ofBif h (fun h => (Ev.ofBif h (fun h => (Ev.ofBind h fun y1 h => (Ev.ofBif h (fun h => (Ev.ofSome h)) (fun h => (Ev.ofBif h (fun h => (Ev.ofLen h fun hl h => S_impl_yfieldsFit_0_8 hl hK0 _ (0 : Nat) _ rfl h)) (fun h => (Ev.ofNone h))))))) (fun h => (Ev.ofNone h)))) (fun h => (ih2  _ h))))
theorem S_impl_yfieldsFit_0_2_1002_15002 {g1 : (List ((List Int) × Int))} {x1 : (List DAttrKind)} {x4 : (List (List Int))} (hl : x1.length ≤ maxLen) : ∀ (rest : List DAttrKind) (k : Nat) (r : Bool), rest = x1.drop k → P_impl_yfieldsFit_0_2_1002_15002 g1 x4 rest k = some r → Ev (fun n => L_impl_yfieldsFit_0_2_1002_15002 g1 n x1 (x1.length : Int) (k : Int) x4) r := by
  intro rest
  induction rest with
  | nil =>
    intro k r hr h
    have hk := drop_nil hr
    rw [P_impl_yfieldsFit_0_2_1002_15002] at h
    refine Ev.step ?_ (fun n => L_impl_yfieldsFit_0_2_1002_15002_eq g1 n x1 (x1.length : Int) (k : Int) x4)
    rw [show decide ((k : Int) < (x1.length : Int)) = false from decide_eq_false (by omega)]
    exact Ev.neg rfl (Ev.ofSome h)
  | cons e rest ih =>
    intro k r hr h
    obtain ⟨hk, hx, hr2⟩ := drop_cons (d := (Ty.dflt TyAttrKind)) hr
    have hw := wrap_succ hl hk
    have ih2 : ∀ (r : Bool), P_impl_yfieldsFit_0_2_1002_15002 g1 x4 rest (k + 1) = some r → Ev (fun n => L_impl_yfieldsFit_0_2_1002_15002 g1 n x1 (x1.length : Int) (IntKind.wrap .i64 ((k : Int) + 1)) x4) r := by
      intro r h; rw [hw]; exact ih (k + 1) r hr2 h
    rw [P_impl_yfieldsFit_0_2_1002_15002] at h
    refine Ev.step ?_ (fun n => L_impl_yfieldsFit_0_2_1002_15002_eq g1 n x1 (x1.length : Int) (k : Int) x4)
    rw [show decide ((k : Int) < (x1.length : Int)) = true from decide_eq_true (by omega), inB_nat2 hk, hx]
    exact Ev.pos rfl (Ev.pos rfl (Ev.ofBif h (fun h => (Ev.ofBind h fun y3 h => (Ev.ofBif h (fun h => (Ev.ofSome h)) (fun h => (ih2  _ h))))) (fun h => (ih2  _ h))))
theorem S_impl_yfieldsFit_0_2 {g1 : (List ((List Int) × Int))} {x1 : (List DThing)} {x2 : (List DValue)} {x3 : (List DAttrKind)} {x4 : (List (List Int))} (hl : x4.length ≤ maxLen) : ∀ (rest : List (List Int)) (k : Nat) (r : Bool), rest = x4.drop k → P_impl_yfieldsFit_0_2 g1 x1 x2 x3 x4 rest k = some r → Ev (fun n => L_impl_yfieldsFit_0_2 g1 n x1 x2 x3 x4 (x4.length : Int) (k : Int) x4) r := by
  intro rest
  induction rest with
  | nil =>
    intro k r hr h
    have hk := drop_nil hr
    rw [P_impl_yfieldsFit_0_2] at h
    refine Ev.step ?_ (fun n => L_impl_yfieldsFit_0_2_eq g1 n x1 x2 x3 x4 (x4.length : Int) (k : Int) x4)
    rw [show decide ((k : Int) < (x4.length : Int)) = false from decide_eq_false (by omega)]
    exact Ev.neg rfl (Ev.ofLen h fun hl h => S_impl_yfieldsFit_0_2_1002_15002 hl _ (0 : Nat) _ rfl h)
  | cons e rest ih =>
    intro k r hr h
    obtain ⟨hk, hx, hr2⟩ := drop_cons (d := (Ty.dflt .str)) hr
    have hw := wrap_succ hl hk
    have ih2 : ∀ (r : Bool), P_impl_yfieldsFit_0_2 g1 x1 x2 x3 x4 rest (k + 1) = some r → Ev (fun n => L_impl_yfieldsFit_0_2 g1 n x1 x2 x3 x4 (x4.length : Int) (IntKind.wrap .i64 ((k : Int) + 1)) x4) r := by
      intro r h; rw [hw]; exact ih (k + 1) r hr2 h
    rw [P_impl_yfieldsFit_0_2] at h
    refine Ev.step ?_ (fun n => L_impl_yfieldsFit_0_2_eq g1 n x1 x2 x3 x4 (x4.length : Int) (k : Int) x4)
    rw [show decide ((k : Int) < (x4.length : Int)) = true from decide_eq_true (by omega), inB_nat2 hk, hx]
    exact Ev.pos rfl (Ev.pos rfl (Ev.ofLen h fun hl h => S_impl_yfieldsFit_0_2_4002 hl ih2 _ (0 : Nat) _ rfl h))
theorem S_impl_yfieldsFit {g1 : (List ((List Int) × Int))} (a0 : (List DThing)) (a1 : (List (List Int))) (a2 : (List DValue)) (a3 : (List DAttrKind)) {r : Bool} (h : P_impl_yfieldsFit g1 a0 a1 a2 a3 = some r) : Ev (fun n => F_impl_yfieldsFit g1 n a0 a1 a2 a3) r := by
  rw [P_impl_yfieldsFit] at h
  refine Ev.of_eq ?_ (fun n => F_impl_yfieldsFit_eq g1 n a0 a1 a2 a3)
  exact (Ev.ofLen h fun hl h => S_impl_yfieldsFit_0_2 hl _ (0 : Nat) _ rfl h)
theorem hcs_impl_yfieldsFit (g1 : (List ((List Int) × Int))) : ∀ x ∈ cs_impl_yfieldsFit g1, CtrOkG Tryz.prog (glOf [(1, explode (.map .str I64) g1)]) x := (conOf_cons (ok_impl_FitsKind g1) (conOf_cons ok_impl_yatomsOf.any (conOf_cons ok_impl_yfindThing.any (conOf_cons ok_slices_Contains_string_string.any conOf_nil))))
theorem ok_impl_yfieldsFit (g1 : (List ((List Int) × Int))) : CtrOkG Tryz.prog (glOf [(1, explode (.map .str I64) g1)]) (c_impl_yfieldsFit g1) := by
  refine ctr_of_run (c := c_impl_yfieldsFit g1) (by kernel_rfl) (by kernel_rfl : Tryz.prog.funcs[54]? = some Tryz.f54) (code := Tryz.f54.body.getD .skip) (by kernel_rfl) (by kernel_rfl) (by kernel_rfl) (A := A_impl_yfieldsFit) (I := In_impl_yfieldsFit) (hcs_impl_yfieldsFit g1) ?_
  rintro ⟨a0, a1, a2, a3, u⟩ y hy
  exact (S_impl_yfieldsFit a0 a1 a2 a3 hy).get

/-! ## impl.PolSchema).yaction (57) -/
noncomputable def P_impl_PolSchema_yaction_0_2_1003 (x1 : (List Int)) : List DActionType → Option (DActionType × Bool)
  | [] =>
      some ((([] : List Int), [], [], []), false)
  | e :: rest =>
      bif decide ((e).1 = x1) then
        some ((e), true)
      else
        P_impl_PolSchema_yaction_0_2_1003 x1 rest
noncomputable def P_impl_PolSchema_yaction (a0 : DPolSchema) (a1 : (List Int)) : Option (DActionType × Bool) :=
  lenOk a0.2 (P_impl_PolSchema_yaction_0_2_1003 a1 a0.2)
noncomputable def c_impl_PolSchema_yaction : Ctr := ⟨57, [TyPolSchema, .str], [TyActionType, .bool], fun x => P_impl_PolSchema_yaction x.1 x.2.1⟩
def A_impl_PolSchema_yaction : List (List Nat × Ann) := [([0, 2, 1003], [.keep 0 4, .keep 1 1, .keep 1 2, .keep 1 6, .keep 1 11, .keep 1 12, .keep 1 13, .boxd 0 4 TyActionType, .boxd 1 6 TyActionType])]
def In_impl_PolSchema_yaction : List (List Nat × Nat) := [([1003], 117), ([4002, 1003], 118)]
noncomputable def cs_impl_PolSchema_yaction : List Ctr := []
noncomputable def F_impl_PolSchema_yaction (n : Nat) (a0 : DPolSchema) (a1 : (List Int)) : Option (DActionType × Bool) := run Tryz.prog A_impl_PolSchema_yaction In_impl_PolSchema_yaction (conOf cs_impl_PolSchema_yaction) Tryz.f57 (Tryz.f57.body.getD .skip) (packT [TyActionType, .bool]) n (argsV [TyPolSchema, .str] (a0, a1, ()))
noncomputable abbrev L_impl_PolSchema_yaction_0_2_1003 (n : Nat) (x1 : (List Int)) (x2 : (List DActionType)) (x3 : Int) (x4 : Int) (x5 : DActionType) (x6 : DActionType) : Option (DActionType × Bool) := lam Tryz.prog A_impl_PolSchema_yaction In_impl_PolSchema_yaction (conOf cs_impl_PolSchema_yaction) Tryz.f57 (Tryz.f57.body.getD .skip) (packT [TyActionType, .bool]) n [0, 2, 1003] [.ptr 0 4 0, .fn 118 [], .d .str x1, .ptr 1 6 0, .d (.list TyActionType) x2, .d I64 x3, .d I64 x4, .agg (explode TyActionType x5), .agg (explode TyActionType x6)]
theorem F_impl_PolSchema_yaction_eq (n : Nat) (a0 : DPolSchema) (a1 : (List Int)) : F_impl_PolSchema_yaction n a0 a1 =
    L_impl_PolSchema_yaction_0_2_1003 n a1 a0.2 (a0.2.length : Int) 0 (([] : List Int), [], [], []) (([] : List Int), [], [], []) := by kernel_rfl
theorem L_impl_PolSchema_yaction_0_2_1003_eq (n : Nat) (x1 : (List Int)) (x2 : (List DActionType)) (x3 : Int) (x4 : Int) (x5 : DActionType) (x6 : DActionType) : L_impl_PolSchema_yaction_0_2_1003 (n + 1) x1 x2 x3 x4 x5 x6 =
    bif decide (x4 < x3) then
      bif inB x4 x2.length then
        bif decide ((rd x2 x4 (Ty.dflt TyActionType)).1 = x1) then
          some ((rd x2 x4 (Ty.dflt TyActionType)), true)
        else
          L_impl_PolSchema_yaction_0_2_1003 n x1 x2 x3 (IntKind.wrap .i64 (x4 + 1)) x5 x6
      else none
    else
      some ((([] : List Int), [], [], []), false) := by kernel_rfl
theorem S_impl_PolSchema_yaction_0_2_1003 {x1 : (List Int)} {x2 : (List DActionType)} {x5 : DActionType} (hl : x2.length ≤ maxLen) : ∀ (rest : List DActionType) (k : Nat) (r : (DActionType × Bool)), rest = x2.drop k → P_impl_PolSchema_yaction_0_2_1003 x1 rest = some r → Ev (fun n => L_impl_PolSchema_yaction_0_2_1003 n x1 x2 (x2.length : Int) (k : Int) x5 x5) r := by
  intro rest
  induction rest with
  | nil =>
    intro k r hr h
    have hk := drop_nil hr
    rw [P_impl_PolSchema_yaction_0_2_1003] at h
    refine Ev.step ?_ (fun n => L_impl_PolSchema_yaction_0_2_1003_eq n x1 x2 (x2.length : Int) (k : Int) x5 x5)
    rw [show decide ((k : Int) < (x2.length : Int)) = false from decide_eq_false (by omega)]
    exact Ev.neg rfl (Ev.ofSome h)
  | cons e rest ih =>
    intro k r hr h
    obtain ⟨hk, hx, hr2⟩ := drop_cons (d := (Ty.dflt TyActionType)) hr
    have hw := wrap_succ hl hk
    have ih2 : ∀ (r : (DActionType × Bool)), P_impl_PolSchema_yaction_0_2_1003 x1 rest = some r → Ev (fun n => L_impl_PolSchema_yaction_0_2_1003 n x1 x2 (x2.length : Int) (IntKind.wrap .i64 ((k : Int) + 1)) x5 x5) r := by
      intro r h; rw [hw]; exact ih (k + 1) r hr2 h
    rw [P_impl_PolSchema_yaction_0_2_1003] at h
    refine Ev.step ?_ (fun n => L_impl_PolSchema_yaction_0_2_1003_eq n x1 x2 (x2.length : Int) (k : Int) x5 x5)
    rw [show decide ((k : Int) < (x2.length : Int)) = true from decide_eq_true (by omega), inB_nat2 hk, hx]
    exact Ev.pos rfl (Ev.pos rfl (Ev.ofBif h (fun h => (Ev.ofSome h)) (fun h => (ih2  _ h))))
theorem S_impl_PolSchema_yaction (a0 : DPolSchema) (a1 : (List Int)) {r : (DActionType × Bool)} (h : P_impl_PolSchema_yaction a0 a1 = some r) : Ev (fun n => F_impl_PolSchema_yaction n a0 a1) r := by
  rw [P_impl_PolSchema_yaction] at h
  refine Ev.of_eq ?_ (fun n => F_impl_PolSchema_yaction_eq n a0 a1)
  exact (Ev.ofLen h fun hl h => S_impl_PolSchema_yaction_0_2_1003 hl _ (0 : Nat) _ rfl h)
theorem hcs_impl_PolSchema_yaction : ∀ x ∈ cs_impl_PolSchema_yaction, CtrOk Tryz.prog x := conOf_nil
theorem ok_impl_PolSchema_yaction : CtrOk Tryz.prog (c_impl_PolSchema_yaction) := by
  refine ctr_of_run (c := c_impl_PolSchema_yaction) (by kernel_rfl) (by kernel_rfl : Tryz.prog.funcs[57]? = some Tryz.f57) (code := Tryz.f57.body.getD .skip) (by kernel_rfl) (by kernel_rfl) (by kernel_rfl) (A := A_impl_PolSchema_yaction) (I := In_impl_PolSchema_yaction) (hcs_impl_PolSchema_yaction) ?_
  rintro ⟨a0, a1, u⟩ y hy
  exact (S_impl_PolSchema_yaction a0 a1 hy).get

/-! ## impl.GoodWorld (14) -/
noncomputable def P_impl_GoodWorld_0_10 (g1 : (List ((List Int) × Int))) (K0 : Option Bool) (x1 : (List DThing)) (x10 : DThingType) : List DAtom → Option Bool
  | [] =>
      K0
  | e :: rest =>
      Option.bind (P_impl_yfindThing x1 (e)) fun (y6 : (DThing × Bool)) =>
      bif !(y6.2) then
        some false
      else
        Option.bind (P_slices_Contains_string_string x10.2.1 ((((e).2).2).2)) fun (y7 : Bool) =>
        bif !(y7) then
          some false
        else
          P_impl_GoodWorld_0_10 g1 K0 x1 x10 rest
noncomputable def P_impl_GoodWorld_0_4 (g1 : (List ((List Int) × Int))) (x1 : (List DThing)) (x5 : DPolSchema) (x6 : DRequest) : List DThing → Option Bool
  | [] =>
      Option.bind (P_impl_PolSchema_yaction x5 x6.2.1.2.2.1) fun (y8 : (DActionType × Bool)) =>
      Option.bind (P_impl_yfindThing x1 x6.1) fun (y9 : (DThing × Bool)) =>
      Option.bind (P_impl_yfindThing x1 x6.2.2.1) fun (y10 : (DThing × Bool)) =>
      bif y8.2 then
        bif decide (x6.2.1.2.2.2 = ([65, 99, 116, 105, 111, 110] : List Int)) then
          bif y9.2 then
            bif y10.2 then
              Option.bind (P_slices_Contains_string_string y8.1.2.1 x6.1.2.2.2) fun (y11 : Bool) =>
              bif y11 then
                Option.bind (P_slices_Contains_string_string y8.1.2.2.1 x6.2.2.1.2.2.2) fun (y12 : Bool) =>
                bif y12 then
                  Option.bind (P_impl_yfieldsFit g1 x1 x6.2.2.2.1 x6.2.2.2.2 y8.1.2.2.2) fun (y13 : Bool) =>
                  some y13
                else
                  some false
              else
                some false
            else
              some false
          else
            some false
        else
          some false
      else
        some false
  | e :: rest =>
      Option.bind (P_impl_PolSchema_ything x5 (((((e).1).2).2).2)) fun (y4 : (DThingType × Bool)) =>
      bif !(y4.2) then
        some false
      else
        Option.bind (P_impl_yfieldsFit g1 x1 ((((e).2).2).1) ((((e).2).2).2) y4.1.2.2) fun (y5 : Bool) =>
        bif !(y5) then
          some false
        else
          lenOk (((e).2).1) (P_impl_GoodWorld_0_10 g1 (P_impl_GoodWorld_0_4 g1 x1 x5 x6 rest) x1 y4.1 (((e).2).1))
noncomputable def P_impl_GoodWorld (g1 : (List ((List Int) × Int))) (a0 : DPolSchema) (a1 : (List DThing)) (a2 : DRequest) : Option Bool :=
  Option.bind (P_impl_GoodPolSchema g1 a0) fun (y1 : Bool) =>
  bif !(y1) then
    some false
  else
    Option.bind (P_impl_GoodThings a1) fun (y2 : Bool) =>
    bif !(y2) then
      some false
    else
      Option.bind (P_impl_GoodRequest a2) fun (y3 : Bool) =>
      bif !(y3) then
        some false
      else
        lenOk a1 (P_impl_GoodWorld_0_4 g1 a1 a0 a2 a1)
noncomputable def c_impl_GoodWorld (g1 : (List ((List Int) × Int))) : Ctr := ⟨14, [TyPolSchema, (.list TyThing), TyRequest], [.bool], fun x => P_impl_GoodWorld g1 x.1 x.2.1 x.2.2.1⟩
def A_impl_GoodWorld : List (List Nat × Ann) := [([0, 4], [.keep 0 1, .keep 0 3, .keep 0 5, .keep 0 34, .keep 0 35, .keep 0 36, .boxd 0 3 TyPolSchema, .boxd 0 5 TyRequest]), ([0, 10], [.keep 0 1, .keep 0 3, .keep 0 5, .keep 0 9, .keep 0 34, .keep 0 35, .keep 0 36, .keep 0 62, .keep 0 63, .keep 0 64, .boxd 0 3 TyPolSchema, .boxd 0 5 TyRequest, .boxd 0 9 TyThingType])]
def In_impl_GoodWorld : List (List Nat × Nat) := []
noncomputable def cs_impl_GoodWorld (g1 : (List ((List Int) × Int))) : List Ctr := [(c_impl_GoodPolSchema g1), c_impl_GoodThings, c_impl_GoodRequest, c_impl_PolSchema_ything, (c_impl_yfieldsFit g1), c_impl_yfindThing, c_slices_Contains_string_string, c_impl_PolSchema_yaction]
noncomputable def F_impl_GoodWorld (g1 : (List ((List Int) × Int))) (n : Nat) (a0 : DPolSchema) (a1 : (List DThing)) (a2 : DRequest) : Option Bool := runE Tryz.prog (glOf [(1, explode (.map .str I64) g1)]) A_impl_GoodWorld In_impl_GoodWorld (conOf (cs_impl_GoodWorld g1)) Tryz.f14 (Tryz.f14.body.getD .skip) (endD Tryz.prog Tryz.f14 (packT [.bool])) n (argsV [TyPolSchema, (.list TyThing), TyRequest] (a0, a1, a2, ()))
noncomputable abbrev L_impl_GoodWorld_0_4 (g1 : (List ((List Int) × Int))) (n : Nat) (x1 : (List DThing)) (x2 : (List DThing)) (x3 : Int) (x4 : Int) (x5 : DPolSchema) (x6 : DRequest) : Option Bool := lamE Tryz.prog (glOf [(1, explode (.map .str I64) g1)]) A_impl_GoodWorld In_impl_GoodWorld (conOf (cs_impl_GoodWorld g1)) Tryz.f14 (Tryz.f14.body.getD .skip) (endD Tryz.prog Tryz.f14 (packT [.bool])) n [0, 4] [.d (.list TyThing) x1, .ptr 0 3 0, .ptr 0 5 0, .d (.list TyThing) x2, .d I64 x3, .d I64 x4, .agg (explode TyPolSchema x5), .agg (explode TyRequest x6)]
noncomputable abbrev L_impl_GoodWorld_0_10 (g1 : (List ((List Int) × Int))) (n : Nat) (x1 : (List DThing)) (x2 : (List DThing)) (x3 : Int) (x4 : Int) (x5 : (List DAtom)) (x6 : Int) (x7 : Int) (x8 : DPolSchema) (x9 : DRequest) (x10 : DThingType) : Option Bool := lamE Tryz.prog (glOf [(1, explode (.map .str I64) g1)]) A_impl_GoodWorld In_impl_GoodWorld (conOf (cs_impl_GoodWorld g1)) Tryz.f14 (Tryz.f14.body.getD .skip) (endD Tryz.prog Tryz.f14 (packT [.bool])) n [0, 10] [.d (.list TyThing) x1, .ptr 0 3 0, .ptr 0 5 0, .ptr 0 9 0, .d (.list TyThing) x2, .d I64 x3, .d I64 x4, .d (.list TyAtom) x5, .d I64 x6, .d I64 x7, .agg (explode TyPolSchema x8), .agg (explode TyRequest x9), .agg (explode TyThingType x10)]
theorem F_impl_GoodWorld_eq (g1 : (List ((List Int) × Int))) (n : Nat) (a0 : DPolSchema) (a1 : (List DThing)) (a2 : DRequest) : F_impl_GoodWorld g1 n a0 a1 a2 =
    Option.bind (P_impl_GoodPolSchema g1 a0) fun (y1 : Bool) =>
    bif !(y1) then
      some false
    else
      Option.bind (P_impl_GoodThings a1) fun (y2 : Bool) =>
      bif !(y2) then
        some false
      else
        Option.bind (P_impl_GoodRequest a2) fun (y3 : Bool) =>
        bif !(y3) then
          some false
        else
          L_impl_GoodWorld_0_4 g1 n a1 a1 (a1.length : Int) 0 a0 a2 := by kernel_rfl
theorem L_impl_GoodWorld_0_4_eq (g1 : (List ((List Int) × Int))) (n : Nat) (x1 : (List DThing)) (x2 : (List DThing)) (x3 : Int) (x4 : Int) (x5 : DPolSchema) (x6 : DRequest) : L_impl_GoodWorld_0_4 g1 (n + 1) x1 x2 x3 x4 x5 x6 =
    bif decide (x4 < x3) then
      bif inB x4 x2.length then
        Option.bind (P_impl_PolSchema_ything x5 (((((rd x2 x4 (Ty.dflt TyThing)).1).2).2).2)) fun (y4 : (DThingType × Bool)) =>
        bif !(y4.2) then
          some false
        else
          Option.bind (P_impl_yfieldsFit g1 x1 ((((rd x2 x4 (Ty.dflt TyThing)).2).2).1) ((((rd x2 x4 (Ty.dflt TyThing)).2).2).2) y4.1.2.2) fun (y5 : Bool) =>
          bif !(y5) then
            some false
          else
            L_impl_GoodWorld_0_10 g1 n x1 x2 x3 x4 (((rd x2 x4 (Ty.dflt TyThing)).2).1) ((((rd x2 x4 (Ty.dflt TyThing)).2).1).length : Int) 0 x5 x6 y4.1
      else none
    else
      Option.bind (P_impl_PolSchema_yaction x5 x6.2.1.2.2.1) fun (y8 : (DActionType × Bool)) =>
      Option.bind (P_impl_yfindThing x1 x6.1) fun (y9 : (DThing × Bool)) =>
      Option.bind (P_impl_yfindThing x1 x6.2.2.1) fun (y10 : (DThing × Bool)) =>
      bif y8.2 then
        bif decide (x6.2.1.2.2.2 = ([65, 99, 116, 105, 111, 110] : List Int)) then
          bif y9.2 then
            bif y10.2 then
              Option.bind (P_slices_Contains_string_string y8.1.2.1 x6.1.2.2.2) fun (y11 : Bool) =>
              bif y11 then
                Option.bind (P_slices_Contains_string_string y8.1.2.2.1 x6.2.2.1.2.2.2) fun (y12 : Bool) =>
                bif y12 then
                  Option.bind (P_impl_yfieldsFit g1 x1 x6.2.2.2.1 x6.2.2.2.2 y8.1.2.2.2) fun (y13 : Bool) =>
                  some y13
                else
                  some false
              else
                some false
            else
              some false
          else
            some false
        else
          some false
      else
        some false := by kernel_rfl
theorem L_impl_GoodWorld_0_10_eq (g1 : (List ((List Int) × Int))) (n : Nat) (x1 : (List DThing)) (x2 : (List DThing)) (x3 : Int) (x4 : Int) (x5 : (List DAtom)) (x6 : Int) (x7 : Int) (x8 : DPolSchema) (x9 : DRequest) (x10 : DThingType) : L_impl_GoodWorld_0_10 g1 (n + 1) x1 x2 x3 x4 x5 x6 x7 x8 x9 x10 =
    bif decide (x7 < x6) then
      bif inB x7 x5.length then
        Option.bind (P_impl_yfindThing x1 (rd x5 x7 (Ty.dflt TyAtom))) fun (y6 : (DThing × Bool)) =>
        bif !(y6.2) then
          some false
        else
          Option.bind (P_slices_Contains_string_string x10.2.1 ((((rd x5 x7 (Ty.dflt TyAtom)).2).2).2)) fun (y7 : Bool) =>
          bif !(y7) then
            some false
          else
            L_impl_GoodWorld_0_10 g1 n x1 x2 x3 x4 x5 x6 (IntKind.wrap .i64 (x7 + 1)) x8 x9 x10
      else none
    else
      L_impl_GoodWorld_0_4 g1 n x1 x2 x3 (IntKind.wrap .i64 (x4 + 1)) x8 x9 := by kernel_rfl
theorem S_impl_GoodWorld_0_10 {g1 : (List ((List Int) × Int))} {K0 : Option Bool} {x1 : (List DThing)} {x3 : Int} {x4 : Int} {x5 : (List DAtom)} {x8 : DPolSchema} {x9 : DRequest} {x10 : DThingType} (hl : x5.length ≤ maxLen) (hK0 : ∀  (r : Bool), K0 = some r → Ev (fun n => L_impl_GoodWorld_0_4 g1 n x1 x1 x3 (IntKind.wrap .i64 (x4 + 1)) x8 x9) r) : ∀ (rest : List DAtom) (k : Nat) (r : Bool), rest = x5.drop k → P_impl_GoodWorld_0_10 g1 K0 x1 x10 rest = some r → Ev (fun n => L_impl_GoodWorld_0_10 g1 n x1 x1 x3 x4 x5 (x5.length : Int) (k : Int) x8 x9 x10) r := by
  intro rest
  induction rest with
  | nil =>
    intro k r hr h
    have hk := drop_nil hr
    rw [P_impl_GoodWorld_0_10] at h
    refine Ev.step ?_ (fun n => L_impl_GoodWorld_0_10_eq g1 n x1 x1 x3 x4 x5 (x5.length : Int) (k : Int) x8 x9 x10)
    rw [show decide ((k : Int) < (x5.length : Int)) = false from decide_eq_false (by omega)]
    exact Ev.neg rfl (hK0  _ h)
  | cons e rest ih =>
    intro k r hr h
    obtain ⟨hk, hx, hr2⟩ := drop_cons (d := (Ty.dflt TyAtom)) hr
    have hw := wrap_succ hl hk
    have ih2 : ∀ (r : Bool), P_impl_GoodWorld_0_10 g1 K0 x1 x10 rest = some r → Ev (fun n => L_impl_GoodWorld_0_10 g1 n x1 x1 x3 x4 x5 (x5.length : Int) (IntKind.wrap .i64 ((k : Int) + 1)) x8 x9 x10) r := by
      intro r h; rw [hw]; exact ih (k + 1) r hr2 h
    rw [P_impl_GoodWorld_0_10] at h
    refine Ev.step ?_ (fun n => L_impl_GoodWorld_0_10_eq g1 n x1 x1 x3 x4 x5 (x5.length : Int) (k : Int) x8 x9 x10)
    rw [show decide ((k : Int) < (x5.length : Int)) = true from decide_eq_true (by omega), inB_nat2 hk, hx]
    exact Ev.pos rfl (Ev.pos rfl (Ev.ofBind h fun y6 h => (Ev.ofBif h (fun h => (Ev.ofSome h)) (fun h => (Ev.ofBind h fun y7 h => (Ev.ofBif h (fun h => (Ev.ofSome h)) (fun h => (ih2  _ h))))))))
theorem S_impl_GoodWorld_0_4 {g1 : (List ((List Int) × Int))} {x1 : (List DThing)} {x5 : DPolSchema} {x6 : DRequest} (hl : x1.length ≤ maxLen) : ∀ (rest : List DThing) (k : Nat) (r : Bool), rest = x1.drop k → P_impl_GoodWorld_0_4 g1 x1 x5 x6 rest = some r → Ev (fun n => L_impl_GoodWorld_0_4 g1 n x1 x1 (x1.length : Int) (k : Int) x5 x6) r := by
  intro rest
  induction rest with
  | nil =>
    intro k r hr h
    have hk := drop_nil hr
    rw [P_impl_GoodWorld_0_4] at h
    refine Ev.step ?_ (fun n => L_impl_GoodWorld_0_4_eq g1 n x1 x1 (x1.length : Int) (k : Int) x5 x6)
    rw [show decide ((k : Int) < (x1.length : Int)) = false from decide_eq_false (by omega)]
    exact Ev.neg rfl (Ev.ofBind h fun y8 h => (Ev.ofBind h fun y9 h => (Ev.ofBind h fun y10 h => (Ev.ofBif h (fun h => (Ev.ofBif h (fun h => (Ev.ofBif h (fun h => (Ev.ofBif h (fun h => (Ev.ofBind h fun y11 h => (Ev.ofBif h (fun h => (Ev.ofBind h fun y12 h => (Ev.ofBif h (fun h => (Ev.ofBind h fun y13 h => (Ev.ofSome h))) (fun h => (Ev.ofSome h))))) (fun h => (Ev.ofSome h))))) (fun h => (Ev.ofSome h)))) (fun h => (Ev.ofSome h)))) (fun h => (Ev.ofSome h)))) (fun h => (Ev.ofSome h))))))
  | cons e rest ih =>
    intro k r hr h
    obtain ⟨hk, hx, hr2⟩ := drop_cons (d := (Ty.dflt TyThing)) hr
    have hw := wrap_succ hl hk
    have ih2 : ∀ (r : Bool), P_impl_GoodWorld_0_4 g1 x1 x5 x6 rest = some r → Ev (fun n => L_impl_GoodWorld_0_4 g1 n x1 x1 (x1.length : Int) (IntKind.wrap .i64 ((k : Int) + 1)) x5 x6) r := by
      intro r h; rw [hw]; exact ih (k + 1) r hr2 h
    rw [P_impl_GoodWorld_0_4] at h
    refine Ev.step ?_ (fun n => L_impl_GoodWorld_0_4_eq g1 n x1 x1 (x1.length : Int) (k : Int) x5 x6)
    rw [show decide ((k : Int) < (x1.length : Int)) = true from decide_eq_true (by omega), inB_nat2 hk, hx]
    exact Ev.pos rfl (Ev.pos rfl (Ev.ofBind h fun y4 h => (Ev.ofBif h (fun h => (Ev.ofSome h)) (fun h => (Ev.ofBind h fun y5 h => (Ev.ofBif h (fun h => (Ev.ofSome h)) (fun h => (Ev.ofLen h fun hl h => S_impl_GoodWorld_0_10 hl ih2 _ (0 : Nat) _ rfl h))))))))
theorem S_impl_GoodWorld {g1 : (List ((List Int) × Int))} (a0 : DPolSchema) (a1 : (List DThing)) (a2 : DRequest) {r : Bool} (h : P_impl_GoodWorld g1 a0 a1 a2 = some r) : Ev (fun n => F_impl_GoodWorld g1 n a0 a1 a2) r := by
  rw [P_impl_GoodWorld] at h
  refine Ev.of_eq ?_ (fun n => F_impl_GoodWorld_eq g1 n a0 a1 a2)
  exact (Ev.ofBind h fun y1 h => (Ev.ofBif h (fun h => (Ev.ofSome h)) (fun h => (Ev.ofBind h fun y2 h => (Ev.ofBif h (fun h => (Ev.ofSome h)) (fun h => (Ev.ofBind h fun y3 h => (Ev.ofBif h (fun h => (Ev.ofSome h)) (fun h => (Ev.ofLen h fun hl h => S_impl_GoodWorld_0_4 hl _ (0 : Nat) _ rfl h))))))))))
theorem hcs_impl_GoodWorld (g1 : (List ((List Int) × Int))) : ∀ x ∈ cs_impl_GoodWorld g1, CtrOkG Tryz.prog (glOf [(1, explode (.map .str I64) g1)]) x := (conOf_cons (ok_impl_GoodPolSchema g1) (conOf_cons ok_impl_GoodThings.any (conOf_cons ok_impl_GoodRequest.any (conOf_cons ok_impl_PolSchema_ything.any (conOf_cons (ok_impl_yfieldsFit g1) (conOf_cons ok_impl_yfindThing.any (conOf_cons ok_slices_Contains_string_string.any (conOf_cons ok_impl_PolSchema_yaction.any conOf_nil))))))))
theorem ok_impl_GoodWorld (g1 : (List ((List Int) × Int))) : CtrOkG Tryz.prog (glOf [(1, explode (.map .str I64) g1)]) (c_impl_GoodWorld g1) := by
  refine ctr_of_run (c := c_impl_GoodWorld g1) (by kernel_rfl) (by kernel_rfl : Tryz.prog.funcs[14]? = some Tryz.f14) (code := Tryz.f14.body.getD .skip) (by kernel_rfl) (by kernel_rfl) (by kernel_rfl) (A := A_impl_GoodWorld) (I := In_impl_GoodWorld) (hcs_impl_GoodWorld g1) ?_
  rintro ⟨a0, a1, a2, u⟩ y hy
  exact (S_impl_GoodWorld a0 a1 a2 hy).get

/-! ## laws.szStringS (34) -/
noncomputable def c_laws_szStringS : Ctr := ⟨34, [(.list .str), I64], [I64], fun x => szC (.list .str) x.1 x.2.1⟩
def A_laws_szStringS : List (List Nat × Ann) := [([0, 5], [.keep 0 0, .keep 0 1, .keep 0 5])]
def In_laws_szStringS : List (List Nat × Nat) := []
noncomputable def cs_laws_szStringS : List Ctr := []
noncomputable def F_laws_szStringS (n : Nat) (a0 : (List (List Int))) (a1 : Int) : Option Int := run Tryz.prog A_laws_szStringS In_laws_szStringS (conOf cs_laws_szStringS) Tryz.f34 (Tryz.f34.body.getD .skip) (packT [I64]) n (argsV [(.list .str), I64] (a0, a1, ()))
noncomputable abbrev L_laws_szStringS_0_5 (n : Nat) (x1 : (List (List Int))) (x2 : Int) (x3 : Int) : Option Int := lam Tryz.prog A_laws_szStringS In_laws_szStringS (conOf cs_laws_szStringS) Tryz.f34 (Tryz.f34.body.getD .skip) (packT [I64]) n [0, 5] [.d (.list .str) x1, .d I64 x2, .d I64 x3]
theorem F_laws_szStringS_eq (n : Nat) (a0 : (List (List Int))) (a1 : Int) : F_laws_szStringS n a0 a1 =
    bif decide (IntKind.wrap .i64 (a1 - (a0.length : Int)) < 0) then
      some (-1)
    else
      L_laws_szStringS_0_5 n a0 (IntKind.wrap .i64 (a1 - (a0.length : Int))) 0 := by kernel_rfl
theorem L_laws_szStringS_0_5_eq (n : Nat) (x1 : (List (List Int))) (x2 : Int) (x3 : Int) : L_laws_szStringS_0_5 (n + 1) x1 x2 x3 =
    bif decide (x3 < (x1.length : Int)) then
      bif inB x3 x1.length then
        bif decide (IntKind.wrap .i64 (x2 - ((rd x1 x3 (Ty.dflt .str)).length : Int)) < 0) then
          some (-1)
        else
          L_laws_szStringS_0_5 n x1 (IntKind.wrap .i64 (x2 - ((rd x1 x3 (Ty.dflt .str)).length : Int))) (IntKind.wrap .i64 (x3 + 1))
      else none
    else
      some x2 := by kernel_rfl
theorem mk_laws_szStringS (hcs : ∀ x ∈ cs_laws_szStringS, CtrOk Tryz.prog x) (h : ∀ (a0 : (List (List Int))) (a1 : Int) y, szC (.list .str) a0 a1 = some y → ∃ n, F_laws_szStringS n a0 a1 = some y) : CtrOk Tryz.prog c_laws_szStringS := by
  refine ctr_of_run (c := c_laws_szStringS) (by kernel_rfl) (by kernel_rfl : Tryz.prog.funcs[34]? = some Tryz.f34) (code := Tryz.f34.body.getD .skip) (by kernel_rfl) (by kernel_rfl) (by kernel_rfl) (A := A_laws_szStringS) (I := In_laws_szStringS) hcs ?_
  rintro ⟨a0, a1, u⟩ y hy
  exact h a0 a1 y hy

theorem hcs_laws_szStringS : ∀ x ∈ cs_laws_szStringS, CtrOk Tryz.prog x := conOf_nil
theorem ok_laws_szStringS : CtrOk Tryz.prog c_laws_szStringS := mk_laws_szStringS hcs_laws_szStringS fun a0 a1 y hy => by
  obtain ⟨n, hn⟩ := szS_str (fun n xs s i => L_laws_szStringS_0_5_eq n xs s i) hy
  exact ⟨n, (F_laws_szStringS_eq n a0 a1).trans hn⟩
/-! ## laws.szAttrKind (212) -/
noncomputable def c_laws_szAttrKind : Ctr := ⟨212, [TyAttrKind, I64], [I64], fun x => szC TyAttrKind x.1 x.2.1⟩
def A_laws_szAttrKind : List (List Nat × Ann) := []
def In_laws_szAttrKind : List (List Nat × Nat) := []
noncomputable def cs_laws_szAttrKind : List Ctr := []
noncomputable def F_laws_szAttrKind (n : Nat) (a0 : DAttrKind) (a1 : Int) : Option Int := run Tryz.prog A_laws_szAttrKind In_laws_szAttrKind (conOf cs_laws_szAttrKind) Tryz.f212 (Tryz.f212.body.getD .skip) (packT [I64]) n (argsV [TyAttrKind, I64] (a0, a1, ()))
theorem F_laws_szAttrKind_eq (n : Nat) (a0 : DAttrKind) (a1 : Int) : F_laws_szAttrKind n a0 a1 =
    bif decide (IntKind.wrap .i64 (a1 - (a0.1.length : Int)) < 0) then
      some (-1)
    else
      bif decide (IntKind.wrap .i64 ((IntKind.wrap .i64 (a1 - (a0.1.length : Int))) - (a0.2.1.length : Int)) < 0) then
        some (-1)
      else
        some (IntKind.wrap .i64 ((IntKind.wrap .i64 (a1 - (a0.1.length : Int))) - (a0.2.1.length : Int))) := by kernel_rfl
theorem mk_laws_szAttrKind (hcs : ∀ x ∈ cs_laws_szAttrKind, CtrOk Tryz.prog x) (h : ∀ (a0 : DAttrKind) (a1 : Int) y, szC TyAttrKind a0 a1 = some y → ∃ n, F_laws_szAttrKind n a0 a1 = some y) : CtrOk Tryz.prog c_laws_szAttrKind := by
  refine ctr_of_run (c := c_laws_szAttrKind) (by kernel_rfl) (by kernel_rfl : Tryz.prog.funcs[212]? = some Tryz.f212) (code := Tryz.f212.body.getD .skip) (by kernel_rfl) (by kernel_rfl) (by kernel_rfl) (A := A_laws_szAttrKind) (I := In_laws_szAttrKind) hcs ?_
  rintro ⟨a0, a1, u⟩ y hy
  exact h a0 a1 y hy

theorem hcs_laws_szAttrKind : ∀ x ∈ cs_laws_szAttrKind, CtrOk Tryz.prog x := conOf_nil
theorem ok_laws_szAttrKind : CtrOk Tryz.prog c_laws_szAttrKind := mk_laws_szAttrKind hcs_laws_szAttrKind fun a0 a1 y hy => by
  obtain ⟨hw, h0, h1, rfl⟩ := szC_inv hy
  have hw2 : wfD .str a0.1 ∧ wfD .str a0.2.1 ∧ wfD .bool a0.2.2 := hw
  have hsz : Ty.size TyAttrKind a0 = Ty.size .str a0.1 + (Ty.size .str a0.2.1 + (Ty.size .bool a0.2.2)) := rfl
  have z2 : Ty.size .bool a0.2.2 = 0 := rfl
  have z0 : Ty.size .str a0.1 = a0.1.length := rfl
  have z1 : Ty.size .str a0.2.1 = a0.2.1.length := rfl
  refine ⟨0, ?_⟩
  rw [F_laws_szAttrKind_eq, hsz]
  have hn0 : a0.1.length ≤ maxLen := by have := (hw2.1).1; unfold maxLen; omega
  rw [lessZ_wrap (left := a1) (n := a0.1.length) (by omega) (by omega) hn0]
  rcases Int.lt_or_le (a1) (a0.1.length : Int) with h | h
  · rw [decide_eq_true (show (a1 - (a0.1.length : Int)) < 0 by omega)]; simp only [cond_true]; unfold lessZ; rw [if_neg (by omega)]
  rw [decide_eq_false (show ¬ (a1 - (a0.1.length : Int)) < 0 by omega)]; simp only [cond_false]
  have h_0 := h; clear h
  have hn1 : a0.2.1.length ≤ maxLen := by have := (hw2.2.1).1; unfold maxLen; omega
  rw [lessZ_wrap (left := (a1 - (a0.1.length : Int))) (n := a0.2.1.length) (by omega) (by omega) hn1]
  rcases Int.lt_or_le ((a1 - (a0.1.length : Int))) (a0.2.1.length : Int) with h | h
  · rw [decide_eq_true (show ((a1 - (a0.1.length : Int)) - (a0.2.1.length : Int)) < 0 by omega)]; simp only [cond_true]; unfold lessZ; rw [if_neg (by omega)]
  rw [decide_eq_false (show ¬ ((a1 - (a0.1.length : Int)) - (a0.2.1.length : Int)) < 0 by omega)]; simp only [cond_false]
  have h_1 := h; clear h
  unfold lessZ; rw [if_pos (by omega)]; congr 1 <;> omega
/-! ## laws.szAttrKindS (159) -/
noncomputable def c_laws_szAttrKindS : Ctr := ⟨159, [(.list TyAttrKind), I64], [I64], fun x => szC (.list TyAttrKind) x.1 x.2.1⟩
def A_laws_szAttrKindS : List (List Nat × Ann) := [([0, 5], [.keep 0 0, .keep 0 1, .keep 0 5])]
def In_laws_szAttrKindS : List (List Nat × Nat) := []
noncomputable def cs_laws_szAttrKindS : List Ctr := [c_laws_szAttrKind]
noncomputable def F_laws_szAttrKindS (n : Nat) (a0 : (List DAttrKind)) (a1 : Int) : Option Int := run Tryz.prog A_laws_szAttrKindS In_laws_szAttrKindS (conOf cs_laws_szAttrKindS) Tryz.f159 (Tryz.f159.body.getD .skip) (packT [I64]) n (argsV [(.list TyAttrKind), I64] (a0, a1, ()))
noncomputable abbrev L_laws_szAttrKindS_0_5 (n : Nat) (x1 : (List DAttrKind)) (x2 : Int) (x3 : Int) : Option Int := lam Tryz.prog A_laws_szAttrKindS In_laws_szAttrKindS (conOf cs_laws_szAttrKindS) Tryz.f159 (Tryz.f159.body.getD .skip) (packT [I64]) n [0, 5] [.d (.list TyAttrKind) x1, .d I64 x2, .d I64 x3]
theorem F_laws_szAttrKindS_eq (n : Nat) (a0 : (List DAttrKind)) (a1 : Int) : F_laws_szAttrKindS n a0 a1 =
    bif decide (IntKind.wrap .i64 (a1 - (a0.length : Int)) < 0) then
      some (-1)
    else
      L_laws_szAttrKindS_0_5 n a0 (IntKind.wrap .i64 (a1 - (a0.length : Int))) 0 := by kernel_rfl
theorem L_laws_szAttrKindS_0_5_eq (n : Nat) (x1 : (List DAttrKind)) (x2 : Int) (x3 : Int) : L_laws_szAttrKindS_0_5 (n + 1) x1 x2 x3 =
    bif decide (x3 < (x1.length : Int)) then
      bif inB x3 x1.length then
        Option.bind (szC TyAttrKind (rd x1 x3 (Ty.dflt TyAttrKind)) x2) fun (y1 : Int) =>
        bif decide (y1 < 0) then
          some (-1)
        else
          L_laws_szAttrKindS_0_5 n x1 y1 (IntKind.wrap .i64 (x3 + 1))
      else none
    else
      some x2 := by kernel_rfl
theorem mk_laws_szAttrKindS (hcs : ∀ x ∈ cs_laws_szAttrKindS, CtrOk Tryz.prog x) (h : ∀ (a0 : (List DAttrKind)) (a1 : Int) y, szC (.list TyAttrKind) a0 a1 = some y → ∃ n, F_laws_szAttrKindS n a0 a1 = some y) : CtrOk Tryz.prog c_laws_szAttrKindS := by
  refine ctr_of_run (c := c_laws_szAttrKindS) (by kernel_rfl) (by kernel_rfl : Tryz.prog.funcs[159]? = some Tryz.f159) (code := Tryz.f159.body.getD .skip) (by kernel_rfl) (by kernel_rfl) (by kernel_rfl) (A := A_laws_szAttrKindS) (I := In_laws_szAttrKindS) hcs ?_
  rintro ⟨a0, a1, u⟩ y hy
  exact h a0 a1 y hy

theorem hcs_laws_szAttrKindS : ∀ x ∈ cs_laws_szAttrKindS, CtrOk Tryz.prog x := (conOf_cons ok_laws_szAttrKind conOf_nil)
theorem ok_laws_szAttrKindS : CtrOk Tryz.prog c_laws_szAttrKindS := mk_laws_szAttrKindS hcs_laws_szAttrKindS fun a0 a1 y hy => by
  obtain ⟨n, hn⟩ := szS_call (fun n xs s i => L_laws_szAttrKindS_0_5_eq n xs s i) hy
  exact ⟨n, (F_laws_szAttrKindS_eq n a0 a1).trans hn⟩
/-! ## laws.szThingType (81) -/
noncomputable def c_laws_szThingType : Ctr := ⟨81, [TyThingType, I64], [I64], fun x => szC TyThingType x.1 x.2.1⟩
def A_laws_szThingType : List (List Nat × Ann) := []
def In_laws_szThingType : List (List Nat × Nat) := []
noncomputable def cs_laws_szThingType : List Ctr := [c_laws_szStringS, c_laws_szAttrKindS]
noncomputable def F_laws_szThingType (n : Nat) (a0 : DThingType) (a1 : Int) : Option Int := run Tryz.prog A_laws_szThingType In_laws_szThingType (conOf cs_laws_szThingType) Tryz.f81 (Tryz.f81.body.getD .skip) (packT [I64]) n (argsV [TyThingType, I64] (a0, a1, ()))
theorem F_laws_szThingType_eq (n : Nat) (a0 : DThingType) (a1 : Int) : F_laws_szThingType n a0 a1 =
    bif decide (IntKind.wrap .i64 (a1 - (a0.1.length : Int)) < 0) then
      some (-1)
    else
      Option.bind (szC (.list .str) a0.2.1 (IntKind.wrap .i64 (a1 - (a0.1.length : Int)))) fun (y1 : Int) =>
      bif decide (y1 < 0) then
        some (-1)
      else
        Option.bind (szC (.list TyAttrKind) a0.2.2 y1) fun (y2 : Int) =>
        bif decide (y2 < 0) then
          some (-1)
        else
          some y2 := by kernel_rfl
theorem mk_laws_szThingType (hcs : ∀ x ∈ cs_laws_szThingType, CtrOk Tryz.prog x) (h : ∀ (a0 : DThingType) (a1 : Int) y, szC TyThingType a0 a1 = some y → ∃ n, F_laws_szThingType n a0 a1 = some y) : CtrOk Tryz.prog c_laws_szThingType := by
  refine ctr_of_run (c := c_laws_szThingType) (by kernel_rfl) (by kernel_rfl : Tryz.prog.funcs[81]? = some Tryz.f81) (code := Tryz.f81.body.getD .skip) (by kernel_rfl) (by kernel_rfl) (by kernel_rfl) (A := A_laws_szThingType) (I := In_laws_szThingType) hcs ?_
  rintro ⟨a0, a1, u⟩ y hy
  exact h a0 a1 y hy

theorem hcs_laws_szThingType : ∀ x ∈ cs_laws_szThingType, CtrOk Tryz.prog x := (conOf_cons ok_laws_szStringS (conOf_cons ok_laws_szAttrKindS conOf_nil))
theorem ok_laws_szThingType : CtrOk Tryz.prog c_laws_szThingType := mk_laws_szThingType hcs_laws_szThingType fun a0 a1 y hy => by
  obtain ⟨hw, h0, h1, rfl⟩ := szC_inv hy
  have hw2 : wfD .str a0.1 ∧ wfD (.list .str) a0.2.1 ∧ wfD (.list TyAttrKind) a0.2.2 := hw
  have hsz : Ty.size TyThingType a0 = Ty.size .str a0.1 + (Ty.size (.list .str) a0.2.1 + (Ty.size (.list TyAttrKind) a0.2.2)) := rfl
  have z0 : Ty.size .str a0.1 = a0.1.length := rfl
  refine ⟨0, ?_⟩
  rw [F_laws_szThingType_eq, hsz]
  have hn0 : a0.1.length ≤ maxLen := by have := (hw2.1).1; unfold maxLen; omega
  rw [lessZ_wrap (left := a1) (n := a0.1.length) (by omega) (by omega) hn0]
  rcases Int.lt_or_le (a1) (a0.1.length : Int) with h | h
  · rw [decide_eq_true (show (a1 - (a0.1.length : Int)) < 0 by omega)]; simp only [cond_true]; unfold lessZ; rw [if_neg (by omega)]
  rw [decide_eq_false (show ¬ (a1 - (a0.1.length : Int)) < 0 by omega)]; simp only [cond_false]
  have h_0 := h; clear h
  rw [szC_some hw2.2.1 (show 0 ≤ (a1 - (a0.1.length : Int)) by omega) (by omega)]
  simp only [Option.bind_some]
  rcases Int.lt_or_le ((a1 - (a0.1.length : Int))) ((Ty.size (.list .str) a0.2.1 : Nat) : Int) with h | h
  · rw [show lessZ ((a1 - (a0.1.length : Int))) (Ty.size (.list .str) a0.2.1) = -1 by unfold lessZ; rw [if_neg (by omega)]]; rw [decide_eq_true (show (-1 : Int) < 0 by omega)]; simp only [cond_true]; unfold lessZ; rw [if_neg (by omega)]
  rw [show lessZ ((a1 - (a0.1.length : Int))) (Ty.size (.list .str) a0.2.1) = ((a1 - (a0.1.length : Int)) - ((Ty.size (.list .str) a0.2.1 : Nat) : Int)) by unfold lessZ; rw [if_pos h]]; rw [decide_eq_false (show ¬ ((a1 - (a0.1.length : Int)) - ((Ty.size (.list .str) a0.2.1 : Nat) : Int)) < 0 by omega)]; simp only [cond_false]
  have h_1 := h; clear h
  rw [szC_some hw2.2.2 (show 0 ≤ ((a1 - (a0.1.length : Int)) - ((Ty.size (.list .str) a0.2.1 : Nat) : Int)) by omega) (by omega)]
  simp only [Option.bind_some]
  rcases Int.lt_or_le (((a1 - (a0.1.length : Int)) - ((Ty.size (.list .str) a0.2.1 : Nat) : Int))) ((Ty.size (.list TyAttrKind) a0.2.2 : Nat) : Int) with h | h
  · rw [show lessZ (((a1 - (a0.1.length : Int)) - ((Ty.size (.list .str) a0.2.1 : Nat) : Int))) (Ty.size (.list TyAttrKind) a0.2.2) = -1 by unfold lessZ; rw [if_neg (by omega)]]; rw [decide_eq_true (show (-1 : Int) < 0 by omega)]; simp only [cond_true]; unfold lessZ; rw [if_neg (by omega)]
  rw [show lessZ (((a1 - (a0.1.length : Int)) - ((Ty.size (.list .str) a0.2.1 : Nat) : Int))) (Ty.size (.list TyAttrKind) a0.2.2) = (((a1 - (a0.1.length : Int)) - ((Ty.size (.list .str) a0.2.1 : Nat) : Int)) - ((Ty.size (.list TyAttrKind) a0.2.2 : Nat) : Int)) by unfold lessZ; rw [if_pos h]]; rw [decide_eq_false (show ¬ (((a1 - (a0.1.length : Int)) - ((Ty.size (.list .str) a0.2.1 : Nat) : Int)) - ((Ty.size (.list TyAttrKind) a0.2.2 : Nat) : Int)) < 0 by omega)]; simp only [cond_false]
  have h_2 := h; clear h
  unfold lessZ; rw [if_pos (by omega)]; congr 1 <;> omega
/-! ## laws.szThingTypeS (30) -/
noncomputable def c_laws_szThingTypeS : Ctr := ⟨30, [(.list TyThingType), I64], [I64], fun x => szC (.list TyThingType) x.1 x.2.1⟩
def A_laws_szThingTypeS : List (List Nat × Ann) := [([0, 5], [.keep 0 0, .keep 0 1, .keep 0 5])]
def In_laws_szThingTypeS : List (List Nat × Nat) := []
noncomputable def cs_laws_szThingTypeS : List Ctr := [c_laws_szThingType]
noncomputable def F_laws_szThingTypeS (n : Nat) (a0 : (List DThingType)) (a1 : Int) : Option Int := run Tryz.prog A_laws_szThingTypeS In_laws_szThingTypeS (conOf cs_laws_szThingTypeS) Tryz.f30 (Tryz.f30.body.getD .skip) (packT [I64]) n (argsV [(.list TyThingType), I64] (a0, a1, ()))
noncomputable abbrev L_laws_szThingTypeS_0_5 (n : Nat) (x1 : (List DThingType)) (x2 : Int) (x3 : Int) : Option Int := lam Tryz.prog A_laws_szThingTypeS In_laws_szThingTypeS (conOf cs_laws_szThingTypeS) Tryz.f30 (Tryz.f30.body.getD .skip) (packT [I64]) n [0, 5] [.d (.list TyThingType) x1, .d I64 x2, .d I64 x3]
theorem F_laws_szThingTypeS_eq (n : Nat) (a0 : (List DThingType)) (a1 : Int) : F_laws_szThingTypeS n a0 a1 =
    bif decide (IntKind.wrap .i64 (a1 - (a0.length : Int)) < 0) then
      some (-1)
    else
      L_laws_szThingTypeS_0_5 n a0 (IntKind.wrap .i64 (a1 - (a0.length : Int))) 0 := by kernel_rfl
theorem L_laws_szThingTypeS_0_5_eq (n : Nat) (x1 : (List DThingType)) (x2 : Int) (x3 : Int) : L_laws_szThingTypeS_0_5 (n + 1) x1 x2 x3 =
    bif decide (x3 < (x1.length : Int)) then
      bif inB x3 x1.length then
        Option.bind (szC TyThingType (rd x1 x3 (Ty.dflt TyThingType)) x2) fun (y1 : Int) =>
        bif decide (y1 < 0) then
          some (-1)
        else
          L_laws_szThingTypeS_0_5 n x1 y1 (IntKind.wrap .i64 (x3 + 1))
      else none
    else
      some x2 := by kernel_rfl
theorem mk_laws_szThingTypeS (hcs : ∀ x ∈ cs_laws_szThingTypeS, CtrOk Tryz.prog x) (h : ∀ (a0 : (List DThingType)) (a1 : Int) y, szC (.list TyThingType) a0 a1 = some y → ∃ n, F_laws_szThingTypeS n a0 a1 = some y) : CtrOk Tryz.prog c_laws_szThingTypeS := by
  refine ctr_of_run (c := c_laws_szThingTypeS) (by kernel_rfl) (by kernel_rfl : Tryz.prog.funcs[30]? = some Tryz.f30) (code := Tryz.f30.body.getD .skip) (by kernel_rfl) (by kernel_rfl) (by kernel_rfl) (A := A_laws_szThingTypeS) (I := In_laws_szThingTypeS) hcs ?_
  rintro ⟨a0, a1, u⟩ y hy
  exact h a0 a1 y hy

theorem hcs_laws_szThingTypeS : ∀ x ∈ cs_laws_szThingTypeS, CtrOk Tryz.prog x := (conOf_cons ok_laws_szThingType conOf_nil)
theorem ok_laws_szThingTypeS : CtrOk Tryz.prog c_laws_szThingTypeS := mk_laws_szThingTypeS hcs_laws_szThingTypeS fun a0 a1 y hy => by
  obtain ⟨n, hn⟩ := szS_call (fun n xs s i => L_laws_szThingTypeS_0_5_eq n xs s i) hy
  exact ⟨n, (F_laws_szThingTypeS_eq n a0 a1).trans hn⟩
/-! ## laws.szActionType (82) -/
noncomputable def c_laws_szActionType : Ctr := ⟨82, [TyActionType, I64], [I64], fun x => szC TyActionType x.1 x.2.1⟩
def A_laws_szActionType : List (List Nat × Ann) := []
def In_laws_szActionType : List (List Nat × Nat) := []
noncomputable def cs_laws_szActionType : List Ctr := [c_laws_szStringS, c_laws_szAttrKindS]
noncomputable def F_laws_szActionType (n : Nat) (a0 : DActionType) (a1 : Int) : Option Int := run Tryz.prog A_laws_szActionType In_laws_szActionType (conOf cs_laws_szActionType) Tryz.f82 (Tryz.f82.body.getD .skip) (packT [I64]) n (argsV [TyActionType, I64] (a0, a1, ()))
theorem F_laws_szActionType_eq (n : Nat) (a0 : DActionType) (a1 : Int) : F_laws_szActionType n a0 a1 =
    bif decide (IntKind.wrap .i64 (a1 - (a0.1.length : Int)) < 0) then
      some (-1)
    else
      Option.bind (szC (.list .str) a0.2.1 (IntKind.wrap .i64 (a1 - (a0.1.length : Int)))) fun (y1 : Int) =>
      bif decide (y1 < 0) then
        some (-1)
      else
        Option.bind (szC (.list .str) a0.2.2.1 y1) fun (y2 : Int) =>
        bif decide (y2 < 0) then
          some (-1)
        else
          Option.bind (szC (.list TyAttrKind) a0.2.2.2 y2) fun (y3 : Int) =>
          bif decide (y3 < 0) then
            some (-1)
          else
            some y3 := by kernel_rfl
theorem mk_laws_szActionType (hcs : ∀ x ∈ cs_laws_szActionType, CtrOk Tryz.prog x) (h : ∀ (a0 : DActionType) (a1 : Int) y, szC TyActionType a0 a1 = some y → ∃ n, F_laws_szActionType n a0 a1 = some y) : CtrOk Tryz.prog c_laws_szActionType := by
  refine ctr_of_run (c := c_laws_szActionType) (by kernel_rfl) (by kernel_rfl : Tryz.prog.funcs[82]? = some Tryz.f82) (code := Tryz.f82.body.getD .skip) (by kernel_rfl) (by kernel_rfl) (by kernel_rfl) (A := A_laws_szActionType) (I := In_laws_szActionType) hcs ?_
  rintro ⟨a0, a1, u⟩ y hy
  exact h a0 a1 y hy

theorem hcs_laws_szActionType : ∀ x ∈ cs_laws_szActionType, CtrOk Tryz.prog x := (conOf_cons ok_laws_szStringS (conOf_cons ok_laws_szAttrKindS conOf_nil))
theorem ok_laws_szActionType : CtrOk Tryz.prog c_laws_szActionType := mk_laws_szActionType hcs_laws_szActionType fun a0 a1 y hy => by
  obtain ⟨hw, h0, h1, rfl⟩ := szC_inv hy
  have hw2 : wfD .str a0.1 ∧ wfD (.list .str) a0.2.1 ∧ wfD (.list .str) a0.2.2.1 ∧ wfD (.list TyAttrKind) a0.2.2.2 := hw
  have hsz : Ty.size TyActionType a0 = Ty.size .str a0.1 + (Ty.size (.list .str) a0.2.1 + (Ty.size (.list .str) a0.2.2.1 + (Ty.size (.list TyAttrKind) a0.2.2.2))) := rfl
  have z0 : Ty.size .str a0.1 = a0.1.length := rfl
  refine ⟨0, ?_⟩
  rw [F_laws_szActionType_eq, hsz]
  have hn0 : a0.1.length ≤ maxLen := by have := (hw2.1).1; unfold maxLen; omega
  rw [lessZ_wrap (left := a1) (n := a0.1.length) (by omega) (by omega) hn0]
  rcases Int.lt_or_le (a1) (a0.1.length : Int) with h | h
  · rw [decide_eq_true (show (a1 - (a0.1.length : Int)) < 0 by omega)]; simp only [cond_true]; unfold lessZ; rw [if_neg (by omega)]
  rw [decide_eq_false (show ¬ (a1 - (a0.1.length : Int)) < 0 by omega)]; simp only [cond_false]
  have h_0 := h; clear h
  rw [szC_some hw2.2.1 (show 0 ≤ (a1 - (a0.1.length : Int)) by omega) (by omega)]
  simp only [Option.bind_some]
  rcases Int.lt_or_le ((a1 - (a0.1.length : Int))) ((Ty.size (.list .str) a0.2.1 : Nat) : Int) with h | h
  · rw [show lessZ ((a1 - (a0.1.length : Int))) (Ty.size (.list .str) a0.2.1) = -1 by unfold lessZ; rw [if_neg (by omega)]]; rw [decide_eq_true (show (-1 : Int) < 0 by omega)]; simp only [cond_true]; unfold lessZ; rw [if_neg (by omega)]
  rw [show lessZ ((a1 - (a0.1.length : Int))) (Ty.size (.list .str) a0.2.1) = ((a1 - (a0.1.length : Int)) - ((Ty.size (.list .str) a0.2.1 : Nat) : Int)) by unfold lessZ; rw [if_pos h]]; rw [decide_eq_false (show ¬ ((a1 - (a0.1.length : Int)) - ((Ty.size (.list .str) a0.2.1 : Nat) : Int)) < 0 by omega)]; simp only [cond_false]
  have h_1 := h; clear h
  rw [szC_some hw2.2.2.1 (show 0 ≤ ((a1 - (a0.1.length : Int)) - ((Ty.size (.list .str) a0.2.1 : Nat) : Int)) by omega) (by omega)]
  simp only [Option.bind_some]
  rcases Int.lt_or_le (((a1 - (a0.1.length : Int)) - ((Ty.size (.list .str) a0.2.1 : Nat) : Int))) ((Ty.size (.list .str) a0.2.2.1 : Nat) : Int) with h | h
  · rw [show lessZ (((a1 - (a0.1.length : Int)) - ((Ty.size (.list .str) a0.2.1 : Nat) : Int))) (Ty.size (.list .str) a0.2.2.1) = -1 by unfold lessZ; rw [if_neg (by omega)]]; rw [decide_eq_true (show (-1 : Int) < 0 by omega)]; simp only [cond_true]; unfold lessZ; rw [if_neg (by omega)]
  rw [show lessZ (((a1 - (a0.1.length : Int)) - ((Ty.size (.list .str) a0.2.1 : Nat) : Int))) (Ty.size (.list .str) a0.2.2.1) = (((a1 - (a0.1.length : Int)) - ((Ty.size (.list .str) a0.2.1 : Nat) : Int)) - ((Ty.size (.list .str) a0.2.2.1 : Nat) : Int)) by unfold lessZ; rw [if_pos h]]; rw [decide_eq_false (show ¬ (((a1 - (a0.1.length : Int)) - ((Ty.size (.list .str) a0.2.1 : Nat) : Int)) - ((Ty.size (.list .str) a0.2.2.1 : Nat) : Int)) < 0 by omega)]; simp only [cond_false]
  have h_2 := h; clear h
  rw [szC_some hw2.2.2.2 (show 0 ≤ (((a1 - (a0.1.length : Int)) - ((Ty.size (.list .str) a0.2.1 : Nat) : Int)) - ((Ty.size (.list .str) a0.2.2.1 : Nat) : Int)) by omega) (by omega)]
  simp only [Option.bind_some]
  rcases Int.lt_or_le ((((a1 - (a0.1.length : Int)) - ((Ty.size (.list .str) a0.2.1 : Nat) : Int)) - ((Ty.size (.list .str) a0.2.2.1 : Nat) : Int))) ((Ty.size (.list TyAttrKind) a0.2.2.2 : Nat) : Int) with h | h
  · rw [show lessZ ((((a1 - (a0.1.length : Int)) - ((Ty.size (.list .str) a0.2.1 : Nat) : Int)) - ((Ty.size (.list .str) a0.2.2.1 : Nat) : Int))) (Ty.size (.list TyAttrKind) a0.2.2.2) = -1 by unfold lessZ; rw [if_neg (by omega)]]; rw [decide_eq_true (show (-1 : Int) < 0 by omega)]; simp only [cond_true]; unfold lessZ; rw [if_neg (by omega)]
  rw [show lessZ ((((a1 - (a0.1.length : Int)) - ((Ty.size (.list .str) a0.2.1 : Nat) : Int)) - ((Ty.size (.list .str) a0.2.2.1 : Nat) : Int))) (Ty.size (.list TyAttrKind) a0.2.2.2) = ((((a1 - (a0.1.length : Int)) - ((Ty.size (.list .str) a0.2.1 : Nat) : Int)) - ((Ty.size (.list .str) a0.2.2.1 : Nat) : Int)) - ((Ty.size (.list TyAttrKind) a0.2.2.2 : Nat) : Int)) by unfold lessZ; rw [if_pos h]]; rw [decide_eq_false (show ¬ ((((a1 - (a0.1.length : Int)) - ((Ty.size (.list .str) a0.2.1 : Nat) : Int)) - ((Ty.size (.list .str) a0.2.2.1 : Nat) : Int)) - ((Ty.size (.list TyAttrKind) a0.2.2.2 : Nat) : Int)) < 0 by omega)]; simp only [cond_false]
  have h_3 := h; clear h
  unfold lessZ; rw [if_pos (by omega)]; congr 1 <;> omega
/-! ## laws.szActionTypeS (31) -/
noncomputable def c_laws_szActionTypeS : Ctr := ⟨31, [(.list TyActionType), I64], [I64], fun x => szC (.list TyActionType) x.1 x.2.1⟩
def A_laws_szActionTypeS : List (List Nat × Ann) := [([0, 5], [.keep 0 0, .keep 0 1, .keep 0 5])]
def In_laws_szActionTypeS : List (List Nat × Nat) := []
noncomputable def cs_laws_szActionTypeS : List Ctr := [c_laws_szActionType]
noncomputable def F_laws_szActionTypeS (n : Nat) (a0 : (List DActionType)) (a1 : Int) : Option Int := run Tryz.prog A_laws_szActionTypeS In_laws_szActionTypeS (conOf cs_laws_szActionTypeS) Tryz.f31 (Tryz.f31.body.getD .skip) (packT [I64]) n (argsV [(.list TyActionType), I64] (a0, a1, ()))
noncomputable abbrev L_laws_szActionTypeS_0_5 (n : Nat) (x1 : (List DActionType)) (x2 : Int) (x3 : Int) : Option Int := lam Tryz.prog A_laws_szActionTypeS In_laws_szActionTypeS (conOf cs_laws_szActionTypeS) Tryz.f31 (Tryz.f31.body.getD .skip) (packT [I64]) n [0, 5] [.d (.list TyActionType) x1, .d I64 x2, .d I64 x3]
theorem F_laws_szActionTypeS_eq (n : Nat) (a0 : (List DActionType)) (a1 : Int) : F_laws_szActionTypeS n a0 a1 =
    bif decide (IntKind.wrap .i64 (a1 - (a0.length : Int)) < 0) then
      some (-1)
    else
      L_laws_szActionTypeS_0_5 n a0 (IntKind.wrap .i64 (a1 - (a0.length : Int))) 0 := by kernel_rfl
theorem L_laws_szActionTypeS_0_5_eq (n : Nat) (x1 : (List DActionType)) (x2 : Int) (x3 : Int) : L_laws_szActionTypeS_0_5 (n + 1) x1 x2 x3 =
    bif decide (x3 < (x1.length : Int)) then
      bif inB x3 x1.length then
        Option.bind (szC TyActionType (rd x1 x3 (Ty.dflt TyActionType)) x2) fun (y1 : Int) =>
        bif decide (y1 < 0) then
          some (-1)
        else
          L_laws_szActionTypeS_0_5 n x1 y1 (IntKind.wrap .i64 (x3 + 1))
      else none
    else
      some x2 := by kernel_rfl
theorem mk_laws_szActionTypeS (hcs : ∀ x ∈ cs_laws_szActionTypeS, CtrOk Tryz.prog x) (h : ∀ (a0 : (List DActionType)) (a1 : Int) y, szC (.list TyActionType) a0 a1 = some y → ∃ n, F_laws_szActionTypeS n a0 a1 = some y) : CtrOk Tryz.prog c_laws_szActionTypeS := by
  refine ctr_of_run (c := c_laws_szActionTypeS) (by kernel_rfl) (by kernel_rfl : Tryz.prog.funcs[31]? = some Tryz.f31) (code := Tryz.f31.body.getD .skip) (by kernel_rfl) (by kernel_rfl) (by kernel_rfl) (A := A_laws_szActionTypeS) (I := In_laws_szActionTypeS) hcs ?_
  rintro ⟨a0, a1, u⟩ y hy
  exact h a0 a1 y hy

theorem hcs_laws_szActionTypeS : ∀ x ∈ cs_laws_szActionTypeS, CtrOk Tryz.prog x := (conOf_cons ok_laws_szActionType conOf_nil)
theorem ok_laws_szActionTypeS : CtrOk Tryz.prog c_laws_szActionTypeS := mk_laws_szActionTypeS hcs_laws_szActionTypeS fun a0 a1 y hy => by
  obtain ⟨n, hn⟩ := szS_call (fun n xs s i => L_laws_szActionTypeS_0_5_eq n xs s i) hy
  exact ⟨n, (F_laws_szActionTypeS_eq n a0 a1).trans hn⟩
/-! ## laws.szPolSchema (7) -/
noncomputable def c_laws_szPolSchema : Ctr := ⟨7, [TyPolSchema, I64], [I64], fun x => szC TyPolSchema x.1 x.2.1⟩
def A_laws_szPolSchema : List (List Nat × Ann) := []
def In_laws_szPolSchema : List (List Nat × Nat) := []
noncomputable def cs_laws_szPolSchema : List Ctr := [c_laws_szThingTypeS, c_laws_szActionTypeS]
noncomputable def F_laws_szPolSchema (n : Nat) (a0 : DPolSchema) (a1 : Int) : Option Int := run Tryz.prog A_laws_szPolSchema In_laws_szPolSchema (conOf cs_laws_szPolSchema) Tryz.f7 (Tryz.f7.body.getD .skip) (packT [I64]) n (argsV [TyPolSchema, I64] (a0, a1, ()))
theorem F_laws_szPolSchema_eq (n : Nat) (a0 : DPolSchema) (a1 : Int) : F_laws_szPolSchema n a0 a1 =
    Option.bind (szC (.list TyThingType) a0.1 a1) fun (y1 : Int) =>
    bif decide (y1 < 0) then
      some (-1)
    else
      Option.bind (szC (.list TyActionType) a0.2 y1) fun (y2 : Int) =>
      bif decide (y2 < 0) then
        some (-1)
      else
        some y2 := by kernel_rfl
theorem mk_laws_szPolSchema (hcs : ∀ x ∈ cs_laws_szPolSchema, CtrOk Tryz.prog x) (h : ∀ (a0 : DPolSchema) (a1 : Int) y, szC TyPolSchema a0 a1 = some y → ∃ n, F_laws_szPolSchema n a0 a1 = some y) : CtrOk Tryz.prog c_laws_szPolSchema := by
  refine ctr_of_run (c := c_laws_szPolSchema) (by kernel_rfl) (by kernel_rfl : Tryz.prog.funcs[7]? = some Tryz.f7) (code := Tryz.f7.body.getD .skip) (by kernel_rfl) (by kernel_rfl) (by kernel_rfl) (A := A_laws_szPolSchema) (I := In_laws_szPolSchema) hcs ?_
  rintro ⟨a0, a1, u⟩ y hy
  exact h a0 a1 y hy

theorem hcs_laws_szPolSchema : ∀ x ∈ cs_laws_szPolSchema, CtrOk Tryz.prog x := (conOf_cons ok_laws_szThingTypeS (conOf_cons ok_laws_szActionTypeS conOf_nil))
theorem ok_laws_szPolSchema : CtrOk Tryz.prog c_laws_szPolSchema := mk_laws_szPolSchema hcs_laws_szPolSchema fun a0 a1 y hy => by
  obtain ⟨hw, h0, h1, rfl⟩ := szC_inv hy
  have hw2 : wfD (.list TyThingType) a0.1 ∧ wfD (.list TyActionType) a0.2 := hw
  have hsz : Ty.size TyPolSchema a0 = Ty.size (.list TyThingType) a0.1 + (Ty.size (.list TyActionType) a0.2) := rfl
  refine ⟨0, ?_⟩
  rw [F_laws_szPolSchema_eq, hsz]
  rw [szC_some hw2.1 (show 0 ≤ a1 by omega) (by omega)]
  simp only [Option.bind_some]
  rcases Int.lt_or_le (a1) ((Ty.size (.list TyThingType) a0.1 : Nat) : Int) with h | h
  · rw [show lessZ (a1) (Ty.size (.list TyThingType) a0.1) = -1 by unfold lessZ; rw [if_neg (by omega)]]; rw [decide_eq_true (show (-1 : Int) < 0 by omega)]; simp only [cond_true]; unfold lessZ; rw [if_neg (by omega)]
  rw [show lessZ (a1) (Ty.size (.list TyThingType) a0.1) = (a1 - ((Ty.size (.list TyThingType) a0.1 : Nat) : Int)) by unfold lessZ; rw [if_pos h]]; rw [decide_eq_false (show ¬ (a1 - ((Ty.size (.list TyThingType) a0.1 : Nat) : Int)) < 0 by omega)]; simp only [cond_false]
  have h_0 := h; clear h
  rw [szC_some hw2.2 (show 0 ≤ (a1 - ((Ty.size (.list TyThingType) a0.1 : Nat) : Int)) by omega) (by omega)]
  simp only [Option.bind_some]
  rcases Int.lt_or_le ((a1 - ((Ty.size (.list TyThingType) a0.1 : Nat) : Int))) ((Ty.size (.list TyActionType) a0.2 : Nat) : Int) with h | h
  · rw [show lessZ ((a1 - ((Ty.size (.list TyThingType) a0.1 : Nat) : Int))) (Ty.size (.list TyActionType) a0.2) = -1 by unfold lessZ; rw [if_neg (by omega)]]; rw [decide_eq_true (show (-1 : Int) < 0 by omega)]; simp only [cond_true]; unfold lessZ; rw [if_neg (by omega)]
  rw [show lessZ ((a1 - ((Ty.size (.list TyThingType) a0.1 : Nat) : Int))) (Ty.size (.list TyActionType) a0.2) = ((a1 - ((Ty.size (.list TyThingType) a0.1 : Nat) : Int)) - ((Ty.size (.list TyActionType) a0.2 : Nat) : Int)) by unfold lessZ; rw [if_pos h]]; rw [decide_eq_false (show ¬ ((a1 - ((Ty.size (.list TyThingType) a0.1 : Nat) : Int)) - ((Ty.size (.list TyActionType) a0.2 : Nat) : Int)) < 0 by omega)]; simp only [cond_false]
  have h_1 := h; clear h
  unfold lessZ; rw [if_pos (by omega)]; congr 1 <;> omega
/-! ## laws.szAtom (33) -/
noncomputable def c_laws_szAtom : Ctr := ⟨33, [TyAtom, I64], [I64], fun x => szC TyAtom x.1 x.2.1⟩
def A_laws_szAtom : List (List Nat × Ann) := []
def In_laws_szAtom : List (List Nat × Nat) := []
noncomputable def cs_laws_szAtom : List Ctr := []
noncomputable def F_laws_szAtom (n : Nat) (a0 : DAtom) (a1 : Int) : Option Int := run Tryz.prog A_laws_szAtom In_laws_szAtom (conOf cs_laws_szAtom) Tryz.f33 (Tryz.f33.body.getD .skip) (packT [I64]) n (argsV [TyAtom, I64] (a0, a1, ()))
theorem F_laws_szAtom_eq (n : Nat) (a0 : DAtom) (a1 : Int) : F_laws_szAtom n a0 a1 =
    bif decide (IntKind.wrap .i64 (a1 - (a0.2.2.1.length : Int)) < 0) then
      some (-1)
    else
      bif decide (IntKind.wrap .i64 ((IntKind.wrap .i64 (a1 - (a0.2.2.1.length : Int))) - (a0.2.2.2.length : Int)) < 0) then
        some (-1)
      else
        some (IntKind.wrap .i64 ((IntKind.wrap .i64 (a1 - (a0.2.2.1.length : Int))) - (a0.2.2.2.length : Int))) := by kernel_rfl
theorem mk_laws_szAtom (hcs : ∀ x ∈ cs_laws_szAtom, CtrOk Tryz.prog x) (h : ∀ (a0 : DAtom) (a1 : Int) y, szC TyAtom a0 a1 = some y → ∃ n, F_laws_szAtom n a0 a1 = some y) : CtrOk Tryz.prog c_laws_szAtom := by
  refine ctr_of_run (c := c_laws_szAtom) (by kernel_rfl) (by kernel_rfl : Tryz.prog.funcs[33]? = some Tryz.f33) (code := Tryz.f33.body.getD .skip) (by kernel_rfl) (by kernel_rfl) (by kernel_rfl) (A := A_laws_szAtom) (I := In_laws_szAtom) hcs ?_
  rintro ⟨a0, a1, u⟩ y hy
  exact h a0 a1 y hy

theorem hcs_laws_szAtom : ∀ x ∈ cs_laws_szAtom, CtrOk Tryz.prog x := conOf_nil
theorem ok_laws_szAtom : CtrOk Tryz.prog c_laws_szAtom := mk_laws_szAtom hcs_laws_szAtom fun a0 a1 y hy => by
  obtain ⟨hw, h0, h1, rfl⟩ := szC_inv hy
  have hw2 : wfD I64 a0.1 ∧ wfD I64 a0.2.1 ∧ wfD .str a0.2.2.1 ∧ wfD .str a0.2.2.2 := hw
  have hsz : Ty.size TyAtom a0 = Ty.size I64 a0.1 + (Ty.size I64 a0.2.1 + (Ty.size .str a0.2.2.1 + (Ty.size .str a0.2.2.2))) := rfl
  have z0 : Ty.size I64 a0.1 = 0 := rfl
  have z1 : Ty.size I64 a0.2.1 = 0 := rfl
  have z2 : Ty.size .str a0.2.2.1 = a0.2.2.1.length := rfl
  have z3 : Ty.size .str a0.2.2.2 = a0.2.2.2.length := rfl
  refine ⟨0, ?_⟩
  rw [F_laws_szAtom_eq, hsz]
  have hn2 : a0.2.2.1.length ≤ maxLen := by have := (hw2.2.2.1).1; unfold maxLen; omega
  rw [lessZ_wrap (left := a1) (n := a0.2.2.1.length) (by omega) (by omega) hn2]
  rcases Int.lt_or_le (a1) (a0.2.2.1.length : Int) with h | h
  · rw [decide_eq_true (show (a1 - (a0.2.2.1.length : Int)) < 0 by omega)]; simp only [cond_true]; unfold lessZ; rw [if_neg (by omega)]
  rw [decide_eq_false (show ¬ (a1 - (a0.2.2.1.length : Int)) < 0 by omega)]; simp only [cond_false]
  have h_2 := h; clear h
  have hn3 : a0.2.2.2.length ≤ maxLen := by have := (hw2.2.2.2).1; unfold maxLen; omega
  rw [lessZ_wrap (left := (a1 - (a0.2.2.1.length : Int))) (n := a0.2.2.2.length) (by omega) (by omega) hn3]
  rcases Int.lt_or_le ((a1 - (a0.2.2.1.length : Int))) (a0.2.2.2.length : Int) with h | h
  · rw [decide_eq_true (show ((a1 - (a0.2.2.1.length : Int)) - (a0.2.2.2.length : Int)) < 0 by omega)]; simp only [cond_true]; unfold lessZ; rw [if_neg (by omega)]
  rw [decide_eq_false (show ¬ ((a1 - (a0.2.2.1.length : Int)) - (a0.2.2.2.length : Int)) < 0 by omega)]; simp only [cond_false]
  have h_3 := h; clear h
  unfold lessZ; rw [if_pos (by omega)]; congr 1 <;> omega
/-! ## laws.szAtomS (83) -/
noncomputable def c_laws_szAtomS : Ctr := ⟨83, [(.list TyAtom), I64], [I64], fun x => szC (.list TyAtom) x.1 x.2.1⟩
def A_laws_szAtomS : List (List Nat × Ann) := [([0, 5], [.keep 0 0, .keep 0 1, .keep 0 5])]
def In_laws_szAtomS : List (List Nat × Nat) := []
noncomputable def cs_laws_szAtomS : List Ctr := [c_laws_szAtom]
noncomputable def F_laws_szAtomS (n : Nat) (a0 : (List DAtom)) (a1 : Int) : Option Int := run Tryz.prog A_laws_szAtomS In_laws_szAtomS (conOf cs_laws_szAtomS) Tryz.f83 (Tryz.f83.body.getD .skip) (packT [I64]) n (argsV [(.list TyAtom), I64] (a0, a1, ()))
noncomputable abbrev L_laws_szAtomS_0_5 (n : Nat) (x1 : (List DAtom)) (x2 : Int) (x3 : Int) : Option Int := lam Tryz.prog A_laws_szAtomS In_laws_szAtomS (conOf cs_laws_szAtomS) Tryz.f83 (Tryz.f83.body.getD .skip) (packT [I64]) n [0, 5] [.d (.list TyAtom) x1, .d I64 x2, .d I64 x3]
theorem F_laws_szAtomS_eq (n : Nat) (a0 : (List DAtom)) (a1 : Int) : F_laws_szAtomS n a0 a1 =
    bif decide (IntKind.wrap .i64 (a1 - (a0.length : Int)) < 0) then
      some (-1)
    else
      L_laws_szAtomS_0_5 n a0 (IntKind.wrap .i64 (a1 - (a0.length : Int))) 0 := by kernel_rfl
theorem L_laws_szAtomS_0_5_eq (n : Nat) (x1 : (List DAtom)) (x2 : Int) (x3 : Int) : L_laws_szAtomS_0_5 (n + 1) x1 x2 x3 =
    bif decide (x3 < (x1.length : Int)) then
      bif inB x3 x1.length then
        Option.bind (szC TyAtom (rd x1 x3 (Ty.dflt TyAtom)) x2) fun (y1 : Int) =>
        bif decide (y1 < 0) then
          some (-1)
        else
          L_laws_szAtomS_0_5 n x1 y1 (IntKind.wrap .i64 (x3 + 1))
      else none
    else
      some x2 := by kernel_rfl
theorem mk_laws_szAtomS (hcs : ∀ x ∈ cs_laws_szAtomS, CtrOk Tryz.prog x) (h : ∀ (a0 : (List DAtom)) (a1 : Int) y, szC (.list TyAtom) a0 a1 = some y → ∃ n, F_laws_szAtomS n a0 a1 = some y) : CtrOk Tryz.prog c_laws_szAtomS := by
  refine ctr_of_run (c := c_laws_szAtomS) (by kernel_rfl) (by kernel_rfl : Tryz.prog.funcs[83]? = some Tryz.f83) (code := Tryz.f83.body.getD .skip) (by kernel_rfl) (by kernel_rfl) (by kernel_rfl) (A := A_laws_szAtomS) (I := In_laws_szAtomS) hcs ?_
  rintro ⟨a0, a1, u⟩ y hy
  exact h a0 a1 y hy

theorem hcs_laws_szAtomS : ∀ x ∈ cs_laws_szAtomS, CtrOk Tryz.prog x := (conOf_cons ok_laws_szAtom conOf_nil)
theorem ok_laws_szAtomS : CtrOk Tryz.prog c_laws_szAtomS := mk_laws_szAtomS hcs_laws_szAtomS fun a0 a1 y hy => by
  obtain ⟨n, hn⟩ := szS_call (fun n xs s i => L_laws_szAtomS_0_5_eq n xs s i) hy
  exact ⟨n, (F_laws_szAtomS_eq n a0 a1).trans hn⟩
/-! ## laws.szValue (84) -/
noncomputable def c_laws_szValue : Ctr := ⟨84, [TyValue, I64], [I64], fun x => szC TyValue x.1 x.2.1⟩
def A_laws_szValue : List (List Nat × Ann) := []
def In_laws_szValue : List (List Nat × Nat) := []
noncomputable def cs_laws_szValue : List Ctr := [c_laws_szAtom, c_laws_szAtomS, c_laws_szStringS]
noncomputable def F_laws_szValue (n : Nat) (a0 : DValue) (a1 : Int) : Option Int := run Tryz.prog A_laws_szValue In_laws_szValue (conOf cs_laws_szValue) Tryz.f84 (Tryz.f84.body.getD .skip) (packT [I64]) n (argsV [TyValue, I64] (a0, a1, ()))
theorem F_laws_szValue_eq (n : Nat) (a0 : DValue) (a1 : Int) : F_laws_szValue n a0 a1 =
    Option.bind (szC TyAtom a0.2.1 a1) fun (y1 : Int) =>
    bif decide (y1 < 0) then
      some (-1)
    else
      Option.bind (szC (.list TyAtom) a0.2.2.1 y1) fun (y2 : Int) =>
      bif decide (y2 < 0) then
        some (-1)
      else
        Option.bind (szC (.list .str) a0.2.2.2 y2) fun (y3 : Int) =>
        bif decide (y3 < 0) then
          some (-1)
        else
          some y3 := by kernel_rfl
theorem mk_laws_szValue (hcs : ∀ x ∈ cs_laws_szValue, CtrOk Tryz.prog x) (h : ∀ (a0 : DValue) (a1 : Int) y, szC TyValue a0 a1 = some y → ∃ n, F_laws_szValue n a0 a1 = some y) : CtrOk Tryz.prog c_laws_szValue := by
  refine ctr_of_run (c := c_laws_szValue) (by kernel_rfl) (by kernel_rfl : Tryz.prog.funcs[84]? = some Tryz.f84) (code := Tryz.f84.body.getD .skip) (by kernel_rfl) (by kernel_rfl) (by kernel_rfl) (A := A_laws_szValue) (I := In_laws_szValue) hcs ?_
  rintro ⟨a0, a1, u⟩ y hy
  exact h a0 a1 y hy

theorem hcs_laws_szValue : ∀ x ∈ cs_laws_szValue, CtrOk Tryz.prog x := (conOf_cons ok_laws_szAtom (conOf_cons ok_laws_szAtomS (conOf_cons ok_laws_szStringS conOf_nil)))
theorem ok_laws_szValue : CtrOk Tryz.prog c_laws_szValue := mk_laws_szValue hcs_laws_szValue fun a0 a1 y hy => by
  obtain ⟨hw, h0, h1, rfl⟩ := szC_inv hy
  have hw2 : wfD I64 a0.1 ∧ wfD TyAtom a0.2.1 ∧ wfD (.list TyAtom) a0.2.2.1 ∧ wfD (.list .str) a0.2.2.2 := hw
  have hsz : Ty.size TyValue a0 = Ty.size I64 a0.1 + (Ty.size TyAtom a0.2.1 + (Ty.size (.list TyAtom) a0.2.2.1 + (Ty.size (.list .str) a0.2.2.2))) := rfl
  have z0 : Ty.size I64 a0.1 = 0 := rfl
  refine ⟨0, ?_⟩
  rw [F_laws_szValue_eq, hsz]
  rw [szC_some hw2.2.1 (show 0 ≤ a1 by omega) (by omega)]
  simp only [Option.bind_some]
  rcases Int.lt_or_le (a1) ((Ty.size TyAtom a0.2.1 : Nat) : Int) with h | h
  · rw [show lessZ (a1) (Ty.size TyAtom a0.2.1) = -1 by unfold lessZ; rw [if_neg (by omega)]]; rw [decide_eq_true (show (-1 : Int) < 0 by omega)]; simp only [cond_true]; unfold lessZ; rw [if_neg (by omega)]
  rw [show lessZ (a1) (Ty.size TyAtom a0.2.1) = (a1 - ((Ty.size TyAtom a0.2.1 : Nat) : Int)) by unfold lessZ; rw [if_pos h]]; rw [decide_eq_false (show ¬ (a1 - ((Ty.size TyAtom a0.2.1 : Nat) : Int)) < 0 by omega)]; simp only [cond_false]
  have h_1 := h; clear h
  rw [szC_some hw2.2.2.1 (show 0 ≤ (a1 - ((Ty.size TyAtom a0.2.1 : Nat) : Int)) by omega) (by omega)]
  simp only [Option.bind_some]
  rcases Int.lt_or_le ((a1 - ((Ty.size TyAtom a0.2.1 : Nat) : Int))) ((Ty.size (.list TyAtom) a0.2.2.1 : Nat) : Int) with h | h
  · rw [show lessZ ((a1 - ((Ty.size TyAtom a0.2.1 : Nat) : Int))) (Ty.size (.list TyAtom) a0.2.2.1) = -1 by unfold lessZ; rw [if_neg (by omega)]]; rw [decide_eq_true (show (-1 : Int) < 0 by omega)]; simp only [cond_true]; unfold lessZ; rw [if_neg (by omega)]
  rw [show lessZ ((a1 - ((Ty.size TyAtom a0.2.1 : Nat) : Int))) (Ty.size (.list TyAtom) a0.2.2.1) = ((a1 - ((Ty.size TyAtom a0.2.1 : Nat) : Int)) - ((Ty.size (.list TyAtom) a0.2.2.1 : Nat) : Int)) by unfold lessZ; rw [if_pos h]]; rw [decide_eq_false (show ¬ ((a1 - ((Ty.size TyAtom a0.2.1 : Nat) : Int)) - ((Ty.size (.list TyAtom) a0.2.2.1 : Nat) : Int)) < 0 by omega)]; simp only [cond_false]
  have h_2 := h; clear h
  rw [szC_some hw2.2.2.2 (show 0 ≤ ((a1 - ((Ty.size TyAtom a0.2.1 : Nat) : Int)) - ((Ty.size (.list TyAtom) a0.2.2.1 : Nat) : Int)) by omega) (by omega)]
  simp only [Option.bind_some]
  rcases Int.lt_or_le (((a1 - ((Ty.size TyAtom a0.2.1 : Nat) : Int)) - ((Ty.size (.list TyAtom) a0.2.2.1 : Nat) : Int))) ((Ty.size (.list .str) a0.2.2.2 : Nat) : Int) with h | h
  · rw [show lessZ (((a1 - ((Ty.size TyAtom a0.2.1 : Nat) : Int)) - ((Ty.size (.list TyAtom) a0.2.2.1 : Nat) : Int))) (Ty.size (.list .str) a0.2.2.2) = -1 by unfold lessZ; rw [if_neg (by omega)]]; rw [decide_eq_true (show (-1 : Int) < 0 by omega)]; simp only [cond_true]; unfold lessZ; rw [if_neg (by omega)]
  rw [show lessZ (((a1 - ((Ty.size TyAtom a0.2.1 : Nat) : Int)) - ((Ty.size (.list TyAtom) a0.2.2.1 : Nat) : Int))) (Ty.size (.list .str) a0.2.2.2) = (((a1 - ((Ty.size TyAtom a0.2.1 : Nat) : Int)) - ((Ty.size (.list TyAtom) a0.2.2.1 : Nat) : Int)) - ((Ty.size (.list .str) a0.2.2.2 : Nat) : Int)) by unfold lessZ; rw [if_pos h]]; rw [decide_eq_false (show ¬ (((a1 - ((Ty.size TyAtom a0.2.1 : Nat) : Int)) - ((Ty.size (.list TyAtom) a0.2.2.1 : Nat) : Int)) - ((Ty.size (.list .str) a0.2.2.2 : Nat) : Int)) < 0 by omega)]; simp only [cond_false]
  have h_3 := h; clear h
  unfold lessZ; rw [if_pos (by omega)]; congr 1 <;> omega
/-! ## laws.szValueS (35) -/
noncomputable def c_laws_szValueS : Ctr := ⟨35, [(.list TyValue), I64], [I64], fun x => szC (.list TyValue) x.1 x.2.1⟩
def A_laws_szValueS : List (List Nat × Ann) := [([0, 5], [.keep 0 0, .keep 0 1, .keep 0 5])]
def In_laws_szValueS : List (List Nat × Nat) := []
noncomputable def cs_laws_szValueS : List Ctr := [c_laws_szValue]
noncomputable def F_laws_szValueS (n : Nat) (a0 : (List DValue)) (a1 : Int) : Option Int := run Tryz.prog A_laws_szValueS In_laws_szValueS (conOf cs_laws_szValueS) Tryz.f35 (Tryz.f35.body.getD .skip) (packT [I64]) n (argsV [(.list TyValue), I64] (a0, a1, ()))
noncomputable abbrev L_laws_szValueS_0_5 (n : Nat) (x1 : (List DValue)) (x2 : Int) (x3 : Int) : Option Int := lam Tryz.prog A_laws_szValueS In_laws_szValueS (conOf cs_laws_szValueS) Tryz.f35 (Tryz.f35.body.getD .skip) (packT [I64]) n [0, 5] [.d (.list TyValue) x1, .d I64 x2, .d I64 x3]
theorem F_laws_szValueS_eq (n : Nat) (a0 : (List DValue)) (a1 : Int) : F_laws_szValueS n a0 a1 =
    bif decide (IntKind.wrap .i64 (a1 - (a0.length : Int)) < 0) then
      some (-1)
    else
      L_laws_szValueS_0_5 n a0 (IntKind.wrap .i64 (a1 - (a0.length : Int))) 0 := by kernel_rfl
theorem L_laws_szValueS_0_5_eq (n : Nat) (x1 : (List DValue)) (x2 : Int) (x3 : Int) : L_laws_szValueS_0_5 (n + 1) x1 x2 x3 =
    bif decide (x3 < (x1.length : Int)) then
      bif inB x3 x1.length then
        Option.bind (szC TyValue (rd x1 x3 (Ty.dflt TyValue)) x2) fun (y1 : Int) =>
        bif decide (y1 < 0) then
          some (-1)
        else
          L_laws_szValueS_0_5 n x1 y1 (IntKind.wrap .i64 (x3 + 1))
      else none
    else
      some x2 := by kernel_rfl
theorem mk_laws_szValueS (hcs : ∀ x ∈ cs_laws_szValueS, CtrOk Tryz.prog x) (h : ∀ (a0 : (List DValue)) (a1 : Int) y, szC (.list TyValue) a0 a1 = some y → ∃ n, F_laws_szValueS n a0 a1 = some y) : CtrOk Tryz.prog c_laws_szValueS := by
  refine ctr_of_run (c := c_laws_szValueS) (by kernel_rfl) (by kernel_rfl : Tryz.prog.funcs[35]? = some Tryz.f35) (code := Tryz.f35.body.getD .skip) (by kernel_rfl) (by kernel_rfl) (by kernel_rfl) (A := A_laws_szValueS) (I := In_laws_szValueS) hcs ?_
  rintro ⟨a0, a1, u⟩ y hy
  exact h a0 a1 y hy

theorem hcs_laws_szValueS : ∀ x ∈ cs_laws_szValueS, CtrOk Tryz.prog x := (conOf_cons ok_laws_szValue conOf_nil)
theorem ok_laws_szValueS : CtrOk Tryz.prog c_laws_szValueS := mk_laws_szValueS hcs_laws_szValueS fun a0 a1 y hy => by
  obtain ⟨n, hn⟩ := szS_call (fun n xs s i => L_laws_szValueS_0_5_eq n xs s i) hy
  exact ⟨n, (F_laws_szValueS_eq n a0 a1).trans hn⟩
/-! ## laws.szThing (32) -/
noncomputable def c_laws_szThing : Ctr := ⟨32, [TyThing, I64], [I64], fun x => szC TyThing x.1 x.2.1⟩
def A_laws_szThing : List (List Nat × Ann) := []
def In_laws_szThing : List (List Nat × Nat) := []
noncomputable def cs_laws_szThing : List Ctr := [c_laws_szAtom, c_laws_szAtomS, c_laws_szStringS, c_laws_szValueS]
noncomputable def F_laws_szThing (n : Nat) (a0 : DThing) (a1 : Int) : Option Int := run Tryz.prog A_laws_szThing In_laws_szThing (conOf cs_laws_szThing) Tryz.f32 (Tryz.f32.body.getD .skip) (packT [I64]) n (argsV [TyThing, I64] (a0, a1, ()))
theorem F_laws_szThing_eq (n : Nat) (a0 : DThing) (a1 : Int) : F_laws_szThing n a0 a1 =
    Option.bind (szC TyAtom a0.1 a1) fun (y1 : Int) =>
    bif decide (y1 < 0) then
      some (-1)
    else
      Option.bind (szC (.list TyAtom) a0.2.1 y1) fun (y2 : Int) =>
      bif decide (y2 < 0) then
        some (-1)
      else
        Option.bind (szC (.list .str) a0.2.2.1 y2) fun (y3 : Int) =>
        bif decide (y3 < 0) then
          some (-1)
        else
          Option.bind (szC (.list TyValue) a0.2.2.2 y3) fun (y4 : Int) =>
          bif decide (y4 < 0) then
            some (-1)
          else
            some y4 := by kernel_rfl
theorem mk_laws_szThing (hcs : ∀ x ∈ cs_laws_szThing, CtrOk Tryz.prog x) (h : ∀ (a0 : DThing) (a1 : Int) y, szC TyThing a0 a1 = some y → ∃ n, F_laws_szThing n a0 a1 = some y) : CtrOk Tryz.prog c_laws_szThing := by
  refine ctr_of_run (c := c_laws_szThing) (by kernel_rfl) (by kernel_rfl : Tryz.prog.funcs[32]? = some Tryz.f32) (code := Tryz.f32.body.getD .skip) (by kernel_rfl) (by kernel_rfl) (by kernel_rfl) (A := A_laws_szThing) (I := In_laws_szThing) hcs ?_
  rintro ⟨a0, a1, u⟩ y hy
  exact h a0 a1 y hy

theorem hcs_laws_szThing : ∀ x ∈ cs_laws_szThing, CtrOk Tryz.prog x := (conOf_cons ok_laws_szAtom (conOf_cons ok_laws_szAtomS (conOf_cons ok_laws_szStringS (conOf_cons ok_laws_szValueS conOf_nil))))
theorem ok_laws_szThing : CtrOk Tryz.prog c_laws_szThing := mk_laws_szThing hcs_laws_szThing fun a0 a1 y hy => by
  obtain ⟨hw, h0, h1, rfl⟩ := szC_inv hy
  have hw2 : wfD TyAtom a0.1 ∧ wfD (.list TyAtom) a0.2.1 ∧ wfD (.list .str) a0.2.2.1 ∧ wfD (.list TyValue) a0.2.2.2 := hw
  have hsz : Ty.size TyThing a0 = Ty.size TyAtom a0.1 + (Ty.size (.list TyAtom) a0.2.1 + (Ty.size (.list .str) a0.2.2.1 + (Ty.size (.list TyValue) a0.2.2.2))) := rfl
  refine ⟨0, ?_⟩
  rw [F_laws_szThing_eq, hsz]
  rw [szC_some hw2.1 (show 0 ≤ a1 by omega) (by omega)]
  simp only [Option.bind_some]
  rcases Int.lt_or_le (a1) ((Ty.size TyAtom a0.1 : Nat) : Int) with h | h
  · rw [show lessZ (a1) (Ty.size TyAtom a0.1) = -1 by unfold lessZ; rw [if_neg (by omega)]]; rw [decide_eq_true (show (-1 : Int) < 0 by omega)]; simp only [cond_true]; unfold lessZ; rw [if_neg (by omega)]
  rw [show lessZ (a1) (Ty.size TyAtom a0.1) = (a1 - ((Ty.size TyAtom a0.1 : Nat) : Int)) by unfold lessZ; rw [if_pos h]]; rw [decide_eq_false (show ¬ (a1 - ((Ty.size TyAtom a0.1 : Nat) : Int)) < 0 by omega)]; simp only [cond_false]
  have h_0 := h; clear h
  rw [szC_some hw2.2.1 (show 0 ≤ (a1 - ((Ty.size TyAtom a0.1 : Nat) : Int)) by omega) (by omega)]
  simp only [Option.bind_some]
  rcases Int.lt_or_le ((a1 - ((Ty.size TyAtom a0.1 : Nat) : Int))) ((Ty.size (.list TyAtom) a0.2.1 : Nat) : Int) with h | h
  · rw [show lessZ ((a1 - ((Ty.size TyAtom a0.1 : Nat) : Int))) (Ty.size (.list TyAtom) a0.2.1) = -1 by unfold lessZ; rw [if_neg (by omega)]]; rw [decide_eq_true (show (-1 : Int) < 0 by omega)]; simp only [cond_true]; unfold lessZ; rw [if_neg (by omega)]
  rw [show lessZ ((a1 - ((Ty.size TyAtom a0.1 : Nat) : Int))) (Ty.size (.list TyAtom) a0.2.1) = ((a1 - ((Ty.size TyAtom a0.1 : Nat) : Int)) - ((Ty.size (.list TyAtom) a0.2.1 : Nat) : Int)) by unfold lessZ; rw [if_pos h]]; rw [decide_eq_false (show ¬ ((a1 - ((Ty.size TyAtom a0.1 : Nat) : Int)) - ((Ty.size (.list TyAtom) a0.2.1 : Nat) : Int)) < 0 by omega)]; simp only [cond_false]
  have h_1 := h; clear h
  rw [szC_some hw2.2.2.1 (show 0 ≤ ((a1 - ((Ty.size TyAtom a0.1 : Nat) : Int)) - ((Ty.size (.list TyAtom) a0.2.1 : Nat) : Int)) by omega) (by omega)]
  simp only [Option.bind_some]
  rcases Int.lt_or_le (((a1 - ((Ty.size TyAtom a0.1 : Nat) : Int)) - ((Ty.size (.list TyAtom) a0.2.1 : Nat) : Int))) ((Ty.size (.list .str) a0.2.2.1 : Nat) : Int) with h | h
  · rw [show lessZ (((a1 - ((Ty.size TyAtom a0.1 : Nat) : Int)) - ((Ty.size (.list TyAtom) a0.2.1 : Nat) : Int))) (Ty.size (.list .str) a0.2.2.1) = -1 by unfold lessZ; rw [if_neg (by omega)]]; rw [decide_eq_true (show (-1 : Int) < 0 by omega)]; simp only [cond_true]; unfold lessZ; rw [if_neg (by omega)]
  rw [show lessZ (((a1 - ((Ty.size TyAtom a0.1 : Nat) : Int)) - ((Ty.size (.list TyAtom) a0.2.1 : Nat) : Int))) (Ty.size (.list .str) a0.2.2.1) = (((a1 - ((Ty.size TyAtom a0.1 : Nat) : Int)) - ((Ty.size (.list TyAtom) a0.2.1 : Nat) : Int)) - ((Ty.size (.list .str) a0.2.2.1 : Nat) : Int)) by unfold lessZ; rw [if_pos h]]; rw [decide_eq_false (show ¬ (((a1 - ((Ty.size TyAtom a0.1 : Nat) : Int)) - ((Ty.size (.list TyAtom) a0.2.1 : Nat) : Int)) - ((Ty.size (.list .str) a0.2.2.1 : Nat) : Int)) < 0 by omega)]; simp only [cond_false]
  have h_2 := h; clear h
  rw [szC_some hw2.2.2.2 (show 0 ≤ (((a1 - ((Ty.size TyAtom a0.1 : Nat) : Int)) - ((Ty.size (.list TyAtom) a0.2.1 : Nat) : Int)) - ((Ty.size (.list .str) a0.2.2.1 : Nat) : Int)) by omega) (by omega)]
  simp only [Option.bind_some]
  rcases Int.lt_or_le ((((a1 - ((Ty.size TyAtom a0.1 : Nat) : Int)) - ((Ty.size (.list TyAtom) a0.2.1 : Nat) : Int)) - ((Ty.size (.list .str) a0.2.2.1 : Nat) : Int))) ((Ty.size (.list TyValue) a0.2.2.2 : Nat) : Int) with h | h
  · rw [show lessZ ((((a1 - ((Ty.size TyAtom a0.1 : Nat) : Int)) - ((Ty.size (.list TyAtom) a0.2.1 : Nat) : Int)) - ((Ty.size (.list .str) a0.2.2.1 : Nat) : Int))) (Ty.size (.list TyValue) a0.2.2.2) = -1 by unfold lessZ; rw [if_neg (by omega)]]; rw [decide_eq_true (show (-1 : Int) < 0 by omega)]; simp only [cond_true]; unfold lessZ; rw [if_neg (by omega)]
  rw [show lessZ ((((a1 - ((Ty.size TyAtom a0.1 : Nat) : Int)) - ((Ty.size (.list TyAtom) a0.2.1 : Nat) : Int)) - ((Ty.size (.list .str) a0.2.2.1 : Nat) : Int))) (Ty.size (.list TyValue) a0.2.2.2) = ((((a1 - ((Ty.size TyAtom a0.1 : Nat) : Int)) - ((Ty.size (.list TyAtom) a0.2.1 : Nat) : Int)) - ((Ty.size (.list .str) a0.2.2.1 : Nat) : Int)) - ((Ty.size (.list TyValue) a0.2.2.2 : Nat) : Int)) by unfold lessZ; rw [if_pos h]]; rw [decide_eq_false (show ¬ ((((a1 - ((Ty.size TyAtom a0.1 : Nat) : Int)) - ((Ty.size (.list TyAtom) a0.2.1 : Nat) : Int)) - ((Ty.size (.list .str) a0.2.2.1 : Nat) : Int)) - ((Ty.size (.list TyValue) a0.2.2.2 : Nat) : Int)) < 0 by omega)]; simp only [cond_false]
  have h_3 := h; clear h
  unfold lessZ; rw [if_pos (by omega)]; congr 1 <;> omega
/-! ## laws.szThingS (8) -/
noncomputable def c_laws_szThingS : Ctr := ⟨8, [(.list TyThing), I64], [I64], fun x => szC (.list TyThing) x.1 x.2.1⟩
def A_laws_szThingS : List (List Nat × Ann) := [([0, 5], [.keep 0 0, .keep 0 1, .keep 0 5])]
def In_laws_szThingS : List (List Nat × Nat) := []
noncomputable def cs_laws_szThingS : List Ctr := [c_laws_szThing]
noncomputable def F_laws_szThingS (n : Nat) (a0 : (List DThing)) (a1 : Int) : Option Int := run Tryz.prog A_laws_szThingS In_laws_szThingS (conOf cs_laws_szThingS) Tryz.f8 (Tryz.f8.body.getD .skip) (packT [I64]) n (argsV [(.list TyThing), I64] (a0, a1, ()))
noncomputable abbrev L_laws_szThingS_0_5 (n : Nat) (x1 : (List DThing)) (x2 : Int) (x3 : Int) : Option Int := lam Tryz.prog A_laws_szThingS In_laws_szThingS (conOf cs_laws_szThingS) Tryz.f8 (Tryz.f8.body.getD .skip) (packT [I64]) n [0, 5] [.d (.list TyThing) x1, .d I64 x2, .d I64 x3]
theorem F_laws_szThingS_eq (n : Nat) (a0 : (List DThing)) (a1 : Int) : F_laws_szThingS n a0 a1 =
    bif decide (IntKind.wrap .i64 (a1 - (a0.length : Int)) < 0) then
      some (-1)
    else
      L_laws_szThingS_0_5 n a0 (IntKind.wrap .i64 (a1 - (a0.length : Int))) 0 := by kernel_rfl
theorem L_laws_szThingS_0_5_eq (n : Nat) (x1 : (List DThing)) (x2 : Int) (x3 : Int) : L_laws_szThingS_0_5 (n + 1) x1 x2 x3 =
    bif decide (x3 < (x1.length : Int)) then
      bif inB x3 x1.length then
        Option.bind (szC TyThing (((rd x1 x3 (Ty.dflt TyThing)).1), ((rd x1 x3 (Ty.dflt TyThing)).2)) x2) fun (y1 : Int) =>
        bif decide (y1 < 0) then
          some (-1)
        else
          L_laws_szThingS_0_5 n x1 y1 (IntKind.wrap .i64 (x3 + 1))
      else none
    else
      some x2 := by kernel_rfl
theorem mk_laws_szThingS (hcs : ∀ x ∈ cs_laws_szThingS, CtrOk Tryz.prog x) (h : ∀ (a0 : (List DThing)) (a1 : Int) y, szC (.list TyThing) a0 a1 = some y → ∃ n, F_laws_szThingS n a0 a1 = some y) : CtrOk Tryz.prog c_laws_szThingS := by
  refine ctr_of_run (c := c_laws_szThingS) (by kernel_rfl) (by kernel_rfl : Tryz.prog.funcs[8]? = some Tryz.f8) (code := Tryz.f8.body.getD .skip) (by kernel_rfl) (by kernel_rfl) (by kernel_rfl) (A := A_laws_szThingS) (I := In_laws_szThingS) hcs ?_
  rintro ⟨a0, a1, u⟩ y hy
  exact h a0 a1 y hy

theorem hcs_laws_szThingS : ∀ x ∈ cs_laws_szThingS, CtrOk Tryz.prog x := (conOf_cons ok_laws_szThing conOf_nil)
theorem ok_laws_szThingS : CtrOk Tryz.prog c_laws_szThingS := mk_laws_szThingS hcs_laws_szThingS fun a0 a1 y hy => by
  obtain ⟨n, hn⟩ := szS_call (fun n xs s i => L_laws_szThingS_0_5_eq n xs s i) hy
  exact ⟨n, (F_laws_szThingS_eq n a0 a1).trans hn⟩
/-! ## laws.szRequest (9) -/
noncomputable def c_laws_szRequest : Ctr := ⟨9, [TyRequest, I64], [I64], fun x => szC TyRequest x.1 x.2.1⟩
def A_laws_szRequest : List (List Nat × Ann) := []
def In_laws_szRequest : List (List Nat × Nat) := []
noncomputable def cs_laws_szRequest : List Ctr := [c_laws_szAtom, c_laws_szStringS, c_laws_szValueS]
noncomputable def F_laws_szRequest (n : Nat) (a0 : DRequest) (a1 : Int) : Option Int := run Tryz.prog A_laws_szRequest In_laws_szRequest (conOf cs_laws_szRequest) Tryz.f9 (Tryz.f9.body.getD .skip) (packT [I64]) n (argsV [TyRequest, I64] (a0, a1, ()))
theorem F_laws_szRequest_eq (n : Nat) (a0 : DRequest) (a1 : Int) : F_laws_szRequest n a0 a1 =
    Option.bind (szC TyAtom a0.1 a1) fun (y1 : Int) =>
    bif decide (y1 < 0) then
      some (-1)
    else
      Option.bind (szC TyAtom a0.2.1 y1) fun (y2 : Int) =>
      bif decide (y2 < 0) then
        some (-1)
      else
        Option.bind (szC TyAtom a0.2.2.1 y2) fun (y3 : Int) =>
        bif decide (y3 < 0) then
          some (-1)
        else
          Option.bind (szC (.list .str) a0.2.2.2.1 y3) fun (y4 : Int) =>
          bif decide (y4 < 0) then
            some (-1)
          else
            Option.bind (szC (.list TyValue) a0.2.2.2.2 y4) fun (y5 : Int) =>
            bif decide (y5 < 0) then
              some (-1)
            else
              some y5 := by kernel_rfl
theorem mk_laws_szRequest (hcs : ∀ x ∈ cs_laws_szRequest, CtrOk Tryz.prog x) (h : ∀ (a0 : DRequest) (a1 : Int) y, szC TyRequest a0 a1 = some y → ∃ n, F_laws_szRequest n a0 a1 = some y) : CtrOk Tryz.prog c_laws_szRequest := by
  refine ctr_of_run (c := c_laws_szRequest) (by kernel_rfl) (by kernel_rfl : Tryz.prog.funcs[9]? = some Tryz.f9) (code := Tryz.f9.body.getD .skip) (by kernel_rfl) (by kernel_rfl) (by kernel_rfl) (A := A_laws_szRequest) (I := In_laws_szRequest) hcs ?_
  rintro ⟨a0, a1, u⟩ y hy
  exact h a0 a1 y hy

theorem hcs_laws_szRequest : ∀ x ∈ cs_laws_szRequest, CtrOk Tryz.prog x := (conOf_cons ok_laws_szAtom (conOf_cons ok_laws_szStringS (conOf_cons ok_laws_szValueS conOf_nil)))
theorem ok_laws_szRequest : CtrOk Tryz.prog c_laws_szRequest := mk_laws_szRequest hcs_laws_szRequest fun a0 a1 y hy => by
  obtain ⟨hw, h0, h1, rfl⟩ := szC_inv hy
  have hw2 : wfD TyAtom a0.1 ∧ wfD TyAtom a0.2.1 ∧ wfD TyAtom a0.2.2.1 ∧ wfD (.list .str) a0.2.2.2.1 ∧ wfD (.list TyValue) a0.2.2.2.2 := hw
  have hsz : Ty.size TyRequest a0 = Ty.size TyAtom a0.1 + (Ty.size TyAtom a0.2.1 + (Ty.size TyAtom a0.2.2.1 + (Ty.size (.list .str) a0.2.2.2.1 + (Ty.size (.list TyValue) a0.2.2.2.2)))) := rfl
  refine ⟨0, ?_⟩
  rw [F_laws_szRequest_eq, hsz]
  rw [szC_some hw2.1 (show 0 ≤ a1 by omega) (by omega)]
  simp only [Option.bind_some]
  rcases Int.lt_or_le (a1) ((Ty.size TyAtom a0.1 : Nat) : Int) with h | h
  · rw [show lessZ (a1) (Ty.size TyAtom a0.1) = -1 by unfold lessZ; rw [if_neg (by omega)]]; rw [decide_eq_true (show (-1 : Int) < 0 by omega)]; simp only [cond_true]; unfold lessZ; rw [if_neg (by omega)]
  rw [show lessZ (a1) (Ty.size TyAtom a0.1) = (a1 - ((Ty.size TyAtom a0.1 : Nat) : Int)) by unfold lessZ; rw [if_pos h]]; rw [decide_eq_false (show ¬ (a1 - ((Ty.size TyAtom a0.1 : Nat) : Int)) < 0 by omega)]; simp only [cond_false]
  have h_0 := h; clear h
  rw [szC_some hw2.2.1 (show 0 ≤ (a1 - ((Ty.size TyAtom a0.1 : Nat) : Int)) by omega) (by omega)]
  simp only [Option.bind_some]
  rcases Int.lt_or_le ((a1 - ((Ty.size TyAtom a0.1 : Nat) : Int))) ((Ty.size TyAtom a0.2.1 : Nat) : Int) with h | h
  · rw [show lessZ ((a1 - ((Ty.size TyAtom a0.1 : Nat) : Int))) (Ty.size TyAtom a0.2.1) = -1 by unfold lessZ; rw [if_neg (by omega)]]; rw [decide_eq_true (show (-1 : Int) < 0 by omega)]; simp only [cond_true]; unfold lessZ; rw [if_neg (by omega)]
  rw [show lessZ ((a1 - ((Ty.size TyAtom a0.1 : Nat) : Int))) (Ty.size TyAtom a0.2.1) = ((a1 - ((Ty.size TyAtom a0.1 : Nat) : Int)) - ((Ty.size TyAtom a0.2.1 : Nat) : Int)) by unfold lessZ; rw [if_pos h]]; rw [decide_eq_false (show ¬ ((a1 - ((Ty.size TyAtom a0.1 : Nat) : Int)) - ((Ty.size TyAtom a0.2.1 : Nat) : Int)) < 0 by omega)]; simp only [cond_false]
  have h_1 := h; clear h
  rw [szC_some hw2.2.2.1 (show 0 ≤ ((a1 - ((Ty.size TyAtom a0.1 : Nat) : Int)) - ((Ty.size TyAtom a0.2.1 : Nat) : Int)) by omega) (by omega)]
  simp only [Option.bind_some]
  rcases Int.lt_or_le (((a1 - ((Ty.size TyAtom a0.1 : Nat) : Int)) - ((Ty.size TyAtom a0.2.1 : Nat) : Int))) ((Ty.size TyAtom a0.2.2.1 : Nat) : Int) with h | h
  · rw [show lessZ (((a1 - ((Ty.size TyAtom a0.1 : Nat) : Int)) - ((Ty.size TyAtom a0.2.1 : Nat) : Int))) (Ty.size TyAtom a0.2.2.1) = -1 by unfold lessZ; rw [if_neg (by omega)]]; rw [decide_eq_true (show (-1 : Int) < 0 by omega)]; simp only [cond_true]; unfold lessZ; rw [if_neg (by omega)]
  rw [show lessZ (((a1 - ((Ty.size TyAtom a0.1 : Nat) : Int)) - ((Ty.size TyAtom a0.2.1 : Nat) : Int))) (Ty.size TyAtom a0.2.2.1) = (((a1 - ((Ty.size TyAtom a0.1 : Nat) : Int)) - ((Ty.size TyAtom a0.2.1 : Nat) : Int)) - ((Ty.size TyAtom a0.2.2.1 : Nat) : Int)) by unfold lessZ; rw [if_pos h]]; rw [decide_eq_false (show ¬ (((a1 - ((Ty.size TyAtom a0.1 : Nat) : Int)) - ((Ty.size TyAtom a0.2.1 : Nat) : Int)) - ((Ty.size TyAtom a0.2.2.1 : Nat) : Int)) < 0 by omega)]; simp only [cond_false]
  have h_2 := h; clear h
  rw [szC_some hw2.2.2.2.1 (show 0 ≤ (((a1 - ((Ty.size TyAtom a0.1 : Nat) : Int)) - ((Ty.size TyAtom a0.2.1 : Nat) : Int)) - ((Ty.size TyAtom a0.2.2.1 : Nat) : Int)) by omega) (by omega)]
  simp only [Option.bind_some]
  rcases Int.lt_or_le ((((a1 - ((Ty.size TyAtom a0.1 : Nat) : Int)) - ((Ty.size TyAtom a0.2.1 : Nat) : Int)) - ((Ty.size TyAtom a0.2.2.1 : Nat) : Int))) ((Ty.size (.list .str) a0.2.2.2.1 : Nat) : Int) with h | h
  · rw [show lessZ ((((a1 - ((Ty.size TyAtom a0.1 : Nat) : Int)) - ((Ty.size TyAtom a0.2.1 : Nat) : Int)) - ((Ty.size TyAtom a0.2.2.1 : Nat) : Int))) (Ty.size (.list .str) a0.2.2.2.1) = -1 by unfold lessZ; rw [if_neg (by omega)]]; rw [decide_eq_true (show (-1 : Int) < 0 by omega)]; simp only [cond_true]; unfold lessZ; rw [if_neg (by omega)]
  rw [show lessZ ((((a1 - ((Ty.size TyAtom a0.1 : Nat) : Int)) - ((Ty.size TyAtom a0.2.1 : Nat) : Int)) - ((Ty.size TyAtom a0.2.2.1 : Nat) : Int))) (Ty.size (.list .str) a0.2.2.2.1) = ((((a1 - ((Ty.size TyAtom a0.1 : Nat) : Int)) - ((Ty.size TyAtom a0.2.1 : Nat) : Int)) - ((Ty.size TyAtom a0.2.2.1 : Nat) : Int)) - ((Ty.size (.list .str) a0.2.2.2.1 : Nat) : Int)) by unfold lessZ; rw [if_pos h]]; rw [decide_eq_false (show ¬ ((((a1 - ((Ty.size TyAtom a0.1 : Nat) : Int)) - ((Ty.size TyAtom a0.2.1 : Nat) : Int)) - ((Ty.size TyAtom a0.2.2.1 : Nat) : Int)) - ((Ty.size (.list .str) a0.2.2.2.1 : Nat) : Int)) < 0 by omega)]; simp only [cond_false]
  have h_3 := h; clear h
  rw [szC_some hw2.2.2.2.2 (show 0 ≤ ((((a1 - ((Ty.size TyAtom a0.1 : Nat) : Int)) - ((Ty.size TyAtom a0.2.1 : Nat) : Int)) - ((Ty.size TyAtom a0.2.2.1 : Nat) : Int)) - ((Ty.size (.list .str) a0.2.2.2.1 : Nat) : Int)) by omega) (by omega)]
  simp only [Option.bind_some]
  rcases Int.lt_or_le (((((a1 - ((Ty.size TyAtom a0.1 : Nat) : Int)) - ((Ty.size TyAtom a0.2.1 : Nat) : Int)) - ((Ty.size TyAtom a0.2.2.1 : Nat) : Int)) - ((Ty.size (.list .str) a0.2.2.2.1 : Nat) : Int))) ((Ty.size (.list TyValue) a0.2.2.2.2 : Nat) : Int) with h | h
  · rw [show lessZ (((((a1 - ((Ty.size TyAtom a0.1 : Nat) : Int)) - ((Ty.size TyAtom a0.2.1 : Nat) : Int)) - ((Ty.size TyAtom a0.2.2.1 : Nat) : Int)) - ((Ty.size (.list .str) a0.2.2.2.1 : Nat) : Int))) (Ty.size (.list TyValue) a0.2.2.2.2) = -1 by unfold lessZ; rw [if_neg (by omega)]]; rw [decide_eq_true (show (-1 : Int) < 0 by omega)]; simp only [cond_true]; unfold lessZ; rw [if_neg (by omega)]
  rw [show lessZ (((((a1 - ((Ty.size TyAtom a0.1 : Nat) : Int)) - ((Ty.size TyAtom a0.2.1 : Nat) : Int)) - ((Ty.size TyAtom a0.2.2.1 : Nat) : Int)) - ((Ty.size (.list .str) a0.2.2.2.1 : Nat) : Int))) (Ty.size (.list TyValue) a0.2.2.2.2) = (((((a1 - ((Ty.size TyAtom a0.1 : Nat) : Int)) - ((Ty.size TyAtom a0.2.1 : Nat) : Int)) - ((Ty.size TyAtom a0.2.2.1 : Nat) : Int)) - ((Ty.size (.list .str) a0.2.2.2.1 : Nat) : Int)) - ((Ty.size (.list TyValue) a0.2.2.2.2 : Nat) : Int)) by unfold lessZ; rw [if_pos h]]; rw [decide_eq_false (show ¬ (((((a1 - ((Ty.size TyAtom a0.1 : Nat) : Int)) - ((Ty.size TyAtom a0.2.1 : Nat) : Int)) - ((Ty.size TyAtom a0.2.2.1 : Nat) : Int)) - ((Ty.size (.list .str) a0.2.2.2.1 : Nat) : Int)) - ((Ty.size (.list TyValue) a0.2.2.2.2 : Nat) : Int)) < 0 by omega)]; simp only [cond_false]
  have h_4 := h; clear h
  unfold lessZ; rw [if_pos (by omega)]; congr 1 <;> omega
/-! ## laws.toStringS (48) -/
noncomputable def c_laws_toStringS : Ctr := ⟨48, [(.list .str)], [(.list .str)], fun x => toC (.list .str) x.1⟩
def A_laws_toStringS : List (List Nat × Ann) := [([0, 3], [.keep 0 0, .keep 0 3, .keep 0 4, .rows 0 7 .str])]
def In_laws_toStringS : List (List Nat × Nat) := []
noncomputable def cs_laws_toStringS : List Ctr := []
noncomputable def F_laws_toStringS (n : Nat) (a0 : (List (List Int))) : Option (List (List Int)) := run Tryz.prog A_laws_toStringS In_laws_toStringS (conOf cs_laws_toStringS) Tryz.f48 (Tryz.f48.body.getD .skip) (packT [(.list .str)]) n (argsV [(.list .str)] (a0, ()))
noncomputable abbrev L_laws_toStringS_0_3 (n : Nat) (x1 : (List (List Int))) (x2 : Int) (x3 : (List (List Int))) : Option (List (List Int)) := lam Tryz.prog A_laws_toStringS In_laws_toStringS (conOf cs_laws_toStringS) Tryz.f48 (Tryz.f48.body.getD .skip) (packT [(.list .str)]) n [0, 3] [.d (.list .str) x1, .msl 0 7, .d I64 x2, .d (.list .str) x3]
theorem F_laws_toStringS_eq (n : Nat) (a0 : (List (List Int))) : F_laws_toStringS n a0 =
    bif decide ((a0.length : Int) = (a0.length : Int)) && decide ((0 : Int) ≤ (a0.length : Int)) && decide ((a0.length : Int) * 16 ≤ room) && true then
      L_laws_toStringS_0_3 n a0 0 (List.replicate (Int.toNat (a0.length : Int)) ([] : List Int))
    else none := by kernel_rfl
theorem L_laws_toStringS_0_3_eq (n : Nat) (x1 : (List (List Int))) (x2 : Int) (x3 : (List (List Int))) : L_laws_toStringS_0_3 (n + 1) x1 x2 x3 =
    bif decide (x2 < (x1.length : Int)) then
      bif inB x2 x1.length then
        bif inB x2 x3.length then
          bif inB x2 x3.length && true && true && true && true then
            L_laws_toStringS_0_3 n x1 (IntKind.wrap .i64 (x2 + 1)) (x3.set (Int.toNat x2) (rd x1 x2 (Ty.dflt .str)))
          else none
        else none
      else none
    else
      some x3 := by kernel_rfl
theorem mk_laws_toStringS (hcs : ∀ x ∈ cs_laws_toStringS, CtrOk Tryz.prog x) (h : ∀ (a0 : (List (List Int))) y, toC (.list .str) a0 = some y → ∃ n, F_laws_toStringS n a0 = some y) : CtrOk Tryz.prog c_laws_toStringS := by
  refine ctr_of_run (c := c_laws_toStringS) (by kernel_rfl) (by kernel_rfl : Tryz.prog.funcs[48]? = some Tryz.f48) (code := Tryz.f48.body.getD .skip) (by kernel_rfl) (by kernel_rfl) (by kernel_rfl) (A := A_laws_toStringS) (I := In_laws_toStringS) hcs ?_
  rintro ⟨a0, u⟩ y hy
  exact h a0 y hy

theorem hcs_laws_toStringS : ∀ x ∈ cs_laws_toStringS, CtrOk Tryz.prog x := conOf_nil
theorem ok_laws_toStringS : CtrOk Tryz.prog c_laws_toStringS := mk_laws_toStringS hcs_laws_toStringS fun a0 y hy => by
  obtain ⟨n, hn⟩ := toS_ok (t := .str) (f := fun x => some x) (fun x _ _ => rfl) (by_ := 16) (by omega) (fun n xs i out => L_laws_toStringS_0_3_eq n xs i out) hy
  exact ⟨n, (F_laws_toStringS_eq n a0).trans hn⟩
/-! ## laws.toAttrKind (214) -/
noncomputable def c_laws_toAttrKind : Ctr := ⟨214, [TyAttrKind], [TyAttrKind], fun x => toC TyAttrKind x.1⟩
def A_laws_toAttrKind : List (List Nat × Ann) := []
def In_laws_toAttrKind : List (List Nat × Nat) := []
noncomputable def cs_laws_toAttrKind : List Ctr := []
noncomputable def F_laws_toAttrKind (n : Nat) (a0 : DAttrKind) : Option DAttrKind := run Tryz.prog A_laws_toAttrKind In_laws_toAttrKind (conOf cs_laws_toAttrKind) Tryz.f214 (Tryz.f214.body.getD .skip) (packT [TyAttrKind]) n (argsV [TyAttrKind] (a0, ()))
theorem F_laws_toAttrKind_eq (n : Nat) (a0 : DAttrKind) : F_laws_toAttrKind n a0 =
    some a0 := by kernel_rfl
theorem mk_laws_toAttrKind (hcs : ∀ x ∈ cs_laws_toAttrKind, CtrOk Tryz.prog x) (h : ∀ (a0 : DAttrKind) y, toC TyAttrKind a0 = some y → ∃ n, F_laws_toAttrKind n a0 = some y) : CtrOk Tryz.prog c_laws_toAttrKind := by
  refine ctr_of_run (c := c_laws_toAttrKind) (by kernel_rfl) (by kernel_rfl : Tryz.prog.funcs[214]? = some Tryz.f214) (code := Tryz.f214.body.getD .skip) (by kernel_rfl) (by kernel_rfl) (by kernel_rfl) (A := A_laws_toAttrKind) (I := In_laws_toAttrKind) hcs ?_
  rintro ⟨a0, u⟩ y hy
  exact h a0 y hy

theorem hcs_laws_toAttrKind : ∀ x ∈ cs_laws_toAttrKind, CtrOk Tryz.prog x := conOf_nil
theorem ok_laws_toAttrKind : CtrOk Tryz.prog c_laws_toAttrKind := mk_laws_toAttrKind hcs_laws_toAttrKind fun a0 y hy => by
  obtain ⟨hw, hs, rfl⟩ := toC_inv hy
  have hw2 : wfD .str y.1 ∧ wfD .str y.2.1 ∧ wfD .bool y.2.2 := hw
  have hs2 : Ty.size .str y.1 + (Ty.size .str y.2.1 + (Ty.size .bool y.2.2)) ≤ 1073741824 := hs
  refine ⟨0, ?_⟩
  rw [F_laws_toAttrKind_eq]
  try rfl
/-! ## laws.toAttrKindS (168) -/
noncomputable def c_laws_toAttrKindS : Ctr := ⟨168, [(.list TyAttrKind)], [(.list TyAttrKind)], fun x => toC (.list TyAttrKind) x.1⟩
def A_laws_toAttrKindS : List (List Nat × Ann) := [([0, 3], [.keep 0 0, .keep 0 3, .keep 0 4, .rows 0 7 TyAttrKind])]
def In_laws_toAttrKindS : List (List Nat × Nat) := []
noncomputable def cs_laws_toAttrKindS : List Ctr := [c_laws_toAttrKind]
noncomputable def F_laws_toAttrKindS (n : Nat) (a0 : (List DAttrKind)) : Option (List DAttrKind) := run Tryz.prog A_laws_toAttrKindS In_laws_toAttrKindS (conOf cs_laws_toAttrKindS) Tryz.f168 (Tryz.f168.body.getD .skip) (packT [(.list TyAttrKind)]) n (argsV [(.list TyAttrKind)] (a0, ()))
noncomputable abbrev L_laws_toAttrKindS_0_3 (n : Nat) (x1 : (List DAttrKind)) (x2 : Int) (x3 : (List DAttrKind)) : Option (List DAttrKind) := lam Tryz.prog A_laws_toAttrKindS In_laws_toAttrKindS (conOf cs_laws_toAttrKindS) Tryz.f168 (Tryz.f168.body.getD .skip) (packT [(.list TyAttrKind)]) n [0, 3] [.d (.list TyAttrKind) x1, .msl 0 7, .d I64 x2, .d (.list TyAttrKind) x3]
theorem F_laws_toAttrKindS_eq (n : Nat) (a0 : (List DAttrKind)) : F_laws_toAttrKindS n a0 =
    bif decide ((a0.length : Int) = (a0.length : Int)) && decide ((0 : Int) ≤ (a0.length : Int)) && decide ((a0.length : Int) * 40 ≤ room) && true then
      L_laws_toAttrKindS_0_3 n a0 0 (List.replicate (Int.toNat (a0.length : Int)) (([] : List Int), ([] : List Int), false))
    else none := by kernel_rfl
theorem L_laws_toAttrKindS_0_3_eq (n : Nat) (x1 : (List DAttrKind)) (x2 : Int) (x3 : (List DAttrKind)) : L_laws_toAttrKindS_0_3 (n + 1) x1 x2 x3 =
    bif decide (x2 < (x1.length : Int)) then
      bif inB x2 x1.length then
        Option.bind (toC TyAttrKind (rd x1 x2 (Ty.dflt TyAttrKind))) fun (y1 : DAttrKind) =>
        bif inB x2 x3.length then
          bif inB x2 x3.length && true && true && true && true then
            L_laws_toAttrKindS_0_3 n x1 (IntKind.wrap .i64 (x2 + 1)) (x3.set (Int.toNat x2) y1)
          else none
        else none
      else none
    else
      some x3 := by kernel_rfl
theorem mk_laws_toAttrKindS (hcs : ∀ x ∈ cs_laws_toAttrKindS, CtrOk Tryz.prog x) (h : ∀ (a0 : (List DAttrKind)) y, toC (.list TyAttrKind) a0 = some y → ∃ n, F_laws_toAttrKindS n a0 = some y) : CtrOk Tryz.prog c_laws_toAttrKindS := by
  refine ctr_of_run (c := c_laws_toAttrKindS) (by kernel_rfl) (by kernel_rfl : Tryz.prog.funcs[168]? = some Tryz.f168) (code := Tryz.f168.body.getD .skip) (by kernel_rfl) (by kernel_rfl) (by kernel_rfl) (A := A_laws_toAttrKindS) (I := In_laws_toAttrKindS) hcs ?_
  rintro ⟨a0, u⟩ y hy
  exact h a0 y hy

theorem hcs_laws_toAttrKindS : ∀ x ∈ cs_laws_toAttrKindS, CtrOk Tryz.prog x := (conOf_cons ok_laws_toAttrKind conOf_nil)
theorem ok_laws_toAttrKindS : CtrOk Tryz.prog c_laws_toAttrKindS := mk_laws_toAttrKindS hcs_laws_toAttrKindS fun a0 y hy => by
  obtain ⟨n, hn⟩ := toS_ok (t := TyAttrKind) (f := toC TyAttrKind) (fun x h h2 => toC_some h h2) (by_ := 40) (by omega) (fun n xs i out => L_laws_toAttrKindS_0_3_eq n xs i out) hy
  exact ⟨n, (F_laws_toAttrKindS_eq n a0).trans hn⟩
/-! ## laws.toThingType (94) -/
noncomputable def c_laws_toThingType : Ctr := ⟨94, [TyThingType], [TyThingType], fun x => toC TyThingType x.1⟩
def A_laws_toThingType : List (List Nat × Ann) := []
def In_laws_toThingType : List (List Nat × Nat) := []
noncomputable def cs_laws_toThingType : List Ctr := [c_laws_toStringS, c_laws_toAttrKindS]
noncomputable def F_laws_toThingType (n : Nat) (a0 : DThingType) : Option DThingType := run Tryz.prog A_laws_toThingType In_laws_toThingType (conOf cs_laws_toThingType) Tryz.f94 (Tryz.f94.body.getD .skip) (packT [TyThingType]) n (argsV [TyThingType] (a0, ()))
theorem F_laws_toThingType_eq (n : Nat) (a0 : DThingType) : F_laws_toThingType n a0 =
    Option.bind (toC (.list .str) a0.2.1) fun (y1 : (List (List Int))) =>
    Option.bind (toC (.list TyAttrKind) a0.2.2) fun (y2 : (List DAttrKind)) =>
    some (a0.1, y1, y2) := by kernel_rfl
theorem mk_laws_toThingType (hcs : ∀ x ∈ cs_laws_toThingType, CtrOk Tryz.prog x) (h : ∀ (a0 : DThingType) y, toC TyThingType a0 = some y → ∃ n, F_laws_toThingType n a0 = some y) : CtrOk Tryz.prog c_laws_toThingType := by
  refine ctr_of_run (c := c_laws_toThingType) (by kernel_rfl) (by kernel_rfl : Tryz.prog.funcs[94]? = some Tryz.f94) (code := Tryz.f94.body.getD .skip) (by kernel_rfl) (by kernel_rfl) (by kernel_rfl) (A := A_laws_toThingType) (I := In_laws_toThingType) hcs ?_
  rintro ⟨a0, u⟩ y hy
  exact h a0 y hy

theorem hcs_laws_toThingType : ∀ x ∈ cs_laws_toThingType, CtrOk Tryz.prog x := (conOf_cons ok_laws_toStringS (conOf_cons ok_laws_toAttrKindS conOf_nil))
theorem ok_laws_toThingType : CtrOk Tryz.prog c_laws_toThingType := mk_laws_toThingType hcs_laws_toThingType fun a0 y hy => by
  obtain ⟨hw, hs, rfl⟩ := toC_inv hy
  have hw2 : wfD .str y.1 ∧ wfD (.list .str) y.2.1 ∧ wfD (.list TyAttrKind) y.2.2 := hw
  have hs2 : Ty.size .str y.1 + (Ty.size (.list .str) y.2.1 + (Ty.size (.list TyAttrKind) y.2.2)) ≤ 1073741824 := hs
  refine ⟨0, ?_⟩
  rw [F_laws_toThingType_eq]
  try (rw [toC_some hw2.2.1 (by omega)]; simp only [Option.bind_some])
  try (rw [toC_some hw2.2.2 (by omega)]; simp only [Option.bind_some])
  try rfl
/-! ## laws.toThingTypeS (44) -/
noncomputable def c_laws_toThingTypeS : Ctr := ⟨44, [(.list TyThingType)], [(.list TyThingType)], fun x => toC (.list TyThingType) x.1⟩
def A_laws_toThingTypeS : List (List Nat × Ann) := [([0, 3], [.keep 0 0, .keep 0 3, .keep 0 4, .rows 0 7 TyThingType])]
def In_laws_toThingTypeS : List (List Nat × Nat) := []
noncomputable def cs_laws_toThingTypeS : List Ctr := [c_laws_toThingType]
noncomputable def F_laws_toThingTypeS (n : Nat) (a0 : (List DThingType)) : Option (List DThingType) := run Tryz.prog A_laws_toThingTypeS In_laws_toThingTypeS (conOf cs_laws_toThingTypeS) Tryz.f44 (Tryz.f44.body.getD .skip) (packT [(.list TyThingType)]) n (argsV [(.list TyThingType)] (a0, ()))
noncomputable abbrev L_laws_toThingTypeS_0_3 (n : Nat) (x1 : (List DThingType)) (x2 : Int) (x3 : (List DThingType)) : Option (List DThingType) := lam Tryz.prog A_laws_toThingTypeS In_laws_toThingTypeS (conOf cs_laws_toThingTypeS) Tryz.f44 (Tryz.f44.body.getD .skip) (packT [(.list TyThingType)]) n [0, 3] [.d (.list TyThingType) x1, .msl 0 7, .d I64 x2, .d (.list TyThingType) x3]
theorem F_laws_toThingTypeS_eq (n : Nat) (a0 : (List DThingType)) : F_laws_toThingTypeS n a0 =
    bif decide ((a0.length : Int) = (a0.length : Int)) && decide ((0 : Int) ≤ (a0.length : Int)) && decide ((a0.length : Int) * 64 ≤ room) && true then
      L_laws_toThingTypeS_0_3 n a0 0 (List.replicate (Int.toNat (a0.length : Int)) (([] : List Int), [], []))
    else none := by kernel_rfl
theorem L_laws_toThingTypeS_0_3_eq (n : Nat) (x1 : (List DThingType)) (x2 : Int) (x3 : (List DThingType)) : L_laws_toThingTypeS_0_3 (n + 1) x1 x2 x3 =
    bif decide (x2 < (x1.length : Int)) then
      bif inB x2 x1.length then
        Option.bind (toC TyThingType (rd x1 x2 (Ty.dflt TyThingType))) fun (y1 : DThingType) =>
        bif inB x2 x3.length then
          bif inB x2 x3.length && true && true && true && true then
            L_laws_toThingTypeS_0_3 n x1 (IntKind.wrap .i64 (x2 + 1)) (x3.set (Int.toNat x2) y1)
          else none
        else none
      else none
    else
      some x3 := by kernel_rfl
theorem mk_laws_toThingTypeS (hcs : ∀ x ∈ cs_laws_toThingTypeS, CtrOk Tryz.prog x) (h : ∀ (a0 : (List DThingType)) y, toC (.list TyThingType) a0 = some y → ∃ n, F_laws_toThingTypeS n a0 = some y) : CtrOk Tryz.prog c_laws_toThingTypeS := by
  refine ctr_of_run (c := c_laws_toThingTypeS) (by kernel_rfl) (by kernel_rfl : Tryz.prog.funcs[44]? = some Tryz.f44) (code := Tryz.f44.body.getD .skip) (by kernel_rfl) (by kernel_rfl) (by kernel_rfl) (A := A_laws_toThingTypeS) (I := In_laws_toThingTypeS) hcs ?_
  rintro ⟨a0, u⟩ y hy
  exact h a0 y hy

theorem hcs_laws_toThingTypeS : ∀ x ∈ cs_laws_toThingTypeS, CtrOk Tryz.prog x := (conOf_cons ok_laws_toThingType conOf_nil)
theorem ok_laws_toThingTypeS : CtrOk Tryz.prog c_laws_toThingTypeS := mk_laws_toThingTypeS hcs_laws_toThingTypeS fun a0 y hy => by
  obtain ⟨n, hn⟩ := toS_ok (t := TyThingType) (f := toC TyThingType) (fun x h h2 => toC_some h h2) (by_ := 64) (by omega) (fun n xs i out => L_laws_toThingTypeS_0_3_eq n xs i out) hy
  exact ⟨n, (F_laws_toThingTypeS_eq n a0).trans hn⟩
/-! ## laws.toActionType (95) -/
noncomputable def c_laws_toActionType : Ctr := ⟨95, [TyActionType], [TyActionType], fun x => toC TyActionType x.1⟩
def A_laws_toActionType : List (List Nat × Ann) := []
def In_laws_toActionType : List (List Nat × Nat) := []
noncomputable def cs_laws_toActionType : List Ctr := [c_laws_toStringS, c_laws_toAttrKindS]
noncomputable def F_laws_toActionType (n : Nat) (a0 : DActionType) : Option DActionType := run Tryz.prog A_laws_toActionType In_laws_toActionType (conOf cs_laws_toActionType) Tryz.f95 (Tryz.f95.body.getD .skip) (packT [TyActionType]) n (argsV [TyActionType] (a0, ()))
theorem F_laws_toActionType_eq (n : Nat) (a0 : DActionType) : F_laws_toActionType n a0 =
    Option.bind (toC (.list .str) a0.2.1) fun (y1 : (List (List Int))) =>
    Option.bind (toC (.list .str) a0.2.2.1) fun (y2 : (List (List Int))) =>
    Option.bind (toC (.list TyAttrKind) a0.2.2.2) fun (y3 : (List DAttrKind)) =>
    some (a0.1, y1, y2, y3) := by kernel_rfl
theorem mk_laws_toActionType (hcs : ∀ x ∈ cs_laws_toActionType, CtrOk Tryz.prog x) (h : ∀ (a0 : DActionType) y, toC TyActionType a0 = some y → ∃ n, F_laws_toActionType n a0 = some y) : CtrOk Tryz.prog c_laws_toActionType := by
  refine ctr_of_run (c := c_laws_toActionType) (by kernel_rfl) (by kernel_rfl : Tryz.prog.funcs[95]? = some Tryz.f95) (code := Tryz.f95.body.getD .skip) (by kernel_rfl) (by kernel_rfl) (by kernel_rfl) (A := A_laws_toActionType) (I := In_laws_toActionType) hcs ?_
  rintro ⟨a0, u⟩ y hy
  exact h a0 y hy

theorem hcs_laws_toActionType : ∀ x ∈ cs_laws_toActionType, CtrOk Tryz.prog x := (conOf_cons ok_laws_toStringS (conOf_cons ok_laws_toAttrKindS conOf_nil))
theorem ok_laws_toActionType : CtrOk Tryz.prog c_laws_toActionType := mk_laws_toActionType hcs_laws_toActionType fun a0 y hy => by
  obtain ⟨hw, hs, rfl⟩ := toC_inv hy
  have hw2 : wfD .str y.1 ∧ wfD (.list .str) y.2.1 ∧ wfD (.list .str) y.2.2.1 ∧ wfD (.list TyAttrKind) y.2.2.2 := hw
  have hs2 : Ty.size .str y.1 + (Ty.size (.list .str) y.2.1 + (Ty.size (.list .str) y.2.2.1 + (Ty.size (.list TyAttrKind) y.2.2.2))) ≤ 1073741824 := hs
  refine ⟨0, ?_⟩
  rw [F_laws_toActionType_eq]
  try (rw [toC_some hw2.2.1 (by omega)]; simp only [Option.bind_some])
  try (rw [toC_some hw2.2.2.1 (by omega)]; simp only [Option.bind_some])
  try (rw [toC_some hw2.2.2.2 (by omega)]; simp only [Option.bind_some])
  try rfl
/-! ## laws.toActionTypeS (45) -/
noncomputable def c_laws_toActionTypeS : Ctr := ⟨45, [(.list TyActionType)], [(.list TyActionType)], fun x => toC (.list TyActionType) x.1⟩
def A_laws_toActionTypeS : List (List Nat × Ann) := [([0, 3], [.keep 0 0, .keep 0 3, .keep 0 4, .rows 0 7 TyActionType])]
def In_laws_toActionTypeS : List (List Nat × Nat) := []
noncomputable def cs_laws_toActionTypeS : List Ctr := [c_laws_toActionType]
noncomputable def F_laws_toActionTypeS (n : Nat) (a0 : (List DActionType)) : Option (List DActionType) := run Tryz.prog A_laws_toActionTypeS In_laws_toActionTypeS (conOf cs_laws_toActionTypeS) Tryz.f45 (Tryz.f45.body.getD .skip) (packT [(.list TyActionType)]) n (argsV [(.list TyActionType)] (a0, ()))
noncomputable abbrev L_laws_toActionTypeS_0_3 (n : Nat) (x1 : (List DActionType)) (x2 : Int) (x3 : (List DActionType)) : Option (List DActionType) := lam Tryz.prog A_laws_toActionTypeS In_laws_toActionTypeS (conOf cs_laws_toActionTypeS) Tryz.f45 (Tryz.f45.body.getD .skip) (packT [(.list TyActionType)]) n [0, 3] [.d (.list TyActionType) x1, .msl 0 7, .d I64 x2, .d (.list TyActionType) x3]
theorem F_laws_toActionTypeS_eq (n : Nat) (a0 : (List DActionType)) : F_laws_toActionTypeS n a0 =
    bif decide ((a0.length : Int) = (a0.length : Int)) && decide ((0 : Int) ≤ (a0.length : Int)) && decide ((a0.length : Int) * 88 ≤ room) && true then
      L_laws_toActionTypeS_0_3 n a0 0 (List.replicate (Int.toNat (a0.length : Int)) (([] : List Int), [], [], []))
    else none := by kernel_rfl
theorem L_laws_toActionTypeS_0_3_eq (n : Nat) (x1 : (List DActionType)) (x2 : Int) (x3 : (List DActionType)) : L_laws_toActionTypeS_0_3 (n + 1) x1 x2 x3 =
    bif decide (x2 < (x1.length : Int)) then
      bif inB x2 x1.length then
        Option.bind (toC TyActionType (rd x1 x2 (Ty.dflt TyActionType))) fun (y1 : DActionType) =>
        bif inB x2 x3.length then
          bif inB x2 x3.length && true && true && true && true then
            L_laws_toActionTypeS_0_3 n x1 (IntKind.wrap .i64 (x2 + 1)) (x3.set (Int.toNat x2) y1)
          else none
        else none
      else none
    else
      some x3 := by kernel_rfl
theorem mk_laws_toActionTypeS (hcs : ∀ x ∈ cs_laws_toActionTypeS, CtrOk Tryz.prog x) (h : ∀ (a0 : (List DActionType)) y, toC (.list TyActionType) a0 = some y → ∃ n, F_laws_toActionTypeS n a0 = some y) : CtrOk Tryz.prog c_laws_toActionTypeS := by
  refine ctr_of_run (c := c_laws_toActionTypeS) (by kernel_rfl) (by kernel_rfl : Tryz.prog.funcs[45]? = some Tryz.f45) (code := Tryz.f45.body.getD .skip) (by kernel_rfl) (by kernel_rfl) (by kernel_rfl) (A := A_laws_toActionTypeS) (I := In_laws_toActionTypeS) hcs ?_
  rintro ⟨a0, u⟩ y hy
  exact h a0 y hy

theorem hcs_laws_toActionTypeS : ∀ x ∈ cs_laws_toActionTypeS, CtrOk Tryz.prog x := (conOf_cons ok_laws_toActionType conOf_nil)
theorem ok_laws_toActionTypeS : CtrOk Tryz.prog c_laws_toActionTypeS := mk_laws_toActionTypeS hcs_laws_toActionTypeS fun a0 y hy => by
  obtain ⟨n, hn⟩ := toS_ok (t := TyActionType) (f := toC TyActionType) (fun x h h2 => toC_some h h2) (by_ := 88) (by omega) (fun n xs i out => L_laws_toActionTypeS_0_3_eq n xs i out) hy
  exact ⟨n, (F_laws_toActionTypeS_eq n a0).trans hn⟩
/-! ## laws.toPolSchema (11) -/
noncomputable def c_laws_toPolSchema : Ctr := ⟨11, [TyPolSchema], [TyPolSchema], fun x => toC TyPolSchema x.1⟩
def A_laws_toPolSchema : List (List Nat × Ann) := []
def In_laws_toPolSchema : List (List Nat × Nat) := []
noncomputable def cs_laws_toPolSchema : List Ctr := [c_laws_toThingTypeS, c_laws_toActionTypeS]
noncomputable def F_laws_toPolSchema (n : Nat) (a0 : DPolSchema) : Option DPolSchema := run Tryz.prog A_laws_toPolSchema In_laws_toPolSchema (conOf cs_laws_toPolSchema) Tryz.f11 (Tryz.f11.body.getD .skip) (packT [TyPolSchema]) n (argsV [TyPolSchema] (a0, ()))
theorem F_laws_toPolSchema_eq (n : Nat) (a0 : DPolSchema) : F_laws_toPolSchema n a0 =
    Option.bind (toC (.list TyThingType) a0.1) fun (y1 : (List DThingType)) =>
    Option.bind (toC (.list TyActionType) a0.2) fun (y2 : (List DActionType)) =>
    some (y1, y2) := by kernel_rfl
theorem mk_laws_toPolSchema (hcs : ∀ x ∈ cs_laws_toPolSchema, CtrOk Tryz.prog x) (h : ∀ (a0 : DPolSchema) y, toC TyPolSchema a0 = some y → ∃ n, F_laws_toPolSchema n a0 = some y) : CtrOk Tryz.prog c_laws_toPolSchema := by
  refine ctr_of_run (c := c_laws_toPolSchema) (by kernel_rfl) (by kernel_rfl : Tryz.prog.funcs[11]? = some Tryz.f11) (code := Tryz.f11.body.getD .skip) (by kernel_rfl) (by kernel_rfl) (by kernel_rfl) (A := A_laws_toPolSchema) (I := In_laws_toPolSchema) hcs ?_
  rintro ⟨a0, u⟩ y hy
  exact h a0 y hy

theorem hcs_laws_toPolSchema : ∀ x ∈ cs_laws_toPolSchema, CtrOk Tryz.prog x := (conOf_cons ok_laws_toThingTypeS (conOf_cons ok_laws_toActionTypeS conOf_nil))
theorem ok_laws_toPolSchema : CtrOk Tryz.prog c_laws_toPolSchema := mk_laws_toPolSchema hcs_laws_toPolSchema fun a0 y hy => by
  obtain ⟨hw, hs, rfl⟩ := toC_inv hy
  have hw2 : wfD (.list TyThingType) y.1 ∧ wfD (.list TyActionType) y.2 := hw
  have hs2 : Ty.size (.list TyThingType) y.1 + (Ty.size (.list TyActionType) y.2) ≤ 1073741824 := hs
  refine ⟨0, ?_⟩
  rw [F_laws_toPolSchema_eq]
  try (rw [toC_some hw2.1 (by omega)]; simp only [Option.bind_some])
  try (rw [toC_some hw2.2 (by omega)]; simp only [Option.bind_some])
  try rfl
/-! ## laws.toAtom (47) -/
noncomputable def c_laws_toAtom : Ctr := ⟨47, [TyAtom], [TyAtom], fun x => toC TyAtom x.1⟩
def A_laws_toAtom : List (List Nat × Ann) := []
def In_laws_toAtom : List (List Nat × Nat) := []
noncomputable def cs_laws_toAtom : List Ctr := []
noncomputable def F_laws_toAtom (n : Nat) (a0 : DAtom) : Option DAtom := run Tryz.prog A_laws_toAtom In_laws_toAtom (conOf cs_laws_toAtom) Tryz.f47 (Tryz.f47.body.getD .skip) (packT [TyAtom]) n (argsV [TyAtom] (a0, ()))
theorem F_laws_toAtom_eq (n : Nat) (a0 : DAtom) : F_laws_toAtom n a0 =
    some a0 := by kernel_rfl
theorem mk_laws_toAtom (hcs : ∀ x ∈ cs_laws_toAtom, CtrOk Tryz.prog x) (h : ∀ (a0 : DAtom) y, toC TyAtom a0 = some y → ∃ n, F_laws_toAtom n a0 = some y) : CtrOk Tryz.prog c_laws_toAtom := by
  refine ctr_of_run (c := c_laws_toAtom) (by kernel_rfl) (by kernel_rfl : Tryz.prog.funcs[47]? = some Tryz.f47) (code := Tryz.f47.body.getD .skip) (by kernel_rfl) (by kernel_rfl) (by kernel_rfl) (A := A_laws_toAtom) (I := In_laws_toAtom) hcs ?_
  rintro ⟨a0, u⟩ y hy
  exact h a0 y hy

theorem hcs_laws_toAtom : ∀ x ∈ cs_laws_toAtom, CtrOk Tryz.prog x := conOf_nil
theorem ok_laws_toAtom : CtrOk Tryz.prog c_laws_toAtom := mk_laws_toAtom hcs_laws_toAtom fun a0 y hy => by
  obtain ⟨hw, hs, rfl⟩ := toC_inv hy
  have hw2 : wfD I64 y.1 ∧ wfD I64 y.2.1 ∧ wfD .str y.2.2.1 ∧ wfD .str y.2.2.2 := hw
  have hs2 : Ty.size I64 y.1 + (Ty.size I64 y.2.1 + (Ty.size .str y.2.2.1 + (Ty.size .str y.2.2.2))) ≤ 1073741824 := hs
  refine ⟨0, ?_⟩
  rw [F_laws_toAtom_eq]
  try rfl
/-! ## laws.toAtomS (96) -/
noncomputable def c_laws_toAtomS : Ctr := ⟨96, [(.list TyAtom)], [(.list TyAtom)], fun x => toC (.list TyAtom) x.1⟩
def A_laws_toAtomS : List (List Nat × Ann) := [([0, 3], [.keep 0 0, .keep 0 3, .keep 0 4, .rows 0 7 TyAtom])]
def In_laws_toAtomS : List (List Nat × Nat) := []
noncomputable def cs_laws_toAtomS : List Ctr := [c_laws_toAtom]
noncomputable def F_laws_toAtomS (n : Nat) (a0 : (List DAtom)) : Option (List DAtom) := run Tryz.prog A_laws_toAtomS In_laws_toAtomS (conOf cs_laws_toAtomS) Tryz.f96 (Tryz.f96.body.getD .skip) (packT [(.list TyAtom)]) n (argsV [(.list TyAtom)] (a0, ()))
noncomputable abbrev L_laws_toAtomS_0_3 (n : Nat) (x1 : (List DAtom)) (x2 : Int) (x3 : (List DAtom)) : Option (List DAtom) := lam Tryz.prog A_laws_toAtomS In_laws_toAtomS (conOf cs_laws_toAtomS) Tryz.f96 (Tryz.f96.body.getD .skip) (packT [(.list TyAtom)]) n [0, 3] [.d (.list TyAtom) x1, .msl 0 7, .d I64 x2, .d (.list TyAtom) x3]
theorem F_laws_toAtomS_eq (n : Nat) (a0 : (List DAtom)) : F_laws_toAtomS n a0 =
    bif decide ((a0.length : Int) = (a0.length : Int)) && decide ((0 : Int) ≤ (a0.length : Int)) && decide ((a0.length : Int) * 48 ≤ room) && true then
      L_laws_toAtomS_0_3 n a0 0 (List.replicate (Int.toNat (a0.length : Int)) (0, 0, ([] : List Int), ([] : List Int)))
    else none := by kernel_rfl
theorem L_laws_toAtomS_0_3_eq (n : Nat) (x1 : (List DAtom)) (x2 : Int) (x3 : (List DAtom)) : L_laws_toAtomS_0_3 (n + 1) x1 x2 x3 =
    bif decide (x2 < (x1.length : Int)) then
      bif inB x2 x1.length then
        Option.bind (toC TyAtom (rd x1 x2 (Ty.dflt TyAtom))) fun (y1 : DAtom) =>
        bif inB x2 x3.length then
          bif inB x2 x3.length && true && true && true && true then
            L_laws_toAtomS_0_3 n x1 (IntKind.wrap .i64 (x2 + 1)) (x3.set (Int.toNat x2) y1)
          else none
        else none
      else none
    else
      some x3 := by kernel_rfl
theorem mk_laws_toAtomS (hcs : ∀ x ∈ cs_laws_toAtomS, CtrOk Tryz.prog x) (h : ∀ (a0 : (List DAtom)) y, toC (.list TyAtom) a0 = some y → ∃ n, F_laws_toAtomS n a0 = some y) : CtrOk Tryz.prog c_laws_toAtomS := by
  refine ctr_of_run (c := c_laws_toAtomS) (by kernel_rfl) (by kernel_rfl : Tryz.prog.funcs[96]? = some Tryz.f96) (code := Tryz.f96.body.getD .skip) (by kernel_rfl) (by kernel_rfl) (by kernel_rfl) (A := A_laws_toAtomS) (I := In_laws_toAtomS) hcs ?_
  rintro ⟨a0, u⟩ y hy
  exact h a0 y hy

theorem hcs_laws_toAtomS : ∀ x ∈ cs_laws_toAtomS, CtrOk Tryz.prog x := (conOf_cons ok_laws_toAtom conOf_nil)
theorem ok_laws_toAtomS : CtrOk Tryz.prog c_laws_toAtomS := mk_laws_toAtomS hcs_laws_toAtomS fun a0 y hy => by
  obtain ⟨n, hn⟩ := toS_ok (t := TyAtom) (f := toC TyAtom) (fun x h h2 => toC_some h h2) (by_ := 48) (by omega) (fun n xs i out => L_laws_toAtomS_0_3_eq n xs i out) hy
  exact ⟨n, (F_laws_toAtomS_eq n a0).trans hn⟩
/-! ## laws.toValue (97) -/
noncomputable def c_laws_toValue : Ctr := ⟨97, [TyValue], [TyValue], fun x => toC TyValue x.1⟩
def A_laws_toValue : List (List Nat × Ann) := []
def In_laws_toValue : List (List Nat × Nat) := []
noncomputable def cs_laws_toValue : List Ctr := [c_laws_toAtom, c_laws_toAtomS, c_laws_toStringS]
noncomputable def F_laws_toValue (n : Nat) (a0 : DValue) : Option DValue := run Tryz.prog A_laws_toValue In_laws_toValue (conOf cs_laws_toValue) Tryz.f97 (Tryz.f97.body.getD .skip) (packT [TyValue]) n (argsV [TyValue] (a0, ()))
theorem F_laws_toValue_eq (n : Nat) (a0 : DValue) : F_laws_toValue n a0 =
    Option.bind (toC TyAtom a0.2.1) fun (y1 : DAtom) =>
    Option.bind (toC (.list TyAtom) a0.2.2.1) fun (y2 : (List DAtom)) =>
    Option.bind (toC (.list .str) a0.2.2.2) fun (y3 : (List (List Int))) =>
    some (a0.1, y1, y2, y3) := by kernel_rfl
theorem mk_laws_toValue (hcs : ∀ x ∈ cs_laws_toValue, CtrOk Tryz.prog x) (h : ∀ (a0 : DValue) y, toC TyValue a0 = some y → ∃ n, F_laws_toValue n a0 = some y) : CtrOk Tryz.prog c_laws_toValue := by
  refine ctr_of_run (c := c_laws_toValue) (by kernel_rfl) (by kernel_rfl : Tryz.prog.funcs[97]? = some Tryz.f97) (code := Tryz.f97.body.getD .skip) (by kernel_rfl) (by kernel_rfl) (by kernel_rfl) (A := A_laws_toValue) (I := In_laws_toValue) hcs ?_
  rintro ⟨a0, u⟩ y hy
  exact h a0 y hy

theorem hcs_laws_toValue : ∀ x ∈ cs_laws_toValue, CtrOk Tryz.prog x := (conOf_cons ok_laws_toAtom (conOf_cons ok_laws_toAtomS (conOf_cons ok_laws_toStringS conOf_nil)))
theorem ok_laws_toValue : CtrOk Tryz.prog c_laws_toValue := mk_laws_toValue hcs_laws_toValue fun a0 y hy => by
  obtain ⟨hw, hs, rfl⟩ := toC_inv hy
  have hw2 : wfD I64 y.1 ∧ wfD TyAtom y.2.1 ∧ wfD (.list TyAtom) y.2.2.1 ∧ wfD (.list .str) y.2.2.2 := hw
  have hs2 : Ty.size I64 y.1 + (Ty.size TyAtom y.2.1 + (Ty.size (.list TyAtom) y.2.2.1 + (Ty.size (.list .str) y.2.2.2))) ≤ 1073741824 := hs
  refine ⟨0, ?_⟩
  rw [F_laws_toValue_eq]
  try (rw [toC_some hw2.2.1 (by omega)]; simp only [Option.bind_some])
  try (rw [toC_some hw2.2.2.1 (by omega)]; simp only [Option.bind_some])
  try (rw [toC_some hw2.2.2.2 (by omega)]; simp only [Option.bind_some])
  try rfl
/-! ## laws.toValueS (49) -/
noncomputable def c_laws_toValueS : Ctr := ⟨49, [(.list TyValue)], [(.list TyValue)], fun x => toC (.list TyValue) x.1⟩
def A_laws_toValueS : List (List Nat × Ann) := [([0, 3], [.keep 0 0, .keep 0 3, .keep 0 4, .rows 0 7 TyValue])]
def In_laws_toValueS : List (List Nat × Nat) := []
noncomputable def cs_laws_toValueS : List Ctr := [c_laws_toValue]
noncomputable def F_laws_toValueS (n : Nat) (a0 : (List DValue)) : Option (List DValue) := run Tryz.prog A_laws_toValueS In_laws_toValueS (conOf cs_laws_toValueS) Tryz.f49 (Tryz.f49.body.getD .skip) (packT [(.list TyValue)]) n (argsV [(.list TyValue)] (a0, ()))
noncomputable abbrev L_laws_toValueS_0_3 (n : Nat) (x1 : (List DValue)) (x2 : Int) (x3 : (List DValue)) : Option (List DValue) := lam Tryz.prog A_laws_toValueS In_laws_toValueS (conOf cs_laws_toValueS) Tryz.f49 (Tryz.f49.body.getD .skip) (packT [(.list TyValue)]) n [0, 3] [.d (.list TyValue) x1, .msl 0 7, .d I64 x2, .d (.list TyValue) x3]
theorem F_laws_toValueS_eq (n : Nat) (a0 : (List DValue)) : F_laws_toValueS n a0 =
    bif decide ((a0.length : Int) = (a0.length : Int)) && decide ((0 : Int) ≤ (a0.length : Int)) && decide ((a0.length : Int) * 104 ≤ room) && true then
      L_laws_toValueS_0_3 n a0 0 (List.replicate (Int.toNat (a0.length : Int)) (0, (0, 0, ([] : List Int), ([] : List Int)), [], []))
    else none := by kernel_rfl
theorem L_laws_toValueS_0_3_eq (n : Nat) (x1 : (List DValue)) (x2 : Int) (x3 : (List DValue)) : L_laws_toValueS_0_3 (n + 1) x1 x2 x3 =
    bif decide (x2 < (x1.length : Int)) then
      bif inB x2 x1.length then
        Option.bind (toC TyValue (rd x1 x2 (Ty.dflt TyValue))) fun (y1 : DValue) =>
        bif inB x2 x3.length then
          bif inB x2 x3.length && true && true && true && true then
            L_laws_toValueS_0_3 n x1 (IntKind.wrap .i64 (x2 + 1)) (x3.set (Int.toNat x2) y1)
          else none
        else none
      else none
    else
      some x3 := by kernel_rfl
theorem mk_laws_toValueS (hcs : ∀ x ∈ cs_laws_toValueS, CtrOk Tryz.prog x) (h : ∀ (a0 : (List DValue)) y, toC (.list TyValue) a0 = some y → ∃ n, F_laws_toValueS n a0 = some y) : CtrOk Tryz.prog c_laws_toValueS := by
  refine ctr_of_run (c := c_laws_toValueS) (by kernel_rfl) (by kernel_rfl : Tryz.prog.funcs[49]? = some Tryz.f49) (code := Tryz.f49.body.getD .skip) (by kernel_rfl) (by kernel_rfl) (by kernel_rfl) (A := A_laws_toValueS) (I := In_laws_toValueS) hcs ?_
  rintro ⟨a0, u⟩ y hy
  exact h a0 y hy

theorem hcs_laws_toValueS : ∀ x ∈ cs_laws_toValueS, CtrOk Tryz.prog x := (conOf_cons ok_laws_toValue conOf_nil)
theorem ok_laws_toValueS : CtrOk Tryz.prog c_laws_toValueS := mk_laws_toValueS hcs_laws_toValueS fun a0 y hy => by
  obtain ⟨n, hn⟩ := toS_ok (t := TyValue) (f := toC TyValue) (fun x h h2 => toC_some h h2) (by_ := 104) (by omega) (fun n xs i out => L_laws_toValueS_0_3_eq n xs i out) hy
  exact ⟨n, (F_laws_toValueS_eq n a0).trans hn⟩
/-! ## laws.toThing (46) -/
noncomputable def c_laws_toThing : Ctr := ⟨46, [TyThing], [TyThing], fun x => toC TyThing x.1⟩
def A_laws_toThing : List (List Nat × Ann) := []
def In_laws_toThing : List (List Nat × Nat) := []
noncomputable def cs_laws_toThing : List Ctr := [c_laws_toAtom, c_laws_toAtomS, c_laws_toStringS, c_laws_toValueS]
noncomputable def F_laws_toThing (n : Nat) (a0 : DThing) : Option DThing := run Tryz.prog A_laws_toThing In_laws_toThing (conOf cs_laws_toThing) Tryz.f46 (Tryz.f46.body.getD .skip) (packT [TyThing]) n (argsV [TyThing] (a0, ()))
theorem F_laws_toThing_eq (n : Nat) (a0 : DThing) : F_laws_toThing n a0 =
    Option.bind (toC TyAtom a0.1) fun (y1 : DAtom) =>
    Option.bind (toC (.list TyAtom) a0.2.1) fun (y2 : (List DAtom)) =>
    Option.bind (toC (.list .str) a0.2.2.1) fun (y3 : (List (List Int))) =>
    Option.bind (toC (.list TyValue) a0.2.2.2) fun (y4 : (List DValue)) =>
    some (y1, y2, y3, y4) := by kernel_rfl
theorem mk_laws_toThing (hcs : ∀ x ∈ cs_laws_toThing, CtrOk Tryz.prog x) (h : ∀ (a0 : DThing) y, toC TyThing a0 = some y → ∃ n, F_laws_toThing n a0 = some y) : CtrOk Tryz.prog c_laws_toThing := by
  refine ctr_of_run (c := c_laws_toThing) (by kernel_rfl) (by kernel_rfl : Tryz.prog.funcs[46]? = some Tryz.f46) (code := Tryz.f46.body.getD .skip) (by kernel_rfl) (by kernel_rfl) (by kernel_rfl) (A := A_laws_toThing) (I := In_laws_toThing) hcs ?_
  rintro ⟨a0, u⟩ y hy
  exact h a0 y hy

theorem hcs_laws_toThing : ∀ x ∈ cs_laws_toThing, CtrOk Tryz.prog x := (conOf_cons ok_laws_toAtom (conOf_cons ok_laws_toAtomS (conOf_cons ok_laws_toStringS (conOf_cons ok_laws_toValueS conOf_nil))))
theorem ok_laws_toThing : CtrOk Tryz.prog c_laws_toThing := mk_laws_toThing hcs_laws_toThing fun a0 y hy => by
  obtain ⟨hw, hs, rfl⟩ := toC_inv hy
  have hw2 : wfD TyAtom y.1 ∧ wfD (.list TyAtom) y.2.1 ∧ wfD (.list .str) y.2.2.1 ∧ wfD (.list TyValue) y.2.2.2 := hw
  have hs2 : Ty.size TyAtom y.1 + (Ty.size (.list TyAtom) y.2.1 + (Ty.size (.list .str) y.2.2.1 + (Ty.size (.list TyValue) y.2.2.2))) ≤ 1073741824 := hs
  refine ⟨0, ?_⟩
  rw [F_laws_toThing_eq]
  try (rw [toC_some hw2.1 (by omega)]; simp only [Option.bind_some])
  try (rw [toC_some hw2.2.1 (by omega)]; simp only [Option.bind_some])
  try (rw [toC_some hw2.2.2.1 (by omega)]; simp only [Option.bind_some])
  try (rw [toC_some hw2.2.2.2 (by omega)]; simp only [Option.bind_some])
  try rfl
/-! ## laws.toThingS (12) -/
noncomputable def c_laws_toThingS : Ctr := ⟨12, [(.list TyThing)], [(.list TyThing)], fun x => toC (.list TyThing) x.1⟩
def A_laws_toThingS : List (List Nat × Ann) := [([0, 3], [.keep 0 0, .keep 0 3, .keep 0 4, .rows 0 7 TyThing])]
def In_laws_toThingS : List (List Nat × Nat) := []
noncomputable def cs_laws_toThingS : List Ctr := [c_laws_toThing]
noncomputable def F_laws_toThingS (n : Nat) (a0 : (List DThing)) : Option (List DThing) := run Tryz.prog A_laws_toThingS In_laws_toThingS (conOf cs_laws_toThingS) Tryz.f12 (Tryz.f12.body.getD .skip) (packT [(.list TyThing)]) n (argsV [(.list TyThing)] (a0, ()))
noncomputable abbrev L_laws_toThingS_0_3 (n : Nat) (x1 : (List DThing)) (x2 : Int) (x3 : (List DThing)) : Option (List DThing) := lam Tryz.prog A_laws_toThingS In_laws_toThingS (conOf cs_laws_toThingS) Tryz.f12 (Tryz.f12.body.getD .skip) (packT [(.list TyThing)]) n [0, 3] [.d (.list TyThing) x1, .msl 0 7, .d I64 x2, .d (.list TyThing) x3]
theorem F_laws_toThingS_eq (n : Nat) (a0 : (List DThing)) : F_laws_toThingS n a0 =
    bif decide ((a0.length : Int) = (a0.length : Int)) && decide ((0 : Int) ≤ (a0.length : Int)) && decide ((a0.length : Int) * 120 ≤ room) && true then
      L_laws_toThingS_0_3 n a0 0 (List.replicate (Int.toNat (a0.length : Int)) ((0, 0, ([] : List Int), ([] : List Int)), [], [], []))
    else none := by kernel_rfl
theorem L_laws_toThingS_0_3_eq (n : Nat) (x1 : (List DThing)) (x2 : Int) (x3 : (List DThing)) : L_laws_toThingS_0_3 (n + 1) x1 x2 x3 =
    bif decide (x2 < (x1.length : Int)) then
      bif inB x2 x1.length then
        Option.bind (toC TyThing (((rd x1 x2 (Ty.dflt TyThing)).1), ((rd x1 x2 (Ty.dflt TyThing)).2))) fun (y1 : DThing) =>
        bif inB x2 x3.length then
          bif inB x2 x3.length && true && true && true && true then
            L_laws_toThingS_0_3 n x1 (IntKind.wrap .i64 (x2 + 1)) (x3.set (Int.toNat x2) y1)
          else none
        else none
      else none
    else
      some x3 := by kernel_rfl
theorem mk_laws_toThingS (hcs : ∀ x ∈ cs_laws_toThingS, CtrOk Tryz.prog x) (h : ∀ (a0 : (List DThing)) y, toC (.list TyThing) a0 = some y → ∃ n, F_laws_toThingS n a0 = some y) : CtrOk Tryz.prog c_laws_toThingS := by
  refine ctr_of_run (c := c_laws_toThingS) (by kernel_rfl) (by kernel_rfl : Tryz.prog.funcs[12]? = some Tryz.f12) (code := Tryz.f12.body.getD .skip) (by kernel_rfl) (by kernel_rfl) (by kernel_rfl) (A := A_laws_toThingS) (I := In_laws_toThingS) hcs ?_
  rintro ⟨a0, u⟩ y hy
  exact h a0 y hy

theorem hcs_laws_toThingS : ∀ x ∈ cs_laws_toThingS, CtrOk Tryz.prog x := (conOf_cons ok_laws_toThing conOf_nil)
theorem ok_laws_toThingS : CtrOk Tryz.prog c_laws_toThingS := mk_laws_toThingS hcs_laws_toThingS fun a0 y hy => by
  obtain ⟨n, hn⟩ := toS_ok (t := TyThing) (f := toC TyThing) (fun x h h2 => toC_some h h2) (by_ := 120) (by omega) (fun n xs i out => L_laws_toThingS_0_3_eq n xs i out) hy
  exact ⟨n, (F_laws_toThingS_eq n a0).trans hn⟩
/-! ## laws.toRequest (13) -/
noncomputable def c_laws_toRequest : Ctr := ⟨13, [TyRequest], [TyRequest], fun x => toC TyRequest x.1⟩
def A_laws_toRequest : List (List Nat × Ann) := []
def In_laws_toRequest : List (List Nat × Nat) := []
noncomputable def cs_laws_toRequest : List Ctr := [c_laws_toAtom, c_laws_toStringS, c_laws_toValueS]
noncomputable def F_laws_toRequest (n : Nat) (a0 : DRequest) : Option DRequest := run Tryz.prog A_laws_toRequest In_laws_toRequest (conOf cs_laws_toRequest) Tryz.f13 (Tryz.f13.body.getD .skip) (packT [TyRequest]) n (argsV [TyRequest] (a0, ()))
theorem F_laws_toRequest_eq (n : Nat) (a0 : DRequest) : F_laws_toRequest n a0 =
    Option.bind (toC TyAtom a0.1) fun (y1 : DAtom) =>
    Option.bind (toC TyAtom a0.2.1) fun (y2 : DAtom) =>
    Option.bind (toC TyAtom a0.2.2.1) fun (y3 : DAtom) =>
    Option.bind (toC (.list .str) a0.2.2.2.1) fun (y4 : (List (List Int))) =>
    Option.bind (toC (.list TyValue) a0.2.2.2.2) fun (y5 : (List DValue)) =>
    some (y1, y2, y3, y4, y5) := by kernel_rfl
theorem mk_laws_toRequest (hcs : ∀ x ∈ cs_laws_toRequest, CtrOk Tryz.prog x) (h : ∀ (a0 : DRequest) y, toC TyRequest a0 = some y → ∃ n, F_laws_toRequest n a0 = some y) : CtrOk Tryz.prog c_laws_toRequest := by
  refine ctr_of_run (c := c_laws_toRequest) (by kernel_rfl) (by kernel_rfl : Tryz.prog.funcs[13]? = some Tryz.f13) (code := Tryz.f13.body.getD .skip) (by kernel_rfl) (by kernel_rfl) (by kernel_rfl) (A := A_laws_toRequest) (I := In_laws_toRequest) hcs ?_
  rintro ⟨a0, u⟩ y hy
  exact h a0 y hy

theorem hcs_laws_toRequest : ∀ x ∈ cs_laws_toRequest, CtrOk Tryz.prog x := (conOf_cons ok_laws_toAtom (conOf_cons ok_laws_toStringS (conOf_cons ok_laws_toValueS conOf_nil)))
theorem ok_laws_toRequest : CtrOk Tryz.prog c_laws_toRequest := mk_laws_toRequest hcs_laws_toRequest fun a0 y hy => by
  obtain ⟨hw, hs, rfl⟩ := toC_inv hy
  have hw2 : wfD TyAtom y.1 ∧ wfD TyAtom y.2.1 ∧ wfD TyAtom y.2.2.1 ∧ wfD (.list .str) y.2.2.2.1 ∧ wfD (.list TyValue) y.2.2.2.2 := hw
  have hs2 : Ty.size TyAtom y.1 + (Ty.size TyAtom y.2.1 + (Ty.size TyAtom y.2.2.1 + (Ty.size (.list .str) y.2.2.2.1 + (Ty.size (.list TyValue) y.2.2.2.2)))) ≤ 1073741824 := hs
  refine ⟨0, ?_⟩
  rw [F_laws_toRequest_eq]
  try (rw [toC_some hw2.1 (by omega)]; simp only [Option.bind_some])
  try (rw [toC_some hw2.2.1 (by omega)]; simp only [Option.bind_some])
  try (rw [toC_some hw2.2.2.1 (by omega)]; simp only [Option.bind_some])
  try (rw [toC_some hw2.2.2.2.1 (by omega)]; simp only [Option.bind_some])
  try (rw [toC_some hw2.2.2.2.2 (by omega)]; simp only [Option.bind_some])
  try rfl
/-! ## laws.eqStringS (62) -/
noncomputable def c_laws_eqStringS : Ctr := ⟨62, [(.list .str), (.list .str)], [.bool], fun x => eqC (.list .str) x.1 x.2.1⟩
def A_laws_eqStringS : List (List Nat × Ann) := [([0, 4], [.keep 0 0, .keep 0 1, .keep 0 5])]
def In_laws_eqStringS : List (List Nat × Nat) := []
noncomputable def cs_laws_eqStringS : List Ctr := []
noncomputable def F_laws_eqStringS (n : Nat) (a0 : (List (List Int))) (a1 : (List (List Int))) : Option Bool := run Tryz.prog A_laws_eqStringS In_laws_eqStringS (conOf cs_laws_eqStringS) Tryz.f62 (Tryz.f62.body.getD .skip) (packT [.bool]) n (argsV [(.list .str), (.list .str)] (a0, a1, ()))
noncomputable abbrev L_laws_eqStringS_0_4 (n : Nat) (x1 : (List (List Int))) (x2 : (List (List Int))) (x3 : Int) : Option Bool := lam Tryz.prog A_laws_eqStringS In_laws_eqStringS (conOf cs_laws_eqStringS) Tryz.f62 (Tryz.f62.body.getD .skip) (packT [.bool]) n [0, 4] [.d (.list .str) x1, .d (.list .str) x2, .d I64 x3]
theorem F_laws_eqStringS_eq (n : Nat) (a0 : (List (List Int))) (a1 : (List (List Int))) : F_laws_eqStringS n a0 a1 =
    bif !decide ((a0.length : Int) = (a1.length : Int)) then
      some false
    else
      L_laws_eqStringS_0_4 n a0 a1 0 := by kernel_rfl
theorem L_laws_eqStringS_0_4_eq (n : Nat) (x1 : (List (List Int))) (x2 : (List (List Int))) (x3 : Int) : L_laws_eqStringS_0_4 (n + 1) x1 x2 x3 =
    bif decide (x3 < (x1.length : Int)) then
      bif inB x3 x1.length then
        bif inB x3 x2.length then
          bif !decide (rd x1 x3 (Ty.dflt .str) = rd x2 x3 (Ty.dflt .str)) then
            some false
          else
            L_laws_eqStringS_0_4 n x1 x2 (IntKind.wrap .i64 (x3 + 1))
        else none
      else none
    else
      some true := by kernel_rfl
theorem mk_laws_eqStringS (hcs : ∀ x ∈ cs_laws_eqStringS, CtrOk Tryz.prog x) (h : ∀ (a0 : (List (List Int))) (a1 : (List (List Int))) y, eqC (.list .str) a0 a1 = some y → ∃ n, F_laws_eqStringS n a0 a1 = some y) : CtrOk Tryz.prog c_laws_eqStringS := by
  refine ctr_of_run (c := c_laws_eqStringS) (by kernel_rfl) (by kernel_rfl : Tryz.prog.funcs[62]? = some Tryz.f62) (code := Tryz.f62.body.getD .skip) (by kernel_rfl) (by kernel_rfl) (by kernel_rfl) (A := A_laws_eqStringS) (I := In_laws_eqStringS) hcs ?_
  rintro ⟨a0, a1, u⟩ y hy
  exact h a0 a1 y hy

theorem hcs_laws_eqStringS : ∀ x ∈ cs_laws_eqStringS, CtrOk Tryz.prog x := conOf_nil
theorem ok_laws_eqStringS : CtrOk Tryz.prog c_laws_eqStringS := mk_laws_eqStringS hcs_laws_eqStringS fun a0 a1 y hy => by
  obtain ⟨n, hn⟩ := eqS_ok (t := .str) (body := fun x y K => bif !decide (x = y) then some false else K ()) (fun x K h => by simp) (fun n xs ys i => L_laws_eqStringS_0_4_eq n xs ys i) hy
  exact ⟨n, (F_laws_eqStringS_eq n a0 a1).trans hn⟩
/-! ## laws.eqAttrKind (224) -/
noncomputable def c_laws_eqAttrKind : Ctr := ⟨224, [TyAttrKind, TyAttrKind], [.bool], fun x => eqC TyAttrKind x.1 x.2.1⟩
def A_laws_eqAttrKind : List (List Nat × Ann) := []
def In_laws_eqAttrKind : List (List Nat × Nat) := []
noncomputable def cs_laws_eqAttrKind : List Ctr := []
noncomputable def F_laws_eqAttrKind (n : Nat) (a0 : DAttrKind) (a1 : DAttrKind) : Option Bool := run Tryz.prog A_laws_eqAttrKind In_laws_eqAttrKind (conOf cs_laws_eqAttrKind) Tryz.f224 (Tryz.f224.body.getD .skip) (packT [.bool]) n (argsV [TyAttrKind, TyAttrKind] (a0, a1, ()))
theorem F_laws_eqAttrKind_eq (n : Nat) (a0 : DAttrKind) (a1 : DAttrKind) : F_laws_eqAttrKind n a0 a1 =
    bif !decide (a0.1 = a1.1) then
      some false
    else
      bif !decide (a0.2.1 = a1.2.1) then
        some false
      else
        bif a0.2.2 != a1.2.2 then
          some false
        else
          some true := by kernel_rfl
theorem mk_laws_eqAttrKind (hcs : ∀ x ∈ cs_laws_eqAttrKind, CtrOk Tryz.prog x) (h : ∀ (a0 : DAttrKind) (a1 : DAttrKind) y, eqC TyAttrKind a0 a1 = some y → ∃ n, F_laws_eqAttrKind n a0 a1 = some y) : CtrOk Tryz.prog c_laws_eqAttrKind := by
  refine ctr_of_run (c := c_laws_eqAttrKind) (by kernel_rfl) (by kernel_rfl : Tryz.prog.funcs[224]? = some Tryz.f224) (code := Tryz.f224.body.getD .skip) (by kernel_rfl) (by kernel_rfl) (by kernel_rfl) (A := A_laws_eqAttrKind) (I := In_laws_eqAttrKind) hcs ?_
  rintro ⟨a0, a1, u⟩ y hy
  exact h a0 a1 y hy

theorem hcs_laws_eqAttrKind : ∀ x ∈ cs_laws_eqAttrKind, CtrOk Tryz.prog x := conOf_nil
theorem ok_laws_eqAttrKind : CtrOk Tryz.prog c_laws_eqAttrKind := mk_laws_eqAttrKind hcs_laws_eqAttrKind fun a0 a1 y hy => by
  obtain ⟨rfl, hw, rfl⟩ := eqC_inv hy
  have hw2 : wfD .str a0.1 ∧ wfD .str a0.2.1 ∧ wfD .bool a0.2.2 := hw
  refine ⟨0, ?_⟩
  rw [F_laws_eqAttrKind_eq]
  simp []
/-! ## laws.eqAttrKindS (189) -/
noncomputable def c_laws_eqAttrKindS : Ctr := ⟨189, [(.list TyAttrKind), (.list TyAttrKind)], [.bool], fun x => eqC (.list TyAttrKind) x.1 x.2.1⟩
def A_laws_eqAttrKindS : List (List Nat × Ann) := [([0, 4], [.keep 0 0, .keep 0 1, .keep 0 5])]
def In_laws_eqAttrKindS : List (List Nat × Nat) := []
noncomputable def cs_laws_eqAttrKindS : List Ctr := [c_laws_eqAttrKind]
noncomputable def F_laws_eqAttrKindS (n : Nat) (a0 : (List DAttrKind)) (a1 : (List DAttrKind)) : Option Bool := run Tryz.prog A_laws_eqAttrKindS In_laws_eqAttrKindS (conOf cs_laws_eqAttrKindS) Tryz.f189 (Tryz.f189.body.getD .skip) (packT [.bool]) n (argsV [(.list TyAttrKind), (.list TyAttrKind)] (a0, a1, ()))
noncomputable abbrev L_laws_eqAttrKindS_0_4 (n : Nat) (x1 : (List DAttrKind)) (x2 : (List DAttrKind)) (x3 : Int) : Option Bool := lam Tryz.prog A_laws_eqAttrKindS In_laws_eqAttrKindS (conOf cs_laws_eqAttrKindS) Tryz.f189 (Tryz.f189.body.getD .skip) (packT [.bool]) n [0, 4] [.d (.list TyAttrKind) x1, .d (.list TyAttrKind) x2, .d I64 x3]
theorem F_laws_eqAttrKindS_eq (n : Nat) (a0 : (List DAttrKind)) (a1 : (List DAttrKind)) : F_laws_eqAttrKindS n a0 a1 =
    bif !decide ((a0.length : Int) = (a1.length : Int)) then
      some false
    else
      L_laws_eqAttrKindS_0_4 n a0 a1 0 := by kernel_rfl
theorem L_laws_eqAttrKindS_0_4_eq (n : Nat) (x1 : (List DAttrKind)) (x2 : (List DAttrKind)) (x3 : Int) : L_laws_eqAttrKindS_0_4 (n + 1) x1 x2 x3 =
    bif decide (x3 < (x1.length : Int)) then
      bif inB x3 x1.length then
        bif inB x3 x2.length then
          Option.bind (eqC TyAttrKind (rd x1 x3 (Ty.dflt TyAttrKind)) (rd x2 x3 (Ty.dflt TyAttrKind))) fun (y1 : Bool) =>
          bif !(y1) then
            some false
          else
            L_laws_eqAttrKindS_0_4 n x1 x2 (IntKind.wrap .i64 (x3 + 1))
        else none
      else none
    else
      some true := by kernel_rfl
theorem mk_laws_eqAttrKindS (hcs : ∀ x ∈ cs_laws_eqAttrKindS, CtrOk Tryz.prog x) (h : ∀ (a0 : (List DAttrKind)) (a1 : (List DAttrKind)) y, eqC (.list TyAttrKind) a0 a1 = some y → ∃ n, F_laws_eqAttrKindS n a0 a1 = some y) : CtrOk Tryz.prog c_laws_eqAttrKindS := by
  refine ctr_of_run (c := c_laws_eqAttrKindS) (by kernel_rfl) (by kernel_rfl : Tryz.prog.funcs[189]? = some Tryz.f189) (code := Tryz.f189.body.getD .skip) (by kernel_rfl) (by kernel_rfl) (by kernel_rfl) (A := A_laws_eqAttrKindS) (I := In_laws_eqAttrKindS) hcs ?_
  rintro ⟨a0, a1, u⟩ y hy
  exact h a0 a1 y hy

theorem hcs_laws_eqAttrKindS : ∀ x ∈ cs_laws_eqAttrKindS, CtrOk Tryz.prog x := (conOf_cons ok_laws_eqAttrKind conOf_nil)
theorem ok_laws_eqAttrKindS : CtrOk Tryz.prog c_laws_eqAttrKindS := mk_laws_eqAttrKindS hcs_laws_eqAttrKindS fun a0 a1 y hy => by
  obtain ⟨n, hn⟩ := eqS_ok (t := TyAttrKind) (body := fun x y K => Option.bind (eqC TyAttrKind x y) fun b => bif !b then some false else K ()) (fun x K h => by simp only [eqC_some h, Option.bind_some, Bool.not_true, cond_false]) (fun n xs ys i => L_laws_eqAttrKindS_0_4_eq n xs ys i) hy
  exact ⟨n, (F_laws_eqAttrKindS_eq n a0 a1).trans hn⟩
/-! ## laws.eqThingType (119) -/
noncomputable def c_laws_eqThingType : Ctr := ⟨119, [TyThingType, TyThingType], [.bool], fun x => eqC TyThingType x.1 x.2.1⟩
def A_laws_eqThingType : List (List Nat × Ann) := []
def In_laws_eqThingType : List (List Nat × Nat) := []
noncomputable def cs_laws_eqThingType : List Ctr := [c_laws_eqStringS, c_laws_eqAttrKindS]
noncomputable def F_laws_eqThingType (n : Nat) (a0 : DThingType) (a1 : DThingType) : Option Bool := run Tryz.prog A_laws_eqThingType In_laws_eqThingType (conOf cs_laws_eqThingType) Tryz.f119 (Tryz.f119.body.getD .skip) (packT [.bool]) n (argsV [TyThingType, TyThingType] (a0, a1, ()))
theorem F_laws_eqThingType_eq (n : Nat) (a0 : DThingType) (a1 : DThingType) : F_laws_eqThingType n a0 a1 =
    bif !decide (a0.1 = a1.1) then
      some false
    else
      Option.bind (eqC (.list .str) a0.2.1 a1.2.1) fun (y1 : Bool) =>
      bif !(y1) then
        some false
      else
        Option.bind (eqC (.list TyAttrKind) a0.2.2 a1.2.2) fun (y2 : Bool) =>
        bif !(y2) then
          some false
        else
          some true := by kernel_rfl
theorem mk_laws_eqThingType (hcs : ∀ x ∈ cs_laws_eqThingType, CtrOk Tryz.prog x) (h : ∀ (a0 : DThingType) (a1 : DThingType) y, eqC TyThingType a0 a1 = some y → ∃ n, F_laws_eqThingType n a0 a1 = some y) : CtrOk Tryz.prog c_laws_eqThingType := by
  refine ctr_of_run (c := c_laws_eqThingType) (by kernel_rfl) (by kernel_rfl : Tryz.prog.funcs[119]? = some Tryz.f119) (code := Tryz.f119.body.getD .skip) (by kernel_rfl) (by kernel_rfl) (by kernel_rfl) (A := A_laws_eqThingType) (I := In_laws_eqThingType) hcs ?_
  rintro ⟨a0, a1, u⟩ y hy
  exact h a0 a1 y hy

theorem hcs_laws_eqThingType : ∀ x ∈ cs_laws_eqThingType, CtrOk Tryz.prog x := (conOf_cons ok_laws_eqStringS (conOf_cons ok_laws_eqAttrKindS conOf_nil))
theorem ok_laws_eqThingType : CtrOk Tryz.prog c_laws_eqThingType := mk_laws_eqThingType hcs_laws_eqThingType fun a0 a1 y hy => by
  obtain ⟨rfl, hw, rfl⟩ := eqC_inv hy
  have hw2 : wfD .str a0.1 ∧ wfD (.list .str) a0.2.1 ∧ wfD (.list TyAttrKind) a0.2.2 := hw
  refine ⟨0, ?_⟩
  rw [F_laws_eqThingType_eq]
  simp [eqC_some hw2.2.1, eqC_some hw2.2.2]
/-! ## laws.eqThingTypeS (58) -/
noncomputable def c_laws_eqThingTypeS : Ctr := ⟨58, [(.list TyThingType), (.list TyThingType)], [.bool], fun x => eqC (.list TyThingType) x.1 x.2.1⟩
def A_laws_eqThingTypeS : List (List Nat × Ann) := [([0, 4], [.keep 0 0, .keep 0 1, .keep 0 5])]
def In_laws_eqThingTypeS : List (List Nat × Nat) := []
noncomputable def cs_laws_eqThingTypeS : List Ctr := [c_laws_eqThingType]
noncomputable def F_laws_eqThingTypeS (n : Nat) (a0 : (List DThingType)) (a1 : (List DThingType)) : Option Bool := run Tryz.prog A_laws_eqThingTypeS In_laws_eqThingTypeS (conOf cs_laws_eqThingTypeS) Tryz.f58 (Tryz.f58.body.getD .skip) (packT [.bool]) n (argsV [(.list TyThingType), (.list TyThingType)] (a0, a1, ()))
noncomputable abbrev L_laws_eqThingTypeS_0_4 (n : Nat) (x1 : (List DThingType)) (x2 : (List DThingType)) (x3 : Int) : Option Bool := lam Tryz.prog A_laws_eqThingTypeS In_laws_eqThingTypeS (conOf cs_laws_eqThingTypeS) Tryz.f58 (Tryz.f58.body.getD .skip) (packT [.bool]) n [0, 4] [.d (.list TyThingType) x1, .d (.list TyThingType) x2, .d I64 x3]
theorem F_laws_eqThingTypeS_eq (n : Nat) (a0 : (List DThingType)) (a1 : (List DThingType)) : F_laws_eqThingTypeS n a0 a1 =
    bif !decide ((a0.length : Int) = (a1.length : Int)) then
      some false
    else
      L_laws_eqThingTypeS_0_4 n a0 a1 0 := by kernel_rfl
theorem L_laws_eqThingTypeS_0_4_eq (n : Nat) (x1 : (List DThingType)) (x2 : (List DThingType)) (x3 : Int) : L_laws_eqThingTypeS_0_4 (n + 1) x1 x2 x3 =
    bif decide (x3 < (x1.length : Int)) then
      bif inB x3 x1.length then
        bif inB x3 x2.length then
          Option.bind (eqC TyThingType (rd x1 x3 (Ty.dflt TyThingType)) (rd x2 x3 (Ty.dflt TyThingType))) fun (y1 : Bool) =>
          bif !(y1) then
            some false
          else
            L_laws_eqThingTypeS_0_4 n x1 x2 (IntKind.wrap .i64 (x3 + 1))
        else none
      else none
    else
      some true := by kernel_rfl
theorem mk_laws_eqThingTypeS (hcs : ∀ x ∈ cs_laws_eqThingTypeS, CtrOk Tryz.prog x) (h : ∀ (a0 : (List DThingType)) (a1 : (List DThingType)) y, eqC (.list TyThingType) a0 a1 = some y → ∃ n, F_laws_eqThingTypeS n a0 a1 = some y) : CtrOk Tryz.prog c_laws_eqThingTypeS := by
  refine ctr_of_run (c := c_laws_eqThingTypeS) (by kernel_rfl) (by kernel_rfl : Tryz.prog.funcs[58]? = some Tryz.f58) (code := Tryz.f58.body.getD .skip) (by kernel_rfl) (by kernel_rfl) (by kernel_rfl) (A := A_laws_eqThingTypeS) (I := In_laws_eqThingTypeS) hcs ?_
  rintro ⟨a0, a1, u⟩ y hy
  exact h a0 a1 y hy

theorem hcs_laws_eqThingTypeS : ∀ x ∈ cs_laws_eqThingTypeS, CtrOk Tryz.prog x := (conOf_cons ok_laws_eqThingType conOf_nil)
theorem ok_laws_eqThingTypeS : CtrOk Tryz.prog c_laws_eqThingTypeS := mk_laws_eqThingTypeS hcs_laws_eqThingTypeS fun a0 a1 y hy => by
  obtain ⟨n, hn⟩ := eqS_ok (t := TyThingType) (body := fun x y K => Option.bind (eqC TyThingType x y) fun b => bif !b then some false else K ()) (fun x K h => by simp only [eqC_some h, Option.bind_some, Bool.not_true, cond_false]) (fun n xs ys i => L_laws_eqThingTypeS_0_4_eq n xs ys i) hy
  exact ⟨n, (F_laws_eqThingTypeS_eq n a0 a1).trans hn⟩
/-! ## laws.eqActionType (120) -/
noncomputable def c_laws_eqActionType : Ctr := ⟨120, [TyActionType, TyActionType], [.bool], fun x => eqC TyActionType x.1 x.2.1⟩
def A_laws_eqActionType : List (List Nat × Ann) := []
def In_laws_eqActionType : List (List Nat × Nat) := []
noncomputable def cs_laws_eqActionType : List Ctr := [c_laws_eqStringS, c_laws_eqAttrKindS]
noncomputable def F_laws_eqActionType (n : Nat) (a0 : DActionType) (a1 : DActionType) : Option Bool := run Tryz.prog A_laws_eqActionType In_laws_eqActionType (conOf cs_laws_eqActionType) Tryz.f120 (Tryz.f120.body.getD .skip) (packT [.bool]) n (argsV [TyActionType, TyActionType] (a0, a1, ()))
theorem F_laws_eqActionType_eq (n : Nat) (a0 : DActionType) (a1 : DActionType) : F_laws_eqActionType n a0 a1 =
    bif !decide (a0.1 = a1.1) then
      some false
    else
      Option.bind (eqC (.list .str) a0.2.1 a1.2.1) fun (y1 : Bool) =>
      bif !(y1) then
        some false
      else
        Option.bind (eqC (.list .str) a0.2.2.1 a1.2.2.1) fun (y2 : Bool) =>
        bif !(y2) then
          some false
        else
          Option.bind (eqC (.list TyAttrKind) a0.2.2.2 a1.2.2.2) fun (y3 : Bool) =>
          bif !(y3) then
            some false
          else
            some true := by kernel_rfl
theorem mk_laws_eqActionType (hcs : ∀ x ∈ cs_laws_eqActionType, CtrOk Tryz.prog x) (h : ∀ (a0 : DActionType) (a1 : DActionType) y, eqC TyActionType a0 a1 = some y → ∃ n, F_laws_eqActionType n a0 a1 = some y) : CtrOk Tryz.prog c_laws_eqActionType := by
  refine ctr_of_run (c := c_laws_eqActionType) (by kernel_rfl) (by kernel_rfl : Tryz.prog.funcs[120]? = some Tryz.f120) (code := Tryz.f120.body.getD .skip) (by kernel_rfl) (by kernel_rfl) (by kernel_rfl) (A := A_laws_eqActionType) (I := In_laws_eqActionType) hcs ?_
  rintro ⟨a0, a1, u⟩ y hy
  exact h a0 a1 y hy

theorem hcs_laws_eqActionType : ∀ x ∈ cs_laws_eqActionType, CtrOk Tryz.prog x := (conOf_cons ok_laws_eqStringS (conOf_cons ok_laws_eqAttrKindS conOf_nil))
theorem ok_laws_eqActionType : CtrOk Tryz.prog c_laws_eqActionType := mk_laws_eqActionType hcs_laws_eqActionType fun a0 a1 y hy => by
  obtain ⟨rfl, hw, rfl⟩ := eqC_inv hy
  have hw2 : wfD .str a0.1 ∧ wfD (.list .str) a0.2.1 ∧ wfD (.list .str) a0.2.2.1 ∧ wfD (.list TyAttrKind) a0.2.2.2 := hw
  refine ⟨0, ?_⟩
  rw [F_laws_eqActionType_eq]
  simp [eqC_some hw2.2.1, eqC_some hw2.2.2.1, eqC_some hw2.2.2.2]
/-! ## laws.eqActionTypeS (59) -/
noncomputable def c_laws_eqActionTypeS : Ctr := ⟨59, [(.list TyActionType), (.list TyActionType)], [.bool], fun x => eqC (.list TyActionType) x.1 x.2.1⟩
def A_laws_eqActionTypeS : List (List Nat × Ann) := [([0, 4], [.keep 0 0, .keep 0 1, .keep 0 5])]
def In_laws_eqActionTypeS : List (List Nat × Nat) := []
noncomputable def cs_laws_eqActionTypeS : List Ctr := [c_laws_eqActionType]
noncomputable def F_laws_eqActionTypeS (n : Nat) (a0 : (List DActionType)) (a1 : (List DActionType)) : Option Bool := run Tryz.prog A_laws_eqActionTypeS In_laws_eqActionTypeS (conOf cs_laws_eqActionTypeS) Tryz.f59 (Tryz.f59.body.getD .skip) (packT [.bool]) n (argsV [(.list TyActionType), (.list TyActionType)] (a0, a1, ()))
noncomputable abbrev L_laws_eqActionTypeS_0_4 (n : Nat) (x1 : (List DActionType)) (x2 : (List DActionType)) (x3 : Int) : Option Bool := lam Tryz.prog A_laws_eqActionTypeS In_laws_eqActionTypeS (conOf cs_laws_eqActionTypeS) Tryz.f59 (Tryz.f59.body.getD .skip) (packT [.bool]) n [0, 4] [.d (.list TyActionType) x1, .d (.list TyActionType) x2, .d I64 x3]
theorem F_laws_eqActionTypeS_eq (n : Nat) (a0 : (List DActionType)) (a1 : (List DActionType)) : F_laws_eqActionTypeS n a0 a1 =
    bif !decide ((a0.length : Int) = (a1.length : Int)) then
      some false
    else
      L_laws_eqActionTypeS_0_4 n a0 a1 0 := by kernel_rfl
theorem L_laws_eqActionTypeS_0_4_eq (n : Nat) (x1 : (List DActionType)) (x2 : (List DActionType)) (x3 : Int) : L_laws_eqActionTypeS_0_4 (n + 1) x1 x2 x3 =
    bif decide (x3 < (x1.length : Int)) then
      bif inB x3 x1.length then
        bif inB x3 x2.length then
          Option.bind (eqC TyActionType (rd x1 x3 (Ty.dflt TyActionType)) (rd x2 x3 (Ty.dflt TyActionType))) fun (y1 : Bool) =>
          bif !(y1) then
            some false
          else
            L_laws_eqActionTypeS_0_4 n x1 x2 (IntKind.wrap .i64 (x3 + 1))
        else none
      else none
    else
      some true := by kernel_rfl
theorem mk_laws_eqActionTypeS (hcs : ∀ x ∈ cs_laws_eqActionTypeS, CtrOk Tryz.prog x) (h : ∀ (a0 : (List DActionType)) (a1 : (List DActionType)) y, eqC (.list TyActionType) a0 a1 = some y → ∃ n, F_laws_eqActionTypeS n a0 a1 = some y) : CtrOk Tryz.prog c_laws_eqActionTypeS := by
  refine ctr_of_run (c := c_laws_eqActionTypeS) (by kernel_rfl) (by kernel_rfl : Tryz.prog.funcs[59]? = some Tryz.f59) (code := Tryz.f59.body.getD .skip) (by kernel_rfl) (by kernel_rfl) (by kernel_rfl) (A := A_laws_eqActionTypeS) (I := In_laws_eqActionTypeS) hcs ?_
  rintro ⟨a0, a1, u⟩ y hy
  exact h a0 a1 y hy

theorem hcs_laws_eqActionTypeS : ∀ x ∈ cs_laws_eqActionTypeS, CtrOk Tryz.prog x := (conOf_cons ok_laws_eqActionType conOf_nil)
theorem ok_laws_eqActionTypeS : CtrOk Tryz.prog c_laws_eqActionTypeS := mk_laws_eqActionTypeS hcs_laws_eqActionTypeS fun a0 a1 y hy => by
  obtain ⟨n, hn⟩ := eqS_ok (t := TyActionType) (body := fun x y K => Option.bind (eqC TyActionType x y) fun b => bif !b then some false else K ()) (fun x K h => by simp only [eqC_some h, Option.bind_some, Bool.not_true, cond_false]) (fun n xs ys i => L_laws_eqActionTypeS_0_4_eq n xs ys i) hy
  exact ⟨n, (F_laws_eqActionTypeS_eq n a0 a1).trans hn⟩
/-! ## laws.eqPolSchema (15) -/
noncomputable def c_laws_eqPolSchema : Ctr := ⟨15, [TyPolSchema, TyPolSchema], [.bool], fun x => eqC TyPolSchema x.1 x.2.1⟩
def A_laws_eqPolSchema : List (List Nat × Ann) := []
def In_laws_eqPolSchema : List (List Nat × Nat) := []
noncomputable def cs_laws_eqPolSchema : List Ctr := [c_laws_eqThingTypeS, c_laws_eqActionTypeS]
noncomputable def F_laws_eqPolSchema (n : Nat) (a0 : DPolSchema) (a1 : DPolSchema) : Option Bool := run Tryz.prog A_laws_eqPolSchema In_laws_eqPolSchema (conOf cs_laws_eqPolSchema) Tryz.f15 (Tryz.f15.body.getD .skip) (packT [.bool]) n (argsV [TyPolSchema, TyPolSchema] (a0, a1, ()))
theorem F_laws_eqPolSchema_eq (n : Nat) (a0 : DPolSchema) (a1 : DPolSchema) : F_laws_eqPolSchema n a0 a1 =
    Option.bind (eqC (.list TyThingType) a0.1 a1.1) fun (y1 : Bool) =>
    bif !(y1) then
      some false
    else
      Option.bind (eqC (.list TyActionType) a0.2 a1.2) fun (y2 : Bool) =>
      bif !(y2) then
        some false
      else
        some true := by kernel_rfl
theorem mk_laws_eqPolSchema (hcs : ∀ x ∈ cs_laws_eqPolSchema, CtrOk Tryz.prog x) (h : ∀ (a0 : DPolSchema) (a1 : DPolSchema) y, eqC TyPolSchema a0 a1 = some y → ∃ n, F_laws_eqPolSchema n a0 a1 = some y) : CtrOk Tryz.prog c_laws_eqPolSchema := by
  refine ctr_of_run (c := c_laws_eqPolSchema) (by kernel_rfl) (by kernel_rfl : Tryz.prog.funcs[15]? = some Tryz.f15) (code := Tryz.f15.body.getD .skip) (by kernel_rfl) (by kernel_rfl) (by kernel_rfl) (A := A_laws_eqPolSchema) (I := In_laws_eqPolSchema) hcs ?_
  rintro ⟨a0, a1, u⟩ y hy
  exact h a0 a1 y hy

theorem hcs_laws_eqPolSchema : ∀ x ∈ cs_laws_eqPolSchema, CtrOk Tryz.prog x := (conOf_cons ok_laws_eqThingTypeS (conOf_cons ok_laws_eqActionTypeS conOf_nil))
theorem ok_laws_eqPolSchema : CtrOk Tryz.prog c_laws_eqPolSchema := mk_laws_eqPolSchema hcs_laws_eqPolSchema fun a0 a1 y hy => by
  obtain ⟨rfl, hw, rfl⟩ := eqC_inv hy
  have hw2 : wfD (.list TyThingType) a0.1 ∧ wfD (.list TyActionType) a0.2 := hw
  refine ⟨0, ?_⟩
  rw [F_laws_eqPolSchema_eq]
  simp [eqC_some hw2.1, eqC_some hw2.2]
/-! ## laws.eqAtom (61) -/
noncomputable def c_laws_eqAtom : Ctr := ⟨61, [TyAtom, TyAtom], [.bool], fun x => eqC TyAtom x.1 x.2.1⟩
def A_laws_eqAtom : List (List Nat × Ann) := []
def In_laws_eqAtom : List (List Nat × Nat) := []
noncomputable def cs_laws_eqAtom : List Ctr := []
noncomputable def F_laws_eqAtom (n : Nat) (a0 : DAtom) (a1 : DAtom) : Option Bool := run Tryz.prog A_laws_eqAtom In_laws_eqAtom (conOf cs_laws_eqAtom) Tryz.f61 (Tryz.f61.body.getD .skip) (packT [.bool]) n (argsV [TyAtom, TyAtom] (a0, a1, ()))
theorem F_laws_eqAtom_eq (n : Nat) (a0 : DAtom) (a1 : DAtom) : F_laws_eqAtom n a0 a1 =
    bif !decide (a0.1 = a1.1) then
      some false
    else
      bif !decide (a0.2.1 = a1.2.1) then
        some false
      else
        bif !decide (a0.2.2.1 = a1.2.2.1) then
          some false
        else
          bif !decide (a0.2.2.2 = a1.2.2.2) then
            some false
          else
            some true := by kernel_rfl
theorem mk_laws_eqAtom (hcs : ∀ x ∈ cs_laws_eqAtom, CtrOk Tryz.prog x) (h : ∀ (a0 : DAtom) (a1 : DAtom) y, eqC TyAtom a0 a1 = some y → ∃ n, F_laws_eqAtom n a0 a1 = some y) : CtrOk Tryz.prog c_laws_eqAtom := by
  refine ctr_of_run (c := c_laws_eqAtom) (by kernel_rfl) (by kernel_rfl : Tryz.prog.funcs[61]? = some Tryz.f61) (code := Tryz.f61.body.getD .skip) (by kernel_rfl) (by kernel_rfl) (by kernel_rfl) (A := A_laws_eqAtom) (I := In_laws_eqAtom) hcs ?_
  rintro ⟨a0, a1, u⟩ y hy
  exact h a0 a1 y hy

theorem hcs_laws_eqAtom : ∀ x ∈ cs_laws_eqAtom, CtrOk Tryz.prog x := conOf_nil
theorem ok_laws_eqAtom : CtrOk Tryz.prog c_laws_eqAtom := mk_laws_eqAtom hcs_laws_eqAtom fun a0 a1 y hy => by
  obtain ⟨rfl, hw, rfl⟩ := eqC_inv hy
  have hw2 : wfD I64 a0.1 ∧ wfD I64 a0.2.1 ∧ wfD .str a0.2.2.1 ∧ wfD .str a0.2.2.2 := hw
  refine ⟨0, ?_⟩
  rw [F_laws_eqAtom_eq]
  simp []
/-! ## laws.eqAtomS (121) -/
noncomputable def c_laws_eqAtomS : Ctr := ⟨121, [(.list TyAtom), (.list TyAtom)], [.bool], fun x => eqC (.list TyAtom) x.1 x.2.1⟩
def A_laws_eqAtomS : List (List Nat × Ann) := [([0, 4], [.keep 0 0, .keep 0 1, .keep 0 5])]
def In_laws_eqAtomS : List (List Nat × Nat) := []
noncomputable def cs_laws_eqAtomS : List Ctr := [c_laws_eqAtom]
noncomputable def F_laws_eqAtomS (n : Nat) (a0 : (List DAtom)) (a1 : (List DAtom)) : Option Bool := run Tryz.prog A_laws_eqAtomS In_laws_eqAtomS (conOf cs_laws_eqAtomS) Tryz.f121 (Tryz.f121.body.getD .skip) (packT [.bool]) n (argsV [(.list TyAtom), (.list TyAtom)] (a0, a1, ()))
noncomputable abbrev L_laws_eqAtomS_0_4 (n : Nat) (x1 : (List DAtom)) (x2 : (List DAtom)) (x3 : Int) : Option Bool := lam Tryz.prog A_laws_eqAtomS In_laws_eqAtomS (conOf cs_laws_eqAtomS) Tryz.f121 (Tryz.f121.body.getD .skip) (packT [.bool]) n [0, 4] [.d (.list TyAtom) x1, .d (.list TyAtom) x2, .d I64 x3]
theorem F_laws_eqAtomS_eq (n : Nat) (a0 : (List DAtom)) (a1 : (List DAtom)) : F_laws_eqAtomS n a0 a1 =
    bif !decide ((a0.length : Int) = (a1.length : Int)) then
      some false
    else
      L_laws_eqAtomS_0_4 n a0 a1 0 := by kernel_rfl
theorem L_laws_eqAtomS_0_4_eq (n : Nat) (x1 : (List DAtom)) (x2 : (List DAtom)) (x3 : Int) : L_laws_eqAtomS_0_4 (n + 1) x1 x2 x3 =
    bif decide (x3 < (x1.length : Int)) then
      bif inB x3 x1.length then
        bif inB x3 x2.length then
          Option.bind (eqC TyAtom (rd x1 x3 (Ty.dflt TyAtom)) (rd x2 x3 (Ty.dflt TyAtom))) fun (y1 : Bool) =>
          bif !(y1) then
            some false
          else
            L_laws_eqAtomS_0_4 n x1 x2 (IntKind.wrap .i64 (x3 + 1))
        else none
      else none
    else
      some true := by kernel_rfl
theorem mk_laws_eqAtomS (hcs : ∀ x ∈ cs_laws_eqAtomS, CtrOk Tryz.prog x) (h : ∀ (a0 : (List DAtom)) (a1 : (List DAtom)) y, eqC (.list TyAtom) a0 a1 = some y → ∃ n, F_laws_eqAtomS n a0 a1 = some y) : CtrOk Tryz.prog c_laws_eqAtomS := by
  refine ctr_of_run (c := c_laws_eqAtomS) (by kernel_rfl) (by kernel_rfl : Tryz.prog.funcs[121]? = some Tryz.f121) (code := Tryz.f121.body.getD .skip) (by kernel_rfl) (by kernel_rfl) (by kernel_rfl) (A := A_laws_eqAtomS) (I := In_laws_eqAtomS) hcs ?_
  rintro ⟨a0, a1, u⟩ y hy
  exact h a0 a1 y hy

theorem hcs_laws_eqAtomS : ∀ x ∈ cs_laws_eqAtomS, CtrOk Tryz.prog x := (conOf_cons ok_laws_eqAtom conOf_nil)
theorem ok_laws_eqAtomS : CtrOk Tryz.prog c_laws_eqAtomS := mk_laws_eqAtomS hcs_laws_eqAtomS fun a0 a1 y hy => by
  obtain ⟨n, hn⟩ := eqS_ok (t := TyAtom) (body := fun x y K => Option.bind (eqC TyAtom x y) fun b => bif !b then some false else K ()) (fun x K h => by simp only [eqC_some h, Option.bind_some, Bool.not_true, cond_false]) (fun n xs ys i => L_laws_eqAtomS_0_4_eq n xs ys i) hy
  exact ⟨n, (F_laws_eqAtomS_eq n a0 a1).trans hn⟩
/-! ## laws.eqValue (122) -/
noncomputable def c_laws_eqValue : Ctr := ⟨122, [TyValue, TyValue], [.bool], fun x => eqC TyValue x.1 x.2.1⟩
def A_laws_eqValue : List (List Nat × Ann) := []
def In_laws_eqValue : List (List Nat × Nat) := []
noncomputable def cs_laws_eqValue : List Ctr := [c_laws_eqAtom, c_laws_eqAtomS, c_laws_eqStringS]
noncomputable def F_laws_eqValue (n : Nat) (a0 : DValue) (a1 : DValue) : Option Bool := run Tryz.prog A_laws_eqValue In_laws_eqValue (conOf cs_laws_eqValue) Tryz.f122 (Tryz.f122.body.getD .skip) (packT [.bool]) n (argsV [TyValue, TyValue] (a0, a1, ()))
theorem F_laws_eqValue_eq (n : Nat) (a0 : DValue) (a1 : DValue) : F_laws_eqValue n a0 a1 =
    bif !decide (a0.1 = a1.1) then
      some false
    else
      Option.bind (eqC TyAtom a0.2.1 a1.2.1) fun (y1 : Bool) =>
      bif !(y1) then
        some false
      else
        Option.bind (eqC (.list TyAtom) a0.2.2.1 a1.2.2.1) fun (y2 : Bool) =>
        bif !(y2) then
          some false
        else
          Option.bind (eqC (.list .str) a0.2.2.2 a1.2.2.2) fun (y3 : Bool) =>
          bif !(y3) then
            some false
          else
            some true := by kernel_rfl
theorem mk_laws_eqValue (hcs : ∀ x ∈ cs_laws_eqValue, CtrOk Tryz.prog x) (h : ∀ (a0 : DValue) (a1 : DValue) y, eqC TyValue a0 a1 = some y → ∃ n, F_laws_eqValue n a0 a1 = some y) : CtrOk Tryz.prog c_laws_eqValue := by
  refine ctr_of_run (c := c_laws_eqValue) (by kernel_rfl) (by kernel_rfl : Tryz.prog.funcs[122]? = some Tryz.f122) (code := Tryz.f122.body.getD .skip) (by kernel_rfl) (by kernel_rfl) (by kernel_rfl) (A := A_laws_eqValue) (I := In_laws_eqValue) hcs ?_
  rintro ⟨a0, a1, u⟩ y hy
  exact h a0 a1 y hy

theorem hcs_laws_eqValue : ∀ x ∈ cs_laws_eqValue, CtrOk Tryz.prog x := (conOf_cons ok_laws_eqAtom (conOf_cons ok_laws_eqAtomS (conOf_cons ok_laws_eqStringS conOf_nil)))
theorem ok_laws_eqValue : CtrOk Tryz.prog c_laws_eqValue := mk_laws_eqValue hcs_laws_eqValue fun a0 a1 y hy => by
  obtain ⟨rfl, hw, rfl⟩ := eqC_inv hy
  have hw2 : wfD I64 a0.1 ∧ wfD TyAtom a0.2.1 ∧ wfD (.list TyAtom) a0.2.2.1 ∧ wfD (.list .str) a0.2.2.2 := hw
  refine ⟨0, ?_⟩
  rw [F_laws_eqValue_eq]
  simp [eqC_some hw2.2.1, eqC_some hw2.2.2.1, eqC_some hw2.2.2.2]
/-! ## laws.eqValueS (63) -/
noncomputable def c_laws_eqValueS : Ctr := ⟨63, [(.list TyValue), (.list TyValue)], [.bool], fun x => eqC (.list TyValue) x.1 x.2.1⟩
def A_laws_eqValueS : List (List Nat × Ann) := [([0, 4], [.keep 0 0, .keep 0 1, .keep 0 5])]
def In_laws_eqValueS : List (List Nat × Nat) := []
noncomputable def cs_laws_eqValueS : List Ctr := [c_laws_eqValue]
noncomputable def F_laws_eqValueS (n : Nat) (a0 : (List DValue)) (a1 : (List DValue)) : Option Bool := run Tryz.prog A_laws_eqValueS In_laws_eqValueS (conOf cs_laws_eqValueS) Tryz.f63 (Tryz.f63.body.getD .skip) (packT [.bool]) n (argsV [(.list TyValue), (.list TyValue)] (a0, a1, ()))
noncomputable abbrev L_laws_eqValueS_0_4 (n : Nat) (x1 : (List DValue)) (x2 : (List DValue)) (x3 : Int) : Option Bool := lam Tryz.prog A_laws_eqValueS In_laws_eqValueS (conOf cs_laws_eqValueS) Tryz.f63 (Tryz.f63.body.getD .skip) (packT [.bool]) n [0, 4] [.d (.list TyValue) x1, .d (.list TyValue) x2, .d I64 x3]
theorem F_laws_eqValueS_eq (n : Nat) (a0 : (List DValue)) (a1 : (List DValue)) : F_laws_eqValueS n a0 a1 =
    bif !decide ((a0.length : Int) = (a1.length : Int)) then
      some false
    else
      L_laws_eqValueS_0_4 n a0 a1 0 := by kernel_rfl
theorem L_laws_eqValueS_0_4_eq (n : Nat) (x1 : (List DValue)) (x2 : (List DValue)) (x3 : Int) : L_laws_eqValueS_0_4 (n + 1) x1 x2 x3 =
    bif decide (x3 < (x1.length : Int)) then
      bif inB x3 x1.length then
        bif inB x3 x2.length then
          Option.bind (eqC TyValue (rd x1 x3 (Ty.dflt TyValue)) (rd x2 x3 (Ty.dflt TyValue))) fun (y1 : Bool) =>
          bif !(y1) then
            some false
          else
            L_laws_eqValueS_0_4 n x1 x2 (IntKind.wrap .i64 (x3 + 1))
        else none
      else none
    else
      some true := by kernel_rfl
theorem mk_laws_eqValueS (hcs : ∀ x ∈ cs_laws_eqValueS, CtrOk Tryz.prog x) (h : ∀ (a0 : (List DValue)) (a1 : (List DValue)) y, eqC (.list TyValue) a0 a1 = some y → ∃ n, F_laws_eqValueS n a0 a1 = some y) : CtrOk Tryz.prog c_laws_eqValueS := by
  refine ctr_of_run (c := c_laws_eqValueS) (by kernel_rfl) (by kernel_rfl : Tryz.prog.funcs[63]? = some Tryz.f63) (code := Tryz.f63.body.getD .skip) (by kernel_rfl) (by kernel_rfl) (by kernel_rfl) (A := A_laws_eqValueS) (I := In_laws_eqValueS) hcs ?_
  rintro ⟨a0, a1, u⟩ y hy
  exact h a0 a1 y hy

theorem hcs_laws_eqValueS : ∀ x ∈ cs_laws_eqValueS, CtrOk Tryz.prog x := (conOf_cons ok_laws_eqValue conOf_nil)
theorem ok_laws_eqValueS : CtrOk Tryz.prog c_laws_eqValueS := mk_laws_eqValueS hcs_laws_eqValueS fun a0 a1 y hy => by
  obtain ⟨n, hn⟩ := eqS_ok (t := TyValue) (body := fun x y K => Option.bind (eqC TyValue x y) fun b => bif !b then some false else K ()) (fun x K h => by simp only [eqC_some h, Option.bind_some, Bool.not_true, cond_false]) (fun n xs ys i => L_laws_eqValueS_0_4_eq n xs ys i) hy
  exact ⟨n, (F_laws_eqValueS_eq n a0 a1).trans hn⟩
/-! ## laws.eqThing (60) -/
noncomputable def c_laws_eqThing : Ctr := ⟨60, [TyThing, TyThing], [.bool], fun x => eqC TyThing x.1 x.2.1⟩
def A_laws_eqThing : List (List Nat × Ann) := []
def In_laws_eqThing : List (List Nat × Nat) := []
noncomputable def cs_laws_eqThing : List Ctr := [c_laws_eqAtom, c_laws_eqAtomS, c_laws_eqStringS, c_laws_eqValueS]
noncomputable def F_laws_eqThing (n : Nat) (a0 : DThing) (a1 : DThing) : Option Bool := run Tryz.prog A_laws_eqThing In_laws_eqThing (conOf cs_laws_eqThing) Tryz.f60 (Tryz.f60.body.getD .skip) (packT [.bool]) n (argsV [TyThing, TyThing] (a0, a1, ()))
theorem F_laws_eqThing_eq (n : Nat) (a0 : DThing) (a1 : DThing) : F_laws_eqThing n a0 a1 =
    Option.bind (eqC TyAtom a0.1 a1.1) fun (y1 : Bool) =>
    bif !(y1) then
      some false
    else
      Option.bind (eqC (.list TyAtom) a0.2.1 a1.2.1) fun (y2 : Bool) =>
      bif !(y2) then
        some false
      else
        Option.bind (eqC (.list .str) a0.2.2.1 a1.2.2.1) fun (y3 : Bool) =>
        bif !(y3) then
          some false
        else
          Option.bind (eqC (.list TyValue) a0.2.2.2 a1.2.2.2) fun (y4 : Bool) =>
          bif !(y4) then
            some false
          else
            some true := by kernel_rfl
theorem mk_laws_eqThing (hcs : ∀ x ∈ cs_laws_eqThing, CtrOk Tryz.prog x) (h : ∀ (a0 : DThing) (a1 : DThing) y, eqC TyThing a0 a1 = some y → ∃ n, F_laws_eqThing n a0 a1 = some y) : CtrOk Tryz.prog c_laws_eqThing := by
  refine ctr_of_run (c := c_laws_eqThing) (by kernel_rfl) (by kernel_rfl : Tryz.prog.funcs[60]? = some Tryz.f60) (code := Tryz.f60.body.getD .skip) (by kernel_rfl) (by kernel_rfl) (by kernel_rfl) (A := A_laws_eqThing) (I := In_laws_eqThing) hcs ?_
  rintro ⟨a0, a1, u⟩ y hy
  exact h a0 a1 y hy

theorem hcs_laws_eqThing : ∀ x ∈ cs_laws_eqThing, CtrOk Tryz.prog x := (conOf_cons ok_laws_eqAtom (conOf_cons ok_laws_eqAtomS (conOf_cons ok_laws_eqStringS (conOf_cons ok_laws_eqValueS conOf_nil))))
theorem ok_laws_eqThing : CtrOk Tryz.prog c_laws_eqThing := mk_laws_eqThing hcs_laws_eqThing fun a0 a1 y hy => by
  obtain ⟨rfl, hw, rfl⟩ := eqC_inv hy
  have hw2 : wfD TyAtom a0.1 ∧ wfD (.list TyAtom) a0.2.1 ∧ wfD (.list .str) a0.2.2.1 ∧ wfD (.list TyValue) a0.2.2.2 := hw
  refine ⟨0, ?_⟩
  rw [F_laws_eqThing_eq]
  simp [eqC_some hw2.1, eqC_some hw2.2.1, eqC_some hw2.2.2.1, eqC_some hw2.2.2.2]
/-! ## laws.eqThingS (16) -/
noncomputable def c_laws_eqThingS : Ctr := ⟨16, [(.list TyThing), (.list TyThing)], [.bool], fun x => eqC (.list TyThing) x.1 x.2.1⟩
def A_laws_eqThingS : List (List Nat × Ann) := [([0, 4], [.keep 0 0, .keep 0 1, .keep 0 5])]
def In_laws_eqThingS : List (List Nat × Nat) := []
noncomputable def cs_laws_eqThingS : List Ctr := [c_laws_eqThing]
noncomputable def F_laws_eqThingS (n : Nat) (a0 : (List DThing)) (a1 : (List DThing)) : Option Bool := run Tryz.prog A_laws_eqThingS In_laws_eqThingS (conOf cs_laws_eqThingS) Tryz.f16 (Tryz.f16.body.getD .skip) (packT [.bool]) n (argsV [(.list TyThing), (.list TyThing)] (a0, a1, ()))
noncomputable abbrev L_laws_eqThingS_0_4 (n : Nat) (x1 : (List DThing)) (x2 : (List DThing)) (x3 : Int) : Option Bool := lam Tryz.prog A_laws_eqThingS In_laws_eqThingS (conOf cs_laws_eqThingS) Tryz.f16 (Tryz.f16.body.getD .skip) (packT [.bool]) n [0, 4] [.d (.list TyThing) x1, .d (.list TyThing) x2, .d I64 x3]
theorem F_laws_eqThingS_eq (n : Nat) (a0 : (List DThing)) (a1 : (List DThing)) : F_laws_eqThingS n a0 a1 =
    bif !decide ((a0.length : Int) = (a1.length : Int)) then
      some false
    else
      L_laws_eqThingS_0_4 n a0 a1 0 := by kernel_rfl
theorem L_laws_eqThingS_0_4_eq (n : Nat) (x1 : (List DThing)) (x2 : (List DThing)) (x3 : Int) : L_laws_eqThingS_0_4 (n + 1) x1 x2 x3 =
    bif decide (x3 < (x1.length : Int)) then
      bif inB x3 x1.length then
        bif inB x3 x2.length then
          Option.bind (eqC TyThing (((rd x1 x3 (Ty.dflt TyThing)).1), ((rd x1 x3 (Ty.dflt TyThing)).2)) (((rd x2 x3 (Ty.dflt TyThing)).1), ((rd x2 x3 (Ty.dflt TyThing)).2))) fun (y1 : Bool) =>
          bif !(y1) then
            some false
          else
            L_laws_eqThingS_0_4 n x1 x2 (IntKind.wrap .i64 (x3 + 1))
        else none
      else none
    else
      some true := by kernel_rfl
theorem mk_laws_eqThingS (hcs : ∀ x ∈ cs_laws_eqThingS, CtrOk Tryz.prog x) (h : ∀ (a0 : (List DThing)) (a1 : (List DThing)) y, eqC (.list TyThing) a0 a1 = some y → ∃ n, F_laws_eqThingS n a0 a1 = some y) : CtrOk Tryz.prog c_laws_eqThingS := by
  refine ctr_of_run (c := c_laws_eqThingS) (by kernel_rfl) (by kernel_rfl : Tryz.prog.funcs[16]? = some Tryz.f16) (code := Tryz.f16.body.getD .skip) (by kernel_rfl) (by kernel_rfl) (by kernel_rfl) (A := A_laws_eqThingS) (I := In_laws_eqThingS) hcs ?_
  rintro ⟨a0, a1, u⟩ y hy
  exact h a0 a1 y hy

theorem hcs_laws_eqThingS : ∀ x ∈ cs_laws_eqThingS, CtrOk Tryz.prog x := (conOf_cons ok_laws_eqThing conOf_nil)
theorem ok_laws_eqThingS : CtrOk Tryz.prog c_laws_eqThingS := mk_laws_eqThingS hcs_laws_eqThingS fun a0 a1 y hy => by
  obtain ⟨n, hn⟩ := eqS_ok (t := TyThing) (body := fun x y K => Option.bind (eqC TyThing x y) fun b => bif !b then some false else K ()) (fun x K h => by simp only [eqC_some h, Option.bind_some, Bool.not_true, cond_false]) (fun n xs ys i => L_laws_eqThingS_0_4_eq n xs ys i) hy
  exact ⟨n, (F_laws_eqThingS_eq n a0 a1).trans hn⟩
/-! ## laws.eqRequest (17) -/
noncomputable def c_laws_eqRequest : Ctr := ⟨17, [TyRequest, TyRequest], [.bool], fun x => eqC TyRequest x.1 x.2.1⟩
def A_laws_eqRequest : List (List Nat × Ann) := []
def In_laws_eqRequest : List (List Nat × Nat) := []
noncomputable def cs_laws_eqRequest : List Ctr := [c_laws_eqAtom, c_laws_eqStringS, c_laws_eqValueS]
noncomputable def F_laws_eqRequest (n : Nat) (a0 : DRequest) (a1 : DRequest) : Option Bool := run Tryz.prog A_laws_eqRequest In_laws_eqRequest (conOf cs_laws_eqRequest) Tryz.f17 (Tryz.f17.body.getD .skip) (packT [.bool]) n (argsV [TyRequest, TyRequest] (a0, a1, ()))
theorem F_laws_eqRequest_eq (n : Nat) (a0 : DRequest) (a1 : DRequest) : F_laws_eqRequest n a0 a1 =
    Option.bind (eqC TyAtom a0.1 a1.1) fun (y1 : Bool) =>
    bif !(y1) then
      some false
    else
      Option.bind (eqC TyAtom a0.2.1 a1.2.1) fun (y2 : Bool) =>
      bif !(y2) then
        some false
      else
        Option.bind (eqC TyAtom a0.2.2.1 a1.2.2.1) fun (y3 : Bool) =>
        bif !(y3) then
          some false
        else
          Option.bind (eqC (.list .str) a0.2.2.2.1 a1.2.2.2.1) fun (y4 : Bool) =>
          bif !(y4) then
            some false
          else
            Option.bind (eqC (.list TyValue) a0.2.2.2.2 a1.2.2.2.2) fun (y5 : Bool) =>
            bif !(y5) then
              some false
            else
              some true := by kernel_rfl
theorem mk_laws_eqRequest (hcs : ∀ x ∈ cs_laws_eqRequest, CtrOk Tryz.prog x) (h : ∀ (a0 : DRequest) (a1 : DRequest) y, eqC TyRequest a0 a1 = some y → ∃ n, F_laws_eqRequest n a0 a1 = some y) : CtrOk Tryz.prog c_laws_eqRequest := by
  refine ctr_of_run (c := c_laws_eqRequest) (by kernel_rfl) (by kernel_rfl : Tryz.prog.funcs[17]? = some Tryz.f17) (code := Tryz.f17.body.getD .skip) (by kernel_rfl) (by kernel_rfl) (by kernel_rfl) (A := A_laws_eqRequest) (I := In_laws_eqRequest) hcs ?_
  rintro ⟨a0, a1, u⟩ y hy
  exact h a0 a1 y hy

theorem hcs_laws_eqRequest : ∀ x ∈ cs_laws_eqRequest, CtrOk Tryz.prog x := (conOf_cons ok_laws_eqAtom (conOf_cons ok_laws_eqStringS (conOf_cons ok_laws_eqValueS conOf_nil)))
theorem ok_laws_eqRequest : CtrOk Tryz.prog c_laws_eqRequest := mk_laws_eqRequest hcs_laws_eqRequest fun a0 a1 y hy => by
  obtain ⟨rfl, hw, rfl⟩ := eqC_inv hy
  have hw2 : wfD TyAtom a0.1 ∧ wfD TyAtom a0.2.1 ∧ wfD TyAtom a0.2.2.1 ∧ wfD (.list .str) a0.2.2.2.1 ∧ wfD (.list TyValue) a0.2.2.2.2 := hw
  refine ⟨0, ?_⟩
  rw [F_laws_eqRequest_eq]
  simp [eqC_some hw2.1, eqC_some hw2.2.1, eqC_some hw2.2.2.1, eqC_some hw2.2.2.2.1, eqC_some hw2.2.2.2.2]
/-! ## laws.FnExactGoodWorld (3) -/
noncomputable def P_laws_FnExactGoodWorld (g1 : (List ((List Int) × Int))) (a0 : DPolSchema) (a1 : (List DThing)) (a2 : DRequest) : Option Bool :=
  Option.bind (szC TyPolSchema a0 1048576) fun (y1 : Int) =>
  bif decide (y1 < 0) then
    some true
  else
    Option.bind (szC (.list TyThing) a1 y1) fun (y2 : Int) =>
    bif decide (y2 < 0) then
      some true
    else
      Option.bind (szC TyRequest a2 y2) fun (y3 : Int) =>
      bif decide (y3 < 0) then
        some true
      else
        Option.bind (toC TyPolSchema a0) fun (y4 : DPolSchema) =>
        Option.bind (toC (.list TyThing) a1) fun (y5 : (List DThing)) =>
        Option.bind (toC TyRequest a2) fun (y6 : DRequest) =>
        Option.bind (P_spec_GoodWorld y4 y5 y6) fun (y7 : Bool) =>
        Option.bind (toC TyPolSchema a0) fun (y8 : DPolSchema) =>
        Option.bind (toC (.list TyThing) a1) fun (y9 : (List DThing)) =>
        Option.bind (toC TyRequest a2) fun (y10 : DRequest) =>
        Option.bind (P_impl_GoodWorld g1 y8 y9 y10) fun (y11 : Bool) =>
        bif y11 != y7 then
          some false
        else
          Option.bind (toC TyPolSchema a0) fun (y12 : DPolSchema) =>
          Option.bind (eqC TyPolSchema y8 y12) fun (y13 : Bool) =>
          bif !(y13) then
            some false
          else
            Option.bind (toC (.list TyThing) a1) fun (y14 : (List DThing)) =>
            Option.bind (eqC (.list TyThing) y9 y14) fun (y15 : Bool) =>
            bif !(y15) then
              some false
            else
              Option.bind (toC TyRequest a2) fun (y16 : DRequest) =>
              Option.bind (eqC TyRequest y10 y16) fun (y17 : Bool) =>
              bif !(y17) then
                some false
              else
                some true
def A_laws_FnExactGoodWorld : List (List Nat × Ann) := []
def In_laws_FnExactGoodWorld : List (List Nat × Nat) := []
noncomputable def cs_laws_FnExactGoodWorld (g1 : (List ((List Int) × Int))) : List Ctr := [c_laws_szPolSchema, c_laws_szThingS, c_laws_szRequest, c_laws_toPolSchema, c_laws_toThingS, c_laws_toRequest, c_spec_GoodWorld, (c_impl_GoodWorld g1), c_laws_eqPolSchema, c_laws_eqThingS, c_laws_eqRequest]
noncomputable def F_laws_FnExactGoodWorld (g1 : (List ((List Int) × Int))) (n : Nat) (a0 : DPolSchema) (a1 : (List DThing)) (a2 : DRequest) : Option Bool := runE Tryz.prog (glOf [(1, explode (.map .str I64) g1)]) A_laws_FnExactGoodWorld In_laws_FnExactGoodWorld (conOf (cs_laws_FnExactGoodWorld g1)) Tryz.f3 (Tryz.f3.body.getD .skip) (endD Tryz.prog Tryz.f3 (packT [.bool])) n (argsV [TyPolSchema, (.list TyThing), TyRequest] (a0, a1, a2, ()))
theorem F_laws_FnExactGoodWorld_eq (g1 : (List ((List Int) × Int))) (n : Nat) (a0 : DPolSchema) (a1 : (List DThing)) (a2 : DRequest) : F_laws_FnExactGoodWorld g1 n a0 a1 a2 =
    Option.bind (szC TyPolSchema a0 1048576) fun (y1 : Int) =>
    bif decide (y1 < 0) then
      some true
    else
      Option.bind (szC (.list TyThing) a1 y1) fun (y2 : Int) =>
      bif decide (y2 < 0) then
        some true
      else
        Option.bind (szC TyRequest a2 y2) fun (y3 : Int) =>
        bif decide (y3 < 0) then
          some true
        else
          Option.bind (toC TyPolSchema a0) fun (y4 : DPolSchema) =>
          Option.bind (toC (.list TyThing) a1) fun (y5 : (List DThing)) =>
          Option.bind (toC TyRequest a2) fun (y6 : DRequest) =>
          Option.bind (P_spec_GoodWorld y4 y5 y6) fun (y7 : Bool) =>
          Option.bind (toC TyPolSchema a0) fun (y8 : DPolSchema) =>
          Option.bind (toC (.list TyThing) a1) fun (y9 : (List DThing)) =>
          Option.bind (toC TyRequest a2) fun (y10 : DRequest) =>
          Option.bind (P_impl_GoodWorld g1 y8 y9 y10) fun (y11 : Bool) =>
          bif y11 != y7 then
            some false
          else
            Option.bind (toC TyPolSchema a0) fun (y12 : DPolSchema) =>
            Option.bind (eqC TyPolSchema y8 y12) fun (y13 : Bool) =>
            bif !(y13) then
              some false
            else
              Option.bind (toC (.list TyThing) a1) fun (y14 : (List DThing)) =>
              Option.bind (eqC (.list TyThing) y9 y14) fun (y15 : Bool) =>
              bif !(y15) then
                some false
              else
                Option.bind (toC TyRequest a2) fun (y16 : DRequest) =>
                Option.bind (eqC TyRequest y10 y16) fun (y17 : Bool) =>
                bif !(y17) then
                  some false
                else
                  some true := by kernel_rfl
theorem S_laws_FnExactGoodWorld {g1 : (List ((List Int) × Int))} (a0 : DPolSchema) (a1 : (List DThing)) (a2 : DRequest) {r : Bool} (h : P_laws_FnExactGoodWorld g1 a0 a1 a2 = some r) : Ev (fun n => F_laws_FnExactGoodWorld g1 n a0 a1 a2) r := by
  rw [P_laws_FnExactGoodWorld] at h
  refine Ev.of_eq ?_ (fun n => F_laws_FnExactGoodWorld_eq g1 n a0 a1 a2)
  exact (Ev.ofBind h fun y1 h => (Ev.ofBif h (fun h => (Ev.ofSome h)) (fun h => (Ev.ofBind h fun y2 h => (Ev.ofBif h (fun h => (Ev.ofSome h)) (fun h => (Ev.ofBind h fun y3 h => (Ev.ofBif h (fun h => (Ev.ofSome h)) (fun h => (Ev.ofBind h fun y4 h => (Ev.ofBind h fun y5 h => (Ev.ofBind h fun y6 h => (Ev.ofBind h fun y7 h => (Ev.ofBind h fun y8 h => (Ev.ofBind h fun y9 h => (Ev.ofBind h fun y10 h => (Ev.ofBind h fun y11 h => (Ev.ofBif h (fun h => (Ev.ofSome h)) (fun h => (Ev.ofBind h fun y12 h => (Ev.ofBind h fun y13 h => (Ev.ofBif h (fun h => (Ev.ofSome h)) (fun h => (Ev.ofBind h fun y14 h => (Ev.ofBind h fun y15 h => (Ev.ofBif h (fun h => (Ev.ofSome h)) (fun h => (Ev.ofBind h fun y16 h => (Ev.ofBind h fun y17 h => (Ev.ofBif h (fun h => (Ev.ofSome h)) (fun h => (Ev.ofSome h))))))))))))))))))))))))))))))))

end Go.Ab
