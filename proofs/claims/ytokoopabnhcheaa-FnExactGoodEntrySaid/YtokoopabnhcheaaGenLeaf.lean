/-
  What the functions of entries come to: made by a program from the translated code, closed by the kernel.
-/
import Derived.Test.YtokoopabnhcheaaGoodEntryFn
import Derived.Test.YtokoopabnhcheaaProg
import Derived.KernelRfl
namespace Go.Ab
open Go.Proofs
set_option maxRecDepth 20000

abbrev I64 : Ty := .int .i64
abbrev U8 : Ty := .int .u8
abbrev TyboundsError : Ty := (.pair I64 (.pair I64 (.pair .bool U8)))
abbrev DboundsError : Type := (Int × (Int × (Bool × Int)))
abbrev TyerrorAddressString : Ty := (.pair .str (.int .u64))
abbrev DerrorAddressString : Type := ((List Int) × Int)
abbrev TySig : Ty := (.pair I64 I64)
abbrev DSig : Type := (Int × Int)
abbrev TyThrottle : Ty := (.pair I64 (.pair I64 I64))
abbrev DThrottle : Type := (Int × (Int × Int))
abbrev TyTry : Ty := (.pair I64 .bool)
abbrev DTry : Type := (Int × Bool)
abbrev TyStored : Ty := (.pair (.list U8) (.pair I64 (.list U8)))
abbrev DStored : Type := ((List Int) × (Int × (List Int)))
abbrev TyAnswer : Ty := (.pair .str (.pair I64 (.pair I64 I64)))
abbrev DAnswer : Type := ((List Int) × (Int × (Int × Int)))
abbrev TyPart : Ty := (.pair .str .str)
abbrev DPart : Type := ((List Int) × (List Int))
abbrev TyAttr : Ty := (.pair .str (.list .str))
abbrev DAttr : Type := ((List Int) × (List (List Int)))
abbrev TyEntry : Ty := (.pair (.list TyPart) (.list TyAttr))
abbrev DEntry : Type := ((List DPart) × (List DAttr))

/-! ## spec.l1Digit (85) -/
noncomputable def c85 : Ctr := ⟨85, [U8], [.bool], fun x => some (isDigit x.1)⟩
def A85 : List (List Nat × Ann) := []
def In85 : List (List Nat × Nat) := []
noncomputable def cs85 : List Ctr := []
noncomputable def F85 (n : Nat) (a0 : Int) : Option Bool := run Try.prog A85 In85 (conOf cs85) Try.f85 (Try.f85.body.getD .skip) (packT [.bool]) n (argsV [U8] (a0, ()))
theorem F85_eq (n : Nat) (a0 : Int) : F85 n a0 =
    bif decide ((48 : Int) ≤ a0) then
      some (decide (a0 ≤ 57))
    else
      some false := by kernel_rfl
theorem mk85 (hcs : ∀ x ∈ cs85, CtrOk Try.prog x) (h : ∀ (a0 : Int), ∃ n, F85 n a0 = some (isDigit a0)) : CtrOk Try.prog c85 := by
  refine ctr_of_run (c := c85) (by kernel_rfl : Try.prog.funcs[85]? = some Try.f85) (code := Try.f85.body.getD .skip) (by kernel_rfl) (by kernel_rfl) (by kernel_rfl) (A := A85) (I := In85) hcs ?_
  rintro ⟨a0, u⟩ y hy
  obtain ⟨n, hn⟩ := h a0
  exact ⟨n, hn.trans hy⟩

/-! ## spec.l1Letter (86) -/
noncomputable def c86 : Ctr := ⟨86, [U8], [.bool], fun x => some (isLetter x.1)⟩
def A86 : List (List Nat × Ann) := []
def In86 : List (List Nat × Nat) := []
noncomputable def cs86 : List Ctr := []
noncomputable def F86 (n : Nat) (a0 : Int) : Option Bool := run Try.prog A86 In86 (conOf cs86) Try.f86 (Try.f86.body.getD .skip) (packT [.bool]) n (argsV [U8] (a0, ()))
theorem F86_eq (n : Nat) (a0 : Int) : F86 n a0 =
    bif decide ((97 : Int) ≤ a0) then
      bif decide (a0 ≤ 122) then
        some true
      else
        bif decide ((65 : Int) ≤ a0) then
          some (decide (a0 ≤ 90))
        else
          some false
    else
      bif decide ((65 : Int) ≤ a0) then
        some (decide (a0 ≤ 90))
      else
        some false := by kernel_rfl
theorem mk86 (hcs : ∀ x ∈ cs86, CtrOk Try.prog x) (h : ∀ (a0 : Int), ∃ n, F86 n a0 = some (isLetter a0)) : CtrOk Try.prog c86 := by
  refine ctr_of_run (c := c86) (by kernel_rfl : Try.prog.funcs[86]? = some Try.f86) (code := Try.f86.body.getD .skip) (by kernel_rfl) (by kernel_rfl) (by kernel_rfl) (A := A86) (I := In86) hcs ?_
  rintro ⟨a0, u⟩ y hy
  obtain ⟨n, hn⟩ := h a0
  exact ⟨n, hn.trans hy⟩

/-! ## spec.l1CmpNum (87) -/
noncomputable def c87 : Ctr := ⟨87, [I64, I64], [I64], fun x => some (cmpNum x.1 x.2.1)⟩
def A87 : List (List Nat × Ann) := []
def In87 : List (List Nat × Nat) := []
noncomputable def cs87 : List Ctr := []
noncomputable def F87 (n : Nat) (a0 : Int) (a1 : Int) : Option Int := run Try.prog A87 In87 (conOf cs87) Try.f87 (Try.f87.body.getD .skip) (packT [I64]) n (argsV [I64, I64] (a0, a1, ()))
theorem F87_eq (n : Nat) (a0 : Int) (a1 : Int) : F87 n a0 a1 =
    bif decide (a0 < a1) then
      some (-1)
    else
      bif decide (a1 < a0) then
        some 1
      else
        some 0 := by kernel_rfl
theorem mk87 (hcs : ∀ x ∈ cs87, CtrOk Try.prog x) (h : ∀ (a0 : Int) (a1 : Int), ∃ n, F87 n a0 a1 = some (cmpNum a0 a1)) : CtrOk Try.prog c87 := by
  refine ctr_of_run (c := c87) (by kernel_rfl : Try.prog.funcs[87]? = some Try.f87) (code := Try.f87.body.getD .skip) (by kernel_rfl) (by kernel_rfl) (by kernel_rfl) (A := A87) (I := In87) hcs ?_
  rintro ⟨a0, a1, u⟩ y hy
  obtain ⟨n, hn⟩ := h a0 a1
  exact ⟨n, hn.trans hy⟩

/-! ## impl.ydigit (105) -/
noncomputable def c105 : Ctr := ⟨105, [U8], [.bool], fun x => some (isDigit x.1)⟩
def A105 : List (List Nat × Ann) := []
def In105 : List (List Nat × Nat) := []
noncomputable def cs105 : List Ctr := []
noncomputable def F105 (n : Nat) (a0 : Int) : Option Bool := run Try.prog A105 In105 (conOf cs105) Try.f105 (Try.f105.body.getD .skip) (packT [.bool]) n (argsV [U8] (a0, ()))
theorem F105_eq (n : Nat) (a0 : Int) : F105 n a0 =
    bif decide ((48 : Int) ≤ a0) then
      some (decide (a0 ≤ 57))
    else
      some false := by kernel_rfl
theorem mk105 (hcs : ∀ x ∈ cs105, CtrOk Try.prog x) (h : ∀ (a0 : Int), ∃ n, F105 n a0 = some (isDigit a0)) : CtrOk Try.prog c105 := by
  refine ctr_of_run (c := c105) (by kernel_rfl : Try.prog.funcs[105]? = some Try.f105) (code := Try.f105.body.getD .skip) (by kernel_rfl) (by kernel_rfl) (by kernel_rfl) (A := A105) (I := In105) hcs ?_
  rintro ⟨a0, u⟩ y hy
  obtain ⟨n, hn⟩ := h a0
  exact ⟨n, hn.trans hy⟩

/-! ## impl.yletter (108) -/
noncomputable def c108 : Ctr := ⟨108, [U8], [.bool], fun x => some (isLetter x.1)⟩
def A108 : List (List Nat × Ann) := []
def In108 : List (List Nat × Nat) := []
noncomputable def cs108 : List Ctr := []
noncomputable def F108 (n : Nat) (a0 : Int) : Option Bool := run Try.prog A108 In108 (conOf cs108) Try.f108 (Try.f108.body.getD .skip) (packT [.bool]) n (argsV [U8] (a0, ()))
theorem F108_eq (n : Nat) (a0 : Int) : F108 n a0 =
    bif decide ((97 : Int) ≤ a0) then
      bif decide (a0 ≤ 122) then
        some true
      else
        bif decide ((65 : Int) ≤ a0) then
          some (decide (a0 ≤ 90))
        else
          some false
    else
      bif decide ((65 : Int) ≤ a0) then
        some (decide (a0 ≤ 90))
      else
        some false := by kernel_rfl
theorem mk108 (hcs : ∀ x ∈ cs108, CtrOk Try.prog x) (h : ∀ (a0 : Int), ∃ n, F108 n a0 = some (isLetter a0)) : CtrOk Try.prog c108 := by
  refine ctr_of_run (c := c108) (by kernel_rfl : Try.prog.funcs[108]? = some Try.f108) (code := Try.f108.body.getD .skip) (by kernel_rfl) (by kernel_rfl) (by kernel_rfl) (A := A108) (I := In108) hcs ?_
  rintro ⟨a0, u⟩ y hy
  obtain ⟨n, hn⟩ := h a0
  exact ⟨n, hn.trans hy⟩

/-! ## impl.ywordByte (106) -/
noncomputable def c106 : Ctr := ⟨106, [U8], [.bool], fun x => some (isWord x.1)⟩
def A106 : List (List Nat × Ann) := []
def In106 : List (List Nat × Nat) := []
noncomputable def cs106 : List Ctr := [c108, c105]
noncomputable def F106 (n : Nat) (a0 : Int) : Option Bool := run Try.prog A106 In106 (conOf cs106) Try.f106 (Try.f106.body.getD .skip) (packT [.bool]) n (argsV [U8] (a0, ()))
theorem F106_eq (n : Nat) (a0 : Int) : F106 n a0 =
    bif isLetter a0 then
      some true
    else
      bif isDigit a0 then
        some true
      else
        some (decide (a0 = 95)) := by kernel_rfl
theorem mk106 (hcs : ∀ x ∈ cs106, CtrOk Try.prog x) (h : ∀ (a0 : Int), ∃ n, F106 n a0 = some (isWord a0)) : CtrOk Try.prog c106 := by
  refine ctr_of_run (c := c106) (by kernel_rfl : Try.prog.funcs[106]? = some Try.f106) (code := Try.f106.body.getD .skip) (by kernel_rfl) (by kernel_rfl) (by kernel_rfl) (A := A106) (I := In106) hcs ?_
  rintro ⟨a0, u⟩ y hy
  obtain ⟨n, hn⟩ := h a0
  exact ⟨n, hn.trans hy⟩

/-! ## spec.GoodName (61) -/
noncomputable def c61 : Ctr := ⟨61, [.str], [.bool], fun x => need (wfA [.str] x) (goodName x.1)⟩
def A61 : List (List Nat × Ann) := [([0, 4], [.keep 0 0, .keep 0 3])]
def In61 : List (List Nat × Nat) := []
noncomputable def cs61 : List Ctr := [c85, c86]
noncomputable def F61 (n : Nat) (a0 : (List Int)) : Option Bool := run Try.prog A61 In61 (conOf cs61) Try.f61 (Try.f61.body.getD .skip) (packT [.bool]) n (argsV [.str] (a0, ()))
noncomputable def L61_0_4 (n : Nat) (x1 : (List Int)) (x2 : Int) : Option Bool := lam Try.prog A61 In61 (conOf cs61) Try.f61 (Try.f61.body.getD .skip) (packT [.bool]) n [0, 4] [.d .str x1, .d I64 x2]
theorem F61_eq (n : Nat) (a0 : (List Int)) : F61 n a0 =
    bif decide ((a0.length : Int) < 1) then
      some false
    else
      bif decide ((30 : Int) < (a0.length : Int)) then
        some false
      else
        bif inB 0 a0.length then
          bif isDigit (rd a0 0 0) then
            some false
          else
            L61_0_4 n a0 0
        else none := by kernel_rfl
theorem L61_0_4_eq (n : Nat) (x1 : (List Int)) (x2 : Int) : L61_0_4 (n + 1) x1 x2 =
    bif decide (x2 < (x1.length : Int)) then
      bif inB x2 x1.length then
        bif !(isLetter (rd x1 x2 0)) then
          bif inB x2 x1.length then
            bif !(isDigit (rd x1 x2 0)) then
              bif inB x2 x1.length then
                bif !decide (rd x1 x2 0 = 95) then
                  some false
                else
                  L61_0_4 n x1 (IntKind.wrap .i64 (x2 + 1))
              else none
            else
              L61_0_4 n x1 (IntKind.wrap .i64 (x2 + 1))
          else none
        else
          L61_0_4 n x1 (IntKind.wrap .i64 (x2 + 1))
      else none
    else
      some true := by kernel_rfl
theorem mk61 (hcs : ∀ x ∈ cs61, CtrOk Try.prog x) (h : ∀ (a0 : (List Int)), wfA [.str] (a0, ()) → ∃ n, F61 n a0 = some (goodName a0)) : CtrOk Try.prog c61 := by
  refine ctr_of_run (c := c61) (by kernel_rfl : Try.prog.funcs[61]? = some Try.f61) (code := Try.f61.body.getD .skip) (by kernel_rfl) (by kernel_rfl) (by kernel_rfl) (A := A61) (I := In61) hcs ?_
  rintro ⟨a0, u⟩ y hy
  obtain ⟨hw, e⟩ := need_inv hy
  obtain ⟨n, hn⟩ := h a0 hw
  exact ⟨n, hn.trans (congrArg some e.symm)⟩

/-! ## impl.GoodName (93) -/
noncomputable def c93 : Ctr := ⟨93, [.str], [.bool], fun x => need (wfA [.str] x) (goodName x.1)⟩
def A93 : List (List Nat × Ann) := [([0, 4], [.keep 0 0, .keep 0 17, .keep 0 18])]
def In93 : List (List Nat × Nat) := []
noncomputable def cs93 : List Ctr := [c105, c106]
noncomputable def F93 (n : Nat) (a0 : (List Int)) : Option Bool := run Try.prog A93 In93 (conOf cs93) Try.f93 (Try.f93.body.getD .skip) (packT [.bool]) n (argsV [.str] (a0, ()))
noncomputable def L93_0_4 (n : Nat) (x1 : (List Int)) (x2 : Int) (x3 : Int) : Option Bool := lam Try.prog A93 In93 (conOf cs93) Try.f93 (Try.f93.body.getD .skip) (packT [.bool]) n [0, 4] [.d .str x1, .d I64 x2, .d I64 x3]
theorem F93_eq (n : Nat) (a0 : (List Int)) : F93 n a0 =
    bif decide (a0 = ([] : List Int)) then
      some false
    else
      bif decide ((30 : Int) < (a0.length : Int)) then
        some false
      else
        bif inB 0 a0.length then
          bif isDigit (rd a0 0 0) then
            some false
          else
            L93_0_4 n a0 (a0.length : Int) 0
        else none := by kernel_rfl
theorem L93_0_4_eq (n : Nat) (x1 : (List Int)) (x2 : Int) (x3 : Int) : L93_0_4 (n + 1) x1 x2 x3 =
    bif decide (x3 < x2) then
      bif inB x3 x1.length then
        bif !(isWord (rd x1 x3 0)) then
          some false
        else
          L93_0_4 n x1 x2 (IntKind.wrap .i64 (x3 + 1))
      else none
    else
      some true := by kernel_rfl
theorem mk93 (hcs : ∀ x ∈ cs93, CtrOk Try.prog x) (h : ∀ (a0 : (List Int)), wfA [.str] (a0, ()) → ∃ n, F93 n a0 = some (goodName a0)) : CtrOk Try.prog c93 := by
  refine ctr_of_run (c := c93) (by kernel_rfl : Try.prog.funcs[93]? = some Try.f93) (code := Try.f93.body.getD .skip) (by kernel_rfl) (by kernel_rfl) (by kernel_rfl) (A := A93) (I := In93) hcs ?_
  rintro ⟨a0, u⟩ y hy
  obtain ⟨hw, e⟩ := need_inv hy
  obtain ⟨n, hn⟩ := h a0 hw
  exact ⟨n, hn.trans (congrArg some e.symm)⟩

/-! ## spec.l1CmpText (62) -/
noncomputable def c62 : Ctr := ⟨62, [.str, .str], [I64], fun x => need (wfA [.str, .str] x) (cmpText x.1 x.2.1)⟩
def A62 : List (List Nat × Ann) := [([0, 2], [.keep 0 0, .keep 0 1, .keep 0 5])]
def In62 : List (List Nat × Nat) := []
noncomputable def cs62 : List Ctr := [c87]
noncomputable def F62 (n : Nat) (a0 : (List Int)) (a1 : (List Int)) : Option Int := run Try.prog A62 In62 (conOf cs62) Try.f62 (Try.f62.body.getD .skip) (packT [I64]) n (argsV [.str, .str] (a0, a1, ()))
noncomputable def L62_0_2 (n : Nat) (x1 : (List Int)) (x2 : (List Int)) (x3 : Int) : Option Int := lam Try.prog A62 In62 (conOf cs62) Try.f62 (Try.f62.body.getD .skip) (packT [I64]) n [0, 2] [.d .str x1, .d .str x2, .d I64 x3]
theorem F62_eq (n : Nat) (a0 : (List Int)) (a1 : (List Int)) : F62 n a0 a1 =
    L62_0_2 n a0 a1 0 := by kernel_rfl
theorem L62_0_2_eq (n : Nat) (x1 : (List Int)) (x2 : (List Int)) (x3 : Int) : L62_0_2 (n + 1) x1 x2 x3 =
    bif decide (x3 < (x1.length : Int)) then
      bif decide (x3 < (x2.length : Int)) then
        bif inB x3 x1.length then
          bif inB x3 x2.length then
            bif !decide (rd x1 x3 0 = rd x2 x3 0) then
              bif inB x3 x1.length then
                bif inB x3 x2.length then
                  some (cmpNum (IntKind.wrap .i64 (rd x1 x3 0)) (IntKind.wrap .i64 (rd x2 x3 0)))
                else none
              else none
            else
              L62_0_2 n x1 x2 (IntKind.wrap .i64 (x3 + 1))
          else none
        else none
      else
        some (cmpNum (x1.length : Int) (x2.length : Int))
    else
      some (cmpNum (x1.length : Int) (x2.length : Int)) := by kernel_rfl
theorem mk62 (hcs : ∀ x ∈ cs62, CtrOk Try.prog x) (h : ∀ (a0 : (List Int)) (a1 : (List Int)), wfA [.str, .str] (a0, a1, ()) → ∃ n, F62 n a0 a1 = some (cmpText a0 a1)) : CtrOk Try.prog c62 := by
  refine ctr_of_run (c := c62) (by kernel_rfl : Try.prog.funcs[62]? = some Try.f62) (code := Try.f62.body.getD .skip) (by kernel_rfl) (by kernel_rfl) (by kernel_rfl) (A := A62) (I := In62) hcs ?_
  rintro ⟨a0, a1, u⟩ y hy
  obtain ⟨hw, e⟩ := need_inv hy
  obtain ⟨n, hn⟩ := h a0 a1 hw
  exact ⟨n, hn.trans (congrArg some e.symm)⟩

/-! ## spec.l1Printed (64) -/
noncomputable def c64 : Ctr := ⟨64, [.str], [.bool], fun x => need (wfA [.str] x) (printed x.1)⟩
def A64 : List (List Nat × Ann) := [([0, 2], [.keep 0 0, .keep 0 3])]
def In64 : List (List Nat × Nat) := []
noncomputable def cs64 : List Ctr := []
noncomputable def F64 (n : Nat) (a0 : (List Int)) : Option Bool := run Try.prog A64 In64 (conOf cs64) Try.f64 (Try.f64.body.getD .skip) (packT [.bool]) n (argsV [.str] (a0, ()))
noncomputable def L64_0_2 (n : Nat) (x1 : (List Int)) (x2 : Int) : Option Bool := lam Try.prog A64 In64 (conOf cs64) Try.f64 (Try.f64.body.getD .skip) (packT [.bool]) n [0, 2] [.d .str x1, .d I64 x2]
theorem F64_eq (n : Nat) (a0 : (List Int)) : F64 n a0 =
    L64_0_2 n a0 0 := by kernel_rfl
theorem L64_0_2_eq (n : Nat) (x1 : (List Int)) (x2 : Int) : L64_0_2 (n + 1) x1 x2 =
    bif decide (x2 < (x1.length : Int)) then
      bif inB x2 x1.length then
        bif decide (rd x1 x2 0 < 32) then
          some false
        else
          bif inB x2 x1.length then
            bif decide ((126 : Int) < rd x1 x2 0) then
              some false
            else
              L64_0_2 n x1 (IntKind.wrap .i64 (x2 + 1))
          else none
      else none
    else
      some true := by kernel_rfl
theorem mk64 (hcs : ∀ x ∈ cs64, CtrOk Try.prog x) (h : ∀ (a0 : (List Int)), wfA [.str] (a0, ()) → ∃ n, F64 n a0 = some (printed a0)) : CtrOk Try.prog c64 := by
  refine ctr_of_run (c := c64) (by kernel_rfl : Try.prog.funcs[64]? = some Try.f64) (code := Try.f64.body.getD .skip) (by kernel_rfl) (by kernel_rfl) (by kernel_rfl) (A := A64) (I := In64) hcs ?_
  rintro ⟨a0, u⟩ y hy
  obtain ⟨hw, e⟩ := need_inv hy
  obtain ⟨n, hn⟩ := h a0 hw
  exact ⟨n, hn.trans (congrArg some e.symm)⟩

/-! ## impl.yprinted (95) -/
noncomputable def c95 : Ctr := ⟨95, [.str, I64, I64], [.bool], fun x => need (wfA [.str, I64, I64] x) (printedIn x.1 x.2.1 x.2.2.1)⟩
def A95 : List (List Nat × Ann) := [([0, 4], [.keep 0 0, .keep 0 19, .keep 0 20])]
def In95 : List (List Nat × Nat) := []
noncomputable def cs95 : List Ctr := []
noncomputable def F95 (n : Nat) (a0 : (List Int)) (a1 : Int) (a2 : Int) : Option Bool := run Try.prog A95 In95 (conOf cs95) Try.f95 (Try.f95.body.getD .skip) (packT [.bool]) n (argsV [.str, I64, I64] (a0, a1, a2, ()))
noncomputable def L95_0_4 (n : Nat) (x1 : (List Int)) (x2 : Int) (x3 : Int) : Option Bool := lam Try.prog A95 In95 (conOf cs95) Try.f95 (Try.f95.body.getD .skip) (packT [.bool]) n [0, 4] [.d .str x1, .d I64 x2, .d I64 x3]
theorem F95_eq (n : Nat) (a0 : (List Int)) (a1 : Int) (a2 : Int) : F95 n a0 a1 a2 =
    bif decide ((a0.length : Int) < a1) then
      some false
    else
      bif decide (a2 < (a0.length : Int)) then
        some false
      else
        L95_0_4 n a0 (a0.length : Int) 0 := by kernel_rfl
theorem L95_0_4_eq (n : Nat) (x1 : (List Int)) (x2 : Int) (x3 : Int) : L95_0_4 (n + 1) x1 x2 x3 =
    bif decide (x3 < x2) then
      bif inB x3 x1.length then
        bif decide (rd x1 x3 0 < 32) then
          some false
        else
          bif inB x3 x1.length then
            bif decide ((126 : Int) < rd x1 x3 0) then
              some false
            else
              L95_0_4 n x1 x2 (IntKind.wrap .i64 (x3 + 1))
          else none
      else none
    else
      some true := by kernel_rfl
theorem mk95 (hcs : ∀ x ∈ cs95, CtrOk Try.prog x) (h : ∀ (a0 : (List Int)) (a1 : Int) (a2 : Int), wfA [.str, I64, I64] (a0, a1, a2, ()) → ∃ n, F95 n a0 a1 a2 = some (printedIn a0 a1 a2)) : CtrOk Try.prog c95 := by
  refine ctr_of_run (c := c95) (by kernel_rfl : Try.prog.funcs[95]? = some Try.f95) (code := Try.f95.body.getD .skip) (by kernel_rfl) (by kernel_rfl) (by kernel_rfl) (A := A95) (I := In95) hcs ?_
  rintro ⟨a0, a1, a2, u⟩ y hy
  obtain ⟨hw, e⟩ := need_inv hy
  obtain ⟨n, hn⟩ := h a0 a1 a2 hw
  exact ⟨n, hn.trans (congrArg some e.symm)⟩

/-! ## spec.l3Rising (63) -/
noncomputable def c63 : Ctr := ⟨63, [(.list .str)], [.bool], fun x => need (wfA [(.list .str)] x) (rising x.1)⟩
def A63 : List (List Nat × Ann) := [([0, 2], [.keep 0 0, .keep 0 3])]
def In63 : List (List Nat × Nat) := []
noncomputable def cs63 : List Ctr := [c62]
noncomputable def F63 (n : Nat) (a0 : (List (List Int))) : Option Bool := run Try.prog A63 In63 (conOf cs63) Try.f63 (Try.f63.body.getD .skip) (packT [.bool]) n (argsV [(.list .str)] (a0, ()))
noncomputable def L63_0_2 (n : Nat) (x1 : (List (List Int))) (x2 : Int) : Option Bool := lam Try.prog A63 In63 (conOf cs63) Try.f63 (Try.f63.body.getD .skip) (packT [.bool]) n [0, 2] [.d (.list .str) x1, .d I64 x2]
theorem F63_eq (n : Nat) (a0 : (List (List Int))) : F63 n a0 =
    L63_0_2 n a0 1 := by kernel_rfl
theorem L63_0_2_eq (n : Nat) (x1 : (List (List Int))) (x2 : Int) : L63_0_2 (n + 1) x1 x2 =
    bif decide (x2 < (x1.length : Int)) then
      bif inB (IntKind.wrap .i64 (x2 - 1)) x1.length then
        bif inB x2 x1.length then
          Option.bind (need (wfA [.str, .str] ((rd x1 (IntKind.wrap .i64 (x2 - 1)) (Ty.dflt .str)), (rd x1 x2 (Ty.dflt .str)), ())) (cmpText (rd x1 (IntKind.wrap .i64 (x2 - 1)) (Ty.dflt .str)) (rd x1 x2 (Ty.dflt .str)))) fun (y1 : Int) =>
          bif decide ((0 : Int) ≤ y1) then
            some false
          else
            L63_0_2 n x1 (IntKind.wrap .i64 (x2 + 1))
        else none
      else none
    else
      some true := by kernel_rfl
theorem mk63 (hcs : ∀ x ∈ cs63, CtrOk Try.prog x) (h : ∀ (a0 : (List (List Int))), wfA [(.list .str)] (a0, ()) → ∃ n, F63 n a0 = some (rising a0)) : CtrOk Try.prog c63 := by
  refine ctr_of_run (c := c63) (by kernel_rfl : Try.prog.funcs[63]? = some Try.f63) (code := Try.f63.body.getD .skip) (by kernel_rfl) (by kernel_rfl) (by kernel_rfl) (A := A63) (I := In63) hcs ?_
  rintro ⟨a0, u⟩ y hy
  obtain ⟨hw, e⟩ := need_inv hy
  obtain ⟨n, hn⟩ := h a0 hw
  exact ⟨n, hn.trans (congrArg some e.symm)⟩

/-! ## impl.yrising (94) -/
noncomputable def c94 : Ctr := ⟨94, [(.list .str)], [.bool], fun x => need (wfA [(.list .str)] x) (rising x.1)⟩
def A94 : List (List Nat × Ann) := [([0, 2], [.keep 0 0, .keep 0 5, .keep 0 6, .keep 0 7])]
def In94 : List (List Nat × Nat) := []
noncomputable def cs94 : List Ctr := []
noncomputable def F94 (n : Nat) (a0 : (List (List Int))) : Option Bool := run Try.prog A94 In94 (conOf cs94) Try.f94 (Try.f94.body.getD .skip) (packT [.bool]) n (argsV [(.list .str)] (a0, ()))
noncomputable def L94_0_2 (n : Nat) (x1 : (List (List Int))) (x2 : (List (List Int))) (x3 : Int) (x4 : Int) : Option Bool := lam Try.prog A94 In94 (conOf cs94) Try.f94 (Try.f94.body.getD .skip) (packT [.bool]) n [0, 2] [.d (.list .str) x1, .d (.list .str) x2, .d I64 x3, .d I64 x4]
theorem F94_eq (n : Nat) (a0 : (List (List Int))) : F94 n a0 =
    L94_0_2 n a0 a0 (a0.length : Int) 0 := by kernel_rfl
theorem L94_0_2_eq (n : Nat) (x1 : (List (List Int))) (x2 : (List (List Int))) (x3 : Int) (x4 : Int) : L94_0_2 (n + 1) x1 x2 x3 x4 =
    bif decide (x4 < x3) then
      bif inB x4 x2.length then
        bif decide ((0 : Int) < x4) then
          bif inB (IntKind.wrap .i64 (x4 - 1)) x1.length then
            bif !lessI (rd x1 (IntKind.wrap .i64 (x4 - 1)) (Ty.dflt .str)) (rd x2 x4 (Ty.dflt .str)) then
              some false
            else
              L94_0_2 n x1 x2 x3 (IntKind.wrap .i64 (x4 + 1))
          else none
        else
          L94_0_2 n x1 x2 x3 (IntKind.wrap .i64 (x4 + 1))
      else none
    else
      some true := by kernel_rfl
theorem mk94 (hcs : ∀ x ∈ cs94, CtrOk Try.prog x) (h : ∀ (a0 : (List (List Int))), wfA [(.list .str)] (a0, ()) → ∃ n, F94 n a0 = some (rising a0)) : CtrOk Try.prog c94 := by
  refine ctr_of_run (c := c94) (by kernel_rfl : Try.prog.funcs[94]? = some Try.f94) (code := Try.f94.body.getD .skip) (by kernel_rfl) (by kernel_rfl) (by kernel_rfl) (A := A94) (I := In94) hcs ?_
  rintro ⟨a0, u⟩ y hy
  obtain ⟨hw, e⟩ := need_inv hy
  obtain ⟨n, hn⟩ := h a0 hw
  exact ⟨n, hn.trans (congrArg some e.symm)⟩

end Go.Ab
