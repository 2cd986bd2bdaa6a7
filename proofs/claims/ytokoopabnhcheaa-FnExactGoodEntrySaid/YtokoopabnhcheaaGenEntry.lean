/-
  What the functions of entries come to: made by a program from the translated code, closed by the kernel.
-/
import Derived.Test.YtokoopabnhcheaaEntryFn
namespace Go.Ab
open Go.Proofs
set_option maxRecDepth 20000

/-! ## impl.ygoodPart (92) -/
noncomputable def c92 : Ctr := ⟨92, [TyPart, I64], [.bool], fun x => need (wfA [TyPart, I64] x) (goodPart x.1 x.2.1)⟩
def A92 : List (List Nat × Ann) := []
def In92 : List (List Nat × Nat) := []
noncomputable def cs92 : List Ctr := [c93, c95]
noncomputable def F92 (n : Nat) (a0 : DPart) (a1 : Int) : Option Bool := run Try.prog A92 In92 (conOf cs92) Try.f92 (Try.f92.body.getD .skip) (packT [.bool]) n (argsV [TyPart, I64] (a0, a1, ()))
theorem F92_eq (n : Nat) (a0 : DPart) (a1 : Int) : F92 n a0 a1 =
    Option.bind (need (wfA [.str] (a0.1, ())) (goodName a0.1)) fun (y1 : Bool) =>
    bif y1 then
      Option.bind (need (wfA [.str, I64, I64] (a0.2, 1, a1, ())) (printedIn a0.2 1 a1)) fun (y2 : Bool) =>
      some y2
    else
      some false := by kernel_rfl
theorem mk92 (hcs : ∀ x ∈ cs92, CtrOk Try.prog x) (h : ∀ (a0 : DPart) (a1 : Int), wfA [TyPart, I64] (a0, a1, ()) → ∃ n, F92 n a0 a1 = some (goodPart a0 a1)) : CtrOk Try.prog c92 := by
  refine ctr_of_run (c := c92) (by kernel_rfl : Try.prog.funcs[92]? = some Try.f92) (code := Try.f92.body.getD .skip) (by kernel_rfl) (by kernel_rfl) (by kernel_rfl) (A := A92) (I := In92) hcs ?_
  rintro ⟨a0, a1, u⟩ y hy
  obtain ⟨hw, e⟩ := need_inv hy
  obtain ⟨n, hn⟩ := h a0 a1 hw
  exact ⟨n, hn.trans (congrArg some e.symm)⟩

/-! ## spec.GoodDirName (60) -/
noncomputable def c60 : Ctr := ⟨60, [(.list TyPart)], [.bool], fun x => need (wfA [(.list TyPart)] x) (goodDirName x.1)⟩
def A60 : List (List Nat × Ann) := [([0, 2], [.keep 0 0, .keep 0 5, .keep 0 6, .keep 0 7])]
def In60 : List (List Nat × Nat) := []
noncomputable def cs60 : List Ctr := [c61, c64]
noncomputable def F60 (n : Nat) (a0 : (List DPart)) : Option Bool := run Try.prog A60 In60 (conOf cs60) Try.f60 (Try.f60.body.getD .skip) (packT [.bool]) n (argsV [(.list TyPart)] (a0, ()))
noncomputable def L60_0_2 (n : Nat) (x1 : (List DPart)) (x2 : (List DPart)) (x3 : Int) (x4 : Int) : Option Bool := lam Try.prog A60 In60 (conOf cs60) Try.f60 (Try.f60.body.getD .skip) (packT [.bool]) n [0, 2] [.d (.list TyPart) x1, .d (.list TyPart) x2, .d I64 x3, .d I64 x4]
theorem F60_eq (n : Nat) (a0 : (List DPart)) : F60 n a0 =
    L60_0_2 n a0 a0 (a0.length : Int) 0 := by kernel_rfl
theorem L60_0_2_eq (n : Nat) (x1 : (List DPart)) (x2 : (List DPart)) (x3 : Int) (x4 : Int) : L60_0_2 (n + 1) x1 x2 x3 x4 =
    bif decide (x4 < x3) then
      bif inB x4 x2.length then
        Option.bind (need (wfA [.str] (((rd x2 x4 (Ty.dflt TyPart)).1), ())) (goodName ((rd x2 x4 (Ty.dflt TyPart)).1))) fun (y1 : Bool) =>
        bif !(y1) then
          some false
        else
          bif decide ((((rd x2 x4 (Ty.dflt TyPart)).2).length : Int) < 1) then
            some false
          else
            bif decide ((60 : Int) < (((rd x2 x4 (Ty.dflt TyPart)).2).length : Int)) then
              some false
            else
              Option.bind (need (wfA [.str] (((rd x2 x4 (Ty.dflt TyPart)).2), ())) (printed ((rd x2 x4 (Ty.dflt TyPart)).2))) fun (y2 : Bool) =>
              bif !(y2) then
                some false
              else
                L60_0_2 n x1 x2 x3 (IntKind.wrap .i64 (x4 + 1))
      else none
    else
      some (decide ((x1.length : Int) ≤ 8)) := by kernel_rfl
theorem mk60 (hcs : ∀ x ∈ cs60, CtrOk Try.prog x) (h : ∀ (a0 : (List DPart)), wfA [(.list TyPart)] (a0, ()) → ∃ n, F60 n a0 = some (goodDirName a0)) : CtrOk Try.prog c60 := by
  refine ctr_of_run (c := c60) (by kernel_rfl : Try.prog.funcs[60]? = some Try.f60) (code := Try.f60.body.getD .skip) (by kernel_rfl) (by kernel_rfl) (by kernel_rfl) (A := A60) (I := In60) hcs ?_
  rintro ⟨a0, u⟩ y hy
  obtain ⟨hw, e⟩ := need_inv hy
  obtain ⟨n, hn⟩ := h a0 hw
  exact ⟨n, hn.trans (congrArg some e.symm)⟩

/-! ## impl.GoodDirName (67) -/
noncomputable def c67 : Ctr := ⟨67, [(.list TyPart)], [.bool], fun x => need (wfA [(.list TyPart)] x) (goodDirName x.1)⟩
def A67 : List (List Nat × Ann) := [([0, 2, 1002, 1005], [.keep 0 6, .keep 2 0, .keep 2 1, .keep 2 7, .keep 2 8])]
def In67 : List (List Nat × Nat) := [([1005], 90), ([1002, 1005], 104), ([4005, 1002, 1005], 91)]
noncomputable def cs67 : List Ctr := [c92]
noncomputable def F67 (n : Nat) (a0 : (List DPart)) : Option Bool := run Try.prog A67 In67 (conOf cs67) Try.f67 (Try.f67.body.getD .skip) (packT [.bool]) n (argsV [(.list TyPart)] (a0, ()))
noncomputable def L67_0_2_1002_1005 (n : Nat) (x1 : Bool) (x2 : (List DPart)) (x3 : Int) (x4 : Int) : Option Bool := lam Try.prog A67 In67 (conOf cs67) Try.f67 (Try.f67.body.getD .skip) (packT [.bool]) n [0, 2, 1002, 1005] [.d .bool x1, .d (.list TyPart) x2, .fn 91 [], .d I64 x3, .d I64 x4]
theorem F67_eq (n : Nat) (a0 : (List DPart)) : F67 n a0 =
    bif decide ((a0.length : Int) ≤ 8) then
      L67_0_2_1002_1005 n true a0 (a0.length : Int) 0
    else
      some false := by kernel_rfl
theorem L67_0_2_1002_1005_eq (n : Nat) (x1 : Bool) (x2 : (List DPart)) (x3 : Int) (x4 : Int) : L67_0_2_1002_1005 (n + 1) x1 x2 x3 x4 =
    bif decide (x4 < x3) then
      bif inB x4 x2.length then
        Option.bind (need (wfA [TyPart, I64] ((rd x2 x4 (Ty.dflt TyPart)), 60, ())) (goodPart (rd x2 x4 (Ty.dflt TyPart)) 60)) fun (y1 : Bool) =>
        bif !(y1) then
          bif x1 then
            some (!decide ((0 : Int) ≤ x4))
          else
            some false
        else
          L67_0_2_1002_1005 n x1 x2 x3 (IntKind.wrap .i64 (x4 + 1))
      else none
    else
      bif x1 then
        some true
      else
        some false := by kernel_rfl
theorem mk67 (hcs : ∀ x ∈ cs67, CtrOk Try.prog x) (h : ∀ (a0 : (List DPart)), wfA [(.list TyPart)] (a0, ()) → ∃ n, F67 n a0 = some (goodDirName a0)) : CtrOk Try.prog c67 := by
  refine ctr_of_run (c := c67) (by kernel_rfl : Try.prog.funcs[67]? = some Try.f67) (code := Try.f67.body.getD .skip) (by kernel_rfl) (by kernel_rfl) (by kernel_rfl) (A := A67) (I := In67) hcs ?_
  rintro ⟨a0, u⟩ y hy
  obtain ⟨hw, e⟩ := need_inv hy
  obtain ⟨n, hn⟩ := h a0 hw
  exact ⟨n, hn.trans (congrArg some e.symm)⟩

/-! ## impl.ygoodAttrs (68) -/
noncomputable def c68 : Ctr := ⟨68, [(.list TyAttr)], [.bool], fun x => need (wfA [(.list TyAttr)] x) (goodAttrs x.1)⟩
def A68 : List (List Nat × Ann) := [([0, 2], [.keep 0 0, .keep 0 7, .keep 0 8, .keep 0 9]), ([0, 7], [.keep 0 0, .keep 0 7, .keep 0 8, .keep 0 9, .keep 0 52, .keep 0 53, .keep 0 54])]
def In68 : List (List Nat × Nat) := []
noncomputable def cs68 : List Ctr := [c93, c94, c95]
noncomputable def F68 (n : Nat) (a0 : (List DAttr)) : Option Bool := run Try.prog A68 In68 (conOf cs68) Try.f68 (Try.f68.body.getD .skip) (packT [.bool]) n (argsV [(.list TyAttr)] (a0, ()))
noncomputable def L68_0_2 (n : Nat) (x1 : (List DAttr)) (x2 : (List DAttr)) (x3 : Int) (x4 : Int) : Option Bool := lam Try.prog A68 In68 (conOf cs68) Try.f68 (Try.f68.body.getD .skip) (packT [.bool]) n [0, 2] [.d (.list TyAttr) x1, .d (.list TyAttr) x2, .d I64 x3, .d I64 x4]
noncomputable def L68_0_7 (n : Nat) (x1 : (List DAttr)) (x2 : (List DAttr)) (x3 : Int) (x4 : Int) (x5 : (List (List Int))) (x6 : Int) (x7 : Int) : Option Bool := lam Try.prog A68 In68 (conOf cs68) Try.f68 (Try.f68.body.getD .skip) (packT [.bool]) n [0, 7] [.d (.list TyAttr) x1, .d (.list TyAttr) x2, .d I64 x3, .d I64 x4, .d (.list .str) x5, .d I64 x6, .d I64 x7]
theorem F68_eq (n : Nat) (a0 : (List DAttr)) : F68 n a0 =
    L68_0_2 n a0 a0 (a0.length : Int) 0 := by kernel_rfl
theorem L68_0_2_eq (n : Nat) (x1 : (List DAttr)) (x2 : (List DAttr)) (x3 : Int) (x4 : Int) : L68_0_2 (n + 1) x1 x2 x3 x4 =
    bif decide (x4 < x3) then
      bif inB x4 x2.length then
        Option.bind (need (wfA [.str] (((rd x2 x4 (Ty.dflt TyAttr)).1), ())) (goodName ((rd x2 x4 (Ty.dflt TyAttr)).1))) fun (y1 : Bool) =>
        bif !(y1) then
          some false
        else
          bif decide ((0 : Int) < x4) then
            bif inB (IntKind.wrap .i64 (x4 - 1)) x1.length then
              bif !lessI ((rd x1 (IntKind.wrap .i64 (x4 - 1)) (Ty.dflt TyAttr)).1) ((rd x2 x4 (Ty.dflt TyAttr)).1) then
                some false
              else
                bif decide ((((rd x2 x4 (Ty.dflt TyAttr)).2).length : Int) < 1) then
                  some false
                else
                  bif decide ((30 : Int) < (((rd x2 x4 (Ty.dflt TyAttr)).2).length : Int)) then
                    some false
                  else
                    Option.bind (need (wfA [(.list .str)] (((rd x2 x4 (Ty.dflt TyAttr)).2), ())) (rising ((rd x2 x4 (Ty.dflt TyAttr)).2))) fun (y2 : Bool) =>
                    bif !(y2) then
                      some false
                    else
                      L68_0_7 n x1 x2 x3 x4 ((rd x2 x4 (Ty.dflt TyAttr)).2) (((rd x2 x4 (Ty.dflt TyAttr)).2).length : Int) 0
            else none
          else
            bif decide ((((rd x2 x4 (Ty.dflt TyAttr)).2).length : Int) < 1) then
              some false
            else
              bif decide ((30 : Int) < (((rd x2 x4 (Ty.dflt TyAttr)).2).length : Int)) then
                some false
              else
                Option.bind (need (wfA [(.list .str)] (((rd x2 x4 (Ty.dflt TyAttr)).2), ())) (rising ((rd x2 x4 (Ty.dflt TyAttr)).2))) fun (y4 : Bool) =>
                bif !(y4) then
                  some false
                else
                  L68_0_7 n x1 x2 x3 x4 ((rd x2 x4 (Ty.dflt TyAttr)).2) (((rd x2 x4 (Ty.dflt TyAttr)).2).length : Int) 0
      else none
    else
      some true := by kernel_rfl
theorem L68_0_7_eq (n : Nat) (x1 : (List DAttr)) (x2 : (List DAttr)) (x3 : Int) (x4 : Int) (x5 : (List (List Int))) (x6 : Int) (x7 : Int) : L68_0_7 (n + 1) x1 x2 x3 x4 x5 x6 x7 =
    bif decide (x7 < x6) then
      bif inB x7 x5.length then
        Option.bind (need (wfA [.str, I64, I64] ((rd x5 x7 (Ty.dflt .str)), 1, 200, ())) (printedIn (rd x5 x7 (Ty.dflt .str)) 1 200)) fun (y3 : Bool) =>
        bif !(y3) then
          some false
        else
          L68_0_7 n x1 x2 x3 x4 x5 x6 (IntKind.wrap .i64 (x7 + 1))
      else none
    else
      L68_0_2 n x1 x2 x3 (IntKind.wrap .i64 (x4 + 1)) := by kernel_rfl
theorem mk68 (hcs : ∀ x ∈ cs68, CtrOk Try.prog x) (h : ∀ (a0 : (List DAttr)), wfA [(.list TyAttr)] (a0, ()) → ∃ n, F68 n a0 = some (goodAttrs a0)) : CtrOk Try.prog c68 := by
  refine ctr_of_run (c := c68) (by kernel_rfl : Try.prog.funcs[68]? = some Try.f68) (code := Try.f68.body.getD .skip) (by kernel_rfl) (by kernel_rfl) (by kernel_rfl) (A := A68) (I := In68) hcs ?_
  rintro ⟨a0, u⟩ y hy
  obtain ⟨hw, e⟩ := need_inv hy
  obtain ⟨n, hn⟩ := h a0 hw
  exact ⟨n, hn.trans (congrArg some e.symm)⟩

/-! ## spec.GoodEntry (37) -/
noncomputable def c37 : Ctr := ⟨37, [TyEntry], [.bool], fun x => need (wfA [TyEntry] x) (goodEntry x.1)⟩
def A37 : List (List Nat × Ann) := [([0, 4], [.keep 0 1, .keep 0 30, .keep 0 31, .keep 0 32, .box 0 1 2]), ([0, 9], [.keep 0 1, .keep 0 30, .keep 0 31, .keep 0 32, .keep 0 77, .keep 0 78, .keep 0 79, .box 0 1 2])]
def In37 : List (List Nat × Nat) := []
noncomputable def cs37 : List Ctr := [c60, c61, c62, c63, c64]
noncomputable def F37 (n : Nat) (a0 : DEntry) : Option Bool := run Try.prog A37 In37 (conOf cs37) Try.f37 (Try.f37.body.getD .skip) (packT [.bool]) n (argsV [TyEntry] (a0, ()))
noncomputable def L37_0_4 (n : Nat) (x1 : (List DAttr)) (x2 : Int) (x3 : Int) (x4 : DEntry) : Option Bool := lam Try.prog A37 In37 (conOf cs37) Try.f37 (Try.f37.body.getD .skip) (packT [.bool]) n [0, 4] [.ptr 0 1 0, .d (.list TyAttr) x1, .d I64 x2, .d I64 x3, .agg (explode TyEntry x4)]
noncomputable def L37_0_9 (n : Nat) (x1 : (List DAttr)) (x2 : Int) (x3 : Int) (x4 : (List (List Int))) (x5 : Int) (x6 : Int) (x7 : DEntry) : Option Bool := lam Try.prog A37 In37 (conOf cs37) Try.f37 (Try.f37.body.getD .skip) (packT [.bool]) n [0, 9] [.ptr 0 1 0, .d (.list TyAttr) x1, .d I64 x2, .d I64 x3, .d (.list .str) x4, .d I64 x5, .d I64 x6, .agg (explode TyEntry x7)]
theorem F37_eq (n : Nat) (a0 : DEntry) : F37 n a0 =
    Option.bind (need (wfA [(.list TyPart)] (a0.1, ())) (goodDirName a0.1)) fun (y1 : Bool) =>
    bif !(y1) then
      some false
    else
      bif decide ((a0.1.length : Int) = 0) then
        some false
      else
        bif decide ((a0.2.length : Int) < 1) then
          some false
        else
          bif decide ((30 : Int) < (a0.2.length : Int)) then
            some false
          else
            L37_0_4 n a0.2 (a0.2.length : Int) 0 a0 := by kernel_rfl
theorem L37_0_4_eq (n : Nat) (x1 : (List DAttr)) (x2 : Int) (x3 : Int) (x4 : DEntry) : L37_0_4 (n + 1) x1 x2 x3 x4 =
    bif decide (x3 < x2) then
      bif inB x3 x1.length then
        Option.bind (need (wfA [.str] (((rd x1 x3 (Ty.dflt TyAttr)).1), ())) (goodName ((rd x1 x3 (Ty.dflt TyAttr)).1))) fun (y2 : Bool) =>
        bif !(y2) then
          some false
        else
          bif decide ((0 : Int) < x3) then
            bif inB (IntKind.wrap .i64 (x3 - 1)) x4.2.length then
              Option.bind (need (wfA [.str, .str] (((rd x4.2 (IntKind.wrap .i64 (x3 - 1)) (Ty.dflt TyAttr)).1), ((rd x1 x3 (Ty.dflt TyAttr)).1), ())) (cmpText ((rd x4.2 (IntKind.wrap .i64 (x3 - 1)) (Ty.dflt TyAttr)).1) ((rd x1 x3 (Ty.dflt TyAttr)).1))) fun (y3 : Int) =>
              bif decide ((0 : Int) ≤ y3) then
                some false
              else
                bif decide ((((rd x1 x3 (Ty.dflt TyAttr)).2).length : Int) < 1) then
                  some false
                else
                  bif decide ((30 : Int) < (((rd x1 x3 (Ty.dflt TyAttr)).2).length : Int)) then
                    some false
                  else
                    Option.bind (need (wfA [(.list .str)] (((rd x1 x3 (Ty.dflt TyAttr)).2), ())) (rising ((rd x1 x3 (Ty.dflt TyAttr)).2))) fun (y4 : Bool) =>
                    bif !(y4) then
                      some false
                    else
                      L37_0_9 n x1 x2 x3 ((rd x1 x3 (Ty.dflt TyAttr)).2) (((rd x1 x3 (Ty.dflt TyAttr)).2).length : Int) 0 x4
            else none
          else
            bif decide ((((rd x1 x3 (Ty.dflt TyAttr)).2).length : Int) < 1) then
              some false
            else
              bif decide ((30 : Int) < (((rd x1 x3 (Ty.dflt TyAttr)).2).length : Int)) then
                some false
              else
                Option.bind (need (wfA [(.list .str)] (((rd x1 x3 (Ty.dflt TyAttr)).2), ())) (rising ((rd x1 x3 (Ty.dflt TyAttr)).2))) fun (y6 : Bool) =>
                bif !(y6) then
                  some false
                else
                  L37_0_9 n x1 x2 x3 ((rd x1 x3 (Ty.dflt TyAttr)).2) (((rd x1 x3 (Ty.dflt TyAttr)).2).length : Int) 0 x4
      else none
    else
      some true := by kernel_rfl
theorem L37_0_9_eq (n : Nat) (x1 : (List DAttr)) (x2 : Int) (x3 : Int) (x4 : (List (List Int))) (x5 : Int) (x6 : Int) (x7 : DEntry) : L37_0_9 (n + 1) x1 x2 x3 x4 x5 x6 x7 =
    bif decide (x6 < x5) then
      bif inB x6 x4.length then
        bif decide (((rd x4 x6 (Ty.dflt .str)).length : Int) < 1) then
          some false
        else
          bif decide ((200 : Int) < ((rd x4 x6 (Ty.dflt .str)).length : Int)) then
            some false
          else
            Option.bind (need (wfA [.str] ((rd x4 x6 (Ty.dflt .str)), ())) (printed (rd x4 x6 (Ty.dflt .str)))) fun (y5 : Bool) =>
            bif !(y5) then
              some false
            else
              L37_0_9 n x1 x2 x3 x4 x5 (IntKind.wrap .i64 (x6 + 1)) x7
      else none
    else
      L37_0_4 n x1 x2 (IntKind.wrap .i64 (x3 + 1)) x7 := by kernel_rfl
theorem mk37 (hcs : ∀ x ∈ cs37, CtrOk Try.prog x) (h : ∀ (a0 : DEntry), wfA [TyEntry] (a0, ()) → ∃ n, F37 n a0 = some (goodEntry a0)) : CtrOk Try.prog c37 := by
  refine ctr_of_run (c := c37) (by kernel_rfl : Try.prog.funcs[37]? = some Try.f37) (code := Try.f37.body.getD .skip) (by kernel_rfl) (by kernel_rfl) (by kernel_rfl) (A := A37) (I := In37) hcs ?_
  rintro ⟨a0, u⟩ y hy
  obtain ⟨hw, e⟩ := need_inv hy
  obtain ⟨n, hn⟩ := h a0 hw
  exact ⟨n, hn.trans (congrArg some e.symm)⟩

/-! ## impl.GoodEntry (39) -/
noncomputable def c39 : Ctr := ⟨39, [TyEntry], [.bool], fun x => need (wfA [TyEntry] x) (goodEntry x.1)⟩
def A39 : List (List Nat × Ann) := []
def In39 : List (List Nat × Nat) := []
noncomputable def cs39 : List Ctr := [c67, c68]
noncomputable def F39 (n : Nat) (a0 : DEntry) : Option Bool := run Try.prog A39 In39 (conOf cs39) Try.f39 (Try.f39.body.getD .skip) (packT [.bool]) n (argsV [TyEntry] (a0, ()))
theorem F39_eq (n : Nat) (a0 : DEntry) : F39 n a0 =
    Option.bind (need (wfA [(.list TyPart)] (a0.1, ())) (goodDirName a0.1)) fun (y1 : Bool) =>
    bif y1 then
      bif decide ((0 : Int) < (a0.1.length : Int)) then
        bif decide ((1 : Int) ≤ (a0.2.length : Int)) then
          bif decide ((a0.2.length : Int) ≤ 30) then
            Option.bind (need (wfA [(.list TyAttr)] (a0.2, ())) (goodAttrs a0.2)) fun (y2 : Bool) =>
            some y2
          else
            some false
        else
          some false
      else
        some false
    else
      some false := by kernel_rfl
theorem mk39 (hcs : ∀ x ∈ cs39, CtrOk Try.prog x) (h : ∀ (a0 : DEntry), wfA [TyEntry] (a0, ()) → ∃ n, F39 n a0 = some (goodEntry a0)) : CtrOk Try.prog c39 := by
  refine ctr_of_run (c := c39) (by kernel_rfl : Try.prog.funcs[39]? = some Try.f39) (code := Try.f39.body.getD .skip) (by kernel_rfl) (by kernel_rfl) (by kernel_rfl) (A := A39) (I := In39) hcs ?_
  rintro ⟨a0, u⟩ y hy
  obtain ⟨hw, e⟩ := need_inv hy
  obtain ⟨n, hn⟩ := h a0 hw
  exact ⟨n, hn.trans (congrArg some e.symm)⟩

/-! ## laws.szPart (83) -/
noncomputable def c83 : Ctr := ⟨83, [TyPart, I64], [I64], fun x => szC TyPart x.1 x.2.1⟩
def A83 : List (List Nat × Ann) := []
def In83 : List (List Nat × Nat) := []
noncomputable def cs83 : List Ctr := []
noncomputable def F83 (n : Nat) (a0 : DPart) (a1 : Int) : Option Int := run Try.prog A83 In83 (conOf cs83) Try.f83 (Try.f83.body.getD .skip) (packT [I64]) n (argsV [TyPart, I64] (a0, a1, ()))
theorem F83_eq (n : Nat) (a0 : DPart) (a1 : Int) : F83 n a0 a1 =
    bif decide (IntKind.wrap .i64 (a1 - (a0.1.length : Int)) < 0) then
      some (-1)
    else
      bif decide (IntKind.wrap .i64 ((IntKind.wrap .i64 (a1 - (a0.1.length : Int))) - (a0.2.length : Int)) < 0) then
        some (-1)
      else
        some (IntKind.wrap .i64 ((IntKind.wrap .i64 (a1 - (a0.1.length : Int))) - (a0.2.length : Int))) := by kernel_rfl
theorem mk83 (hcs : ∀ x ∈ cs83, CtrOk Try.prog x) (h : ∀ (a0 : DPart) (a1 : Int) y, szC TyPart a0 a1 = some y → ∃ n, F83 n a0 a1 = some y) : CtrOk Try.prog c83 := by
  refine ctr_of_run (c := c83) (by kernel_rfl : Try.prog.funcs[83]? = some Try.f83) (code := Try.f83.body.getD .skip) (by kernel_rfl) (by kernel_rfl) (by kernel_rfl) (A := A83) (I := In83) hcs ?_
  rintro ⟨a0, a1, u⟩ y hy
  exact h a0 a1 y hy

theorem hcs83 : ∀ x ∈ cs83, CtrOk Try.prog x := conOf_nil
theorem ok83 : CtrOk Try.prog c83 := mk83 hcs83 fun a0 a1 y hy => by
  obtain ⟨hw, h0, h1, rfl⟩ := szC_inv hy
  have hw2 : wfD .str a0.1 ∧ wfD .str a0.2 := hw
  have hsz : Ty.size TyPart a0 = Ty.size .str a0.1 + (Ty.size .str a0.2) := rfl
  have z0 : Ty.size .str a0.1 = a0.1.length := rfl
  have z1 : Ty.size .str a0.2 = a0.2.length := rfl
  refine ⟨0, ?_⟩
  rw [F83_eq, hsz]
  have hn0 : a0.1.length ≤ maxLen := by have := (hw2.1).1; unfold maxLen; omega
  rw [lessZ_wrap (left := a1) (n := a0.1.length) (by omega) (by omega) hn0]
  rcases Int.lt_or_le (a1) (a0.1.length : Int) with h | h
  · rw [decide_eq_true (show (a1 - (a0.1.length : Int)) < 0 by omega)]; simp only [cond_true]; unfold lessZ; rw [if_neg (by omega)]
  rw [decide_eq_false (show ¬ (a1 - (a0.1.length : Int)) < 0 by omega)]; simp only [cond_false]
  have h_0 := h; clear h
  have hn1 : a0.2.length ≤ maxLen := by have := (hw2.2).1; unfold maxLen; omega
  rw [lessZ_wrap (left := (a1 - (a0.1.length : Int))) (n := a0.2.length) (by omega) (by omega) hn1]
  rcases Int.lt_or_le ((a1 - (a0.1.length : Int))) (a0.2.length : Int) with h | h
  · rw [decide_eq_true (show ((a1 - (a0.1.length : Int)) - (a0.2.length : Int)) < 0 by omega)]; simp only [cond_true]; unfold lessZ; rw [if_neg (by omega)]
  rw [decide_eq_false (show ¬ ((a1 - (a0.1.length : Int)) - (a0.2.length : Int)) < 0 by omega)]; simp only [cond_false]
  have h_1 := h; clear h
  unfold lessZ; rw [if_pos (by omega)]; congr 1; omega
/-! ## laws.szPartS (58) -/
noncomputable def c58 : Ctr := ⟨58, [(.list TyPart), I64], [I64], fun x => szC (.list TyPart) x.1 x.2.1⟩
def A58 : List (List Nat × Ann) := [([0, 5], [.keep 0 0, .keep 0 1, .keep 0 5])]
def In58 : List (List Nat × Nat) := []
noncomputable def cs58 : List Ctr := [c83]
noncomputable def F58 (n : Nat) (a0 : (List DPart)) (a1 : Int) : Option Int := run Try.prog A58 In58 (conOf cs58) Try.f58 (Try.f58.body.getD .skip) (packT [I64]) n (argsV [(.list TyPart), I64] (a0, a1, ()))
noncomputable def L58_0_5 (n : Nat) (x1 : (List DPart)) (x2 : Int) (x3 : Int) : Option Int := lam Try.prog A58 In58 (conOf cs58) Try.f58 (Try.f58.body.getD .skip) (packT [I64]) n [0, 5] [.d (.list TyPart) x1, .d I64 x2, .d I64 x3]
theorem F58_eq (n : Nat) (a0 : (List DPart)) (a1 : Int) : F58 n a0 a1 =
    bif decide (IntKind.wrap .i64 (a1 - (a0.length : Int)) < 0) then
      some (-1)
    else
      L58_0_5 n a0 (IntKind.wrap .i64 (a1 - (a0.length : Int))) 0 := by kernel_rfl
theorem L58_0_5_eq (n : Nat) (x1 : (List DPart)) (x2 : Int) (x3 : Int) : L58_0_5 (n + 1) x1 x2 x3 =
    bif decide (x3 < (x1.length : Int)) then
      bif inB x3 x1.length then
        Option.bind (szC TyPart (rd x1 x3 (Ty.dflt TyPart)) x2) fun (y1 : Int) =>
        bif decide (y1 < 0) then
          some (-1)
        else
          L58_0_5 n x1 y1 (IntKind.wrap .i64 (x3 + 1))
      else none
    else
      some x2 := by kernel_rfl
theorem mk58 (hcs : ∀ x ∈ cs58, CtrOk Try.prog x) (h : ∀ (a0 : (List DPart)) (a1 : Int) y, szC (.list TyPart) a0 a1 = some y → ∃ n, F58 n a0 a1 = some y) : CtrOk Try.prog c58 := by
  refine ctr_of_run (c := c58) (by kernel_rfl : Try.prog.funcs[58]? = some Try.f58) (code := Try.f58.body.getD .skip) (by kernel_rfl) (by kernel_rfl) (by kernel_rfl) (A := A58) (I := In58) hcs ?_
  rintro ⟨a0, a1, u⟩ y hy
  exact h a0 a1 y hy

theorem hcs58 : ∀ x ∈ cs58, CtrOk Try.prog x := (conOf_cons ok83 conOf_nil)
theorem ok58 : CtrOk Try.prog c58 := mk58 hcs58 fun a0 a1 y hy => by
  obtain ⟨n, hn⟩ := szS_call (fun n xs s i => L58_0_5_eq n xs s i) hy
  exact ⟨n, (F58_eq n a0 a1).trans hn⟩
/-! ## laws.szStringS (102) -/
noncomputable def c102 : Ctr := ⟨102, [(.list .str), I64], [I64], fun x => szC (.list .str) x.1 x.2.1⟩
def A102 : List (List Nat × Ann) := [([0, 5], [.keep 0 0, .keep 0 1, .keep 0 5])]
def In102 : List (List Nat × Nat) := []
noncomputable def cs102 : List Ctr := []
noncomputable def F102 (n : Nat) (a0 : (List (List Int))) (a1 : Int) : Option Int := run Try.prog A102 In102 (conOf cs102) Try.f102 (Try.f102.body.getD .skip) (packT [I64]) n (argsV [(.list .str), I64] (a0, a1, ()))
noncomputable def L102_0_5 (n : Nat) (x1 : (List (List Int))) (x2 : Int) (x3 : Int) : Option Int := lam Try.prog A102 In102 (conOf cs102) Try.f102 (Try.f102.body.getD .skip) (packT [I64]) n [0, 5] [.d (.list .str) x1, .d I64 x2, .d I64 x3]
theorem F102_eq (n : Nat) (a0 : (List (List Int))) (a1 : Int) : F102 n a0 a1 =
    bif decide (IntKind.wrap .i64 (a1 - (a0.length : Int)) < 0) then
      some (-1)
    else
      L102_0_5 n a0 (IntKind.wrap .i64 (a1 - (a0.length : Int))) 0 := by kernel_rfl
theorem L102_0_5_eq (n : Nat) (x1 : (List (List Int))) (x2 : Int) (x3 : Int) : L102_0_5 (n + 1) x1 x2 x3 =
    bif decide (x3 < (x1.length : Int)) then
      bif inB x3 x1.length then
        bif decide (IntKind.wrap .i64 (x2 - ((rd x1 x3 (Ty.dflt .str)).length : Int)) < 0) then
          some (-1)
        else
          L102_0_5 n x1 (IntKind.wrap .i64 (x2 - ((rd x1 x3 (Ty.dflt .str)).length : Int))) (IntKind.wrap .i64 (x3 + 1))
      else none
    else
      some x2 := by kernel_rfl
theorem mk102 (hcs : ∀ x ∈ cs102, CtrOk Try.prog x) (h : ∀ (a0 : (List (List Int))) (a1 : Int) y, szC (.list .str) a0 a1 = some y → ∃ n, F102 n a0 a1 = some y) : CtrOk Try.prog c102 := by
  refine ctr_of_run (c := c102) (by kernel_rfl : Try.prog.funcs[102]? = some Try.f102) (code := Try.f102.body.getD .skip) (by kernel_rfl) (by kernel_rfl) (by kernel_rfl) (A := A102) (I := In102) hcs ?_
  rintro ⟨a0, a1, u⟩ y hy
  exact h a0 a1 y hy

theorem hcs102 : ∀ x ∈ cs102, CtrOk Try.prog x := conOf_nil
theorem ok102 : CtrOk Try.prog c102 := mk102 hcs102 fun a0 a1 y hy => by
  obtain ⟨n, hn⟩ := szS_str (fun n xs s i => L102_0_5_eq n xs s i) hy
  exact ⟨n, (F102_eq n a0 a1).trans hn⟩
/-! ## laws.szAttr (84) -/
noncomputable def c84 : Ctr := ⟨84, [TyAttr, I64], [I64], fun x => szC TyAttr x.1 x.2.1⟩
def A84 : List (List Nat × Ann) := []
def In84 : List (List Nat × Nat) := []
noncomputable def cs84 : List Ctr := [c102]
noncomputable def F84 (n : Nat) (a0 : DAttr) (a1 : Int) : Option Int := run Try.prog A84 In84 (conOf cs84) Try.f84 (Try.f84.body.getD .skip) (packT [I64]) n (argsV [TyAttr, I64] (a0, a1, ()))
theorem F84_eq (n : Nat) (a0 : DAttr) (a1 : Int) : F84 n a0 a1 =
    bif decide (IntKind.wrap .i64 (a1 - (a0.1.length : Int)) < 0) then
      some (-1)
    else
      Option.bind (szC (.list .str) a0.2 (IntKind.wrap .i64 (a1 - (a0.1.length : Int)))) fun (y1 : Int) =>
      bif decide (y1 < 0) then
        some (-1)
      else
        some y1 := by kernel_rfl
theorem mk84 (hcs : ∀ x ∈ cs84, CtrOk Try.prog x) (h : ∀ (a0 : DAttr) (a1 : Int) y, szC TyAttr a0 a1 = some y → ∃ n, F84 n a0 a1 = some y) : CtrOk Try.prog c84 := by
  refine ctr_of_run (c := c84) (by kernel_rfl : Try.prog.funcs[84]? = some Try.f84) (code := Try.f84.body.getD .skip) (by kernel_rfl) (by kernel_rfl) (by kernel_rfl) (A := A84) (I := In84) hcs ?_
  rintro ⟨a0, a1, u⟩ y hy
  exact h a0 a1 y hy

theorem hcs84 : ∀ x ∈ cs84, CtrOk Try.prog x := (conOf_cons ok102 conOf_nil)
theorem ok84 : CtrOk Try.prog c84 := mk84 hcs84 fun a0 a1 y hy => by
  obtain ⟨hw, h0, h1, rfl⟩ := szC_inv hy
  have hw2 : wfD .str a0.1 ∧ wfD (.list .str) a0.2 := hw
  have hsz : Ty.size TyAttr a0 = Ty.size .str a0.1 + (Ty.size (.list .str) a0.2) := rfl
  have z0 : Ty.size .str a0.1 = a0.1.length := rfl
  refine ⟨0, ?_⟩
  rw [F84_eq, hsz]
  have hn0 : a0.1.length ≤ maxLen := by have := (hw2.1).1; unfold maxLen; omega
  rw [lessZ_wrap (left := a1) (n := a0.1.length) (by omega) (by omega) hn0]
  rcases Int.lt_or_le (a1) (a0.1.length : Int) with h | h
  · rw [decide_eq_true (show (a1 - (a0.1.length : Int)) < 0 by omega)]; simp only [cond_true]; unfold lessZ; rw [if_neg (by omega)]
  rw [decide_eq_false (show ¬ (a1 - (a0.1.length : Int)) < 0 by omega)]; simp only [cond_false]
  have h_0 := h; clear h
  rw [szC_some hw2.2 (show 0 ≤ (a1 - (a0.1.length : Int)) by omega) (by omega)]
  simp only [Option.bind_some]
  rcases Int.lt_or_le ((a1 - (a0.1.length : Int))) ((Ty.size (.list .str) a0.2 : Nat) : Int) with h | h
  · rw [show lessZ ((a1 - (a0.1.length : Int))) (Ty.size (.list .str) a0.2) = -1 by unfold lessZ; rw [if_neg (by omega)]]; rw [decide_eq_true (show (-1 : Int) < 0 by omega)]; simp only [cond_true]; unfold lessZ; rw [if_neg (by omega)]
  rw [show lessZ ((a1 - (a0.1.length : Int))) (Ty.size (.list .str) a0.2) = ((a1 - (a0.1.length : Int)) - ((Ty.size (.list .str) a0.2 : Nat) : Int)) by unfold lessZ; rw [if_pos h]]; rw [decide_eq_false (show ¬ ((a1 - (a0.1.length : Int)) - ((Ty.size (.list .str) a0.2 : Nat) : Int)) < 0 by omega)]; simp only [cond_false]
  have h_1 := h; clear h
  unfold lessZ; rw [if_pos (by omega)]; congr 1; omega
/-! ## laws.szAttrS (59) -/
noncomputable def c59 : Ctr := ⟨59, [(.list TyAttr), I64], [I64], fun x => szC (.list TyAttr) x.1 x.2.1⟩
def A59 : List (List Nat × Ann) := [([0, 5], [.keep 0 0, .keep 0 1, .keep 0 5])]
def In59 : List (List Nat × Nat) := []
noncomputable def cs59 : List Ctr := [c84]
noncomputable def F59 (n : Nat) (a0 : (List DAttr)) (a1 : Int) : Option Int := run Try.prog A59 In59 (conOf cs59) Try.f59 (Try.f59.body.getD .skip) (packT [I64]) n (argsV [(.list TyAttr), I64] (a0, a1, ()))
noncomputable def L59_0_5 (n : Nat) (x1 : (List DAttr)) (x2 : Int) (x3 : Int) : Option Int := lam Try.prog A59 In59 (conOf cs59) Try.f59 (Try.f59.body.getD .skip) (packT [I64]) n [0, 5] [.d (.list TyAttr) x1, .d I64 x2, .d I64 x3]
theorem F59_eq (n : Nat) (a0 : (List DAttr)) (a1 : Int) : F59 n a0 a1 =
    bif decide (IntKind.wrap .i64 (a1 - (a0.length : Int)) < 0) then
      some (-1)
    else
      L59_0_5 n a0 (IntKind.wrap .i64 (a1 - (a0.length : Int))) 0 := by kernel_rfl
theorem L59_0_5_eq (n : Nat) (x1 : (List DAttr)) (x2 : Int) (x3 : Int) : L59_0_5 (n + 1) x1 x2 x3 =
    bif decide (x3 < (x1.length : Int)) then
      bif inB x3 x1.length then
        Option.bind (szC TyAttr (rd x1 x3 (Ty.dflt TyAttr)) x2) fun (y1 : Int) =>
        bif decide (y1 < 0) then
          some (-1)
        else
          L59_0_5 n x1 y1 (IntKind.wrap .i64 (x3 + 1))
      else none
    else
      some x2 := by kernel_rfl
theorem mk59 (hcs : ∀ x ∈ cs59, CtrOk Try.prog x) (h : ∀ (a0 : (List DAttr)) (a1 : Int) y, szC (.list TyAttr) a0 a1 = some y → ∃ n, F59 n a0 a1 = some y) : CtrOk Try.prog c59 := by
  refine ctr_of_run (c := c59) (by kernel_rfl : Try.prog.funcs[59]? = some Try.f59) (code := Try.f59.body.getD .skip) (by kernel_rfl) (by kernel_rfl) (by kernel_rfl) (A := A59) (I := In59) hcs ?_
  rintro ⟨a0, a1, u⟩ y hy
  exact h a0 a1 y hy

theorem hcs59 : ∀ x ∈ cs59, CtrOk Try.prog x := (conOf_cons ok84 conOf_nil)
theorem ok59 : CtrOk Try.prog c59 := mk59 hcs59 fun a0 a1 y hy => by
  obtain ⟨n, hn⟩ := szS_call (fun n xs s i => L59_0_5_eq n xs s i) hy
  exact ⟨n, (F59_eq n a0 a1).trans hn⟩
/-! ## laws.szEntry (36) -/
noncomputable def c36 : Ctr := ⟨36, [TyEntry, I64], [I64], fun x => szC TyEntry x.1 x.2.1⟩
def A36 : List (List Nat × Ann) := []
def In36 : List (List Nat × Nat) := []
noncomputable def cs36 : List Ctr := [c58, c59]
noncomputable def F36 (n : Nat) (a0 : DEntry) (a1 : Int) : Option Int := run Try.prog A36 In36 (conOf cs36) Try.f36 (Try.f36.body.getD .skip) (packT [I64]) n (argsV [TyEntry, I64] (a0, a1, ()))
theorem F36_eq (n : Nat) (a0 : DEntry) (a1 : Int) : F36 n a0 a1 =
    Option.bind (szC (.list TyPart) a0.1 a1) fun (y1 : Int) =>
    bif decide (y1 < 0) then
      some (-1)
    else
      Option.bind (szC (.list TyAttr) a0.2 y1) fun (y2 : Int) =>
      bif decide (y2 < 0) then
        some (-1)
      else
        some y2 := by kernel_rfl
theorem mk36 (hcs : ∀ x ∈ cs36, CtrOk Try.prog x) (h : ∀ (a0 : DEntry) (a1 : Int) y, szC TyEntry a0 a1 = some y → ∃ n, F36 n a0 a1 = some y) : CtrOk Try.prog c36 := by
  refine ctr_of_run (c := c36) (by kernel_rfl : Try.prog.funcs[36]? = some Try.f36) (code := Try.f36.body.getD .skip) (by kernel_rfl) (by kernel_rfl) (by kernel_rfl) (A := A36) (I := In36) hcs ?_
  rintro ⟨a0, a1, u⟩ y hy
  exact h a0 a1 y hy

theorem hcs36 : ∀ x ∈ cs36, CtrOk Try.prog x := (conOf_cons ok58 (conOf_cons ok59 conOf_nil))
theorem ok36 : CtrOk Try.prog c36 := mk36 hcs36 fun a0 a1 y hy => by
  obtain ⟨hw, h0, h1, rfl⟩ := szC_inv hy
  have hw2 : wfD (.list TyPart) a0.1 ∧ wfD (.list TyAttr) a0.2 := hw
  have hsz : Ty.size TyEntry a0 = Ty.size (.list TyPart) a0.1 + (Ty.size (.list TyAttr) a0.2) := rfl
  refine ⟨0, ?_⟩
  rw [F36_eq, hsz]
  rw [szC_some hw2.1 (show 0 ≤ a1 by omega) (by omega)]
  simp only [Option.bind_some]
  rcases Int.lt_or_le (a1) ((Ty.size (.list TyPart) a0.1 : Nat) : Int) with h | h
  · rw [show lessZ (a1) (Ty.size (.list TyPart) a0.1) = -1 by unfold lessZ; rw [if_neg (by omega)]]; rw [decide_eq_true (show (-1 : Int) < 0 by omega)]; simp only [cond_true]; unfold lessZ; rw [if_neg (by omega)]
  rw [show lessZ (a1) (Ty.size (.list TyPart) a0.1) = (a1 - ((Ty.size (.list TyPart) a0.1 : Nat) : Int)) by unfold lessZ; rw [if_pos h]]; rw [decide_eq_false (show ¬ (a1 - ((Ty.size (.list TyPart) a0.1 : Nat) : Int)) < 0 by omega)]; simp only [cond_false]
  have h_0 := h; clear h
  rw [szC_some hw2.2 (show 0 ≤ (a1 - ((Ty.size (.list TyPart) a0.1 : Nat) : Int)) by omega) (by omega)]
  simp only [Option.bind_some]
  rcases Int.lt_or_le ((a1 - ((Ty.size (.list TyPart) a0.1 : Nat) : Int))) ((Ty.size (.list TyAttr) a0.2 : Nat) : Int) with h | h
  · rw [show lessZ ((a1 - ((Ty.size (.list TyPart) a0.1 : Nat) : Int))) (Ty.size (.list TyAttr) a0.2) = -1 by unfold lessZ; rw [if_neg (by omega)]]; rw [decide_eq_true (show (-1 : Int) < 0 by omega)]; simp only [cond_true]; unfold lessZ; rw [if_neg (by omega)]
  rw [show lessZ ((a1 - ((Ty.size (.list TyPart) a0.1 : Nat) : Int))) (Ty.size (.list TyAttr) a0.2) = ((a1 - ((Ty.size (.list TyPart) a0.1 : Nat) : Int)) - ((Ty.size (.list TyAttr) a0.2 : Nat) : Int)) by unfold lessZ; rw [if_pos h]]; rw [decide_eq_false (show ¬ ((a1 - ((Ty.size (.list TyPart) a0.1 : Nat) : Int)) - ((Ty.size (.list TyAttr) a0.2 : Nat) : Int)) < 0 by omega)]; simp only [cond_false]
  have h_1 := h; clear h
  unfold lessZ; rw [if_pos (by omega)]; congr 1; omega
/-! ## laws.toPart (88) -/
noncomputable def c88 : Ctr := ⟨88, [TyPart], [TyPart], fun x => toC TyPart x.1⟩
def A88 : List (List Nat × Ann) := []
def In88 : List (List Nat × Nat) := []
noncomputable def cs88 : List Ctr := []
noncomputable def F88 (n : Nat) (a0 : DPart) : Option DPart := run Try.prog A88 In88 (conOf cs88) Try.f88 (Try.f88.body.getD .skip) (packT [TyPart]) n (argsV [TyPart] (a0, ()))
theorem F88_eq (n : Nat) (a0 : DPart) : F88 n a0 =
    some a0 := by kernel_rfl
theorem mk88 (hcs : ∀ x ∈ cs88, CtrOk Try.prog x) (h : ∀ (a0 : DPart) y, toC TyPart a0 = some y → ∃ n, F88 n a0 = some y) : CtrOk Try.prog c88 := by
  refine ctr_of_run (c := c88) (by kernel_rfl : Try.prog.funcs[88]? = some Try.f88) (code := Try.f88.body.getD .skip) (by kernel_rfl) (by kernel_rfl) (by kernel_rfl) (A := A88) (I := In88) hcs ?_
  rintro ⟨a0, u⟩ y hy
  exact h a0 y hy

theorem hcs88 : ∀ x ∈ cs88, CtrOk Try.prog x := conOf_nil
theorem ok88 : CtrOk Try.prog c88 := mk88 hcs88 fun a0 y hy => by
  obtain ⟨hw, hs, rfl⟩ := toC_inv hy
  have hw2 : wfD .str y.1 ∧ wfD .str y.2 := hw
  have hs2 : Ty.size .str y.1 + (Ty.size .str y.2) ≤ 1099511627776 := hs
  refine ⟨0, ?_⟩
  rw [F88_eq]
  try rfl
/-! ## laws.toPartS (65) -/
noncomputable def c65 : Ctr := ⟨65, [(.list TyPart)], [(.list TyPart)], fun x => toC (.list TyPart) x.1⟩
def A65 : List (List Nat × Ann) := [([0, 3], [.keep 0 0, .keep 0 3, .keep 0 4, .rows 0 7 TyPart])]
def In65 : List (List Nat × Nat) := []
noncomputable def cs65 : List Ctr := [c88]
noncomputable def F65 (n : Nat) (a0 : (List DPart)) : Option (List DPart) := run Try.prog A65 In65 (conOf cs65) Try.f65 (Try.f65.body.getD .skip) (packT [(.list TyPart)]) n (argsV [(.list TyPart)] (a0, ()))
noncomputable def L65_0_3 (n : Nat) (x1 : (List DPart)) (x2 : Int) (x3 : (List DPart)) : Option (List DPart) := lam Try.prog A65 In65 (conOf cs65) Try.f65 (Try.f65.body.getD .skip) (packT [(.list TyPart)]) n [0, 3] [.d (.list TyPart) x1, .msl 0 7, .d I64 x2, .d (.list TyPart) x3]
theorem F65_eq (n : Nat) (a0 : (List DPart)) : F65 n a0 =
    bif decide ((a0.length : Int) = (a0.length : Int)) && decide ((0 : Int) ≤ (a0.length : Int)) && decide ((a0.length : Int) * 32 ≤ room) && true then
      L65_0_3 n a0 0 (List.replicate (Int.toNat (a0.length : Int)) (([] : List Int), ([] : List Int)))
    else none := by kernel_rfl
theorem L65_0_3_eq (n : Nat) (x1 : (List DPart)) (x2 : Int) (x3 : (List DPart)) : L65_0_3 (n + 1) x1 x2 x3 =
    bif decide (x2 < (x1.length : Int)) then
      bif inB x2 x1.length then
        Option.bind (toC TyPart (rd x1 x2 (Ty.dflt TyPart))) fun (y1 : DPart) =>
        bif inB x2 x3.length then
          bif inB x2 x3.length && true && true && true && true then
            L65_0_3 n x1 (IntKind.wrap .i64 (x2 + 1)) (x3.set (Int.toNat x2) y1)
          else none
        else none
      else none
    else
      some x3 := by kernel_rfl
theorem mk65 (hcs : ∀ x ∈ cs65, CtrOk Try.prog x) (h : ∀ (a0 : (List DPart)) y, toC (.list TyPart) a0 = some y → ∃ n, F65 n a0 = some y) : CtrOk Try.prog c65 := by
  refine ctr_of_run (c := c65) (by kernel_rfl : Try.prog.funcs[65]? = some Try.f65) (code := Try.f65.body.getD .skip) (by kernel_rfl) (by kernel_rfl) (by kernel_rfl) (A := A65) (I := In65) hcs ?_
  rintro ⟨a0, u⟩ y hy
  exact h a0 y hy

theorem hcs65 : ∀ x ∈ cs65, CtrOk Try.prog x := (conOf_cons ok88 conOf_nil)
theorem ok65 : CtrOk Try.prog c65 := mk65 hcs65 fun a0 y hy => by
  obtain ⟨n, hn⟩ := toS_ok (t := TyPart) (f := toC TyPart) (fun x h h2 => toC_some h h2) (by_ := 32) (by omega) (fun n xs i out => L65_0_3_eq n xs i out) hy
  exact ⟨n, (F65_eq n a0).trans hn⟩
/-! ## laws.toStringS (103) -/
noncomputable def c103 : Ctr := ⟨103, [(.list .str)], [(.list .str)], fun x => toC (.list .str) x.1⟩
def A103 : List (List Nat × Ann) := [([0, 3], [.keep 0 0, .keep 0 3, .keep 0 4, .rows 0 7 .str])]
def In103 : List (List Nat × Nat) := []
noncomputable def cs103 : List Ctr := []
noncomputable def F103 (n : Nat) (a0 : (List (List Int))) : Option (List (List Int)) := run Try.prog A103 In103 (conOf cs103) Try.f103 (Try.f103.body.getD .skip) (packT [(.list .str)]) n (argsV [(.list .str)] (a0, ()))
noncomputable def L103_0_3 (n : Nat) (x1 : (List (List Int))) (x2 : Int) (x3 : (List (List Int))) : Option (List (List Int)) := lam Try.prog A103 In103 (conOf cs103) Try.f103 (Try.f103.body.getD .skip) (packT [(.list .str)]) n [0, 3] [.d (.list .str) x1, .msl 0 7, .d I64 x2, .d (.list .str) x3]
theorem F103_eq (n : Nat) (a0 : (List (List Int))) : F103 n a0 =
    bif decide ((a0.length : Int) = (a0.length : Int)) && decide ((0 : Int) ≤ (a0.length : Int)) && decide ((a0.length : Int) * 16 ≤ room) && true then
      L103_0_3 n a0 0 (List.replicate (Int.toNat (a0.length : Int)) ([] : List Int))
    else none := by kernel_rfl
theorem L103_0_3_eq (n : Nat) (x1 : (List (List Int))) (x2 : Int) (x3 : (List (List Int))) : L103_0_3 (n + 1) x1 x2 x3 =
    bif decide (x2 < (x1.length : Int)) then
      bif inB x2 x1.length then
        bif inB x2 x3.length then
          bif inB x2 x3.length && true && true && true && true then
            L103_0_3 n x1 (IntKind.wrap .i64 (x2 + 1)) (x3.set (Int.toNat x2) (rd x1 x2 (Ty.dflt .str)))
          else none
        else none
      else none
    else
      some x3 := by kernel_rfl
theorem mk103 (hcs : ∀ x ∈ cs103, CtrOk Try.prog x) (h : ∀ (a0 : (List (List Int))) y, toC (.list .str) a0 = some y → ∃ n, F103 n a0 = some y) : CtrOk Try.prog c103 := by
  refine ctr_of_run (c := c103) (by kernel_rfl : Try.prog.funcs[103]? = some Try.f103) (code := Try.f103.body.getD .skip) (by kernel_rfl) (by kernel_rfl) (by kernel_rfl) (A := A103) (I := In103) hcs ?_
  rintro ⟨a0, u⟩ y hy
  exact h a0 y hy

theorem hcs103 : ∀ x ∈ cs103, CtrOk Try.prog x := conOf_nil
theorem ok103 : CtrOk Try.prog c103 := mk103 hcs103 fun a0 y hy => by
  obtain ⟨n, hn⟩ := toS_ok (t := .str) (f := fun x => some x) (fun x _ _ => rfl) (by_ := 16) (by omega) (fun n xs i out => L103_0_3_eq n xs i out) hy
  exact ⟨n, (F103_eq n a0).trans hn⟩
/-! ## laws.toAttr (89) -/
noncomputable def c89 : Ctr := ⟨89, [TyAttr], [TyAttr], fun x => toC TyAttr x.1⟩
def A89 : List (List Nat × Ann) := []
def In89 : List (List Nat × Nat) := []
noncomputable def cs89 : List Ctr := [c103]
noncomputable def F89 (n : Nat) (a0 : DAttr) : Option DAttr := run Try.prog A89 In89 (conOf cs89) Try.f89 (Try.f89.body.getD .skip) (packT [TyAttr]) n (argsV [TyAttr] (a0, ()))
theorem F89_eq (n : Nat) (a0 : DAttr) : F89 n a0 =
    Option.bind (toC (.list .str) a0.2) fun (y1 : (List (List Int))) =>
    some (a0.1, y1) := by kernel_rfl
theorem mk89 (hcs : ∀ x ∈ cs89, CtrOk Try.prog x) (h : ∀ (a0 : DAttr) y, toC TyAttr a0 = some y → ∃ n, F89 n a0 = some y) : CtrOk Try.prog c89 := by
  refine ctr_of_run (c := c89) (by kernel_rfl : Try.prog.funcs[89]? = some Try.f89) (code := Try.f89.body.getD .skip) (by kernel_rfl) (by kernel_rfl) (by kernel_rfl) (A := A89) (I := In89) hcs ?_
  rintro ⟨a0, u⟩ y hy
  exact h a0 y hy

theorem hcs89 : ∀ x ∈ cs89, CtrOk Try.prog x := (conOf_cons ok103 conOf_nil)
theorem ok89 : CtrOk Try.prog c89 := mk89 hcs89 fun a0 y hy => by
  obtain ⟨hw, hs, rfl⟩ := toC_inv hy
  have hw2 : wfD .str y.1 ∧ wfD (.list .str) y.2 := hw
  have hs2 : Ty.size .str y.1 + (Ty.size (.list .str) y.2) ≤ 1099511627776 := hs
  refine ⟨0, ?_⟩
  rw [F89_eq]
  try (rw [toC_some hw2.2 (by omega)]; simp only [Option.bind_some])
  try rfl
/-! ## laws.toAttrS (66) -/
noncomputable def c66 : Ctr := ⟨66, [(.list TyAttr)], [(.list TyAttr)], fun x => toC (.list TyAttr) x.1⟩
def A66 : List (List Nat × Ann) := [([0, 3], [.keep 0 0, .keep 0 3, .keep 0 4, .rows 0 7 TyAttr])]
def In66 : List (List Nat × Nat) := []
noncomputable def cs66 : List Ctr := [c89]
noncomputable def F66 (n : Nat) (a0 : (List DAttr)) : Option (List DAttr) := run Try.prog A66 In66 (conOf cs66) Try.f66 (Try.f66.body.getD .skip) (packT [(.list TyAttr)]) n (argsV [(.list TyAttr)] (a0, ()))
noncomputable def L66_0_3 (n : Nat) (x1 : (List DAttr)) (x2 : Int) (x3 : (List DAttr)) : Option (List DAttr) := lam Try.prog A66 In66 (conOf cs66) Try.f66 (Try.f66.body.getD .skip) (packT [(.list TyAttr)]) n [0, 3] [.d (.list TyAttr) x1, .msl 0 7, .d I64 x2, .d (.list TyAttr) x3]
theorem F66_eq (n : Nat) (a0 : (List DAttr)) : F66 n a0 =
    bif decide ((a0.length : Int) = (a0.length : Int)) && decide ((0 : Int) ≤ (a0.length : Int)) && decide ((a0.length : Int) * 40 ≤ room) && true then
      L66_0_3 n a0 0 (List.replicate (Int.toNat (a0.length : Int)) (([] : List Int), []))
    else none := by kernel_rfl
theorem L66_0_3_eq (n : Nat) (x1 : (List DAttr)) (x2 : Int) (x3 : (List DAttr)) : L66_0_3 (n + 1) x1 x2 x3 =
    bif decide (x2 < (x1.length : Int)) then
      bif inB x2 x1.length then
        Option.bind (toC TyAttr (rd x1 x2 (Ty.dflt TyAttr))) fun (y1 : DAttr) =>
        bif inB x2 x3.length then
          bif inB x2 x3.length && true && true && true && true then
            L66_0_3 n x1 (IntKind.wrap .i64 (x2 + 1)) (x3.set (Int.toNat x2) y1)
          else none
        else none
      else none
    else
      some x3 := by kernel_rfl
theorem mk66 (hcs : ∀ x ∈ cs66, CtrOk Try.prog x) (h : ∀ (a0 : (List DAttr)) y, toC (.list TyAttr) a0 = some y → ∃ n, F66 n a0 = some y) : CtrOk Try.prog c66 := by
  refine ctr_of_run (c := c66) (by kernel_rfl : Try.prog.funcs[66]? = some Try.f66) (code := Try.f66.body.getD .skip) (by kernel_rfl) (by kernel_rfl) (by kernel_rfl) (A := A66) (I := In66) hcs ?_
  rintro ⟨a0, u⟩ y hy
  exact h a0 y hy

theorem hcs66 : ∀ x ∈ cs66, CtrOk Try.prog x := (conOf_cons ok89 conOf_nil)
theorem ok66 : CtrOk Try.prog c66 := mk66 hcs66 fun a0 y hy => by
  obtain ⟨n, hn⟩ := toS_ok (t := TyAttr) (f := toC TyAttr) (fun x h h2 => toC_some h h2) (by_ := 40) (by omega) (fun n xs i out => L66_0_3_eq n xs i out) hy
  exact ⟨n, (F66_eq n a0).trans hn⟩
/-! ## laws.toEntry (38) -/
noncomputable def c38 : Ctr := ⟨38, [TyEntry], [TyEntry], fun x => toC TyEntry x.1⟩
def A38 : List (List Nat × Ann) := []
def In38 : List (List Nat × Nat) := []
noncomputable def cs38 : List Ctr := [c65, c66]
noncomputable def F38 (n : Nat) (a0 : DEntry) : Option DEntry := run Try.prog A38 In38 (conOf cs38) Try.f38 (Try.f38.body.getD .skip) (packT [TyEntry]) n (argsV [TyEntry] (a0, ()))
theorem F38_eq (n : Nat) (a0 : DEntry) : F38 n a0 =
    Option.bind (toC (.list TyPart) a0.1) fun (y1 : (List DPart)) =>
    Option.bind (toC (.list TyAttr) a0.2) fun (y2 : (List DAttr)) =>
    some (y1, y2) := by kernel_rfl
theorem mk38 (hcs : ∀ x ∈ cs38, CtrOk Try.prog x) (h : ∀ (a0 : DEntry) y, toC TyEntry a0 = some y → ∃ n, F38 n a0 = some y) : CtrOk Try.prog c38 := by
  refine ctr_of_run (c := c38) (by kernel_rfl : Try.prog.funcs[38]? = some Try.f38) (code := Try.f38.body.getD .skip) (by kernel_rfl) (by kernel_rfl) (by kernel_rfl) (A := A38) (I := In38) hcs ?_
  rintro ⟨a0, u⟩ y hy
  exact h a0 y hy

theorem hcs38 : ∀ x ∈ cs38, CtrOk Try.prog x := (conOf_cons ok65 (conOf_cons ok66 conOf_nil))
theorem ok38 : CtrOk Try.prog c38 := mk38 hcs38 fun a0 y hy => by
  obtain ⟨hw, hs, rfl⟩ := toC_inv hy
  have hw2 : wfD (.list TyPart) y.1 ∧ wfD (.list TyAttr) y.2 := hw
  have hs2 : Ty.size (.list TyPart) y.1 + (Ty.size (.list TyAttr) y.2) ≤ 1099511627776 := hs
  refine ⟨0, ?_⟩
  rw [F38_eq]
  try (rw [toC_some hw2.1 (by omega)]; simp only [Option.bind_some])
  try (rw [toC_some hw2.2 (by omega)]; simp only [Option.bind_some])
  try rfl
/-! ## laws.eqPart (96) -/
noncomputable def c96 : Ctr := ⟨96, [TyPart, TyPart], [.bool], fun x => eqC TyPart x.1 x.2.1⟩
def A96 : List (List Nat × Ann) := []
def In96 : List (List Nat × Nat) := []
noncomputable def cs96 : List Ctr := []
noncomputable def F96 (n : Nat) (a0 : DPart) (a1 : DPart) : Option Bool := run Try.prog A96 In96 (conOf cs96) Try.f96 (Try.f96.body.getD .skip) (packT [.bool]) n (argsV [TyPart, TyPart] (a0, a1, ()))
theorem F96_eq (n : Nat) (a0 : DPart) (a1 : DPart) : F96 n a0 a1 =
    bif !decide (a0.1 = a1.1) then
      some false
    else
      bif !decide (a0.2 = a1.2) then
        some false
      else
        some true := by kernel_rfl
theorem mk96 (hcs : ∀ x ∈ cs96, CtrOk Try.prog x) (h : ∀ (a0 : DPart) (a1 : DPart) y, eqC TyPart a0 a1 = some y → ∃ n, F96 n a0 a1 = some y) : CtrOk Try.prog c96 := by
  refine ctr_of_run (c := c96) (by kernel_rfl : Try.prog.funcs[96]? = some Try.f96) (code := Try.f96.body.getD .skip) (by kernel_rfl) (by kernel_rfl) (by kernel_rfl) (A := A96) (I := In96) hcs ?_
  rintro ⟨a0, a1, u⟩ y hy
  exact h a0 a1 y hy

theorem hcs96 : ∀ x ∈ cs96, CtrOk Try.prog x := conOf_nil
theorem ok96 : CtrOk Try.prog c96 := mk96 hcs96 fun a0 a1 y hy => by
  obtain ⟨rfl, hw, rfl⟩ := eqC_inv hy
  have hw2 : wfD .str a0.1 ∧ wfD .str a0.2 := hw
  refine ⟨0, ?_⟩
  rw [F96_eq]
  simp []
/-! ## laws.eqPartS (69) -/
noncomputable def c69 : Ctr := ⟨69, [(.list TyPart), (.list TyPart)], [.bool], fun x => eqC (.list TyPart) x.1 x.2.1⟩
def A69 : List (List Nat × Ann) := [([0, 4], [.keep 0 0, .keep 0 1, .keep 0 5])]
def In69 : List (List Nat × Nat) := []
noncomputable def cs69 : List Ctr := [c96]
noncomputable def F69 (n : Nat) (a0 : (List DPart)) (a1 : (List DPart)) : Option Bool := run Try.prog A69 In69 (conOf cs69) Try.f69 (Try.f69.body.getD .skip) (packT [.bool]) n (argsV [(.list TyPart), (.list TyPart)] (a0, a1, ()))
noncomputable def L69_0_4 (n : Nat) (x1 : (List DPart)) (x2 : (List DPart)) (x3 : Int) : Option Bool := lam Try.prog A69 In69 (conOf cs69) Try.f69 (Try.f69.body.getD .skip) (packT [.bool]) n [0, 4] [.d (.list TyPart) x1, .d (.list TyPart) x2, .d I64 x3]
theorem F69_eq (n : Nat) (a0 : (List DPart)) (a1 : (List DPart)) : F69 n a0 a1 =
    bif !decide ((a0.length : Int) = (a1.length : Int)) then
      some false
    else
      L69_0_4 n a0 a1 0 := by kernel_rfl
theorem L69_0_4_eq (n : Nat) (x1 : (List DPart)) (x2 : (List DPart)) (x3 : Int) : L69_0_4 (n + 1) x1 x2 x3 =
    bif decide (x3 < (x1.length : Int)) then
      bif inB x3 x1.length then
        bif inB x3 x2.length then
          Option.bind (eqC TyPart (rd x1 x3 (Ty.dflt TyPart)) (rd x2 x3 (Ty.dflt TyPart))) fun (y1 : Bool) =>
          bif !(y1) then
            some false
          else
            L69_0_4 n x1 x2 (IntKind.wrap .i64 (x3 + 1))
        else none
      else none
    else
      some true := by kernel_rfl
theorem mk69 (hcs : ∀ x ∈ cs69, CtrOk Try.prog x) (h : ∀ (a0 : (List DPart)) (a1 : (List DPart)) y, eqC (.list TyPart) a0 a1 = some y → ∃ n, F69 n a0 a1 = some y) : CtrOk Try.prog c69 := by
  refine ctr_of_run (c := c69) (by kernel_rfl : Try.prog.funcs[69]? = some Try.f69) (code := Try.f69.body.getD .skip) (by kernel_rfl) (by kernel_rfl) (by kernel_rfl) (A := A69) (I := In69) hcs ?_
  rintro ⟨a0, a1, u⟩ y hy
  exact h a0 a1 y hy

theorem hcs69 : ∀ x ∈ cs69, CtrOk Try.prog x := (conOf_cons ok96 conOf_nil)
theorem ok69 : CtrOk Try.prog c69 := mk69 hcs69 fun a0 a1 y hy => by
  obtain ⟨n, hn⟩ := eqS_ok (t := TyPart) (body := fun x y K => Option.bind (eqC TyPart x y) fun b => bif !b then some false else K ()) (fun x K h => by simp only [eqC_some h, Option.bind_some, Bool.not_true, cond_false]) (fun n xs ys i => L69_0_4_eq n xs ys i) hy
  exact ⟨n, (F69_eq n a0 a1).trans hn⟩
/-! ## laws.eqStringS (107) -/
noncomputable def c107 : Ctr := ⟨107, [(.list .str), (.list .str)], [.bool], fun x => eqC (.list .str) x.1 x.2.1⟩
def A107 : List (List Nat × Ann) := [([0, 4], [.keep 0 0, .keep 0 1, .keep 0 5])]
def In107 : List (List Nat × Nat) := []
noncomputable def cs107 : List Ctr := []
noncomputable def F107 (n : Nat) (a0 : (List (List Int))) (a1 : (List (List Int))) : Option Bool := run Try.prog A107 In107 (conOf cs107) Try.f107 (Try.f107.body.getD .skip) (packT [.bool]) n (argsV [(.list .str), (.list .str)] (a0, a1, ()))
noncomputable def L107_0_4 (n : Nat) (x1 : (List (List Int))) (x2 : (List (List Int))) (x3 : Int) : Option Bool := lam Try.prog A107 In107 (conOf cs107) Try.f107 (Try.f107.body.getD .skip) (packT [.bool]) n [0, 4] [.d (.list .str) x1, .d (.list .str) x2, .d I64 x3]
theorem F107_eq (n : Nat) (a0 : (List (List Int))) (a1 : (List (List Int))) : F107 n a0 a1 =
    bif !decide ((a0.length : Int) = (a1.length : Int)) then
      some false
    else
      L107_0_4 n a0 a1 0 := by kernel_rfl
theorem L107_0_4_eq (n : Nat) (x1 : (List (List Int))) (x2 : (List (List Int))) (x3 : Int) : L107_0_4 (n + 1) x1 x2 x3 =
    bif decide (x3 < (x1.length : Int)) then
      bif inB x3 x1.length then
        bif inB x3 x2.length then
          bif !decide (rd x1 x3 (Ty.dflt .str) = rd x2 x3 (Ty.dflt .str)) then
            some false
          else
            L107_0_4 n x1 x2 (IntKind.wrap .i64 (x3 + 1))
        else none
      else none
    else
      some true := by kernel_rfl
theorem mk107 (hcs : ∀ x ∈ cs107, CtrOk Try.prog x) (h : ∀ (a0 : (List (List Int))) (a1 : (List (List Int))) y, eqC (.list .str) a0 a1 = some y → ∃ n, F107 n a0 a1 = some y) : CtrOk Try.prog c107 := by
  refine ctr_of_run (c := c107) (by kernel_rfl : Try.prog.funcs[107]? = some Try.f107) (code := Try.f107.body.getD .skip) (by kernel_rfl) (by kernel_rfl) (by kernel_rfl) (A := A107) (I := In107) hcs ?_
  rintro ⟨a0, a1, u⟩ y hy
  exact h a0 a1 y hy

theorem hcs107 : ∀ x ∈ cs107, CtrOk Try.prog x := conOf_nil
theorem ok107 : CtrOk Try.prog c107 := mk107 hcs107 fun a0 a1 y hy => by
  obtain ⟨n, hn⟩ := eqS_ok (t := .str) (body := fun x y K => bif !decide (x = y) then some false else K ()) (fun x K h => by simp) (fun n xs ys i => L107_0_4_eq n xs ys i) hy
  exact ⟨n, (F107_eq n a0 a1).trans hn⟩
/-! ## laws.eqAttr (97) -/
noncomputable def c97 : Ctr := ⟨97, [TyAttr, TyAttr], [.bool], fun x => eqC TyAttr x.1 x.2.1⟩
def A97 : List (List Nat × Ann) := []
def In97 : List (List Nat × Nat) := []
noncomputable def cs97 : List Ctr := [c107]
noncomputable def F97 (n : Nat) (a0 : DAttr) (a1 : DAttr) : Option Bool := run Try.prog A97 In97 (conOf cs97) Try.f97 (Try.f97.body.getD .skip) (packT [.bool]) n (argsV [TyAttr, TyAttr] (a0, a1, ()))
theorem F97_eq (n : Nat) (a0 : DAttr) (a1 : DAttr) : F97 n a0 a1 =
    bif !decide (a0.1 = a1.1) then
      some false
    else
      Option.bind (eqC (.list .str) a0.2 a1.2) fun (y1 : Bool) =>
      bif !(y1) then
        some false
      else
        some true := by kernel_rfl
theorem mk97 (hcs : ∀ x ∈ cs97, CtrOk Try.prog x) (h : ∀ (a0 : DAttr) (a1 : DAttr) y, eqC TyAttr a0 a1 = some y → ∃ n, F97 n a0 a1 = some y) : CtrOk Try.prog c97 := by
  refine ctr_of_run (c := c97) (by kernel_rfl : Try.prog.funcs[97]? = some Try.f97) (code := Try.f97.body.getD .skip) (by kernel_rfl) (by kernel_rfl) (by kernel_rfl) (A := A97) (I := In97) hcs ?_
  rintro ⟨a0, a1, u⟩ y hy
  exact h a0 a1 y hy

theorem hcs97 : ∀ x ∈ cs97, CtrOk Try.prog x := (conOf_cons ok107 conOf_nil)
theorem ok97 : CtrOk Try.prog c97 := mk97 hcs97 fun a0 a1 y hy => by
  obtain ⟨rfl, hw, rfl⟩ := eqC_inv hy
  have hw2 : wfD .str a0.1 ∧ wfD (.list .str) a0.2 := hw
  refine ⟨0, ?_⟩
  rw [F97_eq]
  simp [eqC_some hw2.2]
/-! ## laws.eqAttrS (70) -/
noncomputable def c70 : Ctr := ⟨70, [(.list TyAttr), (.list TyAttr)], [.bool], fun x => eqC (.list TyAttr) x.1 x.2.1⟩
def A70 : List (List Nat × Ann) := [([0, 4], [.keep 0 0, .keep 0 1, .keep 0 5])]
def In70 : List (List Nat × Nat) := []
noncomputable def cs70 : List Ctr := [c97]
noncomputable def F70 (n : Nat) (a0 : (List DAttr)) (a1 : (List DAttr)) : Option Bool := run Try.prog A70 In70 (conOf cs70) Try.f70 (Try.f70.body.getD .skip) (packT [.bool]) n (argsV [(.list TyAttr), (.list TyAttr)] (a0, a1, ()))
noncomputable def L70_0_4 (n : Nat) (x1 : (List DAttr)) (x2 : (List DAttr)) (x3 : Int) : Option Bool := lam Try.prog A70 In70 (conOf cs70) Try.f70 (Try.f70.body.getD .skip) (packT [.bool]) n [0, 4] [.d (.list TyAttr) x1, .d (.list TyAttr) x2, .d I64 x3]
theorem F70_eq (n : Nat) (a0 : (List DAttr)) (a1 : (List DAttr)) : F70 n a0 a1 =
    bif !decide ((a0.length : Int) = (a1.length : Int)) then
      some false
    else
      L70_0_4 n a0 a1 0 := by kernel_rfl
theorem L70_0_4_eq (n : Nat) (x1 : (List DAttr)) (x2 : (List DAttr)) (x3 : Int) : L70_0_4 (n + 1) x1 x2 x3 =
    bif decide (x3 < (x1.length : Int)) then
      bif inB x3 x1.length then
        bif inB x3 x2.length then
          Option.bind (eqC TyAttr (rd x1 x3 (Ty.dflt TyAttr)) (rd x2 x3 (Ty.dflt TyAttr))) fun (y1 : Bool) =>
          bif !(y1) then
            some false
          else
            L70_0_4 n x1 x2 (IntKind.wrap .i64 (x3 + 1))
        else none
      else none
    else
      some true := by kernel_rfl
theorem mk70 (hcs : ∀ x ∈ cs70, CtrOk Try.prog x) (h : ∀ (a0 : (List DAttr)) (a1 : (List DAttr)) y, eqC (.list TyAttr) a0 a1 = some y → ∃ n, F70 n a0 a1 = some y) : CtrOk Try.prog c70 := by
  refine ctr_of_run (c := c70) (by kernel_rfl : Try.prog.funcs[70]? = some Try.f70) (code := Try.f70.body.getD .skip) (by kernel_rfl) (by kernel_rfl) (by kernel_rfl) (A := A70) (I := In70) hcs ?_
  rintro ⟨a0, a1, u⟩ y hy
  exact h a0 a1 y hy

theorem hcs70 : ∀ x ∈ cs70, CtrOk Try.prog x := (conOf_cons ok97 conOf_nil)
theorem ok70 : CtrOk Try.prog c70 := mk70 hcs70 fun a0 a1 y hy => by
  obtain ⟨n, hn⟩ := eqS_ok (t := TyAttr) (body := fun x y K => Option.bind (eqC TyAttr x y) fun b => bif !b then some false else K ()) (fun x K h => by simp only [eqC_some h, Option.bind_some, Bool.not_true, cond_false]) (fun n xs ys i => L70_0_4_eq n xs ys i) hy
  exact ⟨n, (F70_eq n a0 a1).trans hn⟩
/-! ## laws.eqEntry (40) -/
noncomputable def c40 : Ctr := ⟨40, [TyEntry, TyEntry], [.bool], fun x => eqC TyEntry x.1 x.2.1⟩
def A40 : List (List Nat × Ann) := []
def In40 : List (List Nat × Nat) := []
noncomputable def cs40 : List Ctr := [c69, c70]
noncomputable def F40 (n : Nat) (a0 : DEntry) (a1 : DEntry) : Option Bool := run Try.prog A40 In40 (conOf cs40) Try.f40 (Try.f40.body.getD .skip) (packT [.bool]) n (argsV [TyEntry, TyEntry] (a0, a1, ()))
theorem F40_eq (n : Nat) (a0 : DEntry) (a1 : DEntry) : F40 n a0 a1 =
    Option.bind (eqC (.list TyPart) a0.1 a1.1) fun (y1 : Bool) =>
    bif !(y1) then
      some false
    else
      Option.bind (eqC (.list TyAttr) a0.2 a1.2) fun (y2 : Bool) =>
      bif !(y2) then
        some false
      else
        some true := by kernel_rfl
theorem mk40 (hcs : ∀ x ∈ cs40, CtrOk Try.prog x) (h : ∀ (a0 : DEntry) (a1 : DEntry) y, eqC TyEntry a0 a1 = some y → ∃ n, F40 n a0 a1 = some y) : CtrOk Try.prog c40 := by
  refine ctr_of_run (c := c40) (by kernel_rfl : Try.prog.funcs[40]? = some Try.f40) (code := Try.f40.body.getD .skip) (by kernel_rfl) (by kernel_rfl) (by kernel_rfl) (A := A40) (I := In40) hcs ?_
  rintro ⟨a0, a1, u⟩ y hy
  exact h a0 a1 y hy

theorem hcs40 : ∀ x ∈ cs40, CtrOk Try.prog x := (conOf_cons ok69 (conOf_cons ok70 conOf_nil))
theorem ok40 : CtrOk Try.prog c40 := mk40 hcs40 fun a0 a1 y hy => by
  obtain ⟨rfl, hw, rfl⟩ := eqC_inv hy
  have hw2 : wfD (.list TyPart) a0.1 ∧ wfD (.list TyAttr) a0.2 := hw
  refine ⟨0, ?_⟩
  rw [F40_eq]
  simp [eqC_some hw2.1, eqC_some hw2.2]
/-! ## laws.FnExactGoodEntry (8) -/
def A8 : List (List Nat × Ann) := []
def In8 : List (List Nat × Nat) := []
noncomputable def cs8 : List Ctr := [c36, c38, c37, c39, c40]
noncomputable def F8 (n : Nat) (a0 : DEntry) : Option Bool := run Try.prog A8 In8 (conOf cs8) Try.f8 (Try.f8.body.getD .skip) (packT [.bool]) n (argsV [TyEntry] (a0, ()))
theorem F8_eq (n : Nat) (a0 : DEntry) : F8 n a0 =
    Option.bind (szC TyEntry a0 1048576) fun (y1 : Int) =>
    bif decide (y1 < 0) then
      some true
    else
      Option.bind (toC TyEntry a0) fun (y2 : DEntry) =>
      Option.bind (need (wfA [TyEntry] (y2, ())) (goodEntry y2)) fun (y3 : Bool) =>
      Option.bind (toC TyEntry a0) fun (y4 : DEntry) =>
      Option.bind (need (wfA [TyEntry] (y4, ())) (goodEntry y4)) fun (y5 : Bool) =>
      bif y5 != y3 then
        some false
      else
        Option.bind (toC TyEntry a0) fun (y6 : DEntry) =>
        Option.bind (eqC TyEntry y4 y6) fun (y7 : Bool) =>
        bif !(y7) then
          some false
        else
          some true := by kernel_rfl

end Go.Ab
