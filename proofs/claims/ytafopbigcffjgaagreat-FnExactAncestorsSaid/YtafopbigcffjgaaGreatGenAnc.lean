import Derived.Test.YtafopbigcffjgaaGreatGenAnca
import Derived.Test.YtafopbigcffjgaaGreatProg
import Derived.KernelRfl
namespace Go.Ab
noncomputable section
open Go.Proofs
set_option maxRecDepth 20000
def Hu : Ctr:=⟨15,[Qc,I64],[I64],fun x=>szC Qc x.1 x.2.1⟩
def QeR : List (List Nat × Ann):=[]
def Qde : List (List Nat × Nat):=[]
def Wn : List Ctr:=[YK,VZ,Y6,GW]
def QeS (n : Nat) (a0 : Qf) (a1 : Int) : Option Int:=run Tryz.prog QeR Qde (Qk Wn) Tryz.f15 (Tryz.f15.body.getD .skip) (Ql [I64]) n (Qp [Qc,I64] (a0,a1,()))
theorem QiV (n : Nat) (a0 : Qf) (a1 : Int) : QeS n a0 a1 =
  Option.bind (szC Qa a0.1 a1) fun (y1 : Int) =>
  bif decide (y1 < 0) then
   some (-1)
  else
   Option.bind (szC (.list Qa) a0.2.1 y1) fun (y2 : Int) =>
   bif decide (y2 < 0) then
    some (-1)
   else
    Option.bind (szC (.list .str) a0.2.2.1 y2) fun (y3 : Int) =>
    bif decide (y3 < 0) then
     some (-1)
    else
     Option.bind (szC (.list Qg) a0.2.2.2 y3) fun (y4 : Int) =>
     bif decide (y4 < 0) then
      some (-1)
     else
      some y4:=by kernel_rfl
theorem QlI (hcs : ∀ x ∈ Wn,Qh Tryz.prog x) (h : ∀ (a0 : Qf) (a1 : Int) y,szC Qc a0 a1 = some y → ∃ n,QeS n a0 a1 = some y) : Qh Tryz.prog Hu:=by
 refine Qi (c:=Hu) (by kernel_rfl) (by kernel_rfl : Tryz.prog.funcs[15]? = some Tryz.f15) (code:=Tryz.f15.body.getD .skip) (by kernel_rfl) (by kernel_rfl) (by kernel_rfl) (A:=QeR) (I:=Qde) hcs ?_
 rintro ⟨a0,a1,u⟩ y hy
 exact h a0 a1 y hy
theorem Qku : ∀ x ∈ Wn,Qh Tryz.prog x:=(Qd Hr (Qd Qdb (Qd Qaj (Qd Qkt Qj))))
theorem QlJ : Qh Tryz.prog Hu:=QlI Qku fun a0 a1 y hy=>by
 obtain ⟨hw,h0,h1,rfl⟩:=QhT hy
 have hw2 : wfD Qa a0.1 ∧ wfD (.list Qa) a0.2.1 ∧ wfD (.list .str) a0.2.2.1 ∧ wfD (.list Qg) a0.2.2.2:=hw
 have hsz : Ty.size Qc a0 = Ty.size Qa a0.1 + (Ty.size (.list Qa) a0.2.1 + (Ty.size (.list .str) a0.2.2.1 + (Ty.size (.list Qg) a0.2.2.2))):=rfl
 refine ⟨0,?_⟩
 rw [QiV,hsz]
 rw [GA hw2.1 (show 0 ≤ a1 by omega) (by omega)]
 simp only [Option.bind_some]
 rcases Int.lt_or_le (a1) ((Ty.size Qa a0.1 : Nat) : Int) with h | h
 ·rw [show Qz (a1) (Ty.size Qa a0.1) = -1 by unfold Qz; rw [if_neg (by omega)]]; rw [decide_eq_true (show (-1 : Int) < 0 by omega)]; simp only [cond_true]; unfold Qz; rw [if_neg (by omega)]
 rw [show Qz (a1) (Ty.size Qa a0.1) = (a1 - ((Ty.size Qa a0.1 : Nat) : Int)) by unfold Qz; rw [if_pos h]]; rw [decide_eq_false (show ¬ (a1 - ((Ty.size Qa a0.1 : Nat) : Int)) < 0 by omega)]; simp only [cond_false]
 have h_0:=h; clear h
 rw [GA hw2.2.1 (show 0 ≤ (a1 - ((Ty.size Qa a0.1 : Nat) : Int)) by omega) (by omega)]
 simp only [Option.bind_some]
 rcases Int.lt_or_le ((a1 - ((Ty.size Qa a0.1 : Nat) : Int))) ((Ty.size (.list Qa) a0.2.1 : Nat) : Int) with h | h
 ·rw [show Qz ((a1 - ((Ty.size Qa a0.1 : Nat) : Int))) (Ty.size (.list Qa) a0.2.1) = -1 by unfold Qz; rw [if_neg (by omega)]]; rw [decide_eq_true (show (-1 : Int) < 0 by omega)]; simp only [cond_true]; unfold Qz; rw [if_neg (by omega)]
 rw [show Qz ((a1 - ((Ty.size Qa a0.1 : Nat) : Int))) (Ty.size (.list Qa) a0.2.1) = ((a1 - ((Ty.size Qa a0.1 : Nat) : Int)) - ((Ty.size (.list Qa) a0.2.1 : Nat) : Int)) by unfold Qz; rw [if_pos h]]; rw [decide_eq_false (show ¬ ((a1 - ((Ty.size Qa a0.1 : Nat) : Int)) - ((Ty.size (.list Qa) a0.2.1 : Nat) : Int)) < 0 by omega)]; simp only [cond_false]
 have h_1:=h; clear h
 rw [GA hw2.2.2.1 (show 0 ≤ ((a1 - ((Ty.size Qa a0.1 : Nat) : Int)) - ((Ty.size (.list Qa) a0.2.1 : Nat) : Int)) by omega) (by omega)]
 simp only [Option.bind_some]
 rcases Int.lt_or_le (((a1 - ((Ty.size Qa a0.1 : Nat) : Int)) - ((Ty.size (.list Qa) a0.2.1 : Nat) : Int))) ((Ty.size (.list .str) a0.2.2.1 : Nat) : Int) with h | h
 ·rw [show Qz (((a1 - ((Ty.size Qa a0.1 : Nat) : Int)) - ((Ty.size (.list Qa) a0.2.1 : Nat) : Int))) (Ty.size (.list .str) a0.2.2.1) = -1 by unfold Qz; rw [if_neg (by omega)]]; rw [decide_eq_true (show (-1 : Int) < 0 by omega)]; simp only [cond_true]; unfold Qz; rw [if_neg (by omega)]
 rw [show Qz (((a1 - ((Ty.size Qa a0.1 : Nat) : Int)) - ((Ty.size (.list Qa) a0.2.1 : Nat) : Int))) (Ty.size (.list .str) a0.2.2.1) = (((a1 - ((Ty.size Qa a0.1 : Nat) : Int)) - ((Ty.size (.list Qa) a0.2.1 : Nat) : Int)) - ((Ty.size (.list .str) a0.2.2.1 : Nat) : Int)) by unfold Qz; rw [if_pos h]]; rw [decide_eq_false (show ¬ (((a1 - ((Ty.size Qa a0.1 : Nat) : Int)) - ((Ty.size (.list Qa) a0.2.1 : Nat) : Int)) - ((Ty.size (.list .str) a0.2.2.1 : Nat) : Int)) < 0 by omega)]; simp only [cond_false]
 have h_2:=h; clear h
 rw [GA hw2.2.2.2 (show 0 ≤ (((a1 - ((Ty.size Qa a0.1 : Nat) : Int)) - ((Ty.size (.list Qa) a0.2.1 : Nat) : Int)) - ((Ty.size (.list .str) a0.2.2.1 : Nat) : Int)) by omega) (by omega)]
 simp only [Option.bind_some]
 rcases Int.lt_or_le ((((a1 - ((Ty.size Qa a0.1 : Nat) : Int)) - ((Ty.size (.list Qa) a0.2.1 : Nat) : Int)) - ((Ty.size (.list .str) a0.2.2.1 : Nat) : Int))) ((Ty.size (.list Qg) a0.2.2.2 : Nat) : Int) with h | h
 ·rw [show Qz ((((a1 - ((Ty.size Qa a0.1 : Nat) : Int)) - ((Ty.size (.list Qa) a0.2.1 : Nat) : Int)) - ((Ty.size (.list .str) a0.2.2.1 : Nat) : Int))) (Ty.size (.list Qg) a0.2.2.2) = -1 by unfold Qz; rw [if_neg (by omega)]]; rw [decide_eq_true (show (-1 : Int) < 0 by omega)]; simp only [cond_true]; unfold Qz; rw [if_neg (by omega)]
 rw [show Qz ((((a1 - ((Ty.size Qa a0.1 : Nat) : Int)) - ((Ty.size (.list Qa) a0.2.1 : Nat) : Int)) - ((Ty.size (.list .str) a0.2.2.1 : Nat) : Int))) (Ty.size (.list Qg) a0.2.2.2) = ((((a1 - ((Ty.size Qa a0.1 : Nat) : Int)) - ((Ty.size (.list Qa) a0.2.1 : Nat) : Int)) - ((Ty.size (.list .str) a0.2.2.1 : Nat) : Int)) - ((Ty.size (.list Qg) a0.2.2.2 : Nat) : Int)) by unfold Qz; rw [if_pos h]]; rw [decide_eq_false (show ¬ ((((a1 - ((Ty.size Qa a0.1 : Nat) : Int)) - ((Ty.size (.list Qa) a0.2.1 : Nat) : Int)) - ((Ty.size (.list .str) a0.2.2.1 : Nat) : Int)) - ((Ty.size (.list Qg) a0.2.2.2 : Nat) : Int)) < 0 by omega)]; simp only [cond_false]
 have h_3:=h; clear h
 unfold Qz; rw [if_pos (by omega)]; congr 1 <;> omega
def GX : Ctr:=⟨4,[(.list Qc),I64],[I64],fun x=>szC (.list Qc) x.1 x.2.1⟩
def Wo : List (List Nat × Ann):=[([0,5],[.keep 0 0,.keep 0 1,.keep 0 5])]
def Uw : List (List Nat × Nat):=[]
def Gj : List Ctr:=[Hu]
def Qdf (n : Nat) (a0 : (List Qf)) (a1 : Int) : Option Int:=run Tryz.prog Wo Uw (Qk Gj) Tryz.f4 (Tryz.f4.body.getD .skip) (Ql [I64]) n (Qp [(.list Qc),I64] (a0,a1,()))
abbrev Gw (n : Nat) (x1 : (List Qf)) (x2 : Int) (x3 : Int) : Option Int:=lam Tryz.prog Wo Uw (Qk Gj) Tryz.f4 (Tryz.f4.body.getD .skip) (Ql [I64]) n [0,5] [.d (.list Qc) x1,.d I64 x2,.d I64 x3]
theorem Qhk (n : Nat) (a0 : (List Qf)) (a1 : Int) : Qdf n a0 a1 =
  bif decide (IntKind.wrap .i64 (a1 - (a0.length : Int)) < 0) then
   some (-1)
  else
   Gw n a0 (IntKind.wrap .i64 (a1 - (a0.length : Int))) 0:=by kernel_rfl
theorem Qcs (n : Nat) (x1 : (List Qf)) (x2 : Int) (x3 : Int) : Gw (n + 1) x1 x2 x3 =
  bif decide (x3 < (x1.length : Int)) then
   bif inB x3 x1.length then
    Option.bind (szC Qc (((rd x1 x3 (Ty.dflt Qc)).1),((rd x1 x3 (Ty.dflt Qc)).2)) x2) fun (y1 : Int) =>
    bif decide (y1 < 0) then
     some (-1)
    else
     Gw n x1 y1 (IntKind.wrap .i64 (x3 + 1))
   else none
  else
   some x2:=by kernel_rfl
theorem Qkv (hcs : ∀ x ∈ Gj,Qh Tryz.prog x) (h : ∀ (a0 : (List Qf)) (a1 : Int) y,szC (.list Qc) a0 a1 = some y → ∃ n,Qdf n a0 a1 = some y) : Qh Tryz.prog GX:=by
 refine Qi (c:=GX) (by kernel_rfl) (by kernel_rfl : Tryz.prog.funcs[4]? = some Tryz.f4) (code:=Tryz.f4.body.getD .skip) (by kernel_rfl) (by kernel_rfl) (by kernel_rfl) (A:=Wo) (I:=Uw) hcs ?_
 rintro ⟨a0,a1,u⟩ y hy
 exact h a0 a1 y hy
theorem QiW : ∀ x ∈ Gj,Qh Tryz.prog x:=(Qd QlJ Qj)
theorem Qkw : Qh Tryz.prog GX:=Qkv QiW fun a0 a1 y hy=>by
 obtain ⟨n,hn⟩:=QmX (fun n xs s i=>Qcs n xs s i) hy
 exact ⟨n,(Qhk n a0 a1).trans hn⟩
def Vz : Ctr:=⟨25,[Qa,Qa],[.bool],fun x=>eqC Qa x.1 x.2.1⟩
def Qgb : List (List Nat × Ann):=[]
def QeT : List (List Nat × Nat):=[]
def EG : List Ctr:=[]
def Qgc (n : Nat) (a0 : Qb) (a1 : Qb) : Option Bool:=run Tryz.prog Qgb QeT (Qk EG) Tryz.f25 (Tryz.f25.body.getD .skip) (Ql [.bool]) n (Qp [Qa,Qa] (a0,a1,()))
theorem Qkx (n : Nat) (a0 : Qb) (a1 : Qb) : Qgc n a0 a1 =
  bif !decide (a0.1 = a1.1) then
   some false
  else
   bif !decide (a0.2.1 = a1.2.1) then
    some false
   else
    bif !decide (a0.2.2.1 = a1.2.2.1) then
     some false
    else
     bif !decide (a0.2.2.2 = a1.2.2.2) then
      some false
     else
      some true:=by kernel_rfl
theorem Qnk (hcs : ∀ x ∈ EG,Qh Tryz.prog x) (h : ∀ (a0 : Qb) (a1 : Qb) y,eqC Qa a0 a1 = some y → ∃ n,Qgc n a0 a1 = some y) : Qh Tryz.prog Vz:=by
 refine Qi (c:=Vz) (by kernel_rfl) (by kernel_rfl : Tryz.prog.funcs[25]? = some Tryz.f25) (code:=Tryz.f25.body.getD .skip) (by kernel_rfl) (by kernel_rfl) (by kernel_rfl) (A:=Qgb) (I:=QeT) hcs ?_
 rintro ⟨a0,a1,u⟩ y hy
 exact h a0 a1 y hy
theorem QlK : ∀ x ∈ EG,Qh Tryz.prog x:=Qj
theorem EH : Qh Tryz.prog Vz:=Qnk QlK fun a0 a1 y hy=>by
 obtain ⟨rfl,hw,rfl⟩:=Ql3 hy
 have hw2 : wfD I64 a0.1 ∧ wfD I64 a0.2.1 ∧ wfD .str a0.2.2.1 ∧ wfD .str a0.2.2.2:=hw
 refine ⟨0,?_⟩
 rw [Qkx]
 simp []
def Y7 : Ctr:=⟨10,[(.list Qa),(.list Qa)],[.bool],fun x=>eqC (.list Qa) x.1 x.2.1⟩
def EI : List (List Nat × Ann):=[([0,4],[.keep 0 0,.keep 0 1,.keep 0 5])]
def Wp : List (List Nat × Nat):=[]
def GY : List Ctr:=[Vz]
def QeU (n : Nat) (a0 : (List Qb)) (a1 : (List Qb)) : Option Bool:=run Tryz.prog EI Wp (Qk GY) Tryz.f10 (Tryz.f10.body.getD .skip) (Ql [.bool]) n (Qp [(.list Qa),(.list Qa)] (a0,a1,()))
abbrev Xl (n : Nat) (x1 : (List Qb)) (x2 : (List Qb)) (x3 : Int) : Option Bool:=lam Tryz.prog EI Wp (Qk GY) Tryz.f10 (Tryz.f10.body.getD .skip) (Ql [.bool]) n [0,4] [.d (.list Qa) x1,.d (.list Qa) x2,.d I64 x3]
theorem QiX (n : Nat) (a0 : (List Qb)) (a1 : (List Qb)) : QeU n a0 a1 =
  bif !decide ((a0.length : Int) = (a1.length : Int)) then
   some false
  else
   Xl n a0 a1 0:=by kernel_rfl
theorem QdA (n : Nat) (x1 : (List Qb)) (x2 : (List Qb)) (x3 : Int) : Xl (n + 1) x1 x2 x3 =
  bif decide (x3 < (x1.length : Int)) then
   bif inB x3 x1.length then
    bif inB x3 x2.length then
     Option.bind (eqC Qa (rd x1 x3 (Ty.dflt Qa)) (rd x2 x3 (Ty.dflt Qa))) fun (y1 : Bool) =>
     bif !(y1) then
      some false
     else
      Xl n x1 x2 (IntKind.wrap .i64 (x3 + 1))
    else none
   else none
  else
   some true:=by kernel_rfl
theorem QlL (hcs : ∀ x ∈ GY,Qh Tryz.prog x) (h : ∀ (a0 : (List Qb)) (a1 : (List Qb)) y,eqC (.list Qa) a0 a1 = some y → ∃ n,QeU n a0 a1 = some y) : Qh Tryz.prog Y7:=by
 refine Qi (c:=Y7) (by kernel_rfl) (by kernel_rfl : Tryz.prog.funcs[10]? = some Tryz.f10) (code:=Tryz.f10.body.getD .skip) (by kernel_rfl) (by kernel_rfl) (by kernel_rfl) (A:=EI) (I:=Wp) hcs ?_
 rintro ⟨a0,a1,u⟩ y hy
 exact h a0 a1 y hy
theorem Qky : ∀ x ∈ GY,Qh Tryz.prog x:=(Qd EH Qj)
theorem Wq : Qh Tryz.prog Y7:=QlL Qky fun a0 a1 y hy=>by
 obtain ⟨n,hn⟩:=QoR (t:=Qa) (body:=fun x y K=>Option.bind (eqC Qa x y) fun b=>bif !b then some false else K ()) (fun x K h=>by simp only [YZ h,Option.bind_some,Bool.not_true,cond_false]) (fun n xs ys i=>QdA n xs ys i) hy
 exact ⟨n,(QiX n a0 a1).trans hn⟩
def Y8 : Ctr:=⟨51,[(.list .str),(.list .str)],[.bool],fun x=>eqC (.list .str) x.1 x.2.1⟩
def Ux : List (List Nat × Ann):=[([0,4],[.keep 0 0,.keep 0 1,.keep 0 5])]
def Hv : List (List Nat × Nat):=[]
def VJ : List Ctr:=[]
def QbF (n : Nat) (a0 : (List (List Int))) (a1 : (List (List Int))) : Option Bool:=run Tryz.prog Ux Hv (Qk VJ) Tryz.f51 (Tryz.f51.body.getD .skip) (Ql [.bool]) n (Qp [(.list .str),(.list .str)] (a0,a1,()))
abbrev V1 (n : Nat) (x1 : (List (List Int))) (x2 : (List (List Int))) (x3 : Int) : Option Bool:=lam Tryz.prog Ux Hv (Qk VJ) Tryz.f51 (Tryz.f51.body.getD .skip) (Ql [.bool]) n [0,4] [.d (.list .str) x1,.d (.list .str) x2,.d I64 x3]
theorem QfR (n : Nat) (a0 : (List (List Int))) (a1 : (List (List Int))) : QbF n a0 a1 =
  bif !decide ((a0.length : Int) = (a1.length : Int)) then
   some false
  else
   V1 n a0 a1 0:=by kernel_rfl
theorem QbG (n : Nat) (x1 : (List (List Int))) (x2 : (List (List Int))) (x3 : Int) : V1 (n + 1) x1 x2 x3 =
  bif decide (x3 < (x1.length : Int)) then
   bif inB x3 x1.length then
    bif inB x3 x2.length then
     bif !decide (rd x1 x3 (Ty.dflt .str) = rd x2 x3 (Ty.dflt .str)) then
      some false
     else
      V1 n x1 x2 (IntKind.wrap .i64 (x3 + 1))
    else none
   else none
  else
   some true:=by kernel_rfl
theorem QiY (hcs : ∀ x ∈ VJ,Qh Tryz.prog x) (h : ∀ (a0 : (List (List Int))) (a1 : (List (List Int))) y,eqC (.list .str) a0 a1 = some y → ∃ n,QbF n a0 a1 = some y) : Qh Tryz.prog Y8:=by
 refine Qi (c:=Y8) (by kernel_rfl) (by kernel_rfl : Tryz.prog.funcs[51]? = some Tryz.f51) (code:=Tryz.f51.body.getD .skip) (by kernel_rfl) (by kernel_rfl) (by kernel_rfl) (A:=Ux) (I:=Hv) hcs ?_
 rintro ⟨a0,a1,u⟩ y hy
 exact h a0 a1 y hy
theorem Qhl : ∀ x ∈ VJ,Qh Tryz.prog x:=Qj
theorem Qak : Qh Tryz.prog Y8:=QiY Qhl fun a0 a1 y hy=>by
 obtain ⟨n,hn⟩:=QoR (t:=.str) (body:=fun x y K=>bif !decide (x = y) then some false else K ()) (fun x K h=>by simp) (fun n xs ys i=>QbG n xs ys i) hy
 exact ⟨n,(QfR n a0 a1).trans hn⟩
def Hw : Ctr:=⟨86,[Qg,Qg],[.bool],fun x=>eqC Qg x.1 x.2.1⟩
def QeV : List (List Nat × Ann):=[]
def Qdg : List (List Nat × Nat):=[]
def Wr : List Ctr:=[Vz,Y7,Y8]
def QeW (n : Nat) (a0 : Qn) (a1 : Qn) : Option Bool:=run Tryz.prog QeV Qdg (Qk Wr) Tryz.f86 (Tryz.f86.body.getD .skip) (Ql [.bool]) n (Qp [Qg,Qg] (a0,a1,()))
theorem QiZ (n : Nat) (a0 : Qn) (a1 : Qn) : QeW n a0 a1 =
  bif !decide (a0.1 = a1.1) then
   some false
  else
   Option.bind (eqC Qa a0.2.1 a1.2.1) fun (y1 : Bool) =>
   bif !(y1) then
    some false
   else
    Option.bind (eqC (.list Qa) a0.2.2.1 a1.2.2.1) fun (y2 : Bool) =>
    bif !(y2) then
     some false
    else
     Option.bind (eqC (.list .str) a0.2.2.2 a1.2.2.2) fun (y3 : Bool) =>
     bif !(y3) then
      some false
     else
      some true:=by kernel_rfl
theorem QlM (hcs : ∀ x ∈ Wr,Qh Tryz.prog x) (h : ∀ (a0 : Qn) (a1 : Qn) y,eqC Qg a0 a1 = some y → ∃ n,QeW n a0 a1 = some y) : Qh Tryz.prog Hw:=by
 refine Qi (c:=Hw) (by kernel_rfl) (by kernel_rfl : Tryz.prog.funcs[86]? = some Tryz.f86) (code:=Tryz.f86.body.getD .skip) (by kernel_rfl) (by kernel_rfl) (by kernel_rfl) (A:=QeV) (I:=Qdg) hcs ?_
 rintro ⟨a0,a1,u⟩ y hy
 exact h a0 a1 y hy
theorem Qkz : ∀ x ∈ Wr,Qh Tryz.prog x:=(Qd EH (Qd Wq (Qd Qak Qj)))
theorem QlN : Qh Tryz.prog Hw:=QlM Qkz fun a0 a1 y hy=>by
 obtain ⟨rfl,hw,rfl⟩:=Ql3 hy
 have hw2 : wfD I64 a0.1 ∧ wfD Qa a0.2.1 ∧ wfD (.list Qa) a0.2.2.1 ∧ wfD (.list .str) a0.2.2.2:=hw
 refine ⟨0,?_⟩
 rw [QiZ]
 simp [YZ hw2.2.1,YZ hw2.2.2.1,YZ hw2.2.2.2]
def GZ : Ctr:=⟨52,[(.list Qg),(.list Qg)],[.bool],fun x=>eqC (.list Qg) x.1 x.2.1⟩
def Ws : List (List Nat × Ann):=[([0,4],[.keep 0 0,.keep 0 1,.keep 0 5])]
def Uy : List (List Nat × Nat):=[]
def Gk : List Ctr:=[Hw]
def Qdh (n : Nat) (a0 : (List Qn)) (a1 : (List Qn)) : Option Bool:=run Tryz.prog Ws Uy (Qk Gk) Tryz.f52 (Tryz.f52.body.getD .skip) (Ql [.bool]) n (Qp [(.list Qg),(.list Qg)] (a0,a1,()))
abbrev Gx (n : Nat) (x1 : (List Qn)) (x2 : (List Qn)) (x3 : Int) : Option Bool:=lam Tryz.prog Ws Uy (Qk Gk) Tryz.f52 (Tryz.f52.body.getD .skip) (Ql [.bool]) n [0,4] [.d (.list Qg) x1,.d (.list Qg) x2,.d I64 x3]
theorem Qhm (n : Nat) (a0 : (List Qn)) (a1 : (List Qn)) : Qdh n a0 a1 =
  bif !decide ((a0.length : Int) = (a1.length : Int)) then
   some false
  else
   Gx n a0 a1 0:=by kernel_rfl
theorem Qct (n : Nat) (x1 : (List Qn)) (x2 : (List Qn)) (x3 : Int) : Gx (n + 1) x1 x2 x3 =
  bif decide (x3 < (x1.length : Int)) then
   bif inB x3 x1.length then
    bif inB x3 x2.length then
     Option.bind (eqC Qg (rd x1 x3 (Ty.dflt Qg)) (rd x2 x3 (Ty.dflt Qg))) fun (y1 : Bool) =>
     bif !(y1) then
      some false
     else
      Gx n x1 x2 (IntKind.wrap .i64 (x3 + 1))
    else none
   else none
  else
   some true:=by kernel_rfl
theorem QkA (hcs : ∀ x ∈ Gk,Qh Tryz.prog x) (h : ∀ (a0 : (List Qn)) (a1 : (List Qn)) y,eqC (.list Qg) a0 a1 = some y → ∃ n,Qdh n a0 a1 = some y) : Qh Tryz.prog GZ:=by
 refine Qi (c:=GZ) (by kernel_rfl) (by kernel_rfl : Tryz.prog.funcs[52]? = some Tryz.f52) (code:=Tryz.f52.body.getD .skip) (by kernel_rfl) (by kernel_rfl) (by kernel_rfl) (A:=Ws) (I:=Uy) hcs ?_
 rintro ⟨a0,a1,u⟩ y hy
 exact h a0 a1 y hy
theorem Qi0 : ∀ x ∈ Gk,Qh Tryz.prog x:=(Qd QlN Qj)
theorem QkB : Qh Tryz.prog GZ:=QkA Qi0 fun a0 a1 y hy=>by
 obtain ⟨n,hn⟩:=QoR (t:=Qg) (body:=fun x y K=>Option.bind (eqC Qg x y) fun b=>bif !b then some false else K ()) (fun x K h=>by simp only [YZ h,Option.bind_some,Bool.not_true,cond_false]) (fun n xs ys i=>Qct n xs ys i) hy
 exact ⟨n,(Qhm n a0 a1).trans hn⟩
def Hx : Ctr:=⟨26,[Qc,Qc],[.bool],fun x=>eqC Qc x.1 x.2.1⟩
def QeX : List (List Nat × Ann):=[]
def Qdi : List (List Nat × Nat):=[]
def Wt : List Ctr:=[Vz,Y7,Y8,GZ]
def QeY (n : Nat) (a0 : Qf) (a1 : Qf) : Option Bool:=run Tryz.prog QeX Qdi (Qk Wt) Tryz.f26 (Tryz.f26.body.getD .skip) (Ql [.bool]) n (Qp [Qc,Qc] (a0,a1,()))
theorem Qi1 (n : Nat) (a0 : Qf) (a1 : Qf) : QeY n a0 a1 =
  Option.bind (eqC Qa a0.1 a1.1) fun (y1 : Bool) =>
  bif !(y1) then
   some false
  else
   Option.bind (eqC (.list Qa) a0.2.1 a1.2.1) fun (y2 : Bool) =>
   bif !(y2) then
    some false
   else
    Option.bind (eqC (.list .str) a0.2.2.1 a1.2.2.1) fun (y3 : Bool) =>
    bif !(y3) then
     some false
    else
     Option.bind (eqC (.list Qg) a0.2.2.2 a1.2.2.2) fun (y4 : Bool) =>
     bif !(y4) then
      some false
     else
      some true:=by kernel_rfl
theorem QlO (hcs : ∀ x ∈ Wt,Qh Tryz.prog x) (h : ∀ (a0 : Qf) (a1 : Qf) y,eqC Qc a0 a1 = some y → ∃ n,QeY n a0 a1 = some y) : Qh Tryz.prog Hx:=by
 refine Qi (c:=Hx) (by kernel_rfl) (by kernel_rfl : Tryz.prog.funcs[26]? = some Tryz.f26) (code:=Tryz.f26.body.getD .skip) (by kernel_rfl) (by kernel_rfl) (by kernel_rfl) (A:=QeX) (I:=Qdi) hcs ?_
 rintro ⟨a0,a1,u⟩ y hy
 exact h a0 a1 y hy
theorem QkC : ∀ x ∈ Wt,Qh Tryz.prog x:=(Qd EH (Qd Wq (Qd Qak (Qd QkB Qj))))
theorem QlP : Qh Tryz.prog Hx:=QlO QkC fun a0 a1 y hy=>by
 obtain ⟨rfl,hw,rfl⟩:=Ql3 hy
 have hw2 : wfD Qa a0.1 ∧ wfD (.list Qa) a0.2.1 ∧ wfD (.list .str) a0.2.2.1 ∧ wfD (.list Qg) a0.2.2.2:=hw
 refine ⟨0,?_⟩
 rw [Qi1]
 simp [YZ hw2.1,YZ hw2.2.1,YZ hw2.2.2.1,YZ hw2.2.2.2]
def G0 : Ctr:=⟨11,[(.list Qc),(.list Qc)],[.bool],fun x=>eqC (.list Qc) x.1 x.2.1⟩
def Wu : List (List Nat × Ann):=[([0,4],[.keep 0 0,.keep 0 1,.keep 0 5])]
def Uz : List (List Nat × Nat):=[]
def Gl : List Ctr:=[Hx]
def Qdj (n : Nat) (a0 : (List Qf)) (a1 : (List Qf)) : Option Bool:=run Tryz.prog Wu Uz (Qk Gl) Tryz.f11 (Tryz.f11.body.getD .skip) (Ql [.bool]) n (Qp [(.list Qc),(.list Qc)] (a0,a1,()))
abbrev Gy (n : Nat) (x1 : (List Qf)) (x2 : (List Qf)) (x3 : Int) : Option Bool:=lam Tryz.prog Wu Uz (Qk Gl) Tryz.f11 (Tryz.f11.body.getD .skip) (Ql [.bool]) n [0,4] [.d (.list Qc) x1,.d (.list Qc) x2,.d I64 x3]
theorem Qhn (n : Nat) (a0 : (List Qf)) (a1 : (List Qf)) : Qdj n a0 a1 =
  bif !decide ((a0.length : Int) = (a1.length : Int)) then
   some false
  else
   Gy n a0 a1 0:=by kernel_rfl
theorem Qcu (n : Nat) (x1 : (List Qf)) (x2 : (List Qf)) (x3 : Int) : Gy (n + 1) x1 x2 x3 =
  bif decide (x3 < (x1.length : Int)) then
   bif inB x3 x1.length then
    bif inB x3 x2.length then
     Option.bind (eqC Qc (((rd x1 x3 (Ty.dflt Qc)).1),((rd x1 x3 (Ty.dflt Qc)).2)) (((rd x2 x3 (Ty.dflt Qc)).1),((rd x2 x3 (Ty.dflt Qc)).2))) fun (y1 : Bool) =>
     bif !(y1) then
      some false
     else
      Gy n x1 x2 (IntKind.wrap .i64 (x3 + 1))
    else none
   else none
  else
   some true:=by kernel_rfl
theorem QkD (hcs : ∀ x ∈ Gl,Qh Tryz.prog x) (h : ∀ (a0 : (List Qf)) (a1 : (List Qf)) y,eqC (.list Qc) a0 a1 = some y → ∃ n,Qdj n a0 a1 = some y) : Qh Tryz.prog G0:=by
 refine Qi (c:=G0) (by kernel_rfl) (by kernel_rfl : Tryz.prog.funcs[11]? = some Tryz.f11) (code:=Tryz.f11.body.getD .skip) (by kernel_rfl) (by kernel_rfl) (by kernel_rfl) (A:=Wu) (I:=Uz) hcs ?_
 rintro ⟨a0,a1,u⟩ y hy
 exact h a0 a1 y hy
theorem Qi2 : ∀ x ∈ Gl,Qh Tryz.prog x:=(Qd QlP Qj)
theorem QkE : Qh Tryz.prog G0:=QkD Qi2 fun a0 a1 y hy=>by
 obtain ⟨n,hn⟩:=QoR (t:=Qc) (body:=fun x y K=>Option.bind (eqC Qc x y) fun b=>bif !b then some false else K ()) (fun x K h=>by simp only [YZ h,Option.bind_some,Bool.not_true,cond_false]) (fun n xs ys i=>Qcu n xs ys i) hy
 exact ⟨n,(Qhn n a0 a1).trans hn⟩
def Jd (x1 : (List Qf)) (x2 : (List Qb)) (x3 : (List Qb)) (x4 : Qb) : Option Bool :=
 Option.bind (Qcz (.list Qa) x3 1) fun (y14 : (Int × (List Qb))) =>
 Option.bind (ZS y14.2 1) fun (y15 : Int) =>
 bif decide (y15 < 0) then
  some false
 else
  bif !decide (y15 = y14.1) then
   some false
  else
   Option.bind (toC (.list Qc) x1) fun (y16 : (List Qf)) =>
   Option.bind (toC Qa x4) fun (y17 : Qb) =>
   Option.bind (Ze y16 y17) fun (y18 : (List Qb)) =>
   Option.bind (eqC (.list Qa) y18 x2) fun (y19 : Bool) =>
   bif !(y19) then
    some false
   else
    Option.bind (ZS y14.2 1) fun (y20 : Int) =>
    bif decide (y20 < 0) then
     some false
    else
     bif !decide (y20 = y14.1) then
      some false
     else
      some true
def JT (a0 : (List Qf)) (a1 : Qb) : Option Bool :=
 Option.bind (szC (.list Qc) a0 1048576) fun (y1 : Int) =>
 bif decide (y1 < 0) then
  some true
 else
  Option.bind (szC Qa a1 y1) fun (y2 : Int) =>
  bif decide (y2 < 0) then
   some true
  else
   Option.bind (toC (.list Qc) a0) fun (y3 : (List Qf)) =>
   Option.bind (toC Qa a1) fun (y4 : Qb) =>
   Option.bind (JD y3 y4) fun (y5 : (List Qb)) =>
   Option.bind (toC (.list Qc) a0) fun (y6 : (List Qf)) =>
   Option.bind (toC Qa a1) fun (y7 : Qb) =>
   Option.bind (Ze y6 y7) fun (y8 : (List Qb)) =>
   Option.bind (eqC (.list Qa) y8 y5) fun (y9 : Bool) =>
   bif !(y9) then
    some false
   else
    Option.bind (toC (.list Qc) a0) fun (y10 : (List Qf)) =>
    Option.bind (eqC (.list Qc) y6 y10) fun (y11 : Bool) =>
    bif !(y11) then
     some false
    else
     Option.bind (Qcz (.list Qc) y6 1) fun (y12 : (Int × (List Qf))) =>
     bif decide (y12.1 < 0) then
      some false
     else
      Option.bind (eqC (.list Qa) y8 y5) fun (y13 : Bool) =>
      bif !(y13) then
       some false
      else
       Jd a0 y5 y8 a1
def Y9 : List (List Nat × Ann):=[([1,19],[.keep 0 0,.keep 0 3,.keep 0 6,.drb 0 8 Qa,.boxd 0 3 Qa])]
def YL : List (List Nat × Nat):=[([9001],2000007),([10003],2000009),([16002],3000012),([20002],3000013)]
def YM : List Ctr:=[GX,YK,GU,Jp,H2,Qbz,Qah,Y7,G0,ED,Qai,Us,Qbp]
def Xx (n : Nat) (a0 : (List Qf)) (a1 : Qb) : Option Bool:=run Tryz.prog Y9 YL (Qk YM) Tryz.f3 (Tryz.f3.body.getD .skip) (Ql [.bool]) n (Qp [(.list Qc),Qa] (a0,a1,()))
abbrev JW (n : Nat) (x1 : (List Qf)) (x2 : (List Qb)) (x3 : (List Qb)) (x4 : Qb) : Option Bool:=lam Tryz.prog Y9 YL (Qk YM) Tryz.f3 (Tryz.f3.body.getD .skip) (Ql [.bool]) n [1,19] [.d (.list Qc) x1,.ptr 0 3 0,.d (.list Qa) x2,.d (.list Qa) x3,.agg (Qm Qa x4)]
theorem EJ (n : Nat) (a0 : (List Qf)) (a1 : Qb) : Xx n a0 a1 =
  Option.bind (szC (.list Qc) a0 1048576) fun (y1 : Int) =>
  bif decide (y1 < 0) then
   some true
  else
   Option.bind (szC Qa a1 y1) fun (y2 : Int) =>
   bif decide (y2 < 0) then
    some true
   else
    Option.bind (toC (.list Qc) a0) fun (y3 : (List Qf)) =>
    Option.bind (toC Qa a1) fun (y4 : Qb) =>
    Option.bind (JD y3 y4) fun (y5 : (List Qb)) =>
    Option.bind (toC (.list Qc) a0) fun (y6 : (List Qf)) =>
    Option.bind (toC Qa a1) fun (y7 : Qb) =>
    Option.bind (Ze y6 y7) fun (y8 : (List Qb)) =>
    Option.bind (eqC (.list Qa) y8 y5) fun (y9 : Bool) =>
    bif !(y9) then
     some false
    else
     Option.bind (toC (.list Qc) a0) fun (y10 : (List Qf)) =>
     Option.bind (eqC (.list Qc) y6 y10) fun (y11 : Bool) =>
     bif !(y11) then
      some false
     else
      Option.bind (Qcz (.list Qc) y6 1) fun (y12 : (Int × (List Qf))) =>
      bif decide (y12.1 < 0) then
       some false
      else
       Option.bind (eqC (.list Qa) y8 y5) fun (y13 : Bool) =>
       bif !(y13) then
        some false
       else
        JW n a0 y5 y8 a1:=by kernel_rfl
theorem Hz (n : Nat) (x1 : (List Qf)) (x2 : (List Qb)) (x3 : (List Qb)) (x4 : Qb) : JW (n + 1) x1 x2 x3 x4 =
  Option.bind (Qcz (.list Qa) x3 1) fun (y14 : (Int × (List Qb))) =>
  Option.bind (ZS y14.2 1) fun (y15 : Int) =>
  bif decide (y15 < 0) then
   some false
  else
   bif !decide (y15 = y14.1) then
    some false
   else
    Option.bind (toC (.list Qc) x1) fun (y16 : (List Qf)) =>
    Option.bind (toC Qa x4) fun (y17 : Qb) =>
    Option.bind (Ze y16 y17) fun (y18 : (List Qb)) =>
    Option.bind (eqC (.list Qa) y18 x2) fun (y19 : Bool) =>
    bif !(y19) then
     some false
    else
     Option.bind (ZS y14.2 1) fun (y20 : Int) =>
     bif decide (y20 < 0) then
      some false
     else
      bif !decide (y20 = y14.1) then
       some false
      else
       some true:=by kernel_rfl
theorem Wv {x1 : (List Qf)} {x2 : (List Qb)} {x3 : (List Qb)} {x4 : Qb} {r : Bool} (h : Jd x1 x2 x3 x4 = some r) : Ev (fun n=>JW n x1 x2 x3 x4) r:=by
 rw [Jd] at h
 refine Ev.step ?_ (fun n=>Hz n x1 x2 x3 x4)
 exact (Ev.ofBind h fun y14 h=>(Ev.ofBind h fun y15 h=>(Ev.ofBif h (fun h=>(Ev.ofSome h)) (fun h=>(Ev.ofBif h (fun h=>(Ev.ofSome h)) (fun h=>(Ev.ofBind h fun y16 h=>(Ev.ofBind h fun y17 h=>(Ev.ofBind h fun y18 h=>(Ev.ofBind h fun y19 h=>(Ev.ofBif h (fun h=>(Ev.ofSome h)) (fun h=>(Ev.ofBind h fun y20 h=>(Ev.ofBif h (fun h=>(Ev.ofSome h)) (fun h=>(Ev.ofBif h (fun h=>(Ev.ofSome h)) (fun h=>(Ev.ofSome h))))))))))))))))))
theorem QbH (a0 : (List Qf)) (a1 : Qb) {r : Bool} (h : JT a0 a1 = some r) : Ev (fun n=>Xx n a0 a1) r:=by
 rw [JT] at h
 refine Ev.of_eq ?_ (fun n=>EJ n a0 a1)
 exact (Ev.ofBind h fun y1 h=>(Ev.ofBif h (fun h=>(Ev.ofSome h)) (fun h=>(Ev.ofBind h fun y2 h=>(Ev.ofBif h (fun h=>(Ev.ofSome h)) (fun h=>(Ev.ofBind h fun y3 h=>(Ev.ofBind h fun y4 h=>(Ev.ofBind h fun y5 h=>(Ev.ofBind h fun y6 h=>(Ev.ofBind h fun y7 h=>(Ev.ofBind h fun y8 h=>(Ev.ofBind h fun y9 h=>(Ev.ofBif h (fun h=>(Ev.ofSome h)) (fun h=>(Ev.ofBind h fun y10 h=>(Ev.ofBind h fun y11 h=>(Ev.ofBif h (fun h=>(Ev.ofSome h)) (fun h=>(Ev.ofBind h fun y12 h=>(Ev.ofBif h (fun h=>(Ev.ofSome h)) (fun h=>(Ev.ofBind h fun y13 h=>(Ev.ofBif h (fun h=>(Ev.ofSome h)) (fun h=>(Wv h))))))))))))))))))))))))))
end
end Go.Ab
