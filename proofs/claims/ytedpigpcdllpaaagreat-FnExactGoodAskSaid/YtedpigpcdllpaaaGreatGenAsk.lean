import Derived.Test.YtedpigpcdllpaaaGreatGenAskb
import Derived.Test.YtedpigpcdllpaaaGreatProg
import Derived.KernelRfl
namespace Go.Ab
noncomputable section
open Go.Proofs
set_option maxRecDepth 20000
def X0 : Ctr:=⟨128,[(.list Qh),I64],[I64],fun x=>szC (.list Qh) x.1 x.2.1⟩
def WX : List (List Nat × Ann):=[([0,5],[.keep 0 0,.keep 0 1,.keep 0 5])]
def UU : List (List Nat × Nat):=[]
def Xq : List Ctr:=[Hp]
def Qee (n : Nat) (a0 : (List Qc)) (a1 : Int) : Option Int:=run Tryz.prog WX UU (Qv Xq) Tryz.f128 (Tryz.f128.body.getD .skip) (Qy [I64]) n (QE [(.list Qh),I64] (a0,a1,()))
abbrev He (n : Nat) (x1 : (List Qc)) (x2 : Int) (x3 : Int) : Option Int:=lam Tryz.prog WX UU (Qv Xq) Tryz.f128 (Tryz.f128.body.getD .skip) (Qy [I64]) n [0,5] [.d (.list Qh) x1,.d I64 x2,.d I64 x3]
theorem QjM (n : Nat) (a0 : (List Qc)) (a1 : Int) : Qee n a0 a1 =
  bif decide (IntKind.wrap .i64 (a1 - (a0.length : Int)) < 0) then
   some (-1)
  else
   He n a0 (IntKind.wrap .i64 (a1 - (a0.length : Int))) 0:=by kernel_rfl
theorem QfG (n : Nat) (x1 : (List Qc)) (x2 : Int) (x3 : Int) : He (n + 1) x1 x2 x3 =
  bif decide (x3 < (x1.length : Int)) then
   bif inB x3 x1.length then
    Option.bind (szC Qh (rd x1 x3 (Ty.dflt Qh)) x2) fun (y1 : Int) =>
    bif decide (y1 < 0) then
     some (-1)
    else
     He n x1 y1 (IntKind.wrap .i64 (x3 + 1))
   else none
  else
   some x2:=by kernel_rfl
theorem QmG (hcs : ∀ x ∈ Xq,Qo Tryz.prog x) (h : ∀ (a0 : (List Qc)) (a1 : Int) y,szC (.list Qh) a0 a1 = some y → ∃ n,Qee n a0 a1 = some y) : Qo Tryz.prog X0:=by
 refine Qq (c:=X0) (by kernel_rfl) (by kernel_rfl : Tryz.prog.funcs[128]? = some Tryz.f128) (code:=Tryz.f128.body.getD .skip) (by kernel_rfl) (by kernel_rfl) (by kernel_rfl) (A:=WX) (I:=UU) hcs ?_
 rintro ⟨a0,a1,u⟩ y hy
 exact h a0 a1 y hy
theorem Qla : ∀ x ∈ Xq,Qo Tryz.prog x:=(Ql Qol Qt)
theorem QmH : Qo Tryz.prog X0:=QmG Qla fun a0 a1 y hy=>by
 obtain ⟨n,hn⟩:=QdQ (fun n xs s i=>QfG n xs s i) hy
 exact ⟨n,(QjM n a0 a1).trans hn⟩
def Er : Ctr:=⟨72,[Qe,I64],[I64],fun x=>szC Qe x.1 x.2.1⟩
def QjN : List (List Nat × Ann):=[]
def QhS : List (List Nat × Nat):=[]
def Qb5 : List Ctr:=[Ub,X0]
def QjO (n : Nat) (a0 : Qb) (a1 : Int) : Option Int:=run Tryz.prog QjN QhS (Qv Qb5) Tryz.f72 (Tryz.f72.body.getD .skip) (Qy [I64]) n (QE [Qe,I64] (a0,a1,()))
theorem QpL (n : Nat) (a0 : Qb) (a1 : Int) : QjO n a0 a1 =
  bif decide (IntKind.wrap .i64 (a1 - (a0.1.length : Int)) < 0) then
   some (-1)
  else
   Option.bind (szC (.list Qj) a0.2.1 (IntKind.wrap .i64 (a1 - (a0.1.length : Int)))) fun (y1 : Int) =>
   bif decide (y1 < 0) then
    some (-1)
   else
    Option.bind (szC (.list Qh) a0.2.2 y1) fun (y2 : Int) =>
    bif decide (y2 < 0) then
     some (-1)
    else
     some y2:=by kernel_rfl
theorem QtU (hcs : ∀ x ∈ Qb5,Qo Tryz.prog x) (h : ∀ (a0 : Qb) (a1 : Int) y,szC Qe a0 a1 = some y → ∃ n,QjO n a0 a1 = some y) : Qo Tryz.prog Er:=by
 refine Qq (c:=Er) (by kernel_rfl) (by kernel_rfl : Tryz.prog.funcs[72]? = some Tryz.f72) (code:=Tryz.f72.body.getD .skip) (by kernel_rfl) (by kernel_rfl) (by kernel_rfl) (A:=QjN) (I:=QhS) hcs ?_
 rintro ⟨a0,a1,u⟩ y hy
 exact h a0 a1 y hy
theorem QrY : ∀ x ∈ Qb5,Qo Tryz.prog x:=(Ql QpI (Ql QmH Qt))
theorem QtV : Qo Tryz.prog Er:=QtU QrY fun a0 a1 y hy=>by
 obtain ⟨hw,h0,h1,rfl⟩:=Qao hy
 have hw2 : wfD .str a0.1 ∧ wfD (.list Qj) a0.2.1 ∧ wfD (.list Qh) a0.2.2:=hw
 have hsz : Ty.size Qe a0 = Ty.size .str a0.1 + (Ty.size (.list Qj) a0.2.1 + (Ty.size (.list Qh) a0.2.2)):=rfl
 have z0 : Ty.size .str a0.1 = a0.1.length:=rfl
 refine ⟨0,?_⟩
 rw [QpL,hsz]
 have hn0 : a0.1.length ≤ maxLen:=by have:=(hw2.1).1; unfold maxLen; omega
 rw [Jq (left:=a1) (n:=a0.1.length) (by omega) (by omega) hn0]
 rcases Int.lt_or_le (a1) (a0.1.length : Int) with h | h
 ·rw [decide_eq_true (show (a1 - (a0.1.length : Int)) < 0 by omega)]; simp only [cond_true]; unfold QY; rw [if_neg (by omega)]
 rw [decide_eq_false (show ¬ (a1 - (a0.1.length : Int)) < 0 by omega)]; simp only [cond_false]
 have h_0:=h; clear h
 rw [Uv hw2.2.1 (show 0 ≤ (a1 - (a0.1.length : Int)) by omega) (by omega)]
 simp only [Option.bind_some]
 rcases Int.lt_or_le ((a1 - (a0.1.length : Int))) ((Ty.size (.list Qj) a0.2.1 : Nat) : Int) with h | h
 ·rw [show QY ((a1 - (a0.1.length : Int))) (Ty.size (.list Qj) a0.2.1) = -1 by unfold QY; rw [if_neg (by omega)]]; rw [decide_eq_true (show (-1 : Int) < 0 by omega)]; simp only [cond_true]; unfold QY; rw [if_neg (by omega)]
 rw [show QY ((a1 - (a0.1.length : Int))) (Ty.size (.list Qj) a0.2.1) = ((a1 - (a0.1.length : Int)) - ((Ty.size (.list Qj) a0.2.1 : Nat) : Int)) by unfold QY; rw [if_pos h]]; rw [decide_eq_false (show ¬ ((a1 - (a0.1.length : Int)) - ((Ty.size (.list Qj) a0.2.1 : Nat) : Int)) < 0 by omega)]; simp only [cond_false]
 have h_1:=h; clear h
 rw [Uv hw2.2.2 (show 0 ≤ ((a1 - (a0.1.length : Int)) - ((Ty.size (.list Qj) a0.2.1 : Nat) : Int)) by omega) (by omega)]
 simp only [Option.bind_some]
 rcases Int.lt_or_le (((a1 - (a0.1.length : Int)) - ((Ty.size (.list Qj) a0.2.1 : Nat) : Int))) ((Ty.size (.list Qh) a0.2.2 : Nat) : Int) with h | h
 ·rw [show QY (((a1 - (a0.1.length : Int)) - ((Ty.size (.list Qj) a0.2.1 : Nat) : Int))) (Ty.size (.list Qh) a0.2.2) = -1 by unfold QY; rw [if_neg (by omega)]]; rw [decide_eq_true (show (-1 : Int) < 0 by omega)]; simp only [cond_true]; unfold QY; rw [if_neg (by omega)]
 rw [show QY (((a1 - (a0.1.length : Int)) - ((Ty.size (.list Qj) a0.2.1 : Nat) : Int))) (Ty.size (.list Qh) a0.2.2) = (((a1 - (a0.1.length : Int)) - ((Ty.size (.list Qj) a0.2.1 : Nat) : Int)) - ((Ty.size (.list Qh) a0.2.2 : Nat) : Int)) by unfold QY; rw [if_pos h]]; rw [decide_eq_false (show ¬ (((a1 - (a0.1.length : Int)) - ((Ty.size (.list Qj) a0.2.1 : Nat) : Int)) - ((Ty.size (.list Qh) a0.2.2 : Nat) : Int)) < 0 by omega)]; simp only [cond_false]
 have h_2:=h; clear h
 unfold QY; rw [if_pos (by omega)]; congr 1 <;> omega
def Wo : Ctr:=⟨39,[(.list Qe),I64],[I64],fun x=>szC (.list Qe) x.1 x.2.1⟩
def Qb6 : List (List Nat × Ann):=[([0,5],[.keep 0 0,.keep 0 1,.keep 0 5])]
def QaR : List (List Nat × Nat):=[]
def Ue : List Ctr:=[Er]
def QhT (n : Nat) (a0 : (List Qb)) (a1 : Int) : Option Int:=run Tryz.prog Qb6 QaR (Qv Ue) Tryz.f39 (Tryz.f39.body.getD .skip) (Qy [I64]) n (QE [(.list Qe),I64] (a0,a1,()))
abbrev UV (n : Nat) (x1 : (List Qb)) (x2 : Int) (x3 : Int) : Option Int:=lam Tryz.prog Qb6 QaR (Qv Ue) Tryz.f39 (Tryz.f39.body.getD .skip) (Qy [I64]) n [0,5] [.d (.list Qe) x1,.d I64 x2,.d I64 x3]
theorem Qom (n : Nat) (a0 : (List Qb)) (a1 : Int) : QhT n a0 a1 =
  bif decide (IntKind.wrap .i64 (a1 - (a0.length : Int)) < 0) then
   some (-1)
  else
   UV n a0 (IntKind.wrap .i64 (a1 - (a0.length : Int))) 0:=by kernel_rfl
theorem QiJ (n : Nat) (x1 : (List Qb)) (x2 : Int) (x3 : Int) : UV (n + 1) x1 x2 x3 =
  bif decide (x3 < (x1.length : Int)) then
   bif inB x3 x1.length then
    Option.bind (szC Qe (rd x1 x3 (Ty.dflt Qe)) x2) fun (y1 : Int) =>
    bif decide (y1 < 0) then
     some (-1)
    else
     UV n x1 y1 (IntKind.wrap .i64 (x3 + 1))
   else none
  else
   some x2:=by kernel_rfl
theorem QrZ (hcs : ∀ x ∈ Ue,Qo Tryz.prog x) (h : ∀ (a0 : (List Qb)) (a1 : Int) y,szC (.list Qe) a0 a1 = some y → ∃ n,QhT n a0 a1 = some y) : Qo Tryz.prog Wo:=by
 refine Qq (c:=Wo) (by kernel_rfl) (by kernel_rfl : Tryz.prog.funcs[39]? = some Tryz.f39) (code:=Tryz.f39.body.getD .skip) (by kernel_rfl) (by kernel_rfl) (by kernel_rfl) (A:=Qb6) (I:=QaR) hcs ?_
 rintro ⟨a0,a1,u⟩ y hy
 exact h a0 a1 y hy
theorem QpM : ∀ x ∈ Ue,Qo Tryz.prog x:=(Ql QtV Qt)
theorem Qr0 : Qo Tryz.prog Wo:=QrZ QpM fun a0 a1 y hy=>by
 obtain ⟨n,hn⟩:=QdQ (fun n xs s i=>QiJ n xs s i) hy
 exact ⟨n,(Qom n a0 a1).trans hn⟩
def Uf : Ctr:=⟨16,[Qi,I64],[I64],fun x=>szC Qi x.1 x.2.1⟩
def QgJ : List (List Nat × Ann):=[]
def Qfj : List (List Nat × Nat):=[]
def EX : List Ctr:=[Ep,Wo]
def QgK (n : Nat) (a0 : Qa) (a1 : Int) : Option Int:=run Tryz.prog QgJ Qfj (Qv EX) Tryz.f16 (Tryz.f16.body.getD .skip) (Qy [I64]) n (QE [Qi,I64] (a0,a1,()))
theorem QmI (n : Nat) (a0 : Qa) (a1 : Int) : QgK n a0 a1 =
  Option.bind (szC (.list Qu) a0.1 a1) fun (y1 : Int) =>
  bif decide (y1 < 0) then
   some (-1)
  else
   Option.bind (szC (.list Qe) a0.2 y1) fun (y2 : Int) =>
   bif decide (y2 < 0) then
    some (-1)
   else
    some y2:=by kernel_rfl
theorem QpN (hcs : ∀ x ∈ EX,Qo Tryz.prog x) (h : ∀ (a0 : Qa) (a1 : Int) y,szC Qi a0 a1 = some y → ∃ n,QgK n a0 a1 = some y) : Qo Tryz.prog Uf:=by
 refine Qq (c:=Uf) (by kernel_rfl) (by kernel_rfl : Tryz.prog.funcs[16]? = some Tryz.f16) (code:=Tryz.f16.body.getD .skip) (by kernel_rfl) (by kernel_rfl) (by kernel_rfl) (A:=QgJ) (I:=Qfj) hcs ?_
 rintro ⟨a0,a1,u⟩ y hy
 exact h a0 a1 y hy
theorem Qon : ∀ x ∈ EX,Qo Tryz.prog x:=(Ql QtR (Ql Qr0 Qt))
theorem QpO : Qo Tryz.prog Uf:=QpN Qon fun a0 a1 y hy=>by
 obtain ⟨hw,h0,h1,rfl⟩:=Qao hy
 have hw2 : wfD (.list Qu) a0.1 ∧ wfD (.list Qe) a0.2:=hw
 have hsz : Ty.size Qi a0 = Ty.size (.list Qu) a0.1 + (Ty.size (.list Qe) a0.2):=rfl
 refine ⟨0,?_⟩
 rw [QmI,hsz]
 rw [Uv hw2.1 (show 0 ≤ a1 by omega) (by omega)]
 simp only [Option.bind_some]
 rcases Int.lt_or_le (a1) ((Ty.size (.list Qu) a0.1 : Nat) : Int) with h | h
 ·rw [show QY (a1) (Ty.size (.list Qu) a0.1) = -1 by unfold QY; rw [if_neg (by omega)]]; rw [decide_eq_true (show (-1 : Int) < 0 by omega)]; simp only [cond_true]; unfold QY; rw [if_neg (by omega)]
 rw [show QY (a1) (Ty.size (.list Qu) a0.1) = (a1 - ((Ty.size (.list Qu) a0.1 : Nat) : Int)) by unfold QY; rw [if_pos h]]; rw [decide_eq_false (show ¬ (a1 - ((Ty.size (.list Qu) a0.1 : Nat) : Int)) < 0 by omega)]; simp only [cond_false]
 have h_0:=h; clear h
 rw [Uv hw2.2 (show 0 ≤ (a1 - ((Ty.size (.list Qu) a0.1 : Nat) : Int)) by omega) (by omega)]
 simp only [Option.bind_some]
 rcases Int.lt_or_le ((a1 - ((Ty.size (.list Qu) a0.1 : Nat) : Int))) ((Ty.size (.list Qe) a0.2 : Nat) : Int) with h | h
 ·rw [show QY ((a1 - ((Ty.size (.list Qu) a0.1 : Nat) : Int))) (Ty.size (.list Qe) a0.2) = -1 by unfold QY; rw [if_neg (by omega)]]; rw [decide_eq_true (show (-1 : Int) < 0 by omega)]; simp only [cond_true]; unfold QY; rw [if_neg (by omega)]
 rw [show QY ((a1 - ((Ty.size (.list Qu) a0.1 : Nat) : Int))) (Ty.size (.list Qe) a0.2) = ((a1 - ((Ty.size (.list Qu) a0.1 : Nat) : Int)) - ((Ty.size (.list Qe) a0.2 : Nat) : Int)) by unfold QY; rw [if_pos h]]; rw [decide_eq_false (show ¬ ((a1 - ((Ty.size (.list Qu) a0.1 : Nat) : Int)) - ((Ty.size (.list Qe) a0.2 : Nat) : Int)) < 0 by omega)]; simp only [cond_false]
 have h_1:=h; clear h
 unfold QY; rw [if_pos (by omega)]; congr 1 <;> omega
def QfH : Ctr:=⟨17,[G7,I64],[I64],fun x=>szC G7 x.1 x.2.1⟩
def QtW : List (List Nat × Ann):=[]
def QqA : List (List Nat × Nat):=[]
def QiK : List Ctr:=[]
def QtX (n : Nat) (a0 : Ef) (a1 : Int) : Option Int:=run Tryz.prog QtW QqA (Qv QiK) Tryz.f17 (Tryz.f17.body.getD .skip) (Qy [I64]) n (QE [G7,I64] (a0,a1,()))
theorem QxA (n : Nat) (a0 : Ef) (a1 : Int) : QtX n a0 a1 =
  bif decide (IntKind.wrap .i64 (a1 - (a0.1.length : Int)) < 0) then
   some (-1)
  else
   bif decide (IntKind.wrap .i64 ((IntKind.wrap .i64 (a1 - (a0.1.length : Int))) - (a0.2.1.length : Int)) < 0) then
    some (-1)
   else
    bif decide (IntKind.wrap .i64 ((IntKind.wrap .i64 ((IntKind.wrap .i64 (a1 - (a0.1.length : Int))) - (a0.2.1.length : Int))) - (a0.2.2.1.length : Int)) < 0) then
     some (-1)
    else
     bif decide (IntKind.wrap .i64 ((IntKind.wrap .i64 ((IntKind.wrap .i64 ((IntKind.wrap .i64 (a1 - (a0.1.length : Int))) - (a0.2.1.length : Int))) - (a0.2.2.1.length : Int))) - (a0.2.2.2.1.length : Int)) < 0) then
      some (-1)
     else
      bif decide (IntKind.wrap .i64 ((IntKind.wrap .i64 ((IntKind.wrap .i64 ((IntKind.wrap .i64 ((IntKind.wrap .i64 (a1 - (a0.1.length : Int))) - (a0.2.1.length : Int))) - (a0.2.2.1.length : Int))) - (a0.2.2.2.1.length : Int))) - (a0.2.2.2.2.1.length : Int)) < 0) then
       some (-1)
      else
       bif decide (IntKind.wrap .i64 ((IntKind.wrap .i64 ((IntKind.wrap .i64 ((IntKind.wrap .i64 ((IntKind.wrap .i64 ((IntKind.wrap .i64 (a1 - (a0.1.length : Int))) - (a0.2.1.length : Int))) - (a0.2.2.1.length : Int))) - (a0.2.2.2.1.length : Int))) - (a0.2.2.2.2.1.length : Int))) - (a0.2.2.2.2.2.length : Int)) < 0) then
        some (-1)
       else
        some (IntKind.wrap .i64 ((IntKind.wrap .i64 ((IntKind.wrap .i64 ((IntKind.wrap .i64 ((IntKind.wrap .i64 ((IntKind.wrap .i64 (a1 - (a0.1.length : Int))) - (a0.2.1.length : Int))) - (a0.2.2.1.length : Int))) - (a0.2.2.2.1.length : Int))) - (a0.2.2.2.2.1.length : Int))) - (a0.2.2.2.2.2.length : Int))):=by kernel_rfl
theorem QAu (hcs : ∀ x ∈ QiK,Qo Tryz.prog x) (h : ∀ (a0 : Ef) (a1 : Int) y,szC G7 a0 a1 = some y → ∃ n,QtX n a0 a1 = some y) : Qo Tryz.prog QfH:=by
 refine Qq (c:=QfH) (by kernel_rfl) (by kernel_rfl : Tryz.prog.funcs[17]? = some Tryz.f17) (code:=Tryz.f17.body.getD .skip) (by kernel_rfl) (by kernel_rfl) (by kernel_rfl) (A:=QtW) (I:=QqA) hcs ?_
 rintro ⟨a0,a1,u⟩ y hy
 exact h a0 a1 y hy
theorem Qzr : ∀ x ∈ QiK,Qo Tryz.prog x:=Qt
theorem QAv : Qo Tryz.prog QfH:=QAu Qzr fun a0 a1 y hy=>by
 obtain ⟨hw,h0,h1,rfl⟩:=Qao hy
 have hw2 : wfD .str a0.1 ∧ wfD .str a0.2.1 ∧ wfD .str a0.2.2.1 ∧ wfD .str a0.2.2.2.1 ∧ wfD .str a0.2.2.2.2.1 ∧ wfD .str a0.2.2.2.2.2:=hw
 have hsz : Ty.size G7 a0 = Ty.size .str a0.1 + (Ty.size .str a0.2.1 + (Ty.size .str a0.2.2.1 + (Ty.size .str a0.2.2.2.1 + (Ty.size .str a0.2.2.2.2.1 + (Ty.size .str a0.2.2.2.2.2))))):=rfl
 have z0 : Ty.size .str a0.1 = a0.1.length:=rfl
 have z1 : Ty.size .str a0.2.1 = a0.2.1.length:=rfl
 have z2 : Ty.size .str a0.2.2.1 = a0.2.2.1.length:=rfl
 have z3 : Ty.size .str a0.2.2.2.1 = a0.2.2.2.1.length:=rfl
 have z4 : Ty.size .str a0.2.2.2.2.1 = a0.2.2.2.2.1.length:=rfl
 have z5 : Ty.size .str a0.2.2.2.2.2 = a0.2.2.2.2.2.length:=rfl
 refine ⟨0,?_⟩
 rw [QxA,hsz]
 have hn0 : a0.1.length ≤ maxLen:=by have:=(hw2.1).1; unfold maxLen; omega
 rw [Jq (left:=a1) (n:=a0.1.length) (by omega) (by omega) hn0]
 rcases Int.lt_or_le (a1) (a0.1.length : Int) with h | h
 ·rw [decide_eq_true (show (a1 - (a0.1.length : Int)) < 0 by omega)]; simp only [cond_true]; unfold QY; rw [if_neg (by omega)]
 rw [decide_eq_false (show ¬ (a1 - (a0.1.length : Int)) < 0 by omega)]; simp only [cond_false]
 have h_0:=h; clear h
 have hn1 : a0.2.1.length ≤ maxLen:=by have:=(hw2.2.1).1; unfold maxLen; omega
 rw [Jq (left:=(a1 - (a0.1.length : Int))) (n:=a0.2.1.length) (by omega) (by omega) hn1]
 rcases Int.lt_or_le ((a1 - (a0.1.length : Int))) (a0.2.1.length : Int) with h | h
 ·rw [decide_eq_true (show ((a1 - (a0.1.length : Int)) - (a0.2.1.length : Int)) < 0 by omega)]; simp only [cond_true]; unfold QY; rw [if_neg (by omega)]
 rw [decide_eq_false (show ¬ ((a1 - (a0.1.length : Int)) - (a0.2.1.length : Int)) < 0 by omega)]; simp only [cond_false]
 have h_1:=h; clear h
 have hn2 : a0.2.2.1.length ≤ maxLen:=by have:=(hw2.2.2.1).1; unfold maxLen; omega
 rw [Jq (left:=((a1 - (a0.1.length : Int)) - (a0.2.1.length : Int))) (n:=a0.2.2.1.length) (by omega) (by omega) hn2]
 rcases Int.lt_or_le (((a1 - (a0.1.length : Int)) - (a0.2.1.length : Int))) (a0.2.2.1.length : Int) with h | h
 ·rw [decide_eq_true (show (((a1 - (a0.1.length : Int)) - (a0.2.1.length : Int)) - (a0.2.2.1.length : Int)) < 0 by omega)]; simp only [cond_true]; unfold QY; rw [if_neg (by omega)]
 rw [decide_eq_false (show ¬ (((a1 - (a0.1.length : Int)) - (a0.2.1.length : Int)) - (a0.2.2.1.length : Int)) < 0 by omega)]; simp only [cond_false]
 have h_2:=h; clear h
 have hn3 : a0.2.2.2.1.length ≤ maxLen:=by have:=(hw2.2.2.2.1).1; unfold maxLen; omega
 rw [Jq (left:=(((a1 - (a0.1.length : Int)) - (a0.2.1.length : Int)) - (a0.2.2.1.length : Int))) (n:=a0.2.2.2.1.length) (by omega) (by omega) hn3]
 rcases Int.lt_or_le ((((a1 - (a0.1.length : Int)) - (a0.2.1.length : Int)) - (a0.2.2.1.length : Int))) (a0.2.2.2.1.length : Int) with h | h
 ·rw [decide_eq_true (show ((((a1 - (a0.1.length : Int)) - (a0.2.1.length : Int)) - (a0.2.2.1.length : Int)) - (a0.2.2.2.1.length : Int)) < 0 by omega)]; simp only [cond_true]; unfold QY; rw [if_neg (by omega)]
 rw [decide_eq_false (show ¬ ((((a1 - (a0.1.length : Int)) - (a0.2.1.length : Int)) - (a0.2.2.1.length : Int)) - (a0.2.2.2.1.length : Int)) < 0 by omega)]; simp only [cond_false]
 have h_3:=h; clear h
 have hn4 : a0.2.2.2.2.1.length ≤ maxLen:=by have:=(hw2.2.2.2.2.1).1; unfold maxLen; omega
 rw [Jq (left:=((((a1 - (a0.1.length : Int)) - (a0.2.1.length : Int)) - (a0.2.2.1.length : Int)) - (a0.2.2.2.1.length : Int))) (n:=a0.2.2.2.2.1.length) (by omega) (by omega) hn4]
 rcases Int.lt_or_le (((((a1 - (a0.1.length : Int)) - (a0.2.1.length : Int)) - (a0.2.2.1.length : Int)) - (a0.2.2.2.1.length : Int))) (a0.2.2.2.2.1.length : Int) with h | h
 ·rw [decide_eq_true (show (((((a1 - (a0.1.length : Int)) - (a0.2.1.length : Int)) - (a0.2.2.1.length : Int)) - (a0.2.2.2.1.length : Int)) - (a0.2.2.2.2.1.length : Int)) < 0 by omega)]; simp only [cond_true]; unfold QY; rw [if_neg (by omega)]
 rw [decide_eq_false (show ¬ (((((a1 - (a0.1.length : Int)) - (a0.2.1.length : Int)) - (a0.2.2.1.length : Int)) - (a0.2.2.2.1.length : Int)) - (a0.2.2.2.2.1.length : Int)) < 0 by omega)]; simp only [cond_false]
 have h_4:=h; clear h
 have hn5 : a0.2.2.2.2.2.length ≤ maxLen:=by have:=(hw2.2.2.2.2.2).1; unfold maxLen; omega
 rw [Jq (left:=(((((a1 - (a0.1.length : Int)) - (a0.2.1.length : Int)) - (a0.2.2.1.length : Int)) - (a0.2.2.2.1.length : Int)) - (a0.2.2.2.2.1.length : Int))) (n:=a0.2.2.2.2.2.length) (by omega) (by omega) hn5]
 rcases Int.lt_or_le ((((((a1 - (a0.1.length : Int)) - (a0.2.1.length : Int)) - (a0.2.2.1.length : Int)) - (a0.2.2.2.1.length : Int)) - (a0.2.2.2.2.1.length : Int))) (a0.2.2.2.2.2.length : Int) with h | h
 ·rw [decide_eq_true (show ((((((a1 - (a0.1.length : Int)) - (a0.2.1.length : Int)) - (a0.2.2.1.length : Int)) - (a0.2.2.2.1.length : Int)) - (a0.2.2.2.2.1.length : Int)) - (a0.2.2.2.2.2.length : Int)) < 0 by omega)]; simp only [cond_true]; unfold QY; rw [if_neg (by omega)]
 rw [decide_eq_false (show ¬ ((((((a1 - (a0.1.length : Int)) - (a0.2.1.length : Int)) - (a0.2.2.1.length : Int)) - (a0.2.2.2.1.length : Int)) - (a0.2.2.2.2.1.length : Int)) - (a0.2.2.2.2.2.length : Int)) < 0 by omega)]; simp only [cond_false]
 have h_5:=h; clear h
 unfold QY; rw [if_pos (by omega)]; congr 1 <;> omega
def Qb7 : Ctr:=⟨185,[Qz],[Qz],fun x=>toC Qz x.1⟩
def Qoo : List (List Nat × Ann):=[]
def Ql7 : List (List Nat × Nat):=[]
def QeU : List Ctr:=[]
def Qop (n : Nat) (a0 : QF) : Option QF:=run Tryz.prog Qoo Ql7 (Qv QeU) Tryz.f185 (Tryz.f185.body.getD .skip) (Qy [Qz]) n (QE [Qz] (a0,()))
theorem QtY (n : Nat) (a0 : QF) : Qop n a0 =
  some a0:=by kernel_rfl
theorem QxB (hcs : ∀ x ∈ QeU,Qo Tryz.prog x) (h : ∀ (a0 : QF) y,toC Qz a0 = some y → ∃ n,Qop n a0 = some y) : Qo Tryz.prog Qb7:=by
 refine Qq (c:=Qb7) (by kernel_rfl) (by kernel_rfl : Tryz.prog.funcs[185]? = some Tryz.f185) (code:=Tryz.f185.body.getD .skip) (by kernel_rfl) (by kernel_rfl) (by kernel_rfl) (A:=Qoo) (I:=Ql7) hcs ?_
 rintro ⟨a0,u⟩ y hy
 exact h a0 y hy
theorem QvY : ∀ x ∈ QeU,Qo Tryz.prog x:=Qt
theorem QxC : Qo Tryz.prog Qb7:=QxB QvY fun a0 y hy=>by
 obtain ⟨hw,hs,rfl⟩:=Qap hy
 have hw2 : wfD .str y.1 ∧ wfD I64 y.2:=hw
 have hs2 : Ty.size .str y.1 + (Ty.size I64 y.2) ≤ 1073741824:=hs
 refine ⟨0,?_⟩
 rw [QtY]
 try rfl
def Qaw : Ctr:=⟨140,[(.list Qz)],[(.list Qz)],fun x=>toC (.list Qz) x.1⟩
def QeV : List (List Nat × Ann):=[([0,3],[.keep 0 0,.keep 0 3,.keep 0 4,.rows 0 7 Qz])]
def Qdj : List (List Nat × Nat):=[]
def Es : List Ctr:=[Qb7]
def Ql8 (n : Nat) (a0 : (List QF)) : Option (List QF):=run Tryz.prog QeV Qdj (Qv Es) Tryz.f140 (Tryz.f140.body.getD .skip) (Qy [(.list Qz)]) n (QE [(.list Qz)] (a0,()))
abbrev EY (n : Nat) (x1 : (List QF)) (x2 : Int) (x3 : (List QF)) : Option (List QF):=lam Tryz.prog QeV Qdj (Qv Es) Tryz.f140 (Tryz.f140.body.getD .skip) (Qy [(.list Qz)]) n [0,3] [.d (.list Qz) x1,.msl 0 7,.d I64 x2,.d (.list Qz) x3]
theorem Qr1 (n : Nat) (a0 : (List QF)) : Ql8 n a0 =
  bif decide ((a0.length : Int) = (a0.length : Int)) && decide ((0 : Int) ≤ (a0.length : Int)) && decide ((a0.length : Int) * 24 ≤ ZB) && true then
   EY n a0 0 (List.replicate (Int.toNat (a0.length : Int)) (([] : List Int),0))
  else none:=by kernel_rfl
theorem Qlb (n : Nat) (x1 : (List QF)) (x2 : Int) (x3 : (List QF)) : EY (n + 1) x1 x2 x3 =
  bif decide (x2 < (x1.length : Int)) then
   bif inB x2 x1.length then
    Option.bind (toC Qz (rd x1 x2 (Ty.dflt Qz))) fun (y1 : QF) =>
    bif inB x2 x3.length then
     bif inB x2 x3.length && true && true && true && true then
      EY n x1 (IntKind.wrap .i64 (x2 + 1)) (x3.set (Int.toNat x2) y1)
     else none
    else none
   else none
  else
   some x3:=by kernel_rfl
theorem QvZ (hcs : ∀ x ∈ Es,Qo Tryz.prog x) (h : ∀ (a0 : (List QF)) y,toC (.list Qz) a0 = some y → ∃ n,Ql8 n a0 = some y) : Qo Tryz.prog Qaw:=by
 refine Qq (c:=Qaw) (by kernel_rfl) (by kernel_rfl : Tryz.prog.funcs[140]? = some Tryz.f140) (code:=Tryz.f140.body.getD .skip) (by kernel_rfl) (by kernel_rfl) (by kernel_rfl) (A:=QeV) (I:=Qdj) hcs ?_
 rintro ⟨a0,u⟩ y hy
 exact h a0 y hy
theorem QtZ : ∀ x ∈ Es,Qo Tryz.prog x:=(Ql QxC Qt)
theorem Qv0 : Qo Tryz.prog Qaw:=QvZ QtZ fun a0 y hy=>by
 obtain ⟨n,hn⟩:=Qni (t:=Qz) (f:=toC Qz) (fun x h h2=>Vu h h2) (by_:=24) (by omega) (fun n xs i out=>Qlb n xs i out) hy
 exact ⟨n,(Qr1 n a0).trans hn⟩
def QdE : Ctr:=⟨9,[Zz],[Zz],fun x=>toC Zz x.1⟩
def QqB : List (List Nat × Ann):=[]
def Qoq : List (List Nat × Nat):=[]
def QgL : List Ctr:=[]
def QqC (n : Nat) (a0 : YB) : Option YB:=run Tryz.prog QqB Qoq (Qv QgL) Tryz.f9 (Tryz.f9.body.getD .skip) (Qy [Zz]) n (QE [Zz] (a0,()))
theorem Qv1 (n : Nat) (a0 : YB) : QqC n a0 =
  some a0:=by kernel_rfl
theorem Qzs (hcs : ∀ x ∈ QgL,Qo Tryz.prog x) (h : ∀ (a0 : YB) y,toC Zz a0 = some y → ∃ n,QqC n a0 = some y) : Qo Tryz.prog QdE:=by
 refine Qq (c:=QdE) (by kernel_rfl) (by kernel_rfl : Tryz.prog.funcs[9]? = some Tryz.f9) (code:=Tryz.f9.body.getD .skip) (by kernel_rfl) (by kernel_rfl) (by kernel_rfl) (A:=QqB) (I:=Qoq) hcs ?_
 rintro ⟨a0,u⟩ y hy
 exact h a0 y hy
theorem QxD : ∀ x ∈ QgL,Qo Tryz.prog x:=Qt
theorem Qzt : Qo Tryz.prog QdE:=Qzs QxD fun a0 y hy=>by
 obtain ⟨hw,hs,rfl⟩:=Qap hy
 have hw2 : wfD I64 y.1 ∧ wfD I64 y.2.1 ∧ wfD .str y.2.2.1 ∧ wfD .str y.2.2.2:=hw
 have hs2 : Ty.size I64 y.1 + (Ty.size I64 y.2.1 + (Ty.size .str y.2.2.1 + (Ty.size .str y.2.2.2))) ≤ 1073741824:=hs
 refine ⟨0,?_⟩
 rw [Qv1]
 try rfl
def Et : Ctr:=⟨186,[Qw],[Qw],fun x=>toC Qw x.1⟩
def QjP : List (List Nat × Ann):=[]
def QhU : List (List Nat × Nat):=[]
def Qb8 : List Ctr:=[QdE]
def QjQ (n : Nat) (a0 : QH) : Option QH:=run Tryz.prog QjP QhU (Qv Qb8) Tryz.f186 (Tryz.f186.body.getD .skip) (Qy [Qw]) n (QE [Qw] (a0,()))
theorem QpP (n : Nat) (a0 : QH) : QjQ n a0 =
  Option.bind (toC Zz a0.2.2.2) fun (y1 : YB) =>
  some (a0.1,a0.2.1,a0.2.2.1,y1):=by kernel_rfl
theorem Qt0 (hcs : ∀ x ∈ Qb8,Qo Tryz.prog x) (h : ∀ (a0 : QH) y,toC Qw a0 = some y → ∃ n,QjQ n a0 = some y) : Qo Tryz.prog Et:=by
 refine Qq (c:=Et) (by kernel_rfl) (by kernel_rfl : Tryz.prog.funcs[186]? = some Tryz.f186) (code:=Tryz.f186.body.getD .skip) (by kernel_rfl) (by kernel_rfl) (by kernel_rfl) (A:=QjP) (I:=QhU) hcs ?_
 rintro ⟨a0,u⟩ y hy
 exact h a0 y hy
theorem Qr2 : ∀ x ∈ Qb8,Qo Tryz.prog x:=(Ql Qzt Qt)
theorem Qt1 : Qo Tryz.prog Et:=Qt0 Qr2 fun a0 y hy=>by
 obtain ⟨hw,hs,rfl⟩:=Qap hy
 have hw2 : wfD .str y.1 ∧ wfD I64 y.2.1 ∧ wfD .str y.2.2.1 ∧ wfD Zz y.2.2.2:=hw
 have hs2 : Ty.size .str y.1 + (Ty.size I64 y.2.1 + (Ty.size .str y.2.2.1 + (Ty.size Zz y.2.2.2))) ≤ 1073741824:=hs
 refine ⟨0,?_⟩
 rw [QpP]
 try (rw [Vu hw2.2.2.2 (by omega)]; simp only [Option.bind_some])
 try rfl
def Wp : Ctr:=⟨141,[(.list Qw)],[(.list Qw)],fun x=>toC (.list Qw) x.1⟩
def Qb9 : List (List Nat × Ann):=[([0,3],[.keep 0 0,.keep 0 3,.keep 0 4,.rows 0 7 Qw])]
def QaS : List (List Nat × Nat):=[]
def Ug : List Ctr:=[Et]
def QhV (n : Nat) (a0 : (List QH)) : Option (List QH):=run Tryz.prog Qb9 QaS (Qv Ug) Tryz.f141 (Tryz.f141.body.getD .skip) (Qy [(.list Qw)]) n (QE [(.list Qw)] (a0,()))
abbrev UW (n : Nat) (x1 : (List QH)) (x2 : Int) (x3 : (List QH)) : Option (List QH):=lam Tryz.prog Qb9 QaS (Qv Ug) Tryz.f141 (Tryz.f141.body.getD .skip) (Qy [(.list Qw)]) n [0,3] [.d (.list Qw) x1,.msl 0 7,.d I64 x2,.d (.list Qw) x3]
theorem Qor (n : Nat) (a0 : (List QH)) : QhV n a0 =
  bif decide ((a0.length : Int) = (a0.length : Int)) && decide ((0 : Int) ≤ (a0.length : Int)) && decide ((a0.length : Int) * 88 ≤ ZB) && true then
   UW n a0 0 (List.replicate (Int.toNat (a0.length : Int)) (([] : List Int),0,([] : List Int),0,0,([] : List Int),([] : List Int)))
  else none:=by kernel_rfl
theorem QiL (n : Nat) (x1 : (List QH)) (x2 : Int) (x3 : (List QH)) : UW (n + 1) x1 x2 x3 =
  bif decide (x2 < (x1.length : Int)) then
   bif inB x2 x1.length then
    Option.bind (toC Qw (rd x1 x2 (Ty.dflt Qw))) fun (y1 : QH) =>
    bif inB x2 x3.length then
     bif inB x2 x3.length && true && true && true && true then
      UW n x1 (IntKind.wrap .i64 (x2 + 1)) (x3.set (Int.toNat x2) y1)
     else none
    else none
   else none
  else
   some x3:=by kernel_rfl
theorem Qr3 (hcs : ∀ x ∈ Ug,Qo Tryz.prog x) (h : ∀ (a0 : (List QH)) y,toC (.list Qw) a0 = some y → ∃ n,QhV n a0 = some y) : Qo Tryz.prog Wp:=by
 refine Qq (c:=Wp) (by kernel_rfl) (by kernel_rfl : Tryz.prog.funcs[141]? = some Tryz.f141) (code:=Tryz.f141.body.getD .skip) (by kernel_rfl) (by kernel_rfl) (by kernel_rfl) (A:=Qb9) (I:=QaS) hcs ?_
 rintro ⟨a0,u⟩ y hy
 exact h a0 y hy
theorem QpQ : ∀ x ∈ Ug,Qo Tryz.prog x:=(Ql Qt1 Qt)
theorem Qr4 : Qo Tryz.prog Wp:=Qr3 QpQ fun a0 y hy=>by
 obtain ⟨n,hn⟩:=Qni (t:=Qw) (f:=toC Qw) (fun x h h2=>Vu h h2) (by_:=88) (by omega) (fun n xs i out=>QiL n xs i out) hy
 exact ⟨n,(Qor n a0).trans hn⟩
def Qax : Ctr:=⟨80,[Qu],[Qu],fun x=>toC Qu x.1⟩
def Ql9 : List (List Nat × Ann):=[]
def QjR : List (List Nat × Nat):=[]
def Qdk : List Ctr:=[Qaw,Wp]
def Qma (n : Nat) (a0 : QC) : Option QC:=run Tryz.prog Ql9 QjR (Qv Qdk) Tryz.f80 (Tryz.f80.body.getD .skip) (Qy [Qu]) n (QE [Qu] (a0,()))
theorem Qr5 (n : Nat) (a0 : QC) : Qma n a0 =
  Option.bind (toC (.list Qz) a0.2.1) fun (y1 : (List QF)) =>
  Option.bind (toC (.list Qw) a0.2.2) fun (y2 : (List QH)) =>
  some (a0.1,y1,y2):=by kernel_rfl
theorem Qv2 (hcs : ∀ x ∈ Qdk,Qo Tryz.prog x) (h : ∀ (a0 : QC) y,toC Qu a0 = some y → ∃ n,Qma n a0 = some y) : Qo Tryz.prog Qax:=by
 refine Qq (c:=Qax) (by kernel_rfl) (by kernel_rfl : Tryz.prog.funcs[80]? = some Tryz.f80) (code:=Tryz.f80.body.getD .skip) (by kernel_rfl) (by kernel_rfl) (by kernel_rfl) (A:=Ql9) (I:=QjR) hcs ?_
 rintro ⟨a0,u⟩ y hy
 exact h a0 y hy
theorem Qt2 : ∀ x ∈ Qdk,Qo Tryz.prog x:=(Ql Qv0 (Ql Qr4 Qt))
theorem Qv3 : Qo Tryz.prog Qax:=Qv2 Qt2 fun a0 y hy=>by
 obtain ⟨hw,hs,rfl⟩:=Qap hy
 have hw2 : wfD .str y.1 ∧ wfD (.list Qz) y.2.1 ∧ wfD (.list Qw) y.2.2:=hw
 have hs2 : Ty.size .str y.1 + (Ty.size (.list Qz) y.2.1 + (Ty.size (.list Qw) y.2.2)) ≤ 1073741824:=hs
 refine ⟨0,?_⟩
 rw [Qr5]
 try (rw [Vu hw2.2.1 (by omega)]; simp only [Option.bind_some])
 try (rw [Vu hw2.2.2 (by omega)]; simp only [Option.bind_some])
 try rfl
def Eu : Ctr:=⟨42,[(.list Qu)],[(.list Qu)],fun x=>toC (.list Qu) x.1⟩
def Qdl : List (List Nat × Ann):=[([0,3],[.keep 0 0,.keep 0 3,.keep 0 4,.rows 0 7 Qu])]
def Qca : List (List Nat × Nat):=[]
def Wq : List Ctr:=[Qax]
def QjS (n : Nat) (a0 : (List QC)) : Option (List QC):=run Tryz.prog Qdl Qca (Qv Wq) Tryz.f42 (Tryz.f42.body.getD .skip) (Qy [(.list Qu)]) n (QE [(.list Qu)] (a0,()))
abbrev WY (n : Nat) (x1 : (List QC)) (x2 : Int) (x3 : (List QC)) : Option (List QC):=lam Tryz.prog Qdl Qca (Qv Wq) Tryz.f42 (Tryz.f42.body.getD .skip) (Qy [(.list Qu)]) n [0,3] [.d (.list Qu) x1,.msl 0 7,.d I64 x2,.d (.list Qu) x3]
theorem QpR (n : Nat) (a0 : (List QC)) : QjS n a0 =
  bif decide ((a0.length : Int) = (a0.length : Int)) && decide ((0 : Int) ≤ (a0.length : Int)) && decide ((a0.length : Int) * 64 ≤ ZB) && true then
   WY n a0 0 (List.replicate (Int.toNat (a0.length : Int)) (([] : List Int),[],[]))
  else none:=by kernel_rfl
theorem QjT (n : Nat) (x1 : (List QC)) (x2 : Int) (x3 : (List QC)) : WY (n + 1) x1 x2 x3 =
  bif decide (x2 < (x1.length : Int)) then
   bif inB x2 x1.length then
    Option.bind (toC Qu (rd x1 x2 (Ty.dflt Qu))) fun (y1 : QC) =>
    bif inB x2 x3.length then
     bif inB x2 x3.length && true && true && true && true then
      WY n x1 (IntKind.wrap .i64 (x2 + 1)) (x3.set (Int.toNat x2) y1)
     else none
    else none
   else none
  else
   some x3:=by kernel_rfl
theorem Qt3 (hcs : ∀ x ∈ Wq,Qo Tryz.prog x) (h : ∀ (a0 : (List QC)) y,toC (.list Qu) a0 = some y → ∃ n,QjS n a0 = some y) : Qo Tryz.prog Eu:=by
 refine Qq (c:=Eu) (by kernel_rfl) (by kernel_rfl : Tryz.prog.funcs[42]? = some Tryz.f42) (code:=Tryz.f42.body.getD .skip) (by kernel_rfl) (by kernel_rfl) (by kernel_rfl) (A:=Qdl) (I:=Qca) hcs ?_
 rintro ⟨a0,u⟩ y hy
 exact h a0 y hy
theorem Qr6 : ∀ x ∈ Wq,Qo Tryz.prog x:=(Ql Qv3 Qt)
theorem Qt4 : Qo Tryz.prog Eu:=Qt3 Qr6 fun a0 y hy=>by
 obtain ⟨n,hn⟩:=Qni (t:=Qu) (f:=toC Qu) (fun x h h2=>Vu h h2) (by_:=64) (by omega) (fun n xs i out=>QjT n xs i out) hy
 exact ⟨n,(QpR n a0).trans hn⟩
def X1 : Ctr:=⟨212,[Qd],[Qd],fun x=>toC Qd x.1⟩
def Qef : List (List Nat × Ann):=[]
def QcF : List (List Nat × Nat):=[]
def UX : List Ctr:=[]
def Qeg (n : Nat) (a0 : Qm) : Option Qm:=run Tryz.prog Qef QcF (Qv UX) Tryz.f212 (Tryz.f212.body.getD .skip) (Qy [Qd]) n (QE [Qd] (a0,()))
theorem QjU (n : Nat) (a0 : Qm) : Qeg n a0 =
  some a0:=by kernel_rfl
theorem QmJ (hcs : ∀ x ∈ UX,Qo Tryz.prog x) (h : ∀ (a0 : Qm) y,toC Qd a0 = some y → ∃ n,Qeg n a0 = some y) : Qo Tryz.prog X1:=by
 refine Qq (c:=X1) (by kernel_rfl) (by kernel_rfl : Tryz.prog.funcs[212]? = some Tryz.f212) (code:=Tryz.f212.body.getD .skip) (by kernel_rfl) (by kernel_rfl) (by kernel_rfl) (A:=Qef) (I:=QcF) hcs ?_
 rintro ⟨a0,u⟩ y hy
 exact h a0 y hy
theorem Qlc : ∀ x ∈ UX,Qo Tryz.prog x:=Qt
theorem QmK : Qo Tryz.prog X1:=QmJ Qlc fun a0 y hy=>by
 obtain ⟨hw,hs,rfl⟩:=Qap hy
 have hw2 : wfD .str y.1 ∧ wfD .str y.2.1 ∧ wfD .bool y.2.2.1 ∧ wfD .str y.2.2.2:=hw
 have hs2 : Ty.size .str y.1 + (Ty.size .str y.2.1 + (Ty.size .bool y.2.2.1 + (Ty.size .str y.2.2.2))) ≤ 1073741824:=hs
 refine ⟨0,?_⟩
 rw [QjU]
 try rfl
def Xr : Ctr:=⟨206,[(.list Qd)],[(.list Qd)],fun x=>toC (.list Qd) x.1⟩
def UY : List (List Nat × Ann):=[([0,3],[.keep 0 0,.keep 0 3,.keep 0 4,.rows 0 7 Qd])]
def Uh : List (List Nat × Nat):=[]
def GQ : List Ctr:=[X1]
def QcG (n : Nat) (a0 : (List Qm)) : Option (List Qm):=run Tryz.prog UY Uh (Qv GQ) Tryz.f206 (Tryz.f206.body.getD .skip) (Qy [(.list Qd)]) n (QE [(.list Qd)] (a0,()))
abbrev XC (n : Nat) (x1 : (List Qm)) (x2 : Int) (x3 : (List Qm)) : Option (List Qm):=lam Tryz.prog UY Uh (Qv GQ) Tryz.f206 (Tryz.f206.body.getD .skip) (Qy [(.list Qd)]) n [0,3] [.d (.list Qd) x1,.msl 0 7,.d I64 x2,.d (.list Qd) x3]
theorem QiM (n : Nat) (a0 : (List Qm)) : QcG n a0 =
  bif decide ((a0.length : Int) = (a0.length : Int)) && decide ((0 : Int) ≤ (a0.length : Int)) && decide ((a0.length : Int) * 56 ≤ ZB) && true then
   XC n a0 0 (List.replicate (Int.toNat (a0.length : Int)) (([] : List Int),([] : List Int),false,([] : List Int)))
  else none:=by kernel_rfl
theorem QeW (n : Nat) (x1 : (List Qm)) (x2 : Int) (x3 : (List Qm)) : XC (n + 1) x1 x2 x3 =
  bif decide (x2 < (x1.length : Int)) then
   bif inB x2 x1.length then
    Option.bind (toC Qd (rd x1 x2 (Ty.dflt Qd))) fun (y1 : Qm) =>
    bif inB x2 x3.length then
     bif inB x2 x3.length && true && true && true && true then
      XC n x1 (IntKind.wrap .i64 (x2 + 1)) (x3.set (Int.toNat x2) y1)
     else none
    else none
   else none
  else
   some x3:=by kernel_rfl
theorem Qld (hcs : ∀ x ∈ GQ,Qo Tryz.prog x) (h : ∀ (a0 : (List Qm)) y,toC (.list Qd) a0 = some y → ∃ n,QcG n a0 = some y) : Qo Tryz.prog Xr:=by
 refine Qq (c:=Xr) (by kernel_rfl) (by kernel_rfl : Tryz.prog.funcs[206]? = some Tryz.f206) (code:=Tryz.f206.body.getD .skip) (by kernel_rfl) (by kernel_rfl) (by kernel_rfl) (A:=UY) (I:=Uh) hcs ?_
 rintro ⟨a0,u⟩ y hy
 exact h a0 y hy
theorem QjV : ∀ x ∈ GQ,Qo Tryz.prog x:=(Ql QmK Qt)
theorem Qle : Qo Tryz.prog Xr:=Qld QjV fun a0 y hy=>by
 obtain ⟨n,hn⟩:=Qni (t:=Qd) (f:=toC Qd) (fun x h h2=>Vu h h2) (by_:=56) (by omega) (fun n xs i out=>QeW n xs i out) hy
 exact ⟨n,(QiM n a0).trans hn⟩
def Wr : Ctr:=⟨187,[Qj],[Qj],fun x=>toC Qj x.1⟩
def QhW : List (List Nat × Ann):=[]
def QgM : List (List Nat × Nat):=[]
def QaT : List Ctr:=[Xr]
def QhX (n : Nat) (a0 : Qf) : Option Qf:=run Tryz.prog QhW QgM (Qv QaT) Tryz.f187 (Tryz.f187.body.getD .skip) (Qy [Qj]) n (QE [Qj] (a0,()))
theorem Qos (n : Nat) (a0 : Qf) : QhX n a0 =
  Option.bind (toC (.list Qd) a0.2) fun (y1 : (List Qm)) =>
  some (a0.1,y1):=by kernel_rfl
theorem Qr7 (hcs : ∀ x ∈ QaT,Qo Tryz.prog x) (h : ∀ (a0 : Qf) y,toC Qj a0 = some y → ∃ n,QhX n a0 = some y) : Qo Tryz.prog Wr:=by
 refine Qq (c:=Wr) (by kernel_rfl) (by kernel_rfl : Tryz.prog.funcs[187]? = some Tryz.f187) (code:=Tryz.f187.body.getD .skip) (by kernel_rfl) (by kernel_rfl) (by kernel_rfl) (A:=QhW) (I:=QgM) hcs ?_
 rintro ⟨a0,u⟩ y hy
 exact h a0 y hy
theorem QpS : ∀ x ∈ QaT,Qo Tryz.prog x:=(Ql Qle Qt)
theorem Qr8 : Qo Tryz.prog Wr:=Qr7 QpS fun a0 y hy=>by
 obtain ⟨hw,hs,rfl⟩:=Qap hy
 have hw2 : wfD .str y.1 ∧ wfD (.list Qd) y.2:=hw
 have hs2 : Ty.size .str y.1 + (Ty.size (.list Qd) y.2) ≤ 1073741824:=hs
 refine ⟨0,?_⟩
 rw [Qos]
 try (rw [Vu hw2.2 (by omega)]; simp only [Option.bind_some])
 try rfl
def Ui : Ctr:=⟨142,[(.list Qj)],[(.list Qj)],fun x=>toC (.list Qj) x.1⟩
def QaU : List (List Nat × Ann):=[([0,3],[.keep 0 0,.keep 0 3,.keep 0 4,.rows 0 7 Qj])]
def EZ : List (List Nat × Nat):=[]
def Hq : List Ctr:=[Wr]
def QgN (n : Nat) (a0 : (List Qf)) : Option (List Qf):=run Tryz.prog QaU EZ (Qv Hq) Tryz.f142 (Tryz.f142.body.getD .skip) (Qy [(.list Qj)]) n (QE [(.list Qj)] (a0,()))
abbrev Uj (n : Nat) (x1 : (List Qf)) (x2 : Int) (x3 : (List Qf)) : Option (List Qf):=lam Tryz.prog QaU EZ (Qv Hq) Tryz.f142 (Tryz.f142.body.getD .skip) (Qy [(.list Qj)]) n [0,3] [.d (.list Qj) x1,.msl 0 7,.d I64 x2,.d (.list Qj) x3]
theorem QmL (n : Nat) (a0 : (List Qf)) : QgN n a0 =
  bif decide ((a0.length : Int) = (a0.length : Int)) && decide ((0 : Int) ≤ (a0.length : Int)) && decide ((a0.length : Int) * 40 ≤ ZB) && true then
   Uj n a0 0 (List.replicate (Int.toNat (a0.length : Int)) (([] : List Int),[]))
  else none:=by kernel_rfl
theorem Qhk (n : Nat) (x1 : (List Qf)) (x2 : Int) (x3 : (List Qf)) : Uj (n + 1) x1 x2 x3 =
  bif decide (x2 < (x1.length : Int)) then
   bif inB x2 x1.length then
    Option.bind (toC Qj (rd x1 x2 (Ty.dflt Qj))) fun (y1 : Qf) =>
    bif inB x2 x3.length then
     bif inB x2 x3.length && true && true && true && true then
      Uj n x1 (IntKind.wrap .i64 (x2 + 1)) (x3.set (Int.toNat x2) y1)
     else none
    else none
   else none
  else
   some x3:=by kernel_rfl
theorem QpT (hcs : ∀ x ∈ Hq,Qo Tryz.prog x) (h : ∀ (a0 : (List Qf)) y,toC (.list Qj) a0 = some y → ∃ n,QgN n a0 = some y) : Qo Tryz.prog Ui:=by
 refine Qq (c:=Ui) (by kernel_rfl) (by kernel_rfl : Tryz.prog.funcs[142]? = some Tryz.f142) (code:=Tryz.f142.body.getD .skip) (by kernel_rfl) (by kernel_rfl) (by kernel_rfl) (A:=QaU) (I:=EZ) hcs ?_
 rintro ⟨a0,u⟩ y hy
 exact h a0 y hy
theorem Qot : ∀ x ∈ Hq,Qo Tryz.prog x:=(Ql Qr8 Qt)
theorem QpU : Qo Tryz.prog Ui:=QpT Qot fun a0 y hy=>by
 obtain ⟨n,hn⟩:=Qni (t:=Qj) (f:=toC Qj) (fun x h h2=>Vu h h2) (by_:=40) (by omega) (fun n xs i out=>Qhk n xs i out) hy
 exact ⟨n,(QmL n a0).trans hn⟩
def Ew : Ctr:=⟨213,[Qg],[Qg],fun x=>toC Qg x.1⟩
def QjW : List (List Nat × Ann):=[]
def QhY : List (List Nat × Nat):=[]
def Qcb : List Ctr:=[]
def QjX (n : Nat) (a0 : Qp) : Option Qp:=run Tryz.prog QjW QhY (Qv Qcb) Tryz.f213 (Tryz.f213.body.getD .skip) (Qy [Qg]) n (QE [Qg] (a0,()))
theorem QpV (n : Nat) (a0 : Qp) : QjX n a0 =
  some a0:=by kernel_rfl
theorem Qt5 (hcs : ∀ x ∈ Qcb,Qo Tryz.prog x) (h : ∀ (a0 : Qp) y,toC Qg a0 = some y → ∃ n,QjX n a0 = some y) : Qo Tryz.prog Ew:=by
 refine Qq (c:=Ew) (by kernel_rfl) (by kernel_rfl : Tryz.prog.funcs[213]? = some Tryz.f213) (code:=Tryz.f213.body.getD .skip) (by kernel_rfl) (by kernel_rfl) (by kernel_rfl) (A:=QjW) (I:=QhY) hcs ?_
 rintro ⟨a0,u⟩ y hy
 exact h a0 y hy
theorem Qr9 : ∀ x ∈ Qcb,Qo Tryz.prog x:=Qt
theorem Qt6 : Qo Tryz.prog Ew:=Qt5 Qr9 fun a0 y hy=>by
 obtain ⟨hw,hs,rfl⟩:=Qap hy
 have hw2 : wfD I64 y.1 ∧ wfD .str y.2.1 ∧ wfD .str y.2.2:=hw
 have hs2 : Ty.size I64 y.1 + (Ty.size .str y.2.1 + (Ty.size .str y.2.2)) ≤ 1073741824:=hs
 refine ⟨0,?_⟩
 rw [QpV]
 try rfl
def Ws : Ctr:=⟨207,[(.list Qg)],[(.list Qg)],fun x=>toC (.list Qg) x.1⟩
def Qcc : List (List Nat × Ann):=[([0,3],[.keep 0 0,.keep 0 3,.keep 0 4,.rows 0 7 Qg])]
def QaV : List (List Nat × Nat):=[]
def Uk : List Ctr:=[Ew]
def QhZ (n : Nat) (a0 : (List Qp)) : Option (List Qp):=run Tryz.prog Qcc QaV (Qv Uk) Tryz.f207 (Tryz.f207.body.getD .skip) (Qy [(.list Qg)]) n (QE [(.list Qg)] (a0,()))
abbrev UZ (n : Nat) (x1 : (List Qp)) (x2 : Int) (x3 : (List Qp)) : Option (List Qp):=lam Tryz.prog Qcc QaV (Qv Uk) Tryz.f207 (Tryz.f207.body.getD .skip) (Qy [(.list Qg)]) n [0,3] [.d (.list Qg) x1,.msl 0 7,.d I64 x2,.d (.list Qg) x3]
theorem Qou (n : Nat) (a0 : (List Qp)) : QhZ n a0 =
  bif decide ((a0.length : Int) = (a0.length : Int)) && decide ((0 : Int) ≤ (a0.length : Int)) && decide ((a0.length : Int) * 40 ≤ ZB) && true then
   UZ n a0 0 (List.replicate (Int.toNat (a0.length : Int)) (0,([] : List Int),([] : List Int)))
  else none:=by kernel_rfl
theorem QiN (n : Nat) (x1 : (List Qp)) (x2 : Int) (x3 : (List Qp)) : UZ (n + 1) x1 x2 x3 =
  bif decide (x2 < (x1.length : Int)) then
   bif inB x2 x1.length then
    Option.bind (toC Qg (rd x1 x2 (Ty.dflt Qg))) fun (y1 : Qp) =>
    bif inB x2 x3.length then
     bif inB x2 x3.length && true && true && true && true then
      UZ n x1 (IntKind.wrap .i64 (x2 + 1)) (x3.set (Int.toNat x2) y1)
     else none
    else none
   else none
  else
   some x3:=by kernel_rfl
theorem Qsa (hcs : ∀ x ∈ Uk,Qo Tryz.prog x) (h : ∀ (a0 : (List Qp)) y,toC (.list Qg) a0 = some y → ∃ n,QhZ n a0 = some y) : Qo Tryz.prog Ws:=by
 refine Qq (c:=Ws) (by kernel_rfl) (by kernel_rfl : Tryz.prog.funcs[207]? = some Tryz.f207) (code:=Tryz.f207.body.getD .skip) (by kernel_rfl) (by kernel_rfl) (by kernel_rfl) (A:=Qcc) (I:=QaV) hcs ?_
 rintro ⟨a0,u⟩ y hy
 exact h a0 y hy
theorem QpW : ∀ x ∈ Uk,Qo Tryz.prog x:=(Ql Qt6 Qt)
theorem Qsb : Qo Tryz.prog Ws:=Qsa QpW fun a0 y hy=>by
 obtain ⟨n,hn⟩:=Qni (t:=Qg) (f:=toC Qg) (fun x h h2=>Vu h h2) (by_:=40) (by omega) (fun n xs i out=>QiN n xs i out) hy
 exact ⟨n,(Qou n a0).trans hn⟩
def Hr : Ctr:=⟨188,[Qh],[Qh],fun x=>toC Qh x.1⟩
def Qfk : List (List Nat × Ann):=[]
def Qeh : List (List Nat × Nat):=[]
def WZ : List Ctr:=[Ws]
def Qfl (n : Nat) (a0 : Qc) : Option Qc:=run Tryz.prog Qfk Qeh (Qv WZ) Tryz.f188 (Tryz.f188.body.getD .skip) (Qy [Qh]) n (QE [Qh] (a0,()))
theorem Qlf (n : Nat) (a0 : Qc) : Qfl n a0 =
  Option.bind (toC (.list Qg) a0.2) fun (y1 : (List Qp)) =>
  some (a0.1,y1):=by kernel_rfl
theorem Qov (hcs : ∀ x ∈ WZ,Qo Tryz.prog x) (h : ∀ (a0 : Qc) y,toC Qh a0 = some y → ∃ n,Qfl n a0 = some y) : Qo Tryz.prog Hr:=by
 refine Qq (c:=Hr) (by kernel_rfl) (by kernel_rfl : Tryz.prog.funcs[188]? = some Tryz.f188) (code:=Tryz.f188.body.getD .skip) (by kernel_rfl) (by kernel_rfl) (by kernel_rfl) (A:=Qfk) (I:=Qeh) hcs ?_
 rintro ⟨a0,u⟩ y hy
 exact h a0 y hy
theorem QmM : ∀ x ∈ WZ,Qo Tryz.prog x:=(Ql Qsb Qt)
theorem Qow : Qo Tryz.prog Hr:=Qov QmM fun a0 y hy=>by
 obtain ⟨hw,hs,rfl⟩:=Qap hy
 have hw2 : wfD .str y.1 ∧ wfD (.list Qg) y.2:=hw
 have hs2 : Ty.size .str y.1 + (Ty.size (.list Qg) y.2) ≤ 1073741824:=hs
 refine ⟨0,?_⟩
 rw [Qlf]
 try (rw [Vu hw2.2 (by omega)]; simp only [Option.bind_some])
 try rfl
def X2 : Ctr:=⟨143,[(.list Qh)],[(.list Qh)],fun x=>toC (.list Qh) x.1⟩
def W0 : List (List Nat × Ann):=[([0,3],[.keep 0 0,.keep 0 3,.keep 0 4,.rows 0 7 Qh])]
def U0 : List (List Nat × Nat):=[]
def Xs : List Ctr:=[Hr]
def Qei (n : Nat) (a0 : (List Qc)) : Option (List Qc):=run Tryz.prog W0 U0 (Qv Xs) Tryz.f143 (Tryz.f143.body.getD .skip) (Qy [(.list Qh)]) n (QE [(.list Qh)] (a0,()))
abbrev Hf (n : Nat) (x1 : (List Qc)) (x2 : Int) (x3 : (List Qc)) : Option (List Qc):=lam Tryz.prog W0 U0 (Qv Xs) Tryz.f143 (Tryz.f143.body.getD .skip) (Qy [(.list Qh)]) n [0,3] [.d (.list Qh) x1,.msl 0 7,.d I64 x2,.d (.list Qh) x3]
theorem QjY (n : Nat) (a0 : (List Qc)) : Qei n a0 =
  bif decide ((a0.length : Int) = (a0.length : Int)) && decide ((0 : Int) ≤ (a0.length : Int)) && decide ((a0.length : Int) * 40 ≤ ZB) && true then
   Hf n a0 0 (List.replicate (Int.toNat (a0.length : Int)) (([] : List Int),[]))
  else none:=by kernel_rfl
theorem QfI (n : Nat) (x1 : (List Qc)) (x2 : Int) (x3 : (List Qc)) : Hf (n + 1) x1 x2 x3 =
  bif decide (x2 < (x1.length : Int)) then
   bif inB x2 x1.length then
    Option.bind (toC Qh (rd x1 x2 (Ty.dflt Qh))) fun (y1 : Qc) =>
    bif inB x2 x3.length then
     bif inB x2 x3.length && true && true && true && true then
      Hf n x1 (IntKind.wrap .i64 (x2 + 1)) (x3.set (Int.toNat x2) y1)
     else none
    else none
   else none
  else
   some x3:=by kernel_rfl
theorem QmN (hcs : ∀ x ∈ Xs,Qo Tryz.prog x) (h : ∀ (a0 : (List Qc)) y,toC (.list Qh) a0 = some y → ∃ n,Qei n a0 = some y) : Qo Tryz.prog X2:=by
 refine Qq (c:=X2) (by kernel_rfl) (by kernel_rfl : Tryz.prog.funcs[143]? = some Tryz.f143) (code:=Tryz.f143.body.getD .skip) (by kernel_rfl) (by kernel_rfl) (by kernel_rfl) (A:=W0) (I:=U0) hcs ?_
 rintro ⟨a0,u⟩ y hy
 exact h a0 y hy
theorem Qlg : ∀ x ∈ Xs,Qo Tryz.prog x:=(Ql Qow Qt)
theorem QmO : Qo Tryz.prog X2:=QmN Qlg fun a0 y hy=>by
 obtain ⟨n,hn⟩:=Qni (t:=Qh) (f:=toC Qh) (fun x h h2=>Vu h h2) (by_:=40) (by omega) (fun n xs i out=>QfI n xs i out) hy
 exact ⟨n,(QjY n a0).trans hn⟩
def Ey : Ctr:=⟨81,[Qe],[Qe],fun x=>toC Qe x.1⟩
def QjZ : List (List Nat × Ann):=[]
def Qh0 : List (List Nat × Nat):=[]
def Qcd : List Ctr:=[Ui,X2]
def Qj0 (n : Nat) (a0 : Qb) : Option Qb:=run Tryz.prog QjZ Qh0 (Qv Qcd) Tryz.f81 (Tryz.f81.body.getD .skip) (Qy [Qe]) n (QE [Qe] (a0,()))
theorem QpX (n : Nat) (a0 : Qb) : Qj0 n a0 =
  Option.bind (toC (.list Qj) a0.2.1) fun (y1 : (List Qf)) =>
  Option.bind (toC (.list Qh) a0.2.2) fun (y2 : (List Qc)) =>
  some (a0.1,y1,y2):=by kernel_rfl
theorem Qt7 (hcs : ∀ x ∈ Qcd,Qo Tryz.prog x) (h : ∀ (a0 : Qb) y,toC Qe a0 = some y → ∃ n,Qj0 n a0 = some y) : Qo Tryz.prog Ey:=by
 refine Qq (c:=Ey) (by kernel_rfl) (by kernel_rfl : Tryz.prog.funcs[81]? = some Tryz.f81) (code:=Tryz.f81.body.getD .skip) (by kernel_rfl) (by kernel_rfl) (by kernel_rfl) (A:=QjZ) (I:=Qh0) hcs ?_
 rintro ⟨a0,u⟩ y hy
 exact h a0 y hy
theorem Qsc : ∀ x ∈ Qcd,Qo Tryz.prog x:=(Ql QpU (Ql QmO Qt))
theorem Qt8 : Qo Tryz.prog Ey:=Qt7 Qsc fun a0 y hy=>by
 obtain ⟨hw,hs,rfl⟩:=Qap hy
 have hw2 : wfD .str y.1 ∧ wfD (.list Qj) y.2.1 ∧ wfD (.list Qh) y.2.2:=hw
 have hs2 : Ty.size .str y.1 + (Ty.size (.list Qj) y.2.1 + (Ty.size (.list Qh) y.2.2)) ≤ 1073741824:=hs
 refine ⟨0,?_⟩
 rw [QpX]
 try (rw [Vu hw2.2.1 (by omega)]; simp only [Option.bind_some])
 try (rw [Vu hw2.2.2 (by omega)]; simp only [Option.bind_some])
 try rfl
def Wt : Ctr:=⟨43,[(.list Qe)],[(.list Qe)],fun x=>toC (.list Qe) x.1⟩
def Qce : List (List Nat × Ann):=[([0,3],[.keep 0 0,.keep 0 3,.keep 0 4,.rows 0 7 Qe])]
def QaW : List (List Nat × Nat):=[]
def Ul : List Ctr:=[Ey]
def Qh1 (n : Nat) (a0 : (List Qb)) : Option (List Qb):=run Tryz.prog Qce QaW (Qv Ul) Tryz.f43 (Tryz.f43.body.getD .skip) (Qy [(.list Qe)]) n (QE [(.list Qe)] (a0,()))
abbrev U1 (n : Nat) (x1 : (List Qb)) (x2 : Int) (x3 : (List Qb)) : Option (List Qb):=lam Tryz.prog Qce QaW (Qv Ul) Tryz.f43 (Tryz.f43.body.getD .skip) (Qy [(.list Qe)]) n [0,3] [.d (.list Qe) x1,.msl 0 7,.d I64 x2,.d (.list Qe) x3]
theorem Qox (n : Nat) (a0 : (List Qb)) : Qh1 n a0 =
  bif decide ((a0.length : Int) = (a0.length : Int)) && decide ((0 : Int) ≤ (a0.length : Int)) && decide ((a0.length : Int) * 64 ≤ ZB) && true then
   U1 n a0 0 (List.replicate (Int.toNat (a0.length : Int)) (([] : List Int),[],[]))
  else none:=by kernel_rfl
theorem QiO (n : Nat) (x1 : (List Qb)) (x2 : Int) (x3 : (List Qb)) : U1 (n + 1) x1 x2 x3 =
  bif decide (x2 < (x1.length : Int)) then
   bif inB x2 x1.length then
    Option.bind (toC Qe (rd x1 x2 (Ty.dflt Qe))) fun (y1 : Qb) =>
    bif inB x2 x3.length then
     bif inB x2 x3.length && true && true && true && true then
      U1 n x1 (IntKind.wrap .i64 (x2 + 1)) (x3.set (Int.toNat x2) y1)
     else none
    else none
   else none
  else
   some x3:=by kernel_rfl
theorem Qsd (hcs : ∀ x ∈ Ul,Qo Tryz.prog x) (h : ∀ (a0 : (List Qb)) y,toC (.list Qe) a0 = some y → ∃ n,Qh1 n a0 = some y) : Qo Tryz.prog Wt:=by
 refine Qq (c:=Wt) (by kernel_rfl) (by kernel_rfl : Tryz.prog.funcs[43]? = some Tryz.f43) (code:=Tryz.f43.body.getD .skip) (by kernel_rfl) (by kernel_rfl) (by kernel_rfl) (A:=Qce) (I:=QaW) hcs ?_
 rintro ⟨a0,u⟩ y hy
 exact h a0 y hy
theorem QpY : ∀ x ∈ Ul,Qo Tryz.prog x:=(Ql Qt8 Qt)
theorem Qse : Qo Tryz.prog Wt:=Qsd QpY fun a0 y hy=>by
 obtain ⟨n,hn⟩:=Qni (t:=Qe) (f:=toC Qe) (fun x h h2=>Vu h h2) (by_:=64) (by omega) (fun n xs i out=>QiO n xs i out) hy
 exact ⟨n,(Qox n a0).trans hn⟩
def Um : Ctr:=⟨19,[Qi],[Qi],fun x=>toC Qi x.1⟩
def QgO : List (List Nat × Ann):=[]
def Qfm : List (List Nat × Nat):=[]
def E0 : List Ctr:=[Eu,Wt]
def QgP (n : Nat) (a0 : Qa) : Option Qa:=run Tryz.prog QgO Qfm (Qv E0) Tryz.f19 (Tryz.f19.body.getD .skip) (Qy [Qi]) n (QE [Qi] (a0,()))
theorem QmP (n : Nat) (a0 : Qa) : QgP n a0 =
  Option.bind (toC (.list Qu) a0.1) fun (y1 : (List QC)) =>
  Option.bind (toC (.list Qe) a0.2) fun (y2 : (List Qb)) =>
  some (y1,y2):=by kernel_rfl
theorem QpZ (hcs : ∀ x ∈ E0,Qo Tryz.prog x) (h : ∀ (a0 : Qa) y,toC Qi a0 = some y → ∃ n,QgP n a0 = some y) : Qo Tryz.prog Um:=by
 refine Qq (c:=Um) (by kernel_rfl) (by kernel_rfl : Tryz.prog.funcs[19]? = some Tryz.f19) (code:=Tryz.f19.body.getD .skip) (by kernel_rfl) (by kernel_rfl) (by kernel_rfl) (A:=QgO) (I:=Qfm) hcs ?_
 rintro ⟨a0,u⟩ y hy
 exact h a0 y hy
theorem Qoy : ∀ x ∈ E0,Qo Tryz.prog x:=(Ql Qt4 (Ql Qse Qt))
theorem Qp0 : Qo Tryz.prog Um:=QpZ Qoy fun a0 y hy=>by
 obtain ⟨hw,hs,rfl⟩:=Qap hy
 have hw2 : wfD (.list Qu) y.1 ∧ wfD (.list Qe) y.2:=hw
 have hs2 : Ty.size (.list Qu) y.1 + (Ty.size (.list Qe) y.2) ≤ 1073741824:=hs
 refine ⟨0,?_⟩
 rw [QmP]
 try (rw [Vu hw2.1 (by omega)]; simp only [Option.bind_some])
 try (rw [Vu hw2.2 (by omega)]; simp only [Option.bind_some])
 try rfl
def QfJ : Ctr:=⟨20,[G7],[G7],fun x=>toC G7 x.1⟩
def Qt9 : List (List Nat × Ann):=[]
def QqD : List (List Nat × Nat):=[]
def QiP : List Ctr:=[]
def Qua (n : Nat) (a0 : Ef) : Option Ef:=run Tryz.prog Qt9 QqD (Qv QiP) Tryz.f20 (Tryz.f20.body.getD .skip) (Qy [G7]) n (QE [G7] (a0,()))
theorem QxE (n : Nat) (a0 : Ef) : Qua n a0 =
  some a0:=by kernel_rfl
theorem QAw (hcs : ∀ x ∈ QiP,Qo Tryz.prog x) (h : ∀ (a0 : Ef) y,toC G7 a0 = some y → ∃ n,Qua n a0 = some y) : Qo Tryz.prog QfJ:=by
 refine Qq (c:=QfJ) (by kernel_rfl) (by kernel_rfl : Tryz.prog.funcs[20]? = some Tryz.f20) (code:=Tryz.f20.body.getD .skip) (by kernel_rfl) (by kernel_rfl) (by kernel_rfl) (A:=Qt9) (I:=QqD) hcs ?_
 rintro ⟨a0,u⟩ y hy
 exact h a0 y hy
theorem Qzu : ∀ x ∈ QiP,Qo Tryz.prog x:=Qt
theorem QAx : Qo Tryz.prog QfJ:=QAw Qzu fun a0 y hy=>by
 obtain ⟨hw,hs,rfl⟩:=Qap hy
 have hw2 : wfD .str y.1 ∧ wfD .str y.2.1 ∧ wfD .str y.2.2.1 ∧ wfD .str y.2.2.2.1 ∧ wfD .str y.2.2.2.2.1 ∧ wfD .str y.2.2.2.2.2:=hw
 have hs2 : Ty.size .str y.1 + (Ty.size .str y.2.1 + (Ty.size .str y.2.2.1 + (Ty.size .str y.2.2.2.1 + (Ty.size .str y.2.2.2.2.1 + (Ty.size .str y.2.2.2.2.2))))) ≤ 1073741824:=hs
 refine ⟨0,?_⟩
 rw [QxE]
 try rfl
def Qcf : Ctr:=⟨198,[Qz,Qz],[.bool],fun x=>eqC Qz x.1 x.2.1⟩
def Qoz : List (List Nat × Ann):=[]
def Qmb : List (List Nat × Nat):=[]
def QeX : List Ctr:=[]
def QoA (n : Nat) (a0 : QF) (a1 : QF) : Option Bool:=run Tryz.prog Qoz Qmb (Qv QeX) Tryz.f198 (Tryz.f198.body.getD .skip) (Qy [.bool]) n (QE [Qz,Qz] (a0,a1,()))
theorem Qub (n : Nat) (a0 : QF) (a1 : QF) : QoA n a0 a1 =
  bif !decide (a0.1 = a1.1) then
   some false
  else
   bif !decide (a0.2 = a1.2) then
    some false
   else
    some true:=by kernel_rfl
theorem QxF (hcs : ∀ x ∈ QeX,Qo Tryz.prog x) (h : ∀ (a0 : QF) (a1 : QF) y,eqC Qz a0 a1 = some y → ∃ n,QoA n a0 a1 = some y) : Qo Tryz.prog Qcf:=by
 refine Qq (c:=Qcf) (by kernel_rfl) (by kernel_rfl : Tryz.prog.funcs[198]? = some Tryz.f198) (code:=Tryz.f198.body.getD .skip) (by kernel_rfl) (by kernel_rfl) (by kernel_rfl) (A:=Qoz) (I:=Qmb) hcs ?_
 rintro ⟨a0,a1,u⟩ y hy
 exact h a0 a1 y hy
theorem Qv4 : ∀ x ∈ QeX,Qo Tryz.prog x:=Qt
theorem QxG : Qo Tryz.prog Qcf:=QxF Qv4 fun a0 a1 y hy=>by
 obtain ⟨rfl,hw,rfl⟩:=Qbm hy
 have hw2 : wfD .str a0.1 ∧ wfD I64 a0.2:=hw
 refine ⟨0,?_⟩
 rw [Qub]
 simp []
def Qay : Ctr:=⟨163,[(.list Qz),(.list Qz)],[.bool],fun x=>eqC (.list Qz) x.1 x.2.1⟩
def QeY : List (List Nat × Ann):=[([0,4],[.keep 0 0,.keep 0 1,.keep 0 5])]
def Qdm : List (List Nat × Nat):=[]
def Ez : List Ctr:=[Qcf]
def Qmc (n : Nat) (a0 : (List QF)) (a1 : (List QF)) : Option Bool:=run Tryz.prog QeY Qdm (Qv Ez) Tryz.f163 (Tryz.f163.body.getD .skip) (Qy [.bool]) n (QE [(.list Qz),(.list Qz)] (a0,a1,()))
abbrev E3 (n : Nat) (x1 : (List QF)) (x2 : (List QF)) (x3 : Int) : Option Bool:=lam Tryz.prog QeY Qdm (Qv Ez) Tryz.f163 (Tryz.f163.body.getD .skip) (Qy [.bool]) n [0,4] [.d (.list Qz) x1,.d (.list Qz) x2,.d I64 x3]
theorem Qsf (n : Nat) (a0 : (List QF)) (a1 : (List QF)) : Qmc n a0 a1 =
  bif !decide ((a0.length : Int) = (a1.length : Int)) then
   some false
  else
   E3 n a0 a1 0:=by kernel_rfl
theorem Qlh (n : Nat) (x1 : (List QF)) (x2 : (List QF)) (x3 : Int) : E3 (n + 1) x1 x2 x3 =
  bif decide (x3 < (x1.length : Int)) then
   bif inB x3 x1.length then
    bif inB x3 x2.length then
     Option.bind (eqC Qz (rd x1 x3 (Ty.dflt Qz)) (rd x2 x3 (Ty.dflt Qz))) fun (y1 : Bool) =>
     bif !(y1) then
      some false
     else
      E3 n x1 x2 (IntKind.wrap .i64 (x3 + 1))
    else none
   else none
  else
   some true:=by kernel_rfl
theorem Qv5 (hcs : ∀ x ∈ Ez,Qo Tryz.prog x) (h : ∀ (a0 : (List QF)) (a1 : (List QF)) y,eqC (.list Qz) a0 a1 = some y → ∃ n,Qmc n a0 a1 = some y) : Qo Tryz.prog Qay:=by
 refine Qq (c:=Qay) (by kernel_rfl) (by kernel_rfl : Tryz.prog.funcs[163]? = some Tryz.f163) (code:=Tryz.f163.body.getD .skip) (by kernel_rfl) (by kernel_rfl) (by kernel_rfl) (A:=QeY) (I:=Qdm) hcs ?_
 rintro ⟨a0,a1,u⟩ y hy
 exact h a0 a1 y hy
theorem Quc : ∀ x ∈ Ez,Qo Tryz.prog x:=(Ql QxG Qt)
theorem Qv6 : Qo Tryz.prog Qay:=Qv5 Quc fun a0 a1 y hy=>by
 obtain ⟨n,hn⟩:=Qnj (t:=Qz) (body:=fun x y K=>Option.bind (eqC Qz x y) fun b=>bif !b then some false else K ()) (fun x K h=>by simp only [VU h,Option.bind_some,Bool.not_true,cond_false]) (fun n xs ys i=>Qlh n xs ys i) hy
 exact ⟨n,(Qsf n a0 a1).trans hn⟩
def QdF : Ctr:=⟨33,[Zz,Zz],[.bool],fun x=>eqC Zz x.1 x.2.1⟩
def QqE : List (List Nat × Ann):=[]
def QoB : List (List Nat × Nat):=[]
def QgQ : List Ctr:=[]
def QqF (n : Nat) (a0 : YB) (a1 : YB) : Option Bool:=run Tryz.prog QqE QoB (Qv QgQ) Tryz.f33 (Tryz.f33.body.getD .skip) (Qy [.bool]) n (QE [Zz,Zz] (a0,a1,()))
theorem Qv7 (n : Nat) (a0 : YB) (a1 : YB) : QqF n a0 a1 =
  bif !decide (a0.1 = a1.1) then
   some false
  else
   bif !decide (a0.2.1 = a1.2.1) then
    some false
   else
    bif !decide (a0.2.2.1 = a1.2.2.1) then
     some false
    else
     bif !decide (a0.2.2.2 = a1.2.2.2) then
      some false
     else
      some true:=by kernel_rfl
theorem Qzv (hcs : ∀ x ∈ QgQ,Qo Tryz.prog x) (h : ∀ (a0 : YB) (a1 : YB) y,eqC Zz a0 a1 = some y → ∃ n,QqF n a0 a1 = some y) : Qo Tryz.prog QdF:=by
 refine Qq (c:=QdF) (by kernel_rfl) (by kernel_rfl : Tryz.prog.funcs[33]? = some Tryz.f33) (code:=Tryz.f33.body.getD .skip) (by kernel_rfl) (by kernel_rfl) (by kernel_rfl) (A:=QqE) (I:=QoB) hcs ?_
 rintro ⟨a0,a1,u⟩ y hy
 exact h a0 a1 y hy
theorem QxH : ∀ x ∈ QgQ,Qo Tryz.prog x:=Qt
theorem Qzw : Qo Tryz.prog QdF:=Qzv QxH fun a0 a1 y hy=>by
 obtain ⟨rfl,hw,rfl⟩:=Qbm hy
 have hw2 : wfD I64 a0.1 ∧ wfD I64 a0.2.1 ∧ wfD .str a0.2.2.1 ∧ wfD .str a0.2.2.2:=hw
 refine ⟨0,?_⟩
 rw [Qv7]
 simp []
def EA : Ctr:=⟨199,[Qw,Qw],[.bool],fun x=>eqC Qw x.1 x.2.1⟩
def Qj1 : List (List Nat × Ann):=[]
def Qh2 : List (List Nat × Nat):=[]
def Qcg : List Ctr:=[QdF]
def Qj2 (n : Nat) (a0 : QH) (a1 : QH) : Option Bool:=run Tryz.prog Qj1 Qh2 (Qv Qcg) Tryz.f199 (Tryz.f199.body.getD .skip) (Qy [.bool]) n (QE [Qw,Qw] (a0,a1,()))
theorem Qp1 (n : Nat) (a0 : QH) (a1 : QH) : Qj2 n a0 a1 =
  bif !decide (a0.1 = a1.1) then
   some false
  else
   bif !decide (a0.2.1 = a1.2.1) then
    some false
   else
    bif !decide (a0.2.2.1 = a1.2.2.1) then
     some false
    else
     Option.bind (eqC Zz a0.2.2.2 a1.2.2.2) fun (y1 : Bool) =>
     bif !(y1) then
      some false
     else
      some true:=by kernel_rfl
theorem Qud (hcs : ∀ x ∈ Qcg,Qo Tryz.prog x) (h : ∀ (a0 : QH) (a1 : QH) y,eqC Qw a0 a1 = some y → ∃ n,Qj2 n a0 a1 = some y) : Qo Tryz.prog EA:=by
 refine Qq (c:=EA) (by kernel_rfl) (by kernel_rfl : Tryz.prog.funcs[199]? = some Tryz.f199) (code:=Tryz.f199.body.getD .skip) (by kernel_rfl) (by kernel_rfl) (by kernel_rfl) (A:=Qj1) (I:=Qh2) hcs ?_
 rintro ⟨a0,a1,u⟩ y hy
 exact h a0 a1 y hy
theorem Qsg : ∀ x ∈ Qcg,Qo Tryz.prog x:=(Ql Qzw Qt)
theorem Que : Qo Tryz.prog EA:=Qud Qsg fun a0 a1 y hy=>by
 obtain ⟨rfl,hw,rfl⟩:=Qbm hy
 have hw2 : wfD .str a0.1 ∧ wfD I64 a0.2.1 ∧ wfD .str a0.2.2.1 ∧ wfD Zz a0.2.2.2:=hw
 refine ⟨0,?_⟩
 rw [Qp1]
 simp [VU hw2.2.2.2]
def Wu : Ctr:=⟨164,[(.list Qw),(.list Qw)],[.bool],fun x=>eqC (.list Qw) x.1 x.2.1⟩
def Qch : List (List Nat × Ann):=[([0,4],[.keep 0 0,.keep 0 1,.keep 0 5])]
def QaX : List (List Nat × Nat):=[]
def Un : List Ctr:=[EA]
def Qh3 (n : Nat) (a0 : (List QH)) (a1 : (List QH)) : Option Bool:=run Tryz.prog Qch QaX (Qv Un) Tryz.f164 (Tryz.f164.body.getD .skip) (Qy [.bool]) n (QE [(.list Qw),(.list Qw)] (a0,a1,()))
abbrev U2 (n : Nat) (x1 : (List QH)) (x2 : (List QH)) (x3 : Int) : Option Bool:=lam Tryz.prog Qch QaX (Qv Un) Tryz.f164 (Tryz.f164.body.getD .skip) (Qy [.bool]) n [0,4] [.d (.list Qw) x1,.d (.list Qw) x2,.d I64 x3]
theorem QoC (n : Nat) (a0 : (List QH)) (a1 : (List QH)) : Qh3 n a0 a1 =
  bif !decide ((a0.length : Int) = (a1.length : Int)) then
   some false
  else
   U2 n a0 a1 0:=by kernel_rfl
theorem QiQ (n : Nat) (x1 : (List QH)) (x2 : (List QH)) (x3 : Int) : U2 (n + 1) x1 x2 x3 =
  bif decide (x3 < (x1.length : Int)) then
   bif inB x3 x1.length then
    bif inB x3 x2.length then
     Option.bind (eqC Qw (rd x1 x3 (Ty.dflt Qw)) (rd x2 x3 (Ty.dflt Qw))) fun (y1 : Bool) =>
     bif !(y1) then
      some false
     else
      U2 n x1 x2 (IntKind.wrap .i64 (x3 + 1))
    else none
   else none
  else
   some true:=by kernel_rfl
theorem Qsh (hcs : ∀ x ∈ Un,Qo Tryz.prog x) (h : ∀ (a0 : (List QH)) (a1 : (List QH)) y,eqC (.list Qw) a0 a1 = some y → ∃ n,Qh3 n a0 a1 = some y) : Qo Tryz.prog Wu:=by
 refine Qq (c:=Wu) (by kernel_rfl) (by kernel_rfl : Tryz.prog.funcs[164]? = some Tryz.f164) (code:=Tryz.f164.body.getD .skip) (by kernel_rfl) (by kernel_rfl) (by kernel_rfl) (A:=Qch) (I:=QaX) hcs ?_
 rintro ⟨a0,a1,u⟩ y hy
 exact h a0 a1 y hy
theorem Qp2 : ∀ x ∈ Un,Qo Tryz.prog x:=(Ql Que Qt)
theorem Qsi : Qo Tryz.prog Wu:=Qsh Qp2 fun a0 a1 y hy=>by
 obtain ⟨n,hn⟩:=Qnj (t:=Qw) (body:=fun x y K=>Option.bind (eqC Qw x y) fun b=>bif !b then some false else K ()) (fun x K h=>by simp only [VU h,Option.bind_some,Bool.not_true,cond_false]) (fun n xs ys i=>QiQ n xs ys i) hy
 exact ⟨n,(QoC n a0 a1).trans hn⟩
def Qaz : Ctr:=⟨91,[Qu,Qu],[.bool],fun x=>eqC Qu x.1 x.2.1⟩
def Qmd : List (List Nat × Ann):=[]
def Qj3 : List (List Nat × Nat):=[]
def Qdn : List Ctr:=[Qay,Wu]
def Qme (n : Nat) (a0 : QC) (a1 : QC) : Option Bool:=run Tryz.prog Qmd Qj3 (Qv Qdn) Tryz.f91 (Tryz.f91.body.getD .skip) (Qy [.bool]) n (QE [Qu,Qu] (a0,a1,()))
theorem Qsj (n : Nat) (a0 : QC) (a1 : QC) : Qme n a0 a1 =
  bif !decide (a0.1 = a1.1) then
   some false
  else
   Option.bind (eqC (.list Qz) a0.2.1 a1.2.1) fun (y1 : Bool) =>
   bif !(y1) then
    some false
   else
    Option.bind (eqC (.list Qw) a0.2.2 a1.2.2) fun (y2 : Bool) =>
    bif !(y2) then
     some false
    else
     some true:=by kernel_rfl
theorem Qv8 (hcs : ∀ x ∈ Qdn,Qo Tryz.prog x) (h : ∀ (a0 : QC) (a1 : QC) y,eqC Qu a0 a1 = some y → ∃ n,Qme n a0 a1 = some y) : Qo Tryz.prog Qaz:=by
 refine Qq (c:=Qaz) (by kernel_rfl) (by kernel_rfl : Tryz.prog.funcs[91]? = some Tryz.f91) (code:=Tryz.f91.body.getD .skip) (by kernel_rfl) (by kernel_rfl) (by kernel_rfl) (A:=Qmd) (I:=Qj3) hcs ?_
 rintro ⟨a0,a1,u⟩ y hy
 exact h a0 a1 y hy
theorem Quf : ∀ x ∈ Qdn,Qo Tryz.prog x:=(Ql Qv6 (Ql Qsi Qt))
theorem Qv9 : Qo Tryz.prog Qaz:=Qv8 Quf fun a0 a1 y hy=>by
 obtain ⟨rfl,hw,rfl⟩:=Qbm hy
 have hw2 : wfD .str a0.1 ∧ wfD (.list Qz) a0.2.1 ∧ wfD (.list Qw) a0.2.2:=hw
 refine ⟨0,?_⟩
 rw [Qsj]
 simp [VU hw2.2.1,VU hw2.2.2]
def EB : Ctr:=⟨46,[(.list Qu),(.list Qu)],[.bool],fun x=>eqC (.list Qu) x.1 x.2.1⟩
def Qdo : List (List Nat × Ann):=[([0,4],[.keep 0 0,.keep 0 1,.keep 0 5])]
def Qci : List (List Nat × Nat):=[]
def Wv : List Ctr:=[Qaz]
def Qj4 (n : Nat) (a0 : (List QC)) (a1 : (List QC)) : Option Bool:=run Tryz.prog Qdo Qci (Qv Wv) Tryz.f46 (Tryz.f46.body.getD .skip) (Qy [.bool]) n (QE [(.list Qu),(.list Qu)] (a0,a1,()))
abbrev W1 (n : Nat) (x1 : (List QC)) (x2 : (List QC)) (x3 : Int) : Option Bool:=lam Tryz.prog Qdo Qci (Qv Wv) Tryz.f46 (Tryz.f46.body.getD .skip) (Qy [.bool]) n [0,4] [.d (.list Qu) x1,.d (.list Qu) x2,.d I64 x3]
theorem Qp3 (n : Nat) (a0 : (List QC)) (a1 : (List QC)) : Qj4 n a0 a1 =
  bif !decide ((a0.length : Int) = (a1.length : Int)) then
   some false
  else
   W1 n a0 a1 0:=by kernel_rfl
theorem Qj5 (n : Nat) (x1 : (List QC)) (x2 : (List QC)) (x3 : Int) : W1 (n + 1) x1 x2 x3 =
  bif decide (x3 < (x1.length : Int)) then
   bif inB x3 x1.length then
    bif inB x3 x2.length then
     Option.bind (eqC Qu (rd x1 x3 (Ty.dflt Qu)) (rd x2 x3 (Ty.dflt Qu))) fun (y1 : Bool) =>
     bif !(y1) then
      some false
     else
      W1 n x1 x2 (IntKind.wrap .i64 (x3 + 1))
    else none
   else none
  else
   some true:=by kernel_rfl
theorem Qug (hcs : ∀ x ∈ Wv,Qo Tryz.prog x) (h : ∀ (a0 : (List QC)) (a1 : (List QC)) y,eqC (.list Qu) a0 a1 = some y → ∃ n,Qj4 n a0 a1 = some y) : Qo Tryz.prog EB:=by
 refine Qq (c:=EB) (by kernel_rfl) (by kernel_rfl : Tryz.prog.funcs[46]? = some Tryz.f46) (code:=Tryz.f46.body.getD .skip) (by kernel_rfl) (by kernel_rfl) (by kernel_rfl) (A:=Qdo) (I:=Qci) hcs ?_
 rintro ⟨a0,a1,u⟩ y hy
 exact h a0 a1 y hy
theorem Qsk : ∀ x ∈ Wv,Qo Tryz.prog x:=(Ql Qv9 Qt)
theorem Quh : Qo Tryz.prog EB:=Qug Qsk fun a0 a1 y hy=>by
 obtain ⟨n,hn⟩:=Qnj (t:=Qu) (body:=fun x y K=>Option.bind (eqC Qu x y) fun b=>bif !b then some false else K ()) (fun x K h=>by simp only [VU h,Option.bind_some,Bool.not_true,cond_false]) (fun n xs ys i=>Qj5 n xs ys i) hy
 exact ⟨n,(Qp3 n a0 a1).trans hn⟩
def X3 : Ctr:=⟨214,[Qd,Qd],[.bool],fun x=>eqC Qd x.1 x.2.1⟩
def Qej : List (List Nat × Ann):=[]
def QcH : List (List Nat × Nat):=[]
def U3 : List Ctr:=[]
def Qek (n : Nat) (a0 : Qm) (a1 : Qm) : Option Bool:=run Tryz.prog Qej QcH (Qv U3) Tryz.f214 (Tryz.f214.body.getD .skip) (Qy [.bool]) n (QE [Qd,Qd] (a0,a1,()))
theorem Qj6 (n : Nat) (a0 : Qm) (a1 : Qm) : Qek n a0 a1 =
  bif !decide (a0.1 = a1.1) then
   some false
  else
   bif !decide (a0.2.1 = a1.2.1) then
    some false
   else
    bif a0.2.2.1 != a1.2.2.1 then
     some false
    else
     bif !decide (a0.2.2.2 = a1.2.2.2) then
      some false
     else
      some true:=by kernel_rfl
theorem QmQ (hcs : ∀ x ∈ U3,Qo Tryz.prog x) (h : ∀ (a0 : Qm) (a1 : Qm) y,eqC Qd a0 a1 = some y → ∃ n,Qek n a0 a1 = some y) : Qo Tryz.prog X3:=by
 refine Qq (c:=X3) (by kernel_rfl) (by kernel_rfl : Tryz.prog.funcs[214]? = some Tryz.f214) (code:=Tryz.f214.body.getD .skip) (by kernel_rfl) (by kernel_rfl) (by kernel_rfl) (A:=Qej) (I:=QcH) hcs ?_
 rintro ⟨a0,a1,u⟩ y hy
 exact h a0 a1 y hy
theorem Qli : ∀ x ∈ U3,Qo Tryz.prog x:=Qt
theorem QmR : Qo Tryz.prog X3:=QmQ Qli fun a0 a1 y hy=>by
 obtain ⟨rfl,hw,rfl⟩:=Qbm hy
 have hw2 : wfD .str a0.1 ∧ wfD .str a0.2.1 ∧ wfD .bool a0.2.2.1 ∧ wfD .str a0.2.2.2:=hw
 refine ⟨0,?_⟩
 rw [Qj6]
 simp []
def Xt : Ctr:=⟨208,[(.list Qd),(.list Qd)],[.bool],fun x=>eqC (.list Qd) x.1 x.2.1⟩
def U4 : List (List Nat × Ann):=[([0,4],[.keep 0 0,.keep 0 1,.keep 0 5])]
def Uo : List (List Nat × Nat):=[]
def GR : List Ctr:=[X3]
def QcI (n : Nat) (a0 : (List Qm)) (a1 : (List Qm)) : Option Bool:=run Tryz.prog U4 Uo (Qv GR) Tryz.f208 (Tryz.f208.body.getD .skip) (Qy [.bool]) n (QE [(.list Qd),(.list Qd)] (a0,a1,()))
abbrev XD (n : Nat) (x1 : (List Qm)) (x2 : (List Qm)) (x3 : Int) : Option Bool:=lam Tryz.prog U4 Uo (Qv GR) Tryz.f208 (Tryz.f208.body.getD .skip) (Qy [.bool]) n [0,4] [.d (.list Qd) x1,.d (.list Qd) x2,.d I64 x3]
theorem QiR (n : Nat) (a0 : (List Qm)) (a1 : (List Qm)) : QcI n a0 a1 =
  bif !decide ((a0.length : Int) = (a1.length : Int)) then
   some false
  else
   XD n a0 a1 0:=by kernel_rfl
theorem QeZ (n : Nat) (x1 : (List Qm)) (x2 : (List Qm)) (x3 : Int) : XD (n + 1) x1 x2 x3 =
  bif decide (x3 < (x1.length : Int)) then
   bif inB x3 x1.length then
    bif inB x3 x2.length then
     Option.bind (eqC Qd (rd x1 x3 (Ty.dflt Qd)) (rd x2 x3 (Ty.dflt Qd))) fun (y1 : Bool) =>
     bif !(y1) then
      some false
     else
      XD n x1 x2 (IntKind.wrap .i64 (x3 + 1))
    else none
   else none
  else
   some true:=by kernel_rfl
theorem Qlj (hcs : ∀ x ∈ GR,Qo Tryz.prog x) (h : ∀ (a0 : (List Qm)) (a1 : (List Qm)) y,eqC (.list Qd) a0 a1 = some y → ∃ n,QcI n a0 a1 = some y) : Qo Tryz.prog Xt:=by
 refine Qq (c:=Xt) (by kernel_rfl) (by kernel_rfl : Tryz.prog.funcs[208]? = some Tryz.f208) (code:=Tryz.f208.body.getD .skip) (by kernel_rfl) (by kernel_rfl) (by kernel_rfl) (A:=U4) (I:=Uo) hcs ?_
 rintro ⟨a0,a1,u⟩ y hy
 exact h a0 a1 y hy
theorem Qj7 : ∀ x ∈ GR,Qo Tryz.prog x:=(Ql QmR Qt)
theorem Qlk : Qo Tryz.prog Xt:=Qlj Qj7 fun a0 a1 y hy=>by
 obtain ⟨n,hn⟩:=Qnj (t:=Qd) (body:=fun x y K=>Option.bind (eqC Qd x y) fun b=>bif !b then some false else K ()) (fun x K h=>by simp only [VU h,Option.bind_some,Bool.not_true,cond_false]) (fun n xs ys i=>QeZ n xs ys i) hy
 exact ⟨n,(QiR n a0 a1).trans hn⟩
def Ww : Ctr:=⟨200,[Qj,Qj],[.bool],fun x=>eqC Qj x.1 x.2.1⟩
def Qh4 : List (List Nat × Ann):=[]
def QgR : List (List Nat × Nat):=[]
def QaY : List Ctr:=[Xt]
def Qh5 (n : Nat) (a0 : Qf) (a1 : Qf) : Option Bool:=run Tryz.prog Qh4 QgR (Qv QaY) Tryz.f200 (Tryz.f200.body.getD .skip) (Qy [.bool]) n (QE [Qj,Qj] (a0,a1,()))
theorem QoD (n : Nat) (a0 : Qf) (a1 : Qf) : Qh5 n a0 a1 =
  bif !decide (a0.1 = a1.1) then
   some false
  else
   Option.bind (eqC (.list Qd) a0.2 a1.2) fun (y1 : Bool) =>
   bif !(y1) then
    some false
   else
    some true:=by kernel_rfl
theorem Qsl (hcs : ∀ x ∈ QaY,Qo Tryz.prog x) (h : ∀ (a0 : Qf) (a1 : Qf) y,eqC Qj a0 a1 = some y → ∃ n,Qh5 n a0 a1 = some y) : Qo Tryz.prog Ww:=by
 refine Qq (c:=Ww) (by kernel_rfl) (by kernel_rfl : Tryz.prog.funcs[200]? = some Tryz.f200) (code:=Tryz.f200.body.getD .skip) (by kernel_rfl) (by kernel_rfl) (by kernel_rfl) (A:=Qh4) (I:=QgR) hcs ?_
 rintro ⟨a0,a1,u⟩ y hy
 exact h a0 a1 y hy
theorem Qp4 : ∀ x ∈ QaY,Qo Tryz.prog x:=(Ql Qlk Qt)
theorem Qsm : Qo Tryz.prog Ww:=Qsl Qp4 fun a0 a1 y hy=>by
 obtain ⟨rfl,hw,rfl⟩:=Qbm hy
 have hw2 : wfD .str a0.1 ∧ wfD (.list Qd) a0.2:=hw
 refine ⟨0,?_⟩
 rw [QoD]
 simp [VU hw2.2]
def Up : Ctr:=⟨165,[(.list Qj),(.list Qj)],[.bool],fun x=>eqC (.list Qj) x.1 x.2.1⟩
def QaZ : List (List Nat × Ann):=[([0,4],[.keep 0 0,.keep 0 1,.keep 0 5])]
def E4 : List (List Nat × Nat):=[]
def Hs : List Ctr:=[Ww]
def QgS (n : Nat) (a0 : (List Qf)) (a1 : (List Qf)) : Option Bool:=run Tryz.prog QaZ E4 (Qv Hs) Tryz.f165 (Tryz.f165.body.getD .skip) (Qy [.bool]) n (QE [(.list Qj),(.list Qj)] (a0,a1,()))
abbrev Uq (n : Nat) (x1 : (List Qf)) (x2 : (List Qf)) (x3 : Int) : Option Bool:=lam Tryz.prog QaZ E4 (Qv Hs) Tryz.f165 (Tryz.f165.body.getD .skip) (Qy [.bool]) n [0,4] [.d (.list Qj) x1,.d (.list Qj) x2,.d I64 x3]
theorem QmS (n : Nat) (a0 : (List Qf)) (a1 : (List Qf)) : QgS n a0 a1 =
  bif !decide ((a0.length : Int) = (a1.length : Int)) then
   some false
  else
   Uq n a0 a1 0:=by kernel_rfl
theorem Qhl (n : Nat) (x1 : (List Qf)) (x2 : (List Qf)) (x3 : Int) : Uq (n + 1) x1 x2 x3 =
  bif decide (x3 < (x1.length : Int)) then
   bif inB x3 x1.length then
    bif inB x3 x2.length then
     Option.bind (eqC Qj (rd x1 x3 (Ty.dflt Qj)) (rd x2 x3 (Ty.dflt Qj))) fun (y1 : Bool) =>
     bif !(y1) then
      some false
     else
      Uq n x1 x2 (IntKind.wrap .i64 (x3 + 1))
    else none
   else none
  else
   some true:=by kernel_rfl
theorem Qp5 (hcs : ∀ x ∈ Hs,Qo Tryz.prog x) (h : ∀ (a0 : (List Qf)) (a1 : (List Qf)) y,eqC (.list Qj) a0 a1 = some y → ∃ n,QgS n a0 a1 = some y) : Qo Tryz.prog Up:=by
 refine Qq (c:=Up) (by kernel_rfl) (by kernel_rfl : Tryz.prog.funcs[165]? = some Tryz.f165) (code:=Tryz.f165.body.getD .skip) (by kernel_rfl) (by kernel_rfl) (by kernel_rfl) (A:=QaZ) (I:=E4) hcs ?_
 rintro ⟨a0,a1,u⟩ y hy
 exact h a0 a1 y hy
theorem QoE : ∀ x ∈ Hs,Qo Tryz.prog x:=(Ql Qsm Qt)
theorem Qp6 : Qo Tryz.prog Up:=Qp5 QoE fun a0 a1 y hy=>by
 obtain ⟨n,hn⟩:=Qnj (t:=Qj) (body:=fun x y K=>Option.bind (eqC Qj x y) fun b=>bif !b then some false else K ()) (fun x K h=>by simp only [VU h,Option.bind_some,Bool.not_true,cond_false]) (fun n xs ys i=>Qhl n xs ys i) hy
 exact ⟨n,(QmS n a0 a1).trans hn⟩
def EC : Ctr:=⟨215,[Qg,Qg],[.bool],fun x=>eqC Qg x.1 x.2.1⟩
def Qj8 : List (List Nat × Ann):=[]
def Qh6 : List (List Nat × Nat):=[]
def Qcj : List Ctr:=[]
def Qj9 (n : Nat) (a0 : Qp) (a1 : Qp) : Option Bool:=run Tryz.prog Qj8 Qh6 (Qv Qcj) Tryz.f215 (Tryz.f215.body.getD .skip) (Qy [.bool]) n (QE [Qg,Qg] (a0,a1,()))
theorem Qp7 (n : Nat) (a0 : Qp) (a1 : Qp) : Qj9 n a0 a1 =
  bif !decide (a0.1 = a1.1) then
   some false
  else
   bif !decide (a0.2.1 = a1.2.1) then
    some false
   else
    bif !decide (a0.2.2 = a1.2.2) then
     some false
    else
     some true:=by kernel_rfl
theorem Qui (hcs : ∀ x ∈ Qcj,Qo Tryz.prog x) (h : ∀ (a0 : Qp) (a1 : Qp) y,eqC Qg a0 a1 = some y → ∃ n,Qj9 n a0 a1 = some y) : Qo Tryz.prog EC:=by
 refine Qq (c:=EC) (by kernel_rfl) (by kernel_rfl : Tryz.prog.funcs[215]? = some Tryz.f215) (code:=Tryz.f215.body.getD .skip) (by kernel_rfl) (by kernel_rfl) (by kernel_rfl) (A:=Qj8) (I:=Qh6) hcs ?_
 rintro ⟨a0,a1,u⟩ y hy
 exact h a0 a1 y hy
theorem Qsn : ∀ x ∈ Qcj,Qo Tryz.prog x:=Qt
theorem Quj : Qo Tryz.prog EC:=Qui Qsn fun a0 a1 y hy=>by
 obtain ⟨rfl,hw,rfl⟩:=Qbm hy
 have hw2 : wfD I64 a0.1 ∧ wfD .str a0.2.1 ∧ wfD .str a0.2.2:=hw
 refine ⟨0,?_⟩
 rw [Qp7]
 simp []
def Wx : Ctr:=⟨209,[(.list Qg),(.list Qg)],[.bool],fun x=>eqC (.list Qg) x.1 x.2.1⟩
def Qck : List (List Nat × Ann):=[([0,4],[.keep 0 0,.keep 0 1,.keep 0 5])]
def Qa0 : List (List Nat × Nat):=[]
def Ur : List Ctr:=[EC]
def Qh7 (n : Nat) (a0 : (List Qp)) (a1 : (List Qp)) : Option Bool:=run Tryz.prog Qck Qa0 (Qv Ur) Tryz.f209 (Tryz.f209.body.getD .skip) (Qy [.bool]) n (QE [(.list Qg),(.list Qg)] (a0,a1,()))
abbrev U5 (n : Nat) (x1 : (List Qp)) (x2 : (List Qp)) (x3 : Int) : Option Bool:=lam Tryz.prog Qck Qa0 (Qv Ur) Tryz.f209 (Tryz.f209.body.getD .skip) (Qy [.bool]) n [0,4] [.d (.list Qg) x1,.d (.list Qg) x2,.d I64 x3]
theorem QoF (n : Nat) (a0 : (List Qp)) (a1 : (List Qp)) : Qh7 n a0 a1 =
  bif !decide ((a0.length : Int) = (a1.length : Int)) then
   some false
  else
   U5 n a0 a1 0:=by kernel_rfl
theorem QiS (n : Nat) (x1 : (List Qp)) (x2 : (List Qp)) (x3 : Int) : U5 (n + 1) x1 x2 x3 =
  bif decide (x3 < (x1.length : Int)) then
   bif inB x3 x1.length then
    bif inB x3 x2.length then
     Option.bind (eqC Qg (rd x1 x3 (Ty.dflt Qg)) (rd x2 x3 (Ty.dflt Qg))) fun (y1 : Bool) =>
     bif !(y1) then
      some false
     else
      U5 n x1 x2 (IntKind.wrap .i64 (x3 + 1))
    else none
   else none
  else
   some true:=by kernel_rfl
theorem Qso (hcs : ∀ x ∈ Ur,Qo Tryz.prog x) (h : ∀ (a0 : (List Qp)) (a1 : (List Qp)) y,eqC (.list Qg) a0 a1 = some y → ∃ n,Qh7 n a0 a1 = some y) : Qo Tryz.prog Wx:=by
 refine Qq (c:=Wx) (by kernel_rfl) (by kernel_rfl : Tryz.prog.funcs[209]? = some Tryz.f209) (code:=Tryz.f209.body.getD .skip) (by kernel_rfl) (by kernel_rfl) (by kernel_rfl) (A:=Qck) (I:=Qa0) hcs ?_
 rintro ⟨a0,a1,u⟩ y hy
 exact h a0 a1 y hy
theorem Qp8 : ∀ x ∈ Ur,Qo Tryz.prog x:=(Ql Quj Qt)
theorem Qsp : Qo Tryz.prog Wx:=Qso Qp8 fun a0 a1 y hy=>by
 obtain ⟨n,hn⟩:=Qnj (t:=Qg) (body:=fun x y K=>Option.bind (eqC Qg x y) fun b=>bif !b then some false else K ()) (fun x K h=>by simp only [VU h,Option.bind_some,Bool.not_true,cond_false]) (fun n xs ys i=>QiS n xs ys i) hy
 exact ⟨n,(QoF n a0 a1).trans hn⟩
def Ht : Ctr:=⟨201,[Qh,Qh],[.bool],fun x=>eqC Qh x.1 x.2.1⟩
def Qfn : List (List Nat × Ann):=[]
def Qel : List (List Nat × Nat):=[]
def W2 : List Ctr:=[Wx]
def Qfo (n : Nat) (a0 : Qc) (a1 : Qc) : Option Bool:=run Tryz.prog Qfn Qel (Qv W2) Tryz.f201 (Tryz.f201.body.getD .skip) (Qy [.bool]) n (QE [Qh,Qh] (a0,a1,()))
theorem Qll (n : Nat) (a0 : Qc) (a1 : Qc) : Qfo n a0 a1 =
  bif !decide (a0.1 = a1.1) then
   some false
  else
   Option.bind (eqC (.list Qg) a0.2 a1.2) fun (y1 : Bool) =>
   bif !(y1) then
    some false
   else
    some true:=by kernel_rfl
theorem QoG (hcs : ∀ x ∈ W2,Qo Tryz.prog x) (h : ∀ (a0 : Qc) (a1 : Qc) y,eqC Qh a0 a1 = some y → ∃ n,Qfo n a0 a1 = some y) : Qo Tryz.prog Ht:=by
 refine Qq (c:=Ht) (by kernel_rfl) (by kernel_rfl : Tryz.prog.funcs[201]? = some Tryz.f201) (code:=Tryz.f201.body.getD .skip) (by kernel_rfl) (by kernel_rfl) (by kernel_rfl) (A:=Qfn) (I:=Qel) hcs ?_
 rintro ⟨a0,a1,u⟩ y hy
 exact h a0 a1 y hy
theorem QmT : ∀ x ∈ W2,Qo Tryz.prog x:=(Ql Qsp Qt)
theorem QoH : Qo Tryz.prog Ht:=QoG QmT fun a0 a1 y hy=>by
 obtain ⟨rfl,hw,rfl⟩:=Qbm hy
 have hw2 : wfD .str a0.1 ∧ wfD (.list Qg) a0.2:=hw
 refine ⟨0,?_⟩
 rw [Qll]
 simp [VU hw2.2]
def X4 : Ctr:=⟨166,[(.list Qh),(.list Qh)],[.bool],fun x=>eqC (.list Qh) x.1 x.2.1⟩
def W3 : List (List Nat × Ann):=[([0,4],[.keep 0 0,.keep 0 1,.keep 0 5])]
def U6 : List (List Nat × Nat):=[]
def Xu : List Ctr:=[Ht]
def Qem (n : Nat) (a0 : (List Qc)) (a1 : (List Qc)) : Option Bool:=run Tryz.prog W3 U6 (Qv Xu) Tryz.f166 (Tryz.f166.body.getD .skip) (Qy [.bool]) n (QE [(.list Qh),(.list Qh)] (a0,a1,()))
abbrev Hg (n : Nat) (x1 : (List Qc)) (x2 : (List Qc)) (x3 : Int) : Option Bool:=lam Tryz.prog W3 U6 (Qv Xu) Tryz.f166 (Tryz.f166.body.getD .skip) (Qy [.bool]) n [0,4] [.d (.list Qh) x1,.d (.list Qh) x2,.d I64 x3]
theorem Qka (n : Nat) (a0 : (List Qc)) (a1 : (List Qc)) : Qem n a0 a1 =
  bif !decide ((a0.length : Int) = (a1.length : Int)) then
   some false
  else
   Hg n a0 a1 0:=by kernel_rfl
theorem QfK (n : Nat) (x1 : (List Qc)) (x2 : (List Qc)) (x3 : Int) : Hg (n + 1) x1 x2 x3 =
  bif decide (x3 < (x1.length : Int)) then
   bif inB x3 x1.length then
    bif inB x3 x2.length then
     Option.bind (eqC Qh (rd x1 x3 (Ty.dflt Qh)) (rd x2 x3 (Ty.dflt Qh))) fun (y1 : Bool) =>
     bif !(y1) then
      some false
     else
      Hg n x1 x2 (IntKind.wrap .i64 (x3 + 1))
    else none
   else none
  else
   some true:=by kernel_rfl
theorem QmU (hcs : ∀ x ∈ Xu,Qo Tryz.prog x) (h : ∀ (a0 : (List Qc)) (a1 : (List Qc)) y,eqC (.list Qh) a0 a1 = some y → ∃ n,Qem n a0 a1 = some y) : Qo Tryz.prog X4:=by
 refine Qq (c:=X4) (by kernel_rfl) (by kernel_rfl : Tryz.prog.funcs[166]? = some Tryz.f166) (code:=Tryz.f166.body.getD .skip) (by kernel_rfl) (by kernel_rfl) (by kernel_rfl) (A:=W3) (I:=U6) hcs ?_
 rintro ⟨a0,a1,u⟩ y hy
 exact h a0 a1 y hy
theorem Qlm : ∀ x ∈ Xu,Qo Tryz.prog x:=(Ql QoH Qt)
theorem QmV : Qo Tryz.prog X4:=QmU Qlm fun a0 a1 y hy=>by
 obtain ⟨n,hn⟩:=Qnj (t:=Qh) (body:=fun x y K=>Option.bind (eqC Qh x y) fun b=>bif !b then some false else K ()) (fun x K h=>by simp only [VU h,Option.bind_some,Bool.not_true,cond_false]) (fun n xs ys i=>QfK n xs ys i) hy
 exact ⟨n,(Qka n a0 a1).trans hn⟩
def ED : Ctr:=⟨92,[Qe,Qe],[.bool],fun x=>eqC Qe x.1 x.2.1⟩
def Qkb : List (List Nat × Ann):=[]
def Qh8 : List (List Nat × Nat):=[]
def Qcl : List Ctr:=[Up,X4]
def Qkc (n : Nat) (a0 : Qb) (a1 : Qb) : Option Bool:=run Tryz.prog Qkb Qh8 (Qv Qcl) Tryz.f92 (Tryz.f92.body.getD .skip) (Qy [.bool]) n (QE [Qe,Qe] (a0,a1,()))
theorem Qp9 (n : Nat) (a0 : Qb) (a1 : Qb) : Qkc n a0 a1 =
  bif !decide (a0.1 = a1.1) then
   some false
  else
   Option.bind (eqC (.list Qj) a0.2.1 a1.2.1) fun (y1 : Bool) =>
   bif !(y1) then
    some false
   else
    Option.bind (eqC (.list Qh) a0.2.2 a1.2.2) fun (y2 : Bool) =>
    bif !(y2) then
     some false
    else
     some true:=by kernel_rfl
theorem Quk (hcs : ∀ x ∈ Qcl,Qo Tryz.prog x) (h : ∀ (a0 : Qb) (a1 : Qb) y,eqC Qe a0 a1 = some y → ∃ n,Qkc n a0 a1 = some y) : Qo Tryz.prog ED:=by
 refine Qq (c:=ED) (by kernel_rfl) (by kernel_rfl : Tryz.prog.funcs[92]? = some Tryz.f92) (code:=Tryz.f92.body.getD .skip) (by kernel_rfl) (by kernel_rfl) (by kernel_rfl) (A:=Qkb) (I:=Qh8) hcs ?_
 rintro ⟨a0,a1,u⟩ y hy
 exact h a0 a1 y hy
theorem Qsq : ∀ x ∈ Qcl,Qo Tryz.prog x:=(Ql Qp6 (Ql QmV Qt))
theorem Qul : Qo Tryz.prog ED:=Quk Qsq fun a0 a1 y hy=>by
 obtain ⟨rfl,hw,rfl⟩:=Qbm hy
 have hw2 : wfD .str a0.1 ∧ wfD (.list Qj) a0.2.1 ∧ wfD (.list Qh) a0.2.2:=hw
 refine ⟨0,?_⟩
 rw [Qp9]
 simp [VU hw2.2.1,VU hw2.2.2]
def Wy : Ctr:=⟨47,[(.list Qe),(.list Qe)],[.bool],fun x=>eqC (.list Qe) x.1 x.2.1⟩
def Qcm : List (List Nat × Ann):=[([0,4],[.keep 0 0,.keep 0 1,.keep 0 5])]
def Qa1 : List (List Nat × Nat):=[]
def Us : List Ctr:=[ED]
def Qh9 (n : Nat) (a0 : (List Qb)) (a1 : (List Qb)) : Option Bool:=run Tryz.prog Qcm Qa1 (Qv Us) Tryz.f47 (Tryz.f47.body.getD .skip) (Qy [.bool]) n (QE [(.list Qe),(.list Qe)] (a0,a1,()))
abbrev U7 (n : Nat) (x1 : (List Qb)) (x2 : (List Qb)) (x3 : Int) : Option Bool:=lam Tryz.prog Qcm Qa1 (Qv Us) Tryz.f47 (Tryz.f47.body.getD .skip) (Qy [.bool]) n [0,4] [.d (.list Qe) x1,.d (.list Qe) x2,.d I64 x3]
theorem QoI (n : Nat) (a0 : (List Qb)) (a1 : (List Qb)) : Qh9 n a0 a1 =
  bif !decide ((a0.length : Int) = (a1.length : Int)) then
   some false
  else
   U7 n a0 a1 0:=by kernel_rfl
theorem QiT (n : Nat) (x1 : (List Qb)) (x2 : (List Qb)) (x3 : Int) : U7 (n + 1) x1 x2 x3 =
  bif decide (x3 < (x1.length : Int)) then
   bif inB x3 x1.length then
    bif inB x3 x2.length then
     Option.bind (eqC Qe (rd x1 x3 (Ty.dflt Qe)) (rd x2 x3 (Ty.dflt Qe))) fun (y1 : Bool) =>
     bif !(y1) then
      some false
     else
      U7 n x1 x2 (IntKind.wrap .i64 (x3 + 1))
    else none
   else none
  else
   some true:=by kernel_rfl
theorem Qsr (hcs : ∀ x ∈ Us,Qo Tryz.prog x) (h : ∀ (a0 : (List Qb)) (a1 : (List Qb)) y,eqC (.list Qe) a0 a1 = some y → ∃ n,Qh9 n a0 a1 = some y) : Qo Tryz.prog Wy:=by
 refine Qq (c:=Wy) (by kernel_rfl) (by kernel_rfl : Tryz.prog.funcs[47]? = some Tryz.f47) (code:=Tryz.f47.body.getD .skip) (by kernel_rfl) (by kernel_rfl) (by kernel_rfl) (A:=Qcm) (I:=Qa1) hcs ?_
 rintro ⟨a0,a1,u⟩ y hy
 exact h a0 a1 y hy
theorem Qqa : ∀ x ∈ Us,Qo Tryz.prog x:=(Ql Qul Qt)
theorem Qss : Qo Tryz.prog Wy:=Qsr Qqa fun a0 a1 y hy=>by
 obtain ⟨n,hn⟩:=Qnj (t:=Qe) (body:=fun x y K=>Option.bind (eqC Qe x y) fun b=>bif !b then some false else K ()) (fun x K h=>by simp only [VU h,Option.bind_some,Bool.not_true,cond_false]) (fun n xs ys i=>QiT n xs ys i) hy
 exact ⟨n,(QoI n a0 a1).trans hn⟩
def Ut : Ctr:=⟨22,[Qi,Qi],[.bool],fun x=>eqC Qi x.1 x.2.1⟩
def QgT : List (List Nat × Ann):=[]
def Qfp : List (List Nat × Nat):=[]
def E5 : List Ctr:=[EB,Wy]
def QgU (n : Nat) (a0 : Qa) (a1 : Qa) : Option Bool:=run Tryz.prog QgT Qfp (Qv E5) Tryz.f22 (Tryz.f22.body.getD .skip) (Qy [.bool]) n (QE [Qi,Qi] (a0,a1,()))
theorem QmW (n : Nat) (a0 : Qa) (a1 : Qa) : QgU n a0 a1 =
  Option.bind (eqC (.list Qu) a0.1 a1.1) fun (y1 : Bool) =>
  bif !(y1) then
   some false
  else
   Option.bind (eqC (.list Qe) a0.2 a1.2) fun (y2 : Bool) =>
   bif !(y2) then
    some false
   else
    some true:=by kernel_rfl
theorem Qqb (hcs : ∀ x ∈ E5,Qo Tryz.prog x) (h : ∀ (a0 : Qa) (a1 : Qa) y,eqC Qi a0 a1 = some y → ∃ n,QgU n a0 a1 = some y) : Qo Tryz.prog Ut:=by
 refine Qq (c:=Ut) (by kernel_rfl) (by kernel_rfl : Tryz.prog.funcs[22]? = some Tryz.f22) (code:=Tryz.f22.body.getD .skip) (by kernel_rfl) (by kernel_rfl) (by kernel_rfl) (A:=QgT) (I:=Qfp) hcs ?_
 rintro ⟨a0,a1,u⟩ y hy
 exact h a0 a1 y hy
theorem QoJ : ∀ x ∈ E5,Qo Tryz.prog x:=(Ql Quh (Ql Qss Qt))
theorem Qqc : Qo Tryz.prog Ut:=Qqb QoJ fun a0 a1 y hy=>by
 obtain ⟨rfl,hw,rfl⟩:=Qbm hy
 have hw2 : wfD (.list Qu) a0.1 ∧ wfD (.list Qe) a0.2:=hw
 refine ⟨0,?_⟩
 rw [QmW]
 simp [VU hw2.1,VU hw2.2]
def Xv (a0 : Qa) (a1 : Ef) : Option Bool :=
 Option.bind (szC Qi a0 1048576) fun (y1 : Int) =>
 bif decide (y1 < 0) then
  some true
 else
  Option.bind (szC G7 a1 y1) fun (y2 : Int) =>
  bif decide (y2 < 0) then
   some true
  else
   Option.bind (toC Qi a0) fun (y3 : Qa) =>
   Option.bind (toC G7 a1) fun (y4 : Ef) =>
   Option.bind (Xa y3 y4) fun (y5 : Bool) =>
   Option.bind (toC Qi a0) fun (y6 : Qa) =>
   Option.bind (toC G7 a1) fun (y7 : Ef) =>
   Option.bind (Xi y6 y7) fun (y8 : Bool) =>
   bif y8 != y5 then
    some false
   else
    Option.bind (toC Qi a0) fun (y9 : Qa) =>
    Option.bind (eqC Qi y6 y9) fun (y10 : Bool) =>
    bif !(y10) then
     some false
    else
     some true
def QcJ : List (List Nat × Ann):=[]
def Qcn : List (List Nat × Nat):=[]
def Qco : List Ctr:=[Uf,QfH,Um,QfJ,Qgi,QgF,Ut]
def QcK (n : Nat) (a0 : Qa) (a1 : Ef) : Option Bool:=run Tryz.prog QcJ Qcn (Qv Qco) Tryz.f4 (Tryz.f4.body.getD .skip) (Qy [.bool]) n (QE [Qi,G7] (a0,a1,()))
theorem QiU (n : Nat) (a0 : Qa) (a1 : Ef) : QcK n a0 a1 =
  Option.bind (szC Qi a0 1048576) fun (y1 : Int) =>
  bif decide (y1 < 0) then
   some true
  else
   Option.bind (szC G7 a1 y1) fun (y2 : Int) =>
   bif decide (y2 < 0) then
    some true
   else
    Option.bind (toC Qi a0) fun (y3 : Qa) =>
    Option.bind (toC G7 a1) fun (y4 : Ef) =>
    Option.bind (Xa y3 y4) fun (y5 : Bool) =>
    Option.bind (toC Qi a0) fun (y6 : Qa) =>
    Option.bind (toC G7 a1) fun (y7 : Ef) =>
    Option.bind (Xi y6 y7) fun (y8 : Bool) =>
    bif y8 != y5 then
     some false
    else
     Option.bind (toC Qi a0) fun (y9 : Qa) =>
     Option.bind (eqC Qi y6 y9) fun (y10 : Bool) =>
     bif !(y10) then
      some false
     else
      some true:=by kernel_rfl
theorem QmX (a0 : Qa) (a1 : Ef) {r : Bool} (h : Xv a0 a1 = some r) : Ev (fun n=>QcK n a0 a1) r:=by
 rw [Xv] at h
 refine Ev.of_eq ?_ (fun n=>QiU n a0 a1)
 exact (Ev.ofBind h fun y1 h=>(Ev.ofBif h (fun h=>(Ev.ofSome h)) (fun h=>(Ev.ofBind h fun y2 h=>(Ev.ofBif h (fun h=>(Ev.ofSome h)) (fun h=>(Ev.ofBind h fun y3 h=>(Ev.ofBind h fun y4 h=>(Ev.ofBind h fun y5 h=>(Ev.ofBind h fun y6 h=>(Ev.ofBind h fun y7 h=>(Ev.ofBind h fun y8 h=>(Ev.ofBif h (fun h=>(Ev.ofSome h)) (fun h=>(Ev.ofBind h fun y9 h=>(Ev.ofBind h fun y10 h=>(Ev.ofBif h (fun h=>(Ev.ofSome h)) (fun h=>(Ev.ofSome h)))))))))))))))))))
end
end Go.Ab
