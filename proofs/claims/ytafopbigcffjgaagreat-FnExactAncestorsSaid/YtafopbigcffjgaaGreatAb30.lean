import Derived.Test.YtafopbigcffjgaaGreatAb29
namespace Go.Ab
noncomputable section
theorem Qb6 {w : World} {o : Obj} : (w.alloc o).heap.size = w.heap.size + 1:=by unfold World.alloc; exact Array.size_push _
def TS.s1 : TS:=⟨fun t=>match t with
 | 1=>.kk 0
 | 2=>.elp 0
 | _=>.any,0,0⟩
def isBox (o : Oper) : Bool:=match o.guard,o.dst,o.op with
 | none,some d,.box _ (.tmp x)=>Nat.beq d 2 && Nat.beq x 0
 | _,_,_=>false
open Classical in
def Qcz (t : Ty) (x : t.den) (k : Int) : Option (Int × t.den):=if 0 ≤ k ∧ k + VC t x ≤ Q2 then some (YN t x k) else none
theorem Qq3 {P : Program} {gl : Nat → Option (List V)} {g : Nat} {t : Ty} (hlt : Nat.blt g QC = true) (ht : t.mok = true) (hp : (match t with | .pair _ _=>true | .list _=>true | _=>false) = true) (h : Qcw P g t) : CtrOkG P gl (QqZ g t fun x=>Qcz t x.1 x.2.1):=by
 intro xs y hy
 have hge : Yj ≤ g + Yj:=Nat.le_add_left _ _
 have hg : (QqZ g t fun x=>Qcz t x.1 x.2.1).g = g + Yj:=rfl
 rw [hg]
 refine ⟨fun h1=>(Nat.lt_irrefl _ (Nat.lt_of_lt_of_le h1 (Nat.le_trans XF.2.1 hge))).elim,fun _ h1=>(Nat.lt_irrefl _ (Nat.lt_of_lt_of_le h1 (Nat.le_trans XF.2.2 hge))).elim,fun _ h1=>(Nat.lt_irrefl _ (Nat.lt_of_lt_of_le h1 hge)).elim,fun _ _=>?_,fun h1=>(Nat.lt_irrefl _ (Nat.lt_of_lt_of_le (Qn2 (HK hlt)) h1)).elim⟩
 rw [Nat.add_sub_cancel]
 obtain ⟨x,k,⟨⟩⟩:=xs
 have hy : Qcz t x k = some y:=hy
 unfold Qcz at hy
 split at hy
 case isFalse=>cases hy
 rename_i hb
 cases hy
 intro x' k0 k' b ha hv
 have ha : [YW t x,.d (.int .i64) k] = [x',.d (.int .i64) k0]:=ha
 have hv : V.tup [.d (.int .i64) (YN t x k).1,YW t (YN t x k).2] = .tup [.d (.int .i64) k',b]:=hv
 simp only [List.cons.injEq,V.d.injEq,heq_eq_eq,true_and,and_true] at ha
 obtain ⟨rfl,rfl⟩:=ha
 simp only [V.tup.injEq,List.cons.injEq,V.d.injEq,heq_eq_eq,true_and,and_true] at hv
 obtain ⟨rfl,rfl⟩:=hv
 refine ⟨h.1,fun w u bs _ hD hnd hk=>?_⟩
 have hk' : inK .i64 (YN t x k).1 = true:=by
  rw [W1]
  exact Qd6 (by omega) hb.2
 have hpk : ∀ (y : t.den),Yu t (YW t y) = some y:=by
  intro y
  cases t with
  | pair a b=>exact W2 (.pair a b) y (WU ht)
  | list t=>exact W2 (.list t) y (WU (t:=.list t) ht)
  | _=>cases hp
 refine (h.2 w u bs x k (QbS (WU ht) (hpk x) hD) hnd hb.1 hb.2).mono fun e w'=>?_
 rintro ⟨rfl,q2,q3⟩
 refine ⟨rfl,hk',?_,q3⟩
 cases t with
 | pair a b =>
  obtain ⟨arr,rfl,q2⟩:=q2
  exact ⟨arr,rfl,V6 q2⟩
 | list t=>exact q2
 | _=>cases hp
theorem Qs5 {P : Program} {g : Nat} {f : ES [.int .i64] → Option (ER [.str])} (hlt : Nat.blt g QC = true) (h : Qh P ⟨g,[.int .i64],[.str],f⟩) (hf : ∀ k : Int,0 ≤ k → k ≤ Q2 → f (k,()) = some (QaP k)) : QjJ P g:=by
 have key:=fun (k : Int) (h0 : 0 ≤ k) (h1 : k ≤ Q2)=>(h (k,()) (QaP k) (hf k h0 h1)).1 (HK hlt)
 refine ⟨(key 0 (by decide) (by decide)).1,fun w k h0 h1=>?_⟩
 obtain ⟨_,_,a3⟩:=key k h0 h1
 refine (a3 Qs3 w [.int .i64 k] ?_ (fun _ _ h=>by cases h) rfl ?_).mono fun e w'=>?_
 ·exact fun _ _ h=>by cases h
 ·intro i c u hc hu
  cases i with
  | zero =>
   cases hc; cases hu
   exact .mkInt (Qd6 h0 h1)
  | succ i=>simp at hu
 ·rintro ⟨u,F',rfl,_,_,q3,q4⟩
  have q4 : RelV _ (.d .str (QaP k)) u:=q4
  obtain ⟨b,rfl,e,hsz⟩:=q4.str_inv
  exact ⟨b,rfl,e,hsz,q3⟩
theorem Qfc {P : Program} {t : Nat} (h : QjJ P t) : ∀ g,Qs2 (some t) g = true → QjJ P g:=fun g hg=>by
 obtain rfl:=Nat.eq_of_beq_eq_true hg
 exact h
theorem QhY {P : Program} : ∀ g t,Qd5 g t [] = true → Qcw P g t:=fun _ _ h=>by cases h
theorem QaQ {P : Program} {g0 : Nat} {t0 : Ty} {l : List (Nat × Ty)} (h : Qcw P g0 t0) (hl : ∀ g t,Qd5 g t l = true → Qcw P g t) : ∀ g t,Qd5 g t ((g0,t0) :: l) = true → Qcw P g t:=fun g t hg=>by
 simp only [Qd5,Bool.or_eq_true,Bool.and_eq_true] at hg
 rcases hg with ⟨h1,h2⟩ | hg
 ·rw [Nat.eq_of_beq_eq_true h1,Ty.beq_eq h2]; exact h
 ·exact hl g t hg
end
end Go.Ab
