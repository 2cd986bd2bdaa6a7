import Derived.Test.YtafopbigcffjgaaGreatAb31
import Derived.Maps.RangeRun
namespace Go.Ab
def Ql5 (P : Program) (o : Oper) (d x : Nat) : Bool :=
 match o.guard,o.dst,o.op with
 | none,some d',.range t (.tmp x')=>Nat.beq d d' && Nat.beq x x' && (match P.underlying t with
  | some (.map _ _)=>true
  | _=>false)
 | _,_,_=>false
def Qqx (o : Oper) (d x : Nat) : Bool :=
 match o.guard,o.dst,o.op with
 | none,some d',.next (.tmp x') false=>Nat.beq d d' && Nat.beq x x'
 | _,_,_=>false
def QoV (o : Oper) (d x : Nat) : Bool :=
 match o.guard,o.dst,o.op with
 | none,some d',.entry (.tmp x')=>Nat.beq d d' && Nat.beq x x'
 | _,_,_=>false
def QoW (o : Oper) (d x : Nat) : Bool :=
 match o.guard,o.dst,o.op with
 | none,some d',.extract (.tmp x') 0=>Nat.beq d d' && Nat.beq x x'
 | _,_,_=>false
def Qqy (o : Oper) (d x ts : Nat) : Bool :=
 match o.guard,o.dst,o.op with
 | none,some d',.buildSlice t 1 ps=>match ps.toList with
  | [(0,.tmp x')]=>Nat.beq d d' && Nat.beq x x' && Nat.beq t ts
  | _=>false
 | _,_,_=>false
def Qsw (o : Oper) (d x y ts : Nat) : Bool :=
 match o.guard,o.dst,o.op with
 | none,some d',.call { callee:=.builtin .append,args,argTypes }=>match args.toList,argTypes.toList with
  | [.tmp x',.tmp y'],[t,t']=>Nat.beq d d' && Nat.beq x x' && Nat.beq y y' && Nat.beq t ts && Nat.beq t' ts
  | _,_=>false
 | _,_,_=>false
section
variable {P : Program} {ops : Array Oper} {Q : Exit → Act → World → Prop} {a : Act} {w : World} {rest : List Oper} {o : Oper} {d x y : Nat}
theorem Qd7 {u : Value} {w' : World} (hg : o.guard = none) (hd : o.dst = some d) (hrun : (execOp a.eval o).run P w = .ok (.value u) w') (h : wpList P ops Q rest (a.put (some d) u) w') : wpList P ops Q (o :: rest) a w:=by
 refine wpList_plain hg fun K hK=>?_
 unfold Oper.wp
 rw [hrun,Oper.upon_value,hd]
 exact hK _ _ h
theorem Qs6 {v u : Value} {w' : World} (h : Ql5 P o d x = true) (hx : Qo a x = v) (hrun : ∀ t k e,P.underlying t = some (.map k e) → (Instr.range t v).run P w = .ok u w') (hr : wpList P ops Q rest (a.put (some d) u) w') : wpList P ops Q (o :: rest) a w:=by
 unfold Ql5 at h
 split at h
 case h_2=>cases h
 rename_i d' t x' hg hd hop
 split at h
 case h_2=>simp at h
 rename_i k e ht
 simp only [Bool.and_eq_true] at h
 obtain rfl:=Nat.eq_of_beq_eq_true h.1.1
 obtain rfl:=Nat.eq_of_beq_eq_true h.1.2
 have hx : a.eval (.tmp x) = v:=hx
 refine Qd7 hg hd ?_ hr
 simp only [execOp,hop,hx,Sem.run_bind,hrun t k e ht]
 rfl
theorem Qsx {v u : Value} {w' : World} (h : Qqx o d x = true) (hx : Qo a x = v) (hrun : (Instr.next v false o.type).run P w = .ok u w') (hr : wpList P ops Q rest (a.put (some d) u) w') : wpList P ops Q (o :: rest) a w:=by
 unfold Qqx at h
 split at h
 case h_2=>cases h
 rename_i d' x' hg hd hop
 simp only [Bool.and_eq_true] at h
 obtain rfl:=Nat.eq_of_beq_eq_true h.1
 obtain rfl:=Nat.eq_of_beq_eq_true h.2
 have hx : a.eval (.tmp x) = v:=hx
 refine Qd7 hg hd ?_ hr
 simp only [execOp,hop,hx,Sem.run_bind,hrun]
 rfl
theorem Qs7 {v u : Value} (h : QoV o d x = true) (hx : Qo a x = v) (hrun : (Instr.entry v).run P w = .ok u w) (hr : wpList P ops Q rest (a.put (some d) u) w) : wpList P ops Q (o :: rest) a w:=by
 unfold QoV at h
 split at h
 case h_2=>cases h
 rename_i d' x' hg hd hop
 simp only [Bool.and_eq_true] at h
 obtain rfl:=Nat.eq_of_beq_eq_true h.1
 obtain rfl:=Nat.eq_of_beq_eq_true h.2
 have hx : a.eval (.tmp x) = v:=hx
 refine Qd7 hg hd ?_ hr
 simp only [execOp,hop,hx,Sem.run_bind,hrun]
 rfl
theorem Qqz {vs : Array Value} {u : Value} (h : QoW o d x = true) (hx : Qo a x = .tuple vs) (hu : vs[0]? = some u) (hr : wpList P ops Q rest (a.put (some d) u) w) : wpList P ops Q (o :: rest) a w:=by
 unfold QoW at h
 split at h
 case h_2=>cases h
 rename_i d' x' hg hd hop
 simp only [Bool.and_eq_true] at h
 obtain rfl:=Nat.eq_of_beq_eq_true h.1
 obtain rfl:=Nat.eq_of_beq_eq_true h.2
 have hx : a.eval (.tmp x) = .tuple vs:=hx
 refine Qd7 hg hd ?_ hr
 have : (Instr.extract (.tuple vs) 0).run P w = .ok u w:=by simp [Instr.extract,hu]
 simp only [execOp,hop,hx,Sem.run_bind,this]
 rfl
theorem QtO {ts : TypeId} {v1 v2 u : Value} {w' : World} (h : Qsw o d x y ts = true) (hx : Qo a x = v1) (hy : Qo a y = v2) (hrun : (Builtin.append_ #[ts,ts] o.type #[v1,v2]).run P w = .ok u w')
  (hr : wpList P ops Q rest (a.put (some d) u) w') : wpList P ops Q (o :: rest) a w:=by
 unfold Qsw at h
 split at h
 case h_2=>cases h
 rename_i d' args ats hg hd hop
 split at h
 case h_2=>cases h
 rename_i x' y' t t' ea et
 simp only [Bool.and_eq_true] at h
 obtain rfl:=Nat.eq_of_beq_eq_true h.1.1.1.1
 obtain rfl:=Nat.eq_of_beq_eq_true h.1.1.1.2
 obtain rfl:=Nat.eq_of_beq_eq_true h.1.1.2
 have e1:=Nat.eq_of_beq_eq_true h.1.2
 have e2:=Nat.eq_of_beq_eq_true h.2
 subst e1; subst e2
 have hx : a.eval (.tmp x) = v1:=hx
 have hy : a.eval (.tmp y) = v2:=hy
 have ea' : args = #[.tmp x,.tmp y]:=by rw [← Array.toArray_toList (xs:=args),ea]
 have et' : ats = #[t',t']:=by rw [← Array.toArray_toList (xs:=ats),et]
 refine Qd7 hg hd ?_ hr
 simp [execOp,hop,ea',et',resolve,invoke,builtin,hx,hy,hrun]
theorem Jh {a : Act} {n d : Nat} (h : a.tmps.size = n) (hd : d < n) (u : Value) : ∃ b,a.put (some d) u = b ∧ b.tmps.size = n ∧ b.defers = a.defers ∧ ∀ t,Qo b t = if t = d then u else Qo a t :=
 ⟨_,rfl,by rw [Vr]; exact h,rfl,G6 (by omega) _⟩
end
theorem Qn9 (p : MapEntry → Bool) (e : MapEntry) : ∀ (l : List MapEntry),(l.map (·.born)).Nodup → e ∈ l → p e = true → (l.filter p).Perm (e :: l.filter fun x=>p x && !(x.born == e.born))
 | [],_,h,_=>by cases h
 | x :: l,hn,hm,hp=>by
  simp only [List.map_cons,List.nodup_cons] at hn
  rcases List.mem_cons.1 hm with rfl | hm
  ·have : (l.filter fun x=>p x && !(x.born == e.born)) = l.filter p:=by
    apply List.filter_congr
    intro y hy
    have : ¬ (y.born = e.born):=fun h=>hn.1 (by rw [← h]; exact List.mem_map_of_mem hy)
    simp [this]
   simp [hp,this]
  ·have ih:=Qn9 p e l hn.2 hm hp
   have hne : ¬ (x.born = e.born):=fun h=>hn.1 (by rw [h]; exact List.mem_map_of_mem hm)
   simp only [List.filter_cons,hne,beq_iff_eq,Bool.not_false,Bool.and_true]
   cases hpx : p x with
   | true=>simp [hne,hpx]; exact (List.Perm.cons x ih).trans (List.Perm.swap e x _)
   | false=>simp [hpx]; exact ih
theorem QnD {P : Program} {gl : Nat → Option (List V)} {g : Nat} {tys : List Ty} {t : Ty} {f : ES tys → Option (List t.den)} (hlt : Nat.blt g QC = true) (h : CtrOkG P gl (QhS g tys t f)) : CtrOkG P gl ⟨g,tys,[.list t],f⟩:=by
 intro xs y hy
 have hg:=HK hlt
 have hm:=(QaG hg).1
 refine ⟨fun _=>?_,fun h1=>(Nat.lt_irrefl _ (Nat.lt_of_lt_of_le hg h1)).elim,fun h1=>(Nat.lt_irrefl _ (Nat.lt_of_lt_of_le hg (Nat.le_trans XF.1 h1))).elim,fun h1 _=>(Nat.lt_irrefl _ (Nat.lt_of_lt_of_le hg (Nat.le_trans XF.2.1 h1))).elim,fun h1=>(Nat.lt_irrefl _ (Nat.lt_of_lt_of_le hg (Nat.le_trans QhQ.1 h1))).elim⟩
 obtain ⟨he,hc⟩:=(h xs y hy).2.1 (Nat.le_add_left _ _) hm t y rfl
 rw [show (QhS g tys t f).g - QC = g from Nat.add_sub_cancel _ _] at he hc
 refine ⟨he,fun n=>rfl,fun M w vals hG hF hl hr=>(hc M w vals hG hF hl hr).mono fun e w'=>?_⟩
 rintro ⟨u,F',o,q1,q2,q3,q4,q5,_⟩
 exact ⟨u,F',q1,q2,q3,q4,.d _ _ _ q5⟩
end Go.Ab
