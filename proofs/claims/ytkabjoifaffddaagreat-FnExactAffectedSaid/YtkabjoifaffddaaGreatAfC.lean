import Derived.Test.YtkabjoifaffddaaGreatAfA
namespace Go.Ab
open Go.Proofs
noncomputable section
theorem QoN {c:Q0} (hw:wfD QB c):Hk c=some (Qc4 c):=by
 obtain ⟨h1,⟨h2,h3⟩,h4,h5⟩:=hw
 rw [Hk,G1 (Qt7 h1),Option.bind_some,Qw h2,Ql4 c h3 h2 h4 h5 c.2.1 0 rfl,Qc4,Q9,ZI]
 simp only [Qn0,QvQ,WV,QaK]
 grind (splits:=30)
theorem QoO {c:Q0} (hw:wfD QB c):Ht c=some (Qc4 c):=by
 obtain ⟨h1,⟨h2,h3⟩,h4,h5⟩:=hw
 rw [Ht,G2 (Qt7 h1),Option.bind_some,Qw h2,Ql5 c h3 h2 h4 h5 c.2.1 0 rfl,Qc4,Q9,ZI]
 simp only [Qn0,QvQ,WV,QaK]
 grind (splits:=30)
def Qgb (a b:Qx):Int:=if Ga a.1 b.1≠0 then Ga a.1 b.1 else if Ga a.2.1 b.2.1≠0 then Ga a.2.1 b.2.1 else if a.2.2.1≠b.2.2.1 then (if b.2.2.1 then -1 else 1) else Ga a.2.2.2 b.2.2.2
def H8 (a b:Qx):Bool:=decide (Qgb a b<0)
theorem QlM {a b:Qx} (ha:wfD Qg a) (hb:wfD Qg b):Yy a b=some (Qgb a b):=by
 obtain ⟨a1,a2,_,a4⟩:=ha
 obtain ⟨b1,b2,_,b4⟩:=hb
 rw [Yy,Js a1 b1,Option.bind_some,Js a2 b2,Option.bind_some,Js a4 b4,Option.bind_some,Qgb]
 cases h1:decide (Ga a.1 b.1=0)<;>cases h2:decide (Ga a.2.1 b.2.1=0)<;>cases a.2.2.1<;>cases b.2.2.1<;>simp at h1 h2<;>simp [h1,h2]
theorem Qfm (a b:Qx):Y6 a b=some (Qgb a b):=by
 have ci:∀ x y:Int,YE x y=HB x y:=fun x y=>by unfold YE YZ HB;simp
 have cs:∀ x y:List Int,ZK x y=Ga x y:=fun x y=>by unfold ZK JL Ga;simp
 rw [Y6,Qa5,Qw (by simp [maxLen])]
 simp only [H2,ci,cs,Qgb,Hv,HB]
 cases h1:decide (Ga a.1 b.1=0)<;>cases h2:decide (Ga a.2.1 b.2.1=0)<;>cases h3:decide (Ga a.2.2.2 b.2.2.2=0)<;>cases a.2.2.1<;>cases b.2.2.1<;>simp at h1 h2 h3<;>simp [h1,h2,h3]
def Ql6 (s:Qa) (e:Qx):Bool:=(Vf s e.1).2&&(decide (e.2.1=([]:List Int))||(!e.2.2.1&&Xx s e.1 e.2.1))&&(decide (e.2.2.2=([]:List Int))||(Qdt s e.2.2.2).2)
def Qqd {α:Type} (lt:α→α→Bool) (p:Option α) (x:α):Bool:=match p with
 | none=>true
 | some q=>lt q x
theorem Xy {α:Type} (lt:α→α→Bool) (p:Option α) (x:α) (r:List α):QM lt p (x::r)=(Qqd lt p x&&QM lt (some x) r):=by
 cases p with
 | none=>simp [QM,Qqd]
 | some q=>rfl
theorem GD {α:Type} (lt:α→α→Bool) (x:α):Qqd lt none x=true:=rfl
theorem GE {α:Type} (lt:α→α→Bool) (q x:α):Qqd lt (some q) x=lt q x:=rfl
theorem WM:decide ((0:Int)<((0:Nat):Int))=false:=rfl
theorem Qx8 (x:Int):decide (0≤x)=!decide (x<0):=by grind
structure SchLen (s:Qa):Prop where
 c:s.1.length≤maxLen
 t:s.2.length≤maxLen
 typ:∀ t∈s.2,Xr t
theorem Qhw {s:Qa} (hs:SchLen s) (r:Qv) (e:Qx) (x2 kb:Bool) (k:Nat) (h5:k=0∨(0<k∧inB (IntKind.wrap .i64 ((k:Int) - 1)) r.2.length=true∧Zp r.2 k=some (rd r.2 (IntKind.wrap .i64 ((k:Int) - 1)) (Ty.dflt Qg))∧rd r.2 (IntKind.wrap .i64 ((k:Int) - 1)) (Ty.dflt Qg)∈r.2)) :
  ∀ l:List Q0,Q7 (some kb) (k:Int) x2 e.2.2.2 s r e l=some (Qqd H8 (Zp r.2 k) e&&x2&&(decide (e.2.1=([]:List Int))||(!e.2.2.1&&Xx s e.1 e.2.1))&&(decide (e.2.2.2=([]:List Int))||(Jt (·.1) (([],[],[]):Q0) l e.2.2.2).2)&&kb)
 | []=>by
  rw [Q7,Qfm,Qc3 hs.t hs.typ,Jt]
  rcases h5 with rfl | ⟨h5,h6,h7,h8⟩
  ·rw [ZI,GD,WM]
   cases x2<;>cases decide (e.2.1=([]:List Int))<;>cases e.2.2.1<;>cases Xx s e.1 e.2.1<;>cases decide (e.2.2.2=([]:List Int))<;>cases kb<;>simp
  ·rw [h6,h7,GE,decide_eq_true (show (0:Int)<(k:Int) by omega)]
   simp only [cond_true,Option.bind_some,Qx8,H8]
   cases decide (Qgb (rd r.2 (IntKind.wrap .i64 ((k:Int) - 1)) (Ty.dflt Qg)) e<0)<;>cases x2<;>cases decide (e.2.1=([]:List Int))<;>cases e.2.2.1<;>cases Xx s e.1 e.2.1<;>cases decide (e.2.2.2=([]:List Int))<;>cases kb<;>simp
 | c::l=>by
  have ih:=Qhw hs r e x2 kb k h5 l
  rw [Q7,ih,Qfm,Qc3 hs.t hs.typ,Jt]
  by_cases hc:c.1=e.2.2.2
  ·rw [decide_eq_true hc,if_pos hc]
   rcases h5 with rfl | ⟨h5,h6,h7,h8⟩
   ·rw [ZI,GD,WM]
    cases x2<;>cases decide (e.2.1=([]:List Int))<;>cases e.2.2.1<;>cases Xx s e.1 e.2.1<;>cases decide (e.2.2.2=([]:List Int))<;>cases kb<;>simp
   ·rw [h6,h7,GE,decide_eq_true (show (0:Int)<(k:Int) by omega)]
    simp only [cond_true,Option.bind_some,Qx8,H8]
    cases decide (Qgb (rd r.2 (IntKind.wrap .i64 ((k:Int) - 1)) (Ty.dflt Qg)) e<0)<;>cases x2<;>cases decide (e.2.1=([]:List Int))<;>cases e.2.2.1<;>cases Xx s e.1 e.2.1<;>cases decide (e.2.2.2=([]:List Int))<;>cases kb<;>simp
  ·rw [decide_eq_false hc,if_neg hc];rfl
theorem Qhx {s:Qa} (hs:SchLen s) (r:Qv) (hr:r.2.length≤maxLen):∀ (l:List Qx) (k:Nat),l=r.2.drop k→Zl s r l k=some (l.all (Ql6 s)&&QM H8 (Zp r.2 k) l)
 | [],k,_=>by rw [Zl,ZD];rfl
 | e::l,k,h=>by
  obtain ⟨h1,h2,h3,h4,h5⟩:=VL (d:=Ty.dflt Qg) hr h
  rw [Zl,Qd7 hs.t,Option.bind_some,Qhx hs r hr l (k+1) h1,Qw hs.c,Qhw hs r e _ _ k h5,h2,Xy,List.all_cons,Ql6]
  generalize Qqd H8 (Zp r.2 k) e=ah
  generalize QM H8 (some e) l=z
  show some (ah&&(Vf s e.1).2&&_&&(decide (e.2.2.2=([]:List Int))||(Qdt s e.2.2.2).2)&&_)=_
  cases ah<;>cases (Vf s e.1).2<;>cases decide (e.2.1=([]:List Int))||(!e.2.2.1&&Xx s e.1 e.2.1)<;>cases decide (e.2.2.2=([]:List Int))||(Qdt s e.2.2.2).2<;>cases l.all (Ql6 s)<;>cases z<;>rfl
def QkF (s:Qa) (r:Qv):Bool:=decide (1≤r.2.length)&&decide (r.2.length≤8)&&(r.2.all (Ql6 s)&&Q9 H8 r.2)
theorem Qth {s:Qa} (hs:SchLen s) {r:Qv} (hr:r.2.length≤maxLen):Jn s r=some (QkF s r):=by
 rw [Jn,Qw hr,Qhx hs r hr r.2 0 rfl,QkF,Q9,ZI]
 simp only [Qn0,QvQ,WV,QaK]
 grind (splits:=30)
theorem QvX {s:Qa} (hs:SchLen s) (e:Qx) (kb:Bool):JI (some kb) s e=some ((decide (e.2.2.2=([]:List Int))||(Qdt s e.2.2.2).2)&&kb):=by
 rw [JI,QiQ hs.c,Option.bind_some]
 cases (Qdt s e.2.2.2).2<;>cases decide (e.2.2.2=([]:List Int))<;>simp
theorem QqU {s:Qa} (hs:SchLen s) (r:Qv) (hr:r.2.length≤maxLen) (hw:∀ e∈r.2,wfD Qg e) (kb:Bool):∀ (l:List Qx) (k:Nat),l=r.2.drop k→Zw (some kb) s r l k=some ((l.all (Ql6 s)&&QM H8 (Zp r.2 k) l)&&kb)
 | [],k,_=>by rw [Zw,ZD];rfl
 | e::l,k,h=>by
  obtain ⟨h1,h2,h3,h4,h5⟩:=VL (d:=Ty.dflt Qg) hr h
  have ih:=QqU hs r hr hw kb l (k+1) h1
  rw [Zw,Qgt hs.t,Option.bind_some,ih,Qfl hs.t hs.typ,QvX hs,h2,Xy,List.all_cons,Ql6]
  generalize QM H8 (some e) l=z
  rcases h5 with rfl | ⟨h5,h6,h7,h8⟩
  ·rw [ZI,GD,WM]
   cases (Vf s e.1).2<;>cases decide (e.2.1=([]:List Int))<;>cases e.2.2.1<;>cases Xx s e.1 e.2.1<;>cases (decide (e.2.2.2=([]:List Int))||(Qdt s e.2.2.2).2)<;>cases l.all (Ql6 s)<;>cases z<;>rfl
  ·rw [h6,h7,GE,decide_eq_true (show (0:Int)<(k:Int) by omega),QlM (hw _ h8) (hw e h4)]
   simp only [cond_true,Option.bind_some,Qx8,H8]
   cases decide (Qgb (rd r.2 (IntKind.wrap .i64 ((k:Int) - 1)) (Ty.dflt Qg)) e<0)<;>cases (Vf s e.1).2<;>cases decide (e.2.1=([]:List Int))<;>cases e.2.2.1<;>cases Xx s e.1 e.2.1<;>cases (decide (e.2.2.2=([]:List Int))||(Qdt s e.2.2.2).2)<;>cases l.all (Ql6 s)<;>cases z<;>rfl
end
end Go.Ab
namespace Go.Ab
open Go.Proofs
noncomputable section
theorem QkG {α:Type} {l:List α} {i:Nat} {x d:α} (h:l[i]? = some x):rd l (i:Int) d=x:=by
 unfold rd
 rw [Int.toNat_natCast,List.getD_eq_getElem?_getD,h];rfl
def Qhy (w:Qz):Bool:=decide (w.1=3)||decide (w.1=4)||decide (w.1=5)
def Jv (b:List Qz):Nat→Nat→Option (Zt × Nat)
 | 0,_=>none
 | d+1,a=>match b[a]? with
  | none=>none
  | some w=>if Qhy w then (match Jv b d (a+1) with
   | none=>none
   | some p=>match Jv b d p.2 with
    | none=>none
    | some q=>some (.node w [p.1,q.1],q.2)) else some (.node w [],a+1)
theorem EK {b:List Qz}:∀ {d a:Nat} {p:Zt × Nat},Jv b d a=some p→a<p.2∧p.2≤b.length
 | 0,_,_,h=>by cases h
 | d+1,a,p,h=>by
  rw [Jv] at h
  split at h
  ·cases h
  ·rename_i w hw
   have ha:=(List.getElem?_eq_some_iff.1 hw).1
   split at h
   ·split at h
    ·cases h
    ·rename_i p1 h1
     split at h
     ·cases h
     ·rename_i q h2
      cases h
      have:=EK h1
      have:=EK h2
      exact ⟨by simp only;omega,by simp only;omega⟩
   ·cases h;exact ⟨Nat.lt_succ_self _,ha⟩
def QyI:Zt:=.node (0,[],[]) []
def Qt8:Option (Zt × Nat)→Zt × Int | none=>(QyI,-1) | some p=>(p.1,p.2)
def Qw1:Option (Zt × Nat)→Int | none=>-1 | some p=>p.2
theorem eta (t:Zt):Tree.node t.val t.kids=t:=by cases t;rfl
theorem Qw2 {Rc:List Qz→Int→Int→Option (Zt × Int)} {b:List Qz} {d:Nat} {x3:Int} (hR:∀ a:Nat,a≤b.length→Rc b (a:Int) (IntKind.wrap .i64 (x3+1))=some (Qt8 (Jv b d a))) (w:Qz) (m a:Nat) (hm:3≤m) (ha:a≤b.length) :
  Ju Rc b x3 m (a:Int) 0 [] (.node w [])=some (match Jv b d a with
   | none=>(QyI,-1)
   | some p=>match Jv b d p.2 with
    | none=>(QyI,-1)
    | some q=>(.node w [p.1,q.1],q.2)):=by
 obtain ⟨m,rfl⟩:∃ j,m=j+3:=⟨m - 3,by omega⟩
 have g1:(decide (((([]:List Zt).length:Int)+((1:Nat):Int))*64≤Q4)&&decide ((([]:List Zt).length:Int)+((1:Nat):Int)≤Q4))=true:=by rw [Xf];decide
 have g2:(decide (((1:Nat):Int)+((1:Nat):Int)≤Q4)&&decide ((((1:Nat):Int)+((1:Nat):Int))*64≤Q4))=true:=by rw [Xf];decide
 rw [Ju,hR a ha]
 cases hp:Jv b d a with
 | none=>rfl
 | some p =>
  have hlt:=EK hp
  simp only [Option.bind_some,Qt8,eta]
  rw [show decide ((0:Int)<2)=true from rfl,decide_eq_false (show ¬ (p.2:Int)<0 by omega)]
  simp only [cond_true,cond_false,List.length_singleton,List.nil_append]
  rw [g1]
  simp only [cond_true]
  rw [show IntKind.wrap .i64 ((0:Int)+1)=1 from by decide,Ju,hR p.2 hlt.2]
  cases hq:Jv b d p.2 with
  | none=>rfl
  | some q =>
   simp only [Option.bind_some,Qt8,eta]
   rw [show decide ((1:Int)<2)=true from rfl,decide_eq_false (show ¬ (q.2:Int)<0 by omega)]
   simp only [cond_true,cond_false,List.length_singleton,List.singleton_append]
   rw [show (decide ((((1:Nat):Int)+((1:Nat):Int))*64≤Q4)&&decide (((1:Nat):Int)+((1:Nat):Int)≤Q4))=true from by rw [Xf];decide]
   simp only [cond_true]
   rw [show IntKind.wrap .i64 ((1:Int)+1)=2 from by decide,Ju]
   rfl
theorem QiS {b:List Qz} (hb:b.length≤maxLen):∀ (r d a:Nat),d≤10→d<r→a≤b.length→Xu r b (a:Int) (11 - (d:Int))=some (Qt8 (Jv b d a))
 | 0,d,a,_,h,_=>by omega
 | r+1,d,a,h,hr,ha=>by
  show (QaF fun m=>Qgl (Xu r) m b (a:Int) (11 - (d:Int)))=_
  refine XD ⟨3,fun m hm=>?_⟩
  unfold Qgl
  have zz:(Tree.node (0,([]:List Int),([]:List Int)) []:Zt)=QyI:=rfl
  rw [zz]
  cases d with
  | zero =>
   rw [decide_eq_true (show (10:Int)<11 - ((0:Nat):Int) by omega)]
   cases decide ((b.length:Int)≤(a:Int))<;>rfl
  | succ d =>
   rw [decide_eq_false (show ¬ (10:Int)<11 - ((d+1:Nat):Int) by omega),Jv]
   cases hn:b[a]? with
   | none =>
    have:=List.getElem?_eq_none_iff.1 hn
    rw [decide_eq_true (show (b.length:Int)≤(a:Int) by omega)];rfl
   | some w =>
    have ha:a<b.length:=(List.getElem?_eq_some_iff.1 hn).1
    rw [decide_eq_false (show ¬ (b.length:Int)≤(a:Int) by omega)]
    simp only [cond_false]
    unfold QaR
    rw [YS ha,QkG hn,GH hb ha]
    simp only [cond_true,cond_false]
    have hd:IntKind.wrap .i64 (11 - ((d+1:Nat):Int)+1)=11 - (d:Int):=by rw [Qgk (by omega)];omega
    have hR:∀ a:Nat,a≤b.length→Xu r b (a:Int) (IntKind.wrap .i64 (11 - ((d+1:Nat):Int)+1))=some (Qt8 (Jv b d a)):=fun a ha=>by
     rw [hd];exact QiS hb r d a (by omega) (by omega) ha
    have hl:=Qw2 hR w m (a+1) (by omega) (by omega)
    rw [hl,Qhy]
    cases decide (w.1=3)<;>cases decide (w.1=4)<;>cases decide (w.1=5)<;>simp<;>first | rfl | (cases Jv b d (a+1) with
     | none=>rfl
     | some p =>
      simp only
      cases Jv b d p.2<;>rfl)
theorem Ql7 {b:List Qz} (hb:b.length≤maxLen):Qgm b 0 1=some (Qt8 (Jv b 10 0)) :=
 XD ⟨11,fun r hr=>QiS hb r 10 0 (by omega) (by omega) (Nat.zero_le _)⟩
theorem QkH {b:List Qz} (hb:b.length≤maxLen):∀ (r d a:Nat),d≤10→d<r→a≤b.length→Xm r b (a:Int) (11 - (d:Int))=some (Qw1 (Jv b d a))
 | 0,d,a,_,h,_=>by omega
 | r+1,d,a,h,hr,ha=>by
  show Qh3 (Xm r) b (a:Int) (11 - (d:Int))=_
  rw [Qh3]
  cases d with
  | zero =>
   rw [decide_eq_true (show (10:Int)<11 - ((0:Nat):Int) by omega)]
   cases decide ((b.length:Int)≤(a:Int))<;>rfl
  | succ d =>
   rw [decide_eq_false (show ¬ (10:Int)<11 - ((d+1:Nat):Int) by omega),Jv]
   cases hn:b[a]? with
   | none =>
    have:=List.getElem?_eq_none_iff.1 hn
    rw [decide_eq_true (show (b.length:Int)≤(a:Int) by omega)];rfl
   | some w =>
    have ha:a<b.length:=(List.getElem?_eq_some_iff.1 hn).1
    rw [decide_eq_false (show ¬ (b.length:Int)≤(a:Int) by omega),Qb4,YS ha,QkG hn,GH hb ha]
    simp only [cond_true,cond_false]
    have hd:IntKind.wrap .i64 (11 - ((d+1:Nat):Int)+1)=11 - (d:Int):=by rw [Qgk (by omega)];omega
    have hR:∀ a:Nat,a≤b.length→Xm r b (a:Int) (IntKind.wrap .i64 (11 - ((d+1:Nat):Int)+1))=some (Qw1 (Jv b d a)):=fun a ha=>by
     rw [hd];exact QkH hb r d a (by omega) (by omega) ha
    rw [hR (a+1) (by omega),Option.bind_some,Qhy]
    have key:(bif decide (Qw1 (Jv b d (a+1))<0) then some (-1) else Option.bind (Xm r b (Qw1 (Jv b d (a+1))) (IntKind.wrap .i64 (11 - ((d+1:Nat):Int)+1))) fun y2=>some y2)=some (Qw1 (match Jv b d (a+1) with
      | none=>none
      | some p=>match Jv b d p.2 with
       | none=>none
       | some q=>some (.node w [p.1,q.1],q.2))):=by
     cases hp:Jv b d (a+1) with
     | none=>rfl
     | some p =>
      have hlt:=EK hp
      rw [show Qw1 (some p)=(p.2:Int) from rfl,decide_eq_false (show ¬ (p.2:Int)<0 by omega),hR p.2 hlt.2]
      simp only
      cases Jv b d p.2<;>rfl
    rw [key]
    cases decide (w.1=3)<;>cases decide (w.1=4)<;>cases decide (w.1=5)<;>simp<;>rfl
theorem QvY {b:List Qz} (hb:b.length≤maxLen):Qd0 b 0 1=some (Qw1 (Jv b 10 0)) :=
 XD ⟨11,fun r hr=>QkH hb r 10 0 (by omega) (by omega) (Nat.zero_le _)⟩
end
end Go.Ab
