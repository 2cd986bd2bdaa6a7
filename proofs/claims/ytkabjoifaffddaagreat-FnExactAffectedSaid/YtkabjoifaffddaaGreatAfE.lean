import Derived.Test.YtkabjoifaffddaaGreatAfD
namespace Go.Ab
open Go.Proofs
noncomputable section
def QAD:List Int:=[110,105,108]
def Qim (x:List Int):Bool:=Jj x&&!decide (x=QAD)
def UA (a b:Qv):Bool:=Zn a.1 b.1
def Xd (a b:Qq):Bool:=Zn a.1 b.1
def QcB (a b:Qf):Bool:=Zn a.1 b.1
def W6 (a b:Q0):Bool:=Zn a.1 b.1
def Qcm (s:Qa) (t:Qf) (p:Qq):Bool:=Qim p.1&&EB s t p.2&&!(YX t p.1).2
theorem Qua {s:Qa} (hs:SchLen s) {t:Qf} (ht:Xr t) (hr:∀ r∈t.2.1,r.2.length≤2000000) {b:List Qz} (hb:b.length≤maxLen) :
  ∃ (T:Zt) (ok:Bool),Vp b=some (T,ok)∧∀ X:Option Bool,(bif !ok then some false else Option.bind (VB s t T) fun y=>bif !y then some false else X)=bif EB s t b then X else some false:=by
 rw [Vp,Ql7 hb,Option.bind_some,EB]
 by_cases h1:b.length<1
 ·rw [decide_eq_true (show (b.length:Int)<1 by omega),decide_eq_false (show ¬ 1≤b.length by omega)]
  exact ⟨_,_,rfl,fun X=>rfl⟩
 ·rw [decide_eq_false (show ¬ (b.length:Int)<1 by omega),decide_eq_true (show 1≤b.length by omega)]
  by_cases h2:30<b.length
  ·rw [decide_eq_true (show (30:Int)<(b.length:Int) by omega),decide_eq_false (show ¬ b.length≤30 by omega)]
   exact ⟨_,_,rfl,fun X=>rfl⟩
  ·rw [decide_eq_false (show ¬ (30:Int)<(b.length:Int) by omega),decide_eq_true (show b.length≤30 by omega)]
   refine ⟨_,_,rfl,fun X=>?_⟩
   rw [eta]
   cases hp:Jv b 10 0 with
   | none =>
    rw [show decide ((Qt8 none).2=(b.length:Int))=false from decide_eq_false (by show ¬ (-1:Int)=_;omega)]
    rfl
   | some p =>
    rw [show decide ((Qt8 (some p)).2=(b.length:Int))=decide (p.2=b.length) from decide_eq_decide.2 (by show (p.2:Int)=_↔_;omega),show (Qt8 (some p)).1=p.1 from rfl]
    simp only
    by_cases h3:p.2=b.length
    ·rw [decide_eq_true h3,Qya hs ht hr hp,h3,QBd]
     cases b.all (HG s t)<;>rfl
    ·rw [decide_eq_false h3];rfl
theorem QoR {s:Qa} (hs:SchLen s) {t:Qf} (ht:Xr t) (hr:∀ r∈t.2.1,r.2.length≤2000000) (hw:∀ p∈t.2.2,wfD Qp p):∀ (l:List Qq) (k:Nat),l=t.2.2.drop k→JJ s t l k=some (l.all (Qcm s t)&&QM Xd (Zp t.2.2 k) l)
 | [],k,_=>by rw [JJ,ZD];rfl
 | e::l,k,h=>by
  obtain ⟨h1,h2,h3,h4,h5⟩:=VL (d:=Ty.dflt Qp) ht.2 h
  have he:=hw e h4
  obtain ⟨T,ok,t1,t2⟩:=Qua hs ht hr (b:=e.2) he.2.1
  rw [JJ,t1,Option.bind_some,G1 (Qt7 he.1),Option.bind_some,Hz ht.1,Option.bind_some,QoR hs ht hr hw l (k+1) h1,h2,Xy,List.all_cons]
  simp only [eta]
  rw [t2 (bif (YX t e.1).2 then some false else some (l.all (Qcm s t)&&QM Xd (some e) l)),Qcm,Qim]
  rw [show decide (e.1=QAD)=decide (e.1=([110,105,108]:List Int)) from rfl]
  generalize QM Xd (some e) l=z
  rcases h5 with rfl | ⟨h5,h6,h7,h8⟩
  ·rw [ZI,GD,WM]
   cases Jj e.1<;>cases decide (e.1=([110,105,108]:List Int))<;>cases EB s t e.2<;>cases (YX t e.1).2<;>cases l.all (Qcm s t)<;>cases z<;>rfl
  ·rw [h6,h7,GE,decide_eq_true (show (0:Int)<(k:Int) by omega),Js (hw _ h8).1 he.1,Option.bind_some,Qar,Xd]
   generalize (rd t.2.2 (IntKind.wrap .i64 ((k:Int) - 1)) (Ty.dflt Qp)).1=q
   cases Zn q e.1<;>cases Jj e.1<;>cases decide (e.1=([110,105,108]:List Int))<;>cases EB s t e.2<;>cases (YX t e.1).2<;>cases l.all (Qcm s t)<;>cases z<;>rfl
def QkJ (s:Qa) (r:Qv):Bool:=Qim r.1&&QkF s r
theorem QqV {s:Qa} (hs:SchLen s) {t:Qf} (ht:Xr t) (hr:∀ r∈t.2.1,r.2.length≤2000000) (hwp:∀ p∈t.2.2,wfD Qp p) (hw:∀ r∈t.2.1,wfD Qr r) :
  ∀ (l:List Qv) (k:Nat),l=t.2.1.drop k→JY s t l k=some ((l.all (QkJ s)&&QM UA (Zp t.2.1 k) l)&&(t.2.2.all (Qcm s t)&&Q9 Xd t.2.2))
 | [],k,_=>by rw [JY,ZD,Qw ht.2,QoR hs ht hr hwp t.2.2 0 rfl];rfl
 | e::l,k,h=>by
  obtain ⟨h1,h2,h3,h4,h5⟩:=VL (d:=Ty.dflt Qr) ht.1 h
  have he:=hw e h4
  have hel:=hr e h4
  have hel2:e.2.length≤maxLen:=he.2.1
  have hsub:=QqU hs e hel2 he.2.2 ((l.all (QkJ s)&&QM UA (some e) l)&&(t.2.2.all (Qcm s t)&&Q9 Xd t.2.2)) e.2 0 rfl
  rw [JY,G1 (Qt7 he.1),Option.bind_some,QqV hs ht hr hwp hw l (k+1) h1,h2,hsub,Qw hel2,Xy,List.all_cons,QkJ,Qim,QkF]
  have e1:decide ((e.2.length:Int)<1)=!decide (1≤e.2.length):=by grind
  have e2:decide ((8:Int)<(e.2.length:Int))=!decide (e.2.length≤8):=by grind
  rw [e1,e2,show decide (e.1=QAD)=decide (e.1=([110,105,108]:List Int)) from rfl,ZI,show QM H8 none e.2=Q9 H8 e.2 from rfl]
  generalize (t.2.2.all (Qcm s t)&&Q9 Xd t.2.2)=pp
  generalize QM UA (some e) l=z
  generalize (e.2.all (Ql6 s)&&Q9 H8 e.2)=ss
  rcases h5 with rfl | ⟨h5,h6,h7,h8⟩
  ·rw [ZI,GD,WM]
   cases Jj e.1<;>cases decide (e.1=([110,105,108]:List Int))<;>cases decide (1≤e.2.length)<;>cases decide (e.2.length≤8)<;>cases ss<;>cases l.all (QkJ s)<;>cases z<;>cases pp<;>rfl
  ·rw [h6,h7,GE,decide_eq_true (show (0:Int)<(k:Int) by omega),Js (hw _ h8).1 he.1,Option.bind_some,Qar,UA]
   generalize (rd t.2.1 (IntKind.wrap .i64 ((k:Int) - 1)) (Ty.dflt Qr)).1=q
   cases Zn q e.1<;>cases Jj e.1<;>cases decide (e.1=([110,105,108]:List Int))<;>cases decide (1≤e.2.length)<;>cases decide (e.2.length≤8)<;>cases ss<;>cases l.all (QkJ s)<;>cases z<;>cases pp<;>rfl
def Qgd (s:Qa) (t:Qf):Bool:=Jj t.1&&decide (t.2.1.length≤12)&&decide (t.2.2.length≤12)&&((t.2.1.all (QkJ s)&&Q9 UA t.2.1)&&(t.2.2.all (Qcm s t)&&Q9 Xd t.2.2))
theorem QoS {s:Qa} (hs:SchLen s) {t:Qf} (hr:∀ r∈t.2.1,r.2.length≤2000000) (hw:wfD Qj t):Hn s t=some (Qgd s t):=by
 have ht:Xr t:=⟨hw.2.1.1,hw.2.2.1⟩
 rw [Hn,G1 (Qt7 hw.1),Option.bind_some,Qw ht.1,QqV hs ht hr hw.2.2.2 hw.2.1.2 t.2.1 0 rfl,Qgd,ZI,show QM UA none t.2.1=Q9 UA t.2.1 from rfl]
 have e1:decide ((12:Int)<(t.2.1.length:Int))=!decide (t.2.1.length≤12):=by grind
 have e2:decide ((12:Int)<(t.2.2.length:Int))=!decide (t.2.2.length≤12):=by grind
 rw [e1,e2]
 cases Jj t.1<;>cases decide (t.2.1.length≤12)<;>cases decide (t.2.2.length≤12)<;>rfl
theorem QoT {s:Qa} (hs:SchBd s):∀ (l:List Qf) (k:Nat),l=s.2.drop k→ZX s l k=bif l.all (Qgd s)&&QM QcB (Zp s.2 k) l then (Option.bind (Q8 s) fun y=>some y.2) else some false
 | [],k,_=>by rw [ZX,ZD];rfl
 | e::l,k,h=>by
  obtain ⟨h1,h2,h3,h4,h5⟩:=VL (d:=Ty.dflt Qj) hs.t h
  have hwt:∀ t∈s.2,wfD Qj t:=hs.wf.2.2
  rw [ZX,QoS hs.toSchLen (hs.rel e h4) (hwt e h4),Option.bind_some,QoT hs l (k+1) h1,h2,Xy,List.all_cons]
  generalize QM QcB (some e) l=z
  rcases h5 with rfl | ⟨h5,h6,h7,h8⟩
  ·rw [ZI,GD,WM]
   cases Qgd s e<;>cases l.all (Qgd s)<;>cases z<;>rfl
  ·rw [h6,h7,GE,decide_eq_true (show (0:Int)<(k:Int) by omega),Js (hwt _ h8).1 (hwt e h4).1,Option.bind_some,Qar,QcB]
   generalize (rd s.2 (IntKind.wrap .i64 ((k:Int) - 1)) (Ty.dflt Qj)).1=q
   cases Zn q e.1<;>cases Qgd s e<;>cases l.all (Qgd s)<;>cases z<;>rfl
theorem QqW {s:Qa} (hs:SchBd s):∀ (l:List Q0) (k:Nat),l=s.1.drop k→Ja s l k=bif l.all Qc4&&QM W6 (Zp s.1 k) l then (bif s.2.all (Qgd s)&&Q9 QcB s.2 then (Option.bind (Q8 s) fun y=>some y.2) else some false) else some false
 | [],k,_=>by rw [Ja,ZD,Qw hs.t,QoT hs s.2 0 rfl];rfl
 | e::l,k,h=>by
  obtain ⟨h1,h2,h3,h4,h5⟩:=VL (d:=Ty.dflt QB) hs.c h
  have hwt:∀ t∈s.1,wfD QB t:=hs.wf.1.2
  rw [Ja,QoN (hwt e h4),Option.bind_some,QqW hs l (k+1) h1,h2,Xy,List.all_cons]
  generalize QM W6 (some e) l=z
  rcases h5 with rfl | ⟨h5,h6,h7,h8⟩
  ·rw [ZI,GD,WM]
   cases Qc4 e<;>cases l.all Qc4<;>cases z<;>rfl
  ·rw [h6,h7,GE,decide_eq_true (show (0:Int)<(k:Int) by omega),Js (hwt _ h8).1 (hwt e h4).1,Option.bind_some,Qar,W6]
   generalize (rd s.1 (IntKind.wrap .i64 ((k:Int) - 1)) (Ty.dflt QB)).1=q
   cases Zn q e.1<;>cases Qc4 e<;>cases l.all Qc4<;>cases z<;>rfl
def Qma (s:Qa):Bool:=decide (s.1.length≤8)&&decide (s.2.length≤12)&&(s.1.all Qc4&&Q9 W6 s.1)&&(s.2.all (Qgd s)&&Q9 QcB s.2)
theorem WN {s:Qa} (hs:SchBd s):QU s=bif Qma s then (Option.bind (Q8 s) fun y=>some y.2) else some false:=by
 rw [QU,Qw hs.c,QqW hs s.1 0 rfl,Qma,ZI,show QM W6 none s.1=Q9 W6 s.1 from rfl]
 have e1:decide ((8:Int)<(s.1.length:Int))=!decide (s.1.length≤8):=by grind
 have e2:decide ((12:Int)<(s.2.length:Int))=!decide (s.2.length≤12):=by grind
 rw [e1,e2]
 cases decide (s.1.length≤8)<;>cases decide (s.2.length≤12)<;>cases (s.1.all Qc4&&Q9 W6 s.1)<;>rfl
def QkK (t:Qf) (p:Qq):Bool:=Qim p.1&&!(YX t p.1).2
theorem QoU {t:Qf} (ht:Xr t) (hw:∀ p∈t.2.2,wfD Qp p) (K:Option Bool):∀ (l:List Qq) (k:Nat),l=t.2.2.drop k→ZY K t l k=bif l.all (QkK t)&&QM Xd (Zp t.2.2 k) l then K else some false
 | [],k,_=>by rw [ZY,ZD];rfl
 | e::l,k,h=>by
  obtain ⟨h1,h2,h3,h4,h5⟩:=VL (d:=Ty.dflt Qp) ht.2 h
  have he:=hw e h4
  rw [ZY,Gi ht.1,Option.bind_some,G2 (Qt7 he.1),Option.bind_some,QoU ht hw K l (k+1) h1,h2,Xy,List.all_cons,QkK,Qim,show decide (e.1=QAD)=decide (e.1=([110,105,108]:List Int)) from rfl]
  generalize QM Xd (some e) l=z
  rcases h5 with rfl | ⟨h5,h6,h7,h8⟩
  ·rw [ZI,GD,WM]
   cases Jj e.1<;>cases decide (e.1=([110,105,108]:List Int))<;>cases (YX t e.1).2<;>cases l.all (QkK t)<;>cases z<;>rfl
  ·rw [h6,h7,GE,decide_eq_true (show (0:Int)<(k:Int) by omega),Xd]
   generalize (rd t.2.2 (IntKind.wrap .i64 ((k:Int) - 1)) (Ty.dflt Qp)).1=q
   cases Zn q e.1<;>cases Jj e.1<;>cases decide (e.1=([110,105,108]:List Int))<;>cases (YX t e.1).2<;>cases l.all (QkK t)<;>cases z<;>rfl
def Qw5 (r:Qv):Bool:=Qim r.1
theorem QqX {t:Qf} (ht:Xr t) (hwp:∀ p∈t.2.2,wfD Qp p) (hw:∀ r∈t.2.1,wfD Qr r) (K:Option Bool):∀ (l:List Qv) (k:Nat),l=t.2.1.drop k →
  ZA K t l k=bif (l.all Qw5&&QM UA (Zp t.2.1 k) l)&&(t.2.2.all (QkK t)&&Q9 Xd t.2.2) then K else some false
 | [],k,_=>by rw [ZA,ZD,Qw ht.2,QoU ht hwp K t.2.2 0 rfl];rfl
 | e::l,k,h=>by
  obtain ⟨h1,h2,h3,h4,h5⟩:=VL (d:=Ty.dflt Qr) ht.1 h
  have he:=hw e h4
  rw [ZA,G2 (Qt7 he.1),Option.bind_some,QqX ht hwp hw K l (k+1) h1,h2,Xy,List.all_cons,Qw5,Qim,show decide (e.1=QAD)=decide (e.1=([110,105,108]:List Int)) from rfl]
  generalize QM UA (some e) l=z
  generalize (t.2.2.all (QkK t)&&Q9 Xd t.2.2)=pp
  rcases h5 with rfl | ⟨h5,h6,h7,h8⟩
  ·rw [ZI,GD,WM]
   cases Jj e.1<;>cases decide (e.1=([110,105,108]:List Int))<;>cases l.all Qw5<;>cases z<;>cases pp<;>rfl
  ·rw [h6,h7,GE,decide_eq_true (show (0:Int)<(k:Int) by omega),UA]
   generalize (rd t.2.1 (IntKind.wrap .i64 ((k:Int) - 1)) (Ty.dflt Qr)).1=q
   cases Zn q e.1<;>cases Jj e.1<;>cases decide (e.1=([110,105,108]:List Int))<;>cases l.all Qw5<;>cases z<;>cases pp<;>rfl
theorem Qmb {s:Qa} (hs:SchBd s) {t:Qf} (ht:t∈s.2) (K:Option Bool):∀ l:List Qq,(∀ p∈l,wfD Qp p)→Yp K s t l=bif l.all (fun p=>EB s t p.2) then K else some false
 | [],_=>rfl
 | e::l,h=>by
  have hwt:∀ t∈s.2,wfD Qj t:=hs.wf.2.2
  rw [Yp,QrF hs.toSchLen (hs.typ t ht) (hs.rel t ht) (hwt t ht).2.1.2 (h e List.mem_cons_self).2.1,Option.bind_some,Qmb hs ht K l fun p hp=>h p (List.mem_cons_of_mem _ hp),List.all_cons]
  cases EB s t e.2<;>rfl
theorem QoV {s:Qa} (hs:SchBd s) {t:Qf} (ht:t∈s.2) (K:Option Bool):∀ l:List Qv,(∀ r∈l,r.2.length≤maxLen)→JF K s t l=bif l.all (QkF s)&&t.2.2.all (fun p=>EB s t p.2) then K else some false
 | [],_=>by
  have hwt:∀ t∈s.2,wfD Qj t:=hs.wf.2.2
  rw [JF,Qw (hs.typ t ht).2,Qmb hs ht K _ (hwt t ht).2.2.2];rfl
 | e::l,h=>by
  rw [JF,Qth hs.toSchLen (h e List.mem_cons_self),Option.bind_some,QoV hs ht K l fun p hp=>h p (List.mem_cons_of_mem _ hp),List.all_cons]
  cases QkF s e<;>rfl
def Qw6 (s:Qa) (t:Qf):Bool:=t.2.1.all (QkF s)&&t.2.2.all (fun p=>EB s t p.2)
theorem Qmc {s:Qa} (hs:SchBd s):∀ l:List Qf,(∀ t∈l,t∈s.2)→Yq s l=bif l.all (Qw6 s) then (Option.bind (QT s) fun y=>some y.2) else some false
 | [],_=>rfl
 | e::l,h=>by
  have ht:=h e List.mem_cons_self
  have hwt:∀ t∈s.2,wfD Qj t:=hs.wf.2.2
  rw [Yq,Qw (hs.typ e ht).1,QoV hs ht _ _ fun r hr=>((hwt e ht).2.1.2 r hr).2.1,Qmc hs l fun t ht=>h t (List.mem_cons_of_mem _ ht),List.all_cons,Qw6]
  cases (e.2.1.all (QkF s)&&e.2.2.all (fun p=>EB s e p.2))<;>rfl
def Qv1 (t:Qf):Bool:=Jj t.1&&decide (t.2.1.length≤12)&&decide (t.2.2.length≤12)&&((t.2.1.all Qw5&&Q9 UA t.2.1)&&(t.2.2.all (QkK t)&&Q9 Xd t.2.2))
theorem Qmd {s:Qa} (hs:SchBd s):∀ (l:List Qf) (k:Nat),l=s.2.drop k→ZZ s l k=bif l.all Qv1&&QM QcB (Zp s.2 k) l then (bif s.2.all (Qw6 s) then (Option.bind (QT s) fun y=>some y.2) else some false) else some false
 | [],k,_=>by rw [ZZ,ZD,Qw hs.t,Qmc hs _ fun _ h=>h];rfl
 | e::l,k,h=>by
  obtain ⟨h1,h2,h3,h4,h5⟩:=VL (d:=Ty.dflt Qj) hs.t h
  have hwt:∀ t∈s.2,wfD Qj t:=hs.wf.2.2
  have ht:=hs.typ e h4
  rw [ZZ,G2 (Qt7 (hwt e h4).1),Option.bind_some,Qmd hs l (k+1) h1,h2,Qw ht.1,QqX ht (hwt e h4).2.2.2 (hwt e h4).2.1.2 _ e.2.1 0 rfl,Xy,List.all_cons,Qv1,ZI,show QM UA none e.2.1=Q9 UA e.2.1 from rfl]
  have e1:decide ((12:Int)<(e.2.1.length:Int))=!decide (e.2.1.length≤12):=by grind
  have e2:decide ((12:Int)<(e.2.2.length:Int))=!decide (e.2.2.length≤12):=by grind
  rw [e1,e2]
  generalize QM QcB (some e) l=z
  generalize ((e.2.1.all Qw5&&Q9 UA e.2.1)&&(e.2.2.all (QkK e)&&Q9 Xd e.2.2))=pp
  rcases h5 with rfl | ⟨h5,h6,h7,h8⟩
  ·rw [ZI,GD,WM]
   cases Jj e.1<;>cases decide (e.2.1.length≤12)<;>cases decide (e.2.2.length≤12)<;>cases l.all Qv1<;>cases z<;>cases pp<;>rfl
  ·rw [h6,h7,GE,decide_eq_true (show (0:Int)<(k:Int) by omega),QcB]
   generalize (rd s.2 (IntKind.wrap .i64 ((k:Int) - 1)) (Ty.dflt Qj)).1=q
   cases Zn q e.1<;>cases Jj e.1<;>cases decide (e.2.1.length≤12)<;>cases decide (e.2.2.length≤12)<;>cases l.all Qv1<;>cases z<;>cases pp<;>rfl
theorem QqY {s:Qa} (hs:SchBd s):∀ (l:List Q0) (k:Nat),l=s.1.drop k→Jb s l k=bif l.all Qc4&&QM W6 (Zp s.1 k) l then (bif s.2.all Qv1&&Q9 QcB s.2 then (bif s.2.all (Qw6 s) then (Option.bind (QT s) fun y=>some y.2) else some false) else some false) else some false
 | [],k,_=>by rw [Jb,ZD,Qw hs.t,Qmd hs s.2 0 rfl];rfl
 | e::l,k,h=>by
  obtain ⟨h1,h2,h3,h4,h5⟩:=VL (d:=Ty.dflt QB) hs.c h
  have hwt:∀ t∈s.1,wfD QB t:=hs.wf.1.2
  rw [Jb,QoO (hwt e h4),Option.bind_some,QqY hs l (k+1) h1,h2,Xy,List.all_cons]
  generalize QM W6 (some e) l=z
  rcases h5 with rfl | ⟨h5,h6,h7,h8⟩
  ·rw [ZI,GD,WM]
   cases Qc4 e<;>cases l.all Qc4<;>cases z<;>rfl
  ·rw [h6,h7,GE,decide_eq_true (show (0:Int)<(k:Int) by omega),W6]
   generalize (rd s.1 (IntKind.wrap .i64 ((k:Int) - 1)) (Ty.dflt QB)).1=q
   cases Zn q e.1<;>cases Qc4 e<;>cases l.all Qc4<;>cases z<;>rfl
theorem QAE (s:Qa) (t:Qf):Qgd s t=(Qv1 t&&Qw6 s t):=by
 have h1:t.2.1.all (QkJ s)=(t.2.1.all Qw5&&t.2.1.all (QkF s)):=by rw [QrV];rfl
 have h2:t.2.2.all (Qcm s t)=(t.2.2.all (QkK t)&&t.2.2.all (fun p=>EB s t p.2)):=by
  rw [QrV]
  congr 1
  funext p
  unfold Qcm QkK
  cases Qim p.1<;>cases EB s t p.2<;>cases (YX t p.1).2<;>rfl
 unfold Qgd Qv1 Qw6
 rw [h1,h2]
 cases Jj t.1<;>cases decide (t.2.1.length≤12)<;>cases decide (t.2.2.length≤12)<;>cases t.2.1.all Qw5<;>cases t.2.1.all (QkF s)<;>cases Q9 UA t.2.1<;>cases t.2.2.all (QkK t)<;>cases t.2.2.all (fun p=>EB s t p.2)<;>cases Q9 Xd t.2.2<;>rfl
theorem QkL {s:Qa} (hs:SchBd s):Z8 s=bif Qma s then (Option.bind (QT s) fun y=>some y.2) else some false:=by
 rw [Z8,Qw hs.c,QqY hs s.1 0 rfl,Qma,ZI,show QM W6 none s.1=Q9 W6 s.1 from rfl]
 have e1:decide ((8:Int)<(s.1.length:Int))=!decide (s.1.length≤8):=by grind
 have e2:decide ((12:Int)<(s.2.length:Int))=!decide (s.2.length≤12):=by grind
 have e3:s.2.all (Qgd s)=(s.2.all Qv1&&s.2.all (Qw6 s)):=by
  rw [QrV]
  congr 1
  funext t
  exact QAE s t
 rw [e1,e2,e3]
 cases decide (s.1.length≤8)<;>cases decide (s.2.length≤12)<;>cases (s.1.all Qc4&&Q9 W6 s.1)<;>cases s.2.all Qv1<;>cases s.2.all (Qw6 s)<;>cases Q9 QcB s.2<;>rfl
end
end Go.Ab
