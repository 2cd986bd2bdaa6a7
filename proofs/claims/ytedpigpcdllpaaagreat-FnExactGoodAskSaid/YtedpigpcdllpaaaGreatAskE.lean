import Derived.Test.YtedpigpcdllpaaaGreatAskD
namespace Go.Ab
open Go.Proofs
noncomputable section
def QFV : List Int:=[110,105,108]
def Qlu (x : List Int) : Bool:=YK x && !decide (x = QFV)
def Uu (a b : Qf) : Bool:=Jg a.1 b.1
def GH (a b : Qc) : Bool:=Jg a.1 b.1
def QdH (a b : Qb) : Bool:=Jg a.1 b.1
def EE (a b : QC) : Bool:=Jg a.1 b.1
def Qdq (s : Qa) (t : Qb) (p : Qc) : Bool:=Qlu p.1 && E6 s t p.2 && !(V3 t p.1).2
theorem QAB {s : Qa} (hs : SchLen s) {t : Qb} (ht : GS t) (hr : ∀ r ∈ t.2.1,r.2.length ≤ 2000000) {b : List Qp} (hb : b.length ≤ maxLen) :
  ∃ (T : Q5) (ok : Bool),Y5 b = some (T,ok) ∧ ∀ X : Option Bool,(bif !ok then some false else Option.bind (VA s t T) fun y=>bif !y then some false else X) = bif E6 s t b then X else some false:=by
 rw [Y5,QqM hb,Option.bind_some,E6]
 by_cases h1 : b.length < 1
 ·rw [decide_eq_true (show (b.length : Int) < 1 by omega),decide_eq_false (show ¬ 1 ≤ b.length by omega)]
  exact ⟨_,_,rfl,fun X=>rfl⟩
 ·rw [decide_eq_false (show ¬ (b.length : Int) < 1 by omega),decide_eq_true (show 1 ≤ b.length by omega)]
  by_cases h2 : 30 < b.length
  ·rw [decide_eq_true (show (30 : Int) < (b.length : Int) by omega),decide_eq_false (show ¬ b.length ≤ 30 by omega)]
   exact ⟨_,_,rfl,fun X=>rfl⟩
  ·rw [decide_eq_false (show ¬ (30 : Int) < (b.length : Int) by omega),decide_eq_true (show b.length ≤ 30 by omega)]
   refine ⟨_,_,rfl,fun X=>?_⟩
   rw [eta]
   cases hp : JJ b 10 0 with
   | none =>
    rw [show decide ((QAz none).2 = (b.length : Int)) = false from decide_eq_false (by show ¬ (-1 : Int) = _; omega)]
    rfl
   | some p =>
    rw [show decide ((QAz (some p)).2 = (b.length : Int)) = decide (p.2 = b.length) from decide_eq_decide.2 (by show (p.2 : Int) = _ ↔ _; omega),show (QAz (some p)).1 = p.1 from rfl]
    simp only
    by_cases h3 : p.2 = b.length
    ·rw [decide_eq_true h3,QDM hs ht hr hp,h3,QGp]
     cases b.all (Hh s t) <;> rfl
    ·rw [decide_eq_false h3]; rfl
theorem Quz {s : Qa} (hs : SchLen s) {t : Qb} (ht : GS t) (hr : ∀ r ∈ t.2.1,r.2.length ≤ 2000000) (hw : ∀ p ∈ t.2.2,wfD Qh p) : ∀ (l : List Qc) (k : Nat),l = t.2.2.drop k → ZD s t l k = some (l.all (Qdq s t) && QU GH (Z7 t.2.2 k) l)
 | [],k,_=>by rw [ZD,J3]; rfl
 | e :: l,k,h=>by
  obtain ⟨h1,h2,h3,h4,h5⟩:=XG (d:=Ty.dflt Qh) ht.2 h
  have he:=hw e h4
  obtain ⟨T,ok,t1,t2⟩:=QAB hs ht hr (b:=e.2) he.2.1
  rw [ZD,t1,Option.bind_some,XJ (QAy he.1),Option.bind_some,Wz ht.1,Option.bind_some,Quz hs ht hr hw l (k + 1) h1,h2,GX,List.all_cons]
  simp only [eta]
  rw [t2 (bif (V3 t e.1).2 then some false else some (l.all (Qdq s t) && QU GH (some e) l)),Qdq,Qlu]
  rw [show decide (e.1 = QFV) = decide (e.1 = ([110,105,108] : List Int)) from rfl]
  generalize QU GH (some e) l = z
  rcases h5 with rfl | ⟨h5,h6,h7,h8⟩
  ·rw [Jh,Gf,W9]
   cases YK e.1 <;> cases decide (e.1 = ([110,105,108] : List Int)) <;> cases E6 s t e.2 <;> cases (V3 t e.1).2 <;> cases l.all (Qdq s t) <;> cases z <;> rfl
  ·rw [h6,h7,Gg,decide_eq_true (show (0 : Int) < (k : Int) by omega),Vn (hw _ h8).1 he.1,Option.bind_some,Qjd,GH]
   generalize (rd t.2.2 (IntKind.wrap .i64 ((k : Int) - 1)) (Ty.dflt Qh)).1 = q
   cases Jg q e.1 <;> cases YK e.1 <;> cases decide (e.1 = ([110,105,108] : List Int)) <;> cases E6 s t e.2 <;> cases (V3 t e.1).2 <;> cases l.all (Qdq s t) <;> cases z <;> rfl
def QoQ (s : Qa) (r : Qf) : Bool:=Qlu r.1 && QoN s r
theorem QwN {s : Qa} (hs : SchLen s) {t : Qb} (ht : GS t) (hr : ∀ r ∈ t.2.1,r.2.length ≤ 2000000) (hwp : ∀ p ∈ t.2.2,wfD Qh p) (hw : ∀ r ∈ t.2.1,wfD Qj r) :
  ∀ (l : List Qf) (k : Nat),l = t.2.1.drop k → ZH s t l k = some ((l.all (QoQ s) && QU Uu (Z7 t.2.1 k) l) && (t.2.2.all (Qdq s t) && ZQ GH t.2.2))
 | [],k,_=>by rw [ZH,J3,QL ht.2,Quz hs ht hr hwp t.2.2 0 rfl]; rfl
 | e :: l,k,h=>by
  obtain ⟨h1,h2,h3,h4,h5⟩:=XG (d:=Ty.dflt Qj) ht.1 h
  have he:=hw e h4
  have hel:=hr e h4
  have hel2 : e.2.length ≤ maxLen:=he.2.1
  have hsub:=QwM hs e hel2 he.2.2 ((l.all (QoQ s) && QU Uu (some e) l) && (t.2.2.all (Qdq s t) && ZQ GH t.2.2)) e.2 0 rfl
  rw [ZH,XJ (QAy he.1),Option.bind_some,QwN hs ht hr hwp hw l (k + 1) h1,h2,hsub,QL hel2,GX,List.all_cons,QoQ,Qlu,QoN]
  have e1 : decide ((e.2.length : Int) < 1) = !decide (1 ≤ e.2.length):=by grind
  have e2 : decide ((8 : Int) < (e.2.length : Int)) = !decide (e.2.length ≤ 8):=by grind
  rw [e1,e2,show decide (e.1 = QFV) = decide (e.1 = ([110,105,108] : List Int)) from rfl,Jh,show QU HP none e.2 = ZQ HP e.2 from rfl]
  generalize (t.2.2.all (Qdq s t) && ZQ GH t.2.2) = pp
  generalize QU Uu (some e) l = z
  generalize (e.2.all (QqL s) && ZQ HP e.2) = ss
  rcases h5 with rfl | ⟨h5,h6,h7,h8⟩
  ·rw [Jh,Gf,W9]
   cases YK e.1 <;> cases decide (e.1 = ([110,105,108] : List Int)) <;> cases decide (1 ≤ e.2.length) <;> cases decide (e.2.length ≤ 8) <;> cases ss <;> cases l.all (QoQ s) <;> cases z <;> cases pp <;> rfl
  ·rw [h6,h7,Gg,decide_eq_true (show (0 : Int) < (k : Int) by omega),Vn (hw _ h8).1 he.1,Option.bind_some,Qjd,Uu]
   generalize (rd t.2.1 (IntKind.wrap .i64 ((k : Int) - 1)) (Ty.dflt Qj)).1 = q
   cases Jg q e.1 <;> cases YK e.1 <;> cases decide (e.1 = ([110,105,108] : List Int)) <;> cases decide (1 ≤ e.2.length) <;> cases decide (e.2.length ≤ 8) <;> cases ss <;> cases l.all (QoQ s) <;> cases z <;> cases pp <;> rfl
def Qie (s : Qa) (t : Qb) : Bool:=YK t.1 && decide (t.2.1.length ≤ 12) && decide (t.2.2.length ≤ 12) && ((t.2.1.all (QoQ s) && ZQ Uu t.2.1) && (t.2.2.all (Qdq s t) && ZQ GH t.2.2))
theorem QuA {s : Qa} (hs : SchLen s) {t : Qb} (hr : ∀ r ∈ t.2.1,r.2.length ≤ 2000000) (hw : wfD Qe t) : VC s t = some (Qie s t):=by
 have ht : GS t:=⟨hw.2.1.1,hw.2.2.1⟩
 rw [VC,XJ (QAy hw.1),Option.bind_some,QL ht.1,QwN hs ht hr hw.2.2.2 hw.2.1.2 t.2.1 0 rfl,Qie,Jh,show QU Uu none t.2.1 = ZQ Uu t.2.1 from rfl]
 have e1 : decide ((12 : Int) < (t.2.1.length : Int)) = !decide (t.2.1.length ≤ 12):=by grind
 have e2 : decide ((12 : Int) < (t.2.2.length : Int)) = !decide (t.2.2.length ≤ 12):=by grind
 rw [e1,e2]
 cases YK t.1 <;> cases decide (t.2.1.length ≤ 12) <;> cases decide (t.2.2.length ≤ 12) <;> rfl
theorem QuB {s : Qa} (hs : SchBd s) : ∀ (l : List Qb) (k : Nat),l = s.2.drop k → Zi s l k = bif l.all (Qie s) && QU QdH (Z7 s.2 k) l then (Option.bind (VP s) fun y=>some y.2) else some false
 | [],k,_=>by rw [Zi,J3]; rfl
 | e :: l,k,h=>by
  obtain ⟨h1,h2,h3,h4,h5⟩:=XG (d:=Ty.dflt Qe) hs.t h
  have hwt : ∀ t ∈ s.2,wfD Qe t:=hs.wf.2.2
  rw [Zi,QuA hs.toSchLen (hs.rel e h4) (hwt e h4),Option.bind_some,QuB hs l (k + 1) h1,h2,GX,List.all_cons]
  generalize QU QdH (some e) l = z
  rcases h5 with rfl | ⟨h5,h6,h7,h8⟩
  ·rw [Jh,Gf,W9]
   cases Qie s e <;> cases l.all (Qie s) <;> cases z <;> rfl
  ·rw [h6,h7,Gg,decide_eq_true (show (0 : Int) < (k : Int) by omega),Vn (hwt _ h8).1 (hwt e h4).1,Option.bind_some,Qjd,QdH]
   generalize (rd s.2 (IntKind.wrap .i64 ((k : Int) - 1)) (Ty.dflt Qe)).1 = q
   cases Jg q e.1 <;> cases Qie s e <;> cases l.all (Qie s) <;> cases z <;> rfl
theorem QwO {s : Qa} (hs : SchBd s) : ∀ (l : List QC) (k : Nat),l = s.1.drop k → Zq s l k = bif l.all Qeq && QU EE (Z7 s.1 k) l then (bif s.2.all (Qie s) && ZQ QdH s.2 then (Option.bind (VP s) fun y=>some y.2) else some false) else some false
 | [],k,_=>by rw [Zq,J3,QL hs.t,QuB hs s.2 0 rfl]; rfl
 | e :: l,k,h=>by
  obtain ⟨h1,h2,h3,h4,h5⟩:=XG (d:=Ty.dflt Qu) hs.c h
  have hwt : ∀ t ∈ s.1,wfD Qu t:=hs.wf.1.2
  rw [Zq,Quv (hwt e h4),Option.bind_some,QwO hs l (k + 1) h1,h2,GX,List.all_cons]
  generalize QU EE (some e) l = z
  rcases h5 with rfl | ⟨h5,h6,h7,h8⟩
  ·rw [Jh,Gf,W9]
   cases Qeq e <;> cases l.all Qeq <;> cases z <;> rfl
  ·rw [h6,h7,Gg,decide_eq_true (show (0 : Int) < (k : Int) by omega),Vn (hwt _ h8).1 (hwt e h4).1,Option.bind_some,Qjd,EE]
   generalize (rd s.1 (IntKind.wrap .i64 ((k : Int) - 1)) (Ty.dflt Qu)).1 = q
   cases Jg q e.1 <;> cases Qeq e <;> cases l.all Qeq <;> cases z <;> rfl
def QzE (s : Qa) : Bool:=decide (s.1.length ≤ 8) && decide (s.2.length ≤ 12) && (s.1.all Qeq && ZQ EE s.1) && (s.2.all (Qie s) && ZQ QdH s.2)
theorem QoR {s : Qa} (hs : SchBd s) : JO s = bif QzE s then (Option.bind (VP s) fun y=>some y.2) else some false:=by
 rw [JO,QL hs.c,QwO hs s.1 0 rfl,QzE,Jh,show QU EE none s.1 = ZQ EE s.1 from rfl]
 have e1 : decide ((8 : Int) < (s.1.length : Int)) = !decide (s.1.length ≤ 8):=by grind
 have e2 : decide ((12 : Int) < (s.2.length : Int)) = !decide (s.2.length ≤ 12):=by grind
 rw [e1,e2]
 cases decide (s.1.length ≤ 8) <;> cases decide (s.2.length ≤ 12) <;> cases (s.1.all Qeq && ZQ EE s.1) <;> rfl
def QoS (t : Qb) (p : Qc) : Bool:=Qlu p.1 && !(V3 t p.1).2
theorem QuC {t : Qb} (ht : GS t) (hw : ∀ p ∈ t.2.2,wfD Qh p) (K : Option Bool) : ∀ (l : List Qc) (k : Nat),l = t.2.2.drop k → Zj K t l k = bif l.all (QoS t) && QU GH (Z7 t.2.2 k) l then K else some false
 | [],k,_=>by rw [Zj,J3]; rfl
 | e :: l,k,h=>by
  obtain ⟨h1,h2,h3,h4,h5⟩:=XG (d:=Ty.dflt Qh) ht.2 h
  have he:=hw e h4
  rw [Zj,G4 ht.1,Option.bind_some,XK (QAy he.1),Option.bind_some,QuC ht hw K l (k + 1) h1,h2,GX,List.all_cons,QoS,Qlu,show decide (e.1 = QFV) = decide (e.1 = ([110,105,108] : List Int)) from rfl]
  generalize QU GH (some e) l = z
  rcases h5 with rfl | ⟨h5,h6,h7,h8⟩
  ·rw [Jh,Gf,W9]
   cases YK e.1 <;> cases decide (e.1 = ([110,105,108] : List Int)) <;> cases (V3 t e.1).2 <;> cases l.all (QoS t) <;> cases z <;> rfl
  ·rw [h6,h7,Gg,decide_eq_true (show (0 : Int) < (k : Int) by omega),GH]
   generalize (rd t.2.2 (IntKind.wrap .i64 ((k : Int) - 1)) (Ty.dflt Qh)).1 = q
   cases Jg q e.1 <;> cases YK e.1 <;> cases decide (e.1 = ([110,105,108] : List Int)) <;> cases (V3 t e.1).2 <;> cases l.all (QoS t) <;> cases z <;> rfl
def QCW (r : Qf) : Bool:=Qlu r.1
theorem QwP {t : Qb} (ht : GS t) (hwp : ∀ p ∈ t.2.2,wfD Qh p) (hw : ∀ r ∈ t.2.1,wfD Qj r) (K : Option Bool) : ∀ (l : List Qf) (k : Nat),l = t.2.1.drop k →
  Q8 K t l k = bif (l.all QCW && QU Uu (Z7 t.2.1 k) l) && (t.2.2.all (QoS t) && ZQ GH t.2.2) then K else some false
 | [],k,_=>by rw [Q8,J3,QL ht.2,QuC ht hwp K t.2.2 0 rfl]; rfl
 | e :: l,k,h=>by
  obtain ⟨h1,h2,h3,h4,h5⟩:=XG (d:=Ty.dflt Qj) ht.1 h
  have he:=hw e h4
  rw [Q8,XK (QAy he.1),Option.bind_some,QwP ht hwp hw K l (k + 1) h1,h2,GX,List.all_cons,QCW,Qlu,show decide (e.1 = QFV) = decide (e.1 = ([110,105,108] : List Int)) from rfl]
  generalize QU Uu (some e) l = z
  generalize (t.2.2.all (QoS t) && ZQ GH t.2.2) = pp
  rcases h5 with rfl | ⟨h5,h6,h7,h8⟩
  ·rw [Jh,Gf,W9]
   cases YK e.1 <;> cases decide (e.1 = ([110,105,108] : List Int)) <;> cases l.all QCW <;> cases z <;> cases pp <;> rfl
  ·rw [h6,h7,Gg,decide_eq_true (show (0 : Int) < (k : Int) by omega),Uu]
   generalize (rd t.2.1 (IntKind.wrap .i64 ((k : Int) - 1)) (Ty.dflt Qj)).1 = q
   cases Jg q e.1 <;> cases YK e.1 <;> cases decide (e.1 = ([110,105,108] : List Int)) <;> cases l.all QCW <;> cases z <;> cases pp <;> rfl
theorem QqP {s : Qa} (hs : SchBd s) {t : Qb} (ht : t ∈ s.2) (K : Option Bool) : ∀ l : List Qc,(∀ p ∈ l,wfD Qh p) → ZJ K s t l = bif l.all (fun p=>E6 s t p.2) then K else some false
 | [],_=>rfl
 | e :: l,h=>by
  have hwt : ∀ t ∈ s.2,wfD Qe t:=hs.wf.2.2
  rw [ZJ,QxP hs.toSchLen (hs.typ t ht) (hs.rel t ht) (hwt t ht).2.1.2 (h e List.mem_cons_self).2.1,Option.bind_some,QqP hs ht K l fun p hp=>h p (List.mem_cons_of_mem _ hp),List.all_cons]
  cases E6 s t e.2 <;> rfl
theorem QuD {s : Qa} (hs : SchBd s) {t : Qb} (ht : t ∈ s.2) (K : Option Bool) : ∀ l : List Qf,(∀ r ∈ l,r.2.length ≤ maxLen) → Zy K s t l = bif l.all (QoN s) && t.2.2.all (fun p=>E6 s t p.2) then K else some false
 | [],_=>by
  have hwt : ∀ t ∈ s.2,wfD Qe t:=hs.wf.2.2
  rw [Zy,QL (hs.typ t ht).2,QqP hs ht K _ (hwt t ht).2.2.2]; rfl
 | e :: l,h=>by
  rw [Zy,QzC hs.toSchLen (h e List.mem_cons_self),Option.bind_some,QuD hs ht K l fun p hp=>h p (List.mem_cons_of_mem _ hp),List.all_cons]
  cases QoN s e <;> rfl
def QCX (s : Qa) (t : Qb) : Bool:=t.2.1.all (QoN s) && t.2.2.all (fun p=>E6 s t p.2)
theorem QqQ {s : Qa} (hs : SchBd s) : ∀ l : List Qb,(∀ t ∈ l,t ∈ s.2) → ZK s l = bif l.all (QCX s) then (Option.bind (ZT s) fun y=>some y.2) else some false
 | [],_=>rfl
 | e :: l,h=>by
  have ht:=h e List.mem_cons_self
  have hwt : ∀ t ∈ s.2,wfD Qe t:=hs.wf.2.2
  rw [ZK,QL (hs.typ e ht).1,QuD hs ht _ _ fun r hr=>((hwt e ht).2.1.2 r hr).2.1,QqQ hs l fun t ht=>h t (List.mem_cons_of_mem _ ht),List.all_cons,QCX]
  cases (e.2.1.all (QoN s) && e.2.2.all (fun p=>E6 s e p.2)) <;> rfl
def QB9 (t : Qb) : Bool:=YK t.1 && decide (t.2.1.length ≤ 12) && decide (t.2.2.length ≤ 12) && ((t.2.1.all QCW && ZQ Uu t.2.1) && (t.2.2.all (QoS t) && ZQ GH t.2.2))
theorem QqR {s : Qa} (hs : SchBd s) : ∀ (l : List Qb) (k : Nat),l = s.2.drop k → Zk s l k = bif l.all QB9 && QU QdH (Z7 s.2 k) l then (bif s.2.all (QCX s) then (Option.bind (ZT s) fun y=>some y.2) else some false) else some false
 | [],k,_=>by rw [Zk,J3,QL hs.t,QqQ hs _ fun _ h=>h]; rfl
 | e :: l,k,h=>by
  obtain ⟨h1,h2,h3,h4,h5⟩:=XG (d:=Ty.dflt Qe) hs.t h
  have hwt : ∀ t ∈ s.2,wfD Qe t:=hs.wf.2.2
  have ht:=hs.typ e h4
  rw [Zk,XK (QAy (hwt e h4).1),Option.bind_some,QqR hs l (k + 1) h1,h2,QL ht.1,QwP ht (hwt e h4).2.2.2 (hwt e h4).2.1.2 _ e.2.1 0 rfl,GX,List.all_cons,QB9,Jh,show QU Uu none e.2.1 = ZQ Uu e.2.1 from rfl]
  have e1 : decide ((12 : Int) < (e.2.1.length : Int)) = !decide (e.2.1.length ≤ 12):=by grind
  have e2 : decide ((12 : Int) < (e.2.2.length : Int)) = !decide (e.2.2.length ≤ 12):=by grind
  rw [e1,e2]
  generalize QU QdH (some e) l = z
  generalize ((e.2.1.all QCW && ZQ Uu e.2.1) && (e.2.2.all (QoS e) && ZQ GH e.2.2)) = pp
  rcases h5 with rfl | ⟨h5,h6,h7,h8⟩
  ·rw [Jh,Gf,W9]
   cases YK e.1 <;> cases decide (e.2.1.length ≤ 12) <;> cases decide (e.2.2.length ≤ 12) <;> cases l.all QB9 <;> cases z <;> cases pp <;> rfl
  ·rw [h6,h7,Gg,decide_eq_true (show (0 : Int) < (k : Int) by omega),QdH]
   generalize (rd s.2 (IntKind.wrap .i64 ((k : Int) - 1)) (Ty.dflt Qe)).1 = q
   cases Jg q e.1 <;> cases YK e.1 <;> cases decide (e.2.1.length ≤ 12) <;> cases decide (e.2.2.length ≤ 12) <;> cases l.all QB9 <;> cases z <;> cases pp <;> rfl
theorem QwQ {s : Qa} (hs : SchBd s) : ∀ (l : List QC) (k : Nat),l = s.1.drop k → Zr s l k = bif l.all Qeq && QU EE (Z7 s.1 k) l then (bif s.2.all QB9 && ZQ QdH s.2 then (bif s.2.all (QCX s) then (Option.bind (ZT s) fun y=>some y.2) else some false) else some false) else some false
 | [],k,_=>by rw [Zr,J3,QL hs.t,QqR hs s.2 0 rfl]; rfl
 | e :: l,k,h=>by
  obtain ⟨h1,h2,h3,h4,h5⟩:=XG (d:=Ty.dflt Qu) hs.c h
  have hwt : ∀ t ∈ s.1,wfD Qu t:=hs.wf.1.2
  rw [Zr,Quw (hwt e h4),Option.bind_some,QwQ hs l (k + 1) h1,h2,GX,List.all_cons]
  generalize QU EE (some e) l = z
  rcases h5 with rfl | ⟨h5,h6,h7,h8⟩
  ·rw [Jh,Gf,W9]
   cases Qeq e <;> cases l.all Qeq <;> cases z <;> rfl
  ·rw [h6,h7,Gg,decide_eq_true (show (0 : Int) < (k : Int) by omega),EE]
   generalize (rd s.1 (IntKind.wrap .i64 ((k : Int) - 1)) (Ty.dflt Qu)).1 = q
   cases Jg q e.1 <;> cases Qeq e <;> cases l.all Qeq <;> cases z <;> rfl
theorem QFW (s : Qa) (t : Qb) : Qie s t = (QB9 t && QCX s t):=by
 have h1 : t.2.1.all (QoQ s) = (t.2.1.all QCW && t.2.1.all (QoN s)):=by rw [Qx4]; rfl
 have h2 : t.2.2.all (Qdq s t) = (t.2.2.all (QoS t) && t.2.2.all (fun p=>E6 s t p.2)):=by
  rw [Qx4]
  congr 1
  funext p
  unfold Qdq QoS
  cases Qlu p.1 <;> cases E6 s t p.2 <;> cases (V3 t p.1).2 <;> rfl
 unfold Qie QB9 QCX
 rw [h1,h2]
 cases YK t.1 <;> cases decide (t.2.1.length ≤ 12) <;> cases decide (t.2.2.length ≤ 12) <;> cases t.2.1.all QCW <;> cases t.2.1.all (QoN s) <;> cases ZQ Uu t.2.1 <;> cases t.2.2.all (QoS t) <;> cases t.2.2.all (fun p=>E6 s t p.2) <;> cases ZQ GH t.2.2 <;> rfl
theorem QoT {s : Qa} (hs : SchBd s) : JS s = bif QzE s then (Option.bind (ZT s) fun y=>some y.2) else some false:=by
 rw [JS,QL hs.c,QwQ hs s.1 0 rfl,QzE,Jh,show QU EE none s.1 = ZQ EE s.1 from rfl]
 have e1 : decide ((8 : Int) < (s.1.length : Int)) = !decide (s.1.length ≤ 8):=by grind
 have e2 : decide ((12 : Int) < (s.2.length : Int)) = !decide (s.2.length ≤ 12):=by grind
 have e3 : s.2.all (Qie s) = (s.2.all QB9 && s.2.all (QCX s)):=by
  rw [Qx4]
  congr 1
  funext t
  exact QFW s t
 rw [e1,e2,e3]
 cases decide (s.1.length ≤ 8) <;> cases decide (s.2.length ≤ 12) <;> cases (s.1.all Qeq && ZQ EE s.1) <;> cases s.2.all QB9 <;> cases s.2.all (QCX s) <;> cases ZQ QdH s.2 <;> rfl
end
end Go.Ab
