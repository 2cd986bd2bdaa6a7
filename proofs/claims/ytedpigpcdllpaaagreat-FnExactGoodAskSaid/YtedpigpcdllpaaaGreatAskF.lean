import Derived.Test.YtedpigpcdllpaaaGreatAskE
namespace Go.Ab
open Go.Proofs
noncomputable section
def QuE (arr : Qp → List (List Int)) (t : List Int) (w : Qp) (ag : Bool) : List Qx :=
 bif decide (w.1 = 1) then [((t,w.2.2),ag)] else bif decide (w.1 = 2) then ((t,w.2.1),ag) :: (arr w).map (fun x=>((x,w.2.2),ag)) else []
def Gr (arr : Qp → List (List Int)) (t : List Int) (b : List Qp) : Nat → Nat → Bool → List Qx
 | 0,_,_=>[]
 | d + 1,a,ag=>match b[a]? with
  | none=>[]
  | some w=>bif Qki w then (match JJ b d (a + 1) with
   | none=>[]
   | some p=>Gr arr t b d (a + 1) ag ++ Gr arr t b d p.2 (ag || decide (w.1 = 5))) else QuE arr t w ag
theorem QEV {arr : Qp → List (List Int)} {m : Nat} (h : ∀ w,(arr w).length ≤ m) (t : List Int) (w : Qp) (ag : Bool) : (QuE arr t w ag).length ≤ m + 1:=by
 unfold QuE
 cases decide (w.1 = 1) <;> cases decide (w.1 = 2) <;> simp
 exact h w
theorem Qwg {arr : Qp → List (List Int)} {m : Nat} (h : ∀ w,(arr w).length ≤ m) (t : List Int) (b : List Qp) : ∀ (d a : Nat) (ag : Bool) (q : Q5 × Nat),JJ b d a = some q → (Gr arr t b d a ag).length ≤ (q.2 - a) * (m + 1)
 | 0,_,_,_,h=>by cases h
 | d + 1,a,ag,q,hq=>by
  rw [JJ] at hq
  rw [Gr]
  cases hw : b[a]? with
  | none=>exact Nat.zero_le _
  | some w =>
   rw [hw] at hq
   simp only at hq ⊢
   cases ho : Qki w with
   | false =>
    rw [ho] at hq
    simp only [Bool.false_eq_true,if_false,Option.some.injEq] at hq
    subst hq
    simp only [cond_false]
    have:=QEV h t w ag
    rw [Nat.add_sub_cancel_left,Nat.one_mul]; exact this
   | true =>
    rw [ho] at hq
    simp only [if_true] at hq
    cases h1 : JJ b d (a + 1) with
    | none=>rw [h1] at hq; cases hq
    | some p =>
     rw [h1] at hq
     simp only at hq
     cases h2 : JJ b d p.2 with
     | none=>rw [h2] at hq; cases hq
     | some p2 =>
      rw [h2] at hq
      cases hq
      simp only [cond_true,List.length_append]
      have l1:=Qwg h t b d (a + 1) ag p h1
      have l2:=Qwg h t b d p.2 (ag || decide (w.1 = 5)) p2 h2
      have t1:=Qai h1
      have t2:=Qai h2
      have : (p.2 - (a + 1)) * (m + 1) + (p2.2 - p.2) * (m + 1) ≤ (p2.2 - a) * (m + 1):=by
       rw [← Nat.add_mul]; exact Nat.mul_le_mul_right _ (by omega)
      show _ ≤ (p2.2 - a) * (m + 1)
      omega
theorem QEW {arr arr' : Qp → List (List Int)} (h : ∀ w x,x ∈ arr w ↔ x ∈ arr' w) (t : List Int) (w : Qp) (ag : Bool) (l : Qx) : l ∈ QuE arr t w ag ↔ l ∈ QuE arr' t w ag:=by
 unfold QuE
 cases decide (w.1 = 1) with
 | true=>rfl
 | false =>
  cases decide (w.1 = 2) with
  | false=>rfl
  | true =>
   simp only [cond_false,cond_true,List.mem_cons,List.mem_map,h]
theorem Qwh {arr arr' : Qp → List (List Int)} (h : ∀ w x,x ∈ arr w ↔ x ∈ arr' w) (t : List Int) (b : List Qp) (l : Qx) : ∀ (d a : Nat) (ag : Bool),l ∈ Gr arr t b d a ag ↔ l ∈ Gr arr' t b d a ag
 | 0,_,_=>Iff.rfl
 | d + 1,a,ag=>by
  rw [Gr,Gr]
  cases b[a]? with
  | none=>rfl
  | some w =>
   simp only
   cases Qki w with
   | false=>exact QEW h t w ag l
   | true =>
    simp only [cond_true]
    cases JJ b d (a + 1) with
    | none=>rfl
    | some p =>
     simp only [List.mem_append,Qwh h t b l d]
def Qsx (s : Qa) (t : Qb) (w : Qp) : List (List Int):=(VV (Qe1 (V3 t w.2.1).1)).filter fun x=>GW s x w.2.2
theorem Qlv {s : Qa} (hs : SchLen s) (Rc : Int → Bool → Qc → Bool → (List Qx) → Qk → Qb → Qa → Option (Int × Qc × Bool × (List Qx) × Qk × Qb × Qa)) (x1 : Int) (ag : Bool) (p : Qc) (n : Qk) (t : Qb) (w : Qp) :
  ∀ (l : List (List Int)) (acc : List Qx),acc.length + (l.filter fun x=>GW s x w.2.2).length ≤ 3000000 → QQ Rc x1 ag p n t s w l acc = some (IntKind.wrap .i64 (x1 + 1),p,true,acc ++ (l.filter fun x=>GW s x w.2.2).map (fun x=>((x,w.2.2),ag)),n,t,s)
 | [],acc,_=>by rw [QQ]; simp
 | e :: l,acc,h=>by
  rw [QQ,W8 hs.t hs.typ,Option.bind_some]
  rw [List.filter_cons] at h ⊢
  cases hn : GW s e w.2.2 with
  | false =>
   rw [hn] at h
   simp only [cond_false,Bool.false_eq_true,if_false] at h ⊢
   exact Qlv hs Rc x1 ag p n t w l acc h
  | true =>
   rw [hn] at h
   simp only [if_true,List.length_cons] at h
   simp only [cond_true,if_true]
   rw [Qic (by omega) (by omega) (by omega),Qlv hs Rc x1 ag p n t w l _ (by simp; omega)]
   simp
theorem QzF {s : Qa} (hs : SchLen s) {t : Qb} (ht : GS t) (hr : ∀ r ∈ t.2.1,r.2.length ≤ 2000000) {p : Qc} (hb : p.2.length ≤ maxLen) (n : Qk) :
  ∀ (d r a : Nat) (ag : Bool) (acc : List Qx) (q : Q5 × Nat),JJ p.2 d a = some q → d ≤ r → acc.length + (Gr (Qsx s t) n.1 p.2 d a ag).length ≤ 3000000 →
   JU r (a : Int) ag p true acc n t s = some ((q.2 : Int),p,true,acc ++ Gr (Qsx s t) n.1 p.2 d a ag,n,t,s)
 | 0,_,_,_,_,_,h,_,_=>by cases h
 | d + 1,0,_,_,_,_,_,h,_=>by omega
 | d + 1,r + 1,a,ag,acc,q,hq,hdr,hlen=>by
  show YM (JU r) (a : Int) ag p true acc n t s = _
  rw [JJ] at hq
  rw [Gr] at hlen ⊢
  cases hw : p.2[a]? with
  | none=>rw [hw] at hq; cases hq
  | some w =>
   rw [hw] at hq hlen
   simp only at hq hlen ⊢
   have ha : a < p.2.length:=(List.getElem?_eq_some_iff.1 hw).1
   unfold YM
   rw [QM ha,QB5 hw,QG hb ha]
   simp only [cond_true]
   cases ho : Qki w with
   | true =>
    rw [ho] at hq hlen
    simp only [if_true,cond_true] at hq hlen ⊢
    cases h1 : JJ p.2 d (a + 1) with
    | none=>rw [h1] at hq; cases hq
    | some p1 =>
     rw [h1] at hq hlen
     simp only at hq hlen ⊢
     cases h2 : JJ p.2 d p1.2 with
     | none=>rw [h2] at hq; cases hq
     | some p2 =>
      rw [h2] at hq
      cases hq
      rw [List.length_append] at hlen
      have r1:=QzF hs ht hr hb n d r (a + 1) ag acc p1 h1 (by omega) (by omega)
      have r2:=fun ag' (h : acc.length + (Gr (Qsx s t) n.1 p.2 d (a + 1) ag).length + (Gr (Qsx s t) n.1 p.2 d p1.2 ag').length ≤ 3000000)=>QzF hs ht hr hb n d r p1.2 ag' (acc ++ Gr (Qsx s t) n.1 p.2 d (a + 1) ag) p2 h2 (by omega) (by rw [List.length_append]; omega)
      rw [r1]
      simp only [Option.bind_some]
      unfold Qki at ho
      cases ag with
      | true =>
       simp only [Bool.true_or] at hlen ⊢
       simp only [cond_true]
       rw [r2 true (by omega)]
       simp only [Option.bind_some,List.append_assoc]
       cases h3 : decide (w.1 = 3) <;> cases h4 : decide (w.1 = 4) <;> cases h5 : decide (w.1 = 5) <;> first | rfl | (rw [h3,h4,h5] at ho; cases ho)
      | false =>
       simp only [Bool.false_or] at hlen ⊢
       simp only [cond_false]
       rw [r2 (decide (w.1 = 5)) (by omega)]
       simp only [Option.bind_some,List.append_assoc]
       cases h3 : decide (w.1 = 3) <;> cases h4 : decide (w.1 = 4) <;> cases h5 : decide (w.1 = 5) <;> first | rfl | (rw [h3,h4,h5] at ho; cases ho)
   | false =>
    rw [ho] at hq hlen
    simp only [Bool.false_eq_true,if_false,Option.some.injEq,cond_false] at hq hlen ⊢
    subst hq
    unfold Qki at ho
    simp only [Bool.or_eq_false_iff] at ho
    obtain ⟨⟨h3,h4⟩,h5⟩:=ho
    rw [h3,h4,h5]
    simp only [cond_false]
    have hl:=Qpb hr w.2.1
    have hc : (VV (Qe1 (V3 t w.2.1).1)).length ≤ maxLen:=Nat.le_trans (Qlt _) (by
     unfold Qe1
     rw [List.length_map]
     exact Nat.le_trans (List.length_filter_le _ _) (by unfold maxLen; omega))
    rw [G4 ht.1,Option.bind_some,QqN hl,Option.bind_some,QL hc]
    unfold QuE at hlen ⊢
    cases k1 : decide (w.1 = 1) with
    | true =>
     rw [k1] at hlen
     simp only [cond_true,List.length_singleton] at hlen
     simp only [cond_true]
     rw [Qic (by omega) (by omega) (by omega)]
     rfl
    | false =>
     rw [k1] at hlen
     simp only [cond_false] at hlen ⊢
     cases k2 : decide (w.1 = 2) with
     | true =>
      rw [k2] at hlen
      simp only [cond_true,List.length_cons,List.length_map] at hlen
      simp only [cond_true]
      unfold Qsx at hlen
      rw [Qic (by omega) (by omega) (by omega),Qlv hs _ _ _ _ _ _ _ _ _ (by simp; omega),QG hb ha]
      simp [Qsx]
     | false=>simp
theorem QGL {s : Qa} (hs : SchLen s) {t : Qb} (ht : GS t) (hr : ∀ r ∈ t.2.1,r.2.length ≤ 2000000) {p : Qc} (hb : p.2.length ≤ maxLen) (n : Qk) {q : Q5 × Nat} (h : JJ p.2 10 0 = some q) (hlen : (Gr (Qsx s t) n.1 p.2 10 0 false).length ≤ 3000000) :
  VS 0 false p true [] n t s = some ((q.2 : Int),p,true,Gr (Qsx s t) n.1 p.2 10 0 false,n,t,s) :=
 Qbn ⟨10,fun r hr'=>QzF hs ht hr hb n 10 r 0 false [] q h hr' (by simpa using hlen)⟩
def Qkj (s : Qa) (t : Qb) (w : Qp) : List (List Int):=Qid s w.2.2 (V3 t w.2.1).1.2 []
def atL (x y : List Int) : List Qn → Nat → Int
 | [],_=>-1
 | e :: r,k=>if e.1 = x ∧ e.2.1 = y then (k : Int) else atL x y r (k + 1)
def atI (all : List Qn) (n : Qk) : Int:=atL n.1 n.2 all 0
theorem QqS (x y : List Int) : ∀ (l : List Qn) (k : Nat),Y9 x y l k = some (atL x y l k)
 | [],k=>rfl
 | e :: l,k=>by
  rw [Y9,QqS x y l (k + 1),atL]
  by_cases h1 : e.1 = x
  ·by_cases h2 : e.2.1 = y
   ·rw [decide_eq_true h1,decide_eq_true h2,if_pos ⟨h1,h2⟩]; rfl
   ·rw [decide_eq_true h1,decide_eq_false h2,if_neg (fun h=>h2 h.2)]; rfl
  ·rw [decide_eq_false h1,if_neg (fun h=>h1 h.1)]; rfl
theorem Qbc {all : List Qn} (h : all.length ≤ maxLen) (x y : List Int) : JN all x y = some (atI all (x,y)):=by
 rw [JN,QL h,QqS]; rfl
def QA9 (all : List Qn) (fr : Int) (l : Qx) : Qr:=(fr,atI all l.1,l.2)
theorem QuF {all : List Qn} (ha : all.length ≤ maxLen) (Rc : Qa → Qb → (List Qn) → Int → Q5 → Bool → (List Qr) → Option (List Qr)) (fr : Int) (ag : Bool) (w : Qp) (ks : List Q5) :
  ∀ (l : List (List Int)) (acc : List Qr),acc.length + l.length ≤ 3000000 → Yk Rc all fr ag l acc (.node w ks) = some (acc ++ l.map (fun x=>QA9 all fr ((x,w.2.2),ag)))
 | [],acc,_=>by rw [Yk]; simp
 | e :: l,acc,h=>by
  simp only [List.length_cons] at h
  rw [Yk,Qbc ha,Option.bind_some,Qic (by omega) (by omega) (by omega),eta,QuF ha Rc fr ag w ks l _ (by simp; omega)]
  simp [QA9,Tree.val]
theorem QzG {s : Qa} (hs : SchLen s) {t : Qb} (ht : GS t) (hr : ∀ r ∈ t.2.1,r.2.length ≤ 2000000) {all : List Qn} (hall : all.length ≤ maxLen) (fr : Int) {b : List Qp} :
  ∀ (d r a : Nat) (ag : Bool) (acc : List Qr) (q : Q5 × Nat),JJ b d a = some q → d ≤ r → acc.length + (Gr (Qkj s t) t.1 b d a ag).length ≤ 3000000 →
   UM r s t all fr q.1 ag acc = some (acc ++ (Gr (Qkj s t) t.1 b d a ag).map (QA9 all fr))
 | 0,_,_,_,_,_,h,_,_=>by cases h
 | d + 1,0,_,_,_,_,_,h,_=>by omega
 | d + 1,r + 1,a,ag,acc,q,hq,hdr,hlen=>by
  show UL (UM r) s t all fr q.1 ag acc = _
  rw [JJ] at hq
  rw [Gr] at hlen ⊢
  cases hw : b[a]? with
  | none=>rw [hw] at hq; cases hq
  | some w =>
   rw [hw] at hq hlen
   simp only at hq hlen ⊢
   cases ho : Qki w with
   | true =>
    rw [ho] at hq hlen
    simp only [if_true,cond_true] at hq hlen ⊢
    cases h1 : JJ b d (a + 1) with
    | none=>rw [h1] at hq; cases hq
    | some p1 =>
     rw [h1] at hq hlen
     simp only at hq hlen ⊢
     cases h2 : JJ b d p1.2 with
     | none=>rw [h2] at hq; cases hq
     | some p2 =>
      rw [h2] at hq
      cases hq
      rw [List.length_append] at hlen
      have r1:=QzG hs ht hr hall fr d r (a + 1) ag acc p1 h1 (by omega) (by omega)
      have r2:=fun ag' (h : acc.length + (Gr (Qkj s t) t.1 b d (a + 1) ag).length + (Gr (Qkj s t) t.1 b d p1.2 ag').length ≤ 3000000)=>QzG hs ht hr hall fr d r p1.2 ag' (acc ++ (Gr (Qkj s t) t.1 b d (a + 1) ag).map (QA9 all fr)) p2 h2 (by omega) (by rw [List.length_append,List.length_map]; omega)
      have n1 : decide (w.1 = 1) = false:=by
       unfold Qki at ho
       by_cases e : w.1 = 1
       ·rw [e] at ho; exact absurd ho (by decide)
       ·exact decide_eq_false e
      have n2 : decide (w.1 = 2) = false:=by
       unfold Qki at ho
       by_cases e : w.1 = 2
       ·rw [e] at ho; exact absurd ho (by decide)
       ·exact decide_eq_false e
      rw [UL]
      have hv : (Tree.node w [p1.1,p2.1] : Q5).val = w:=rfl
      have hk : (Tree.node w [p1.1,p2.1] : Q5).kids = [p1.1,p2.1]:=rfl
      simp only
      rw [hv,hk,n1,n2]
      simp only [cond_false]
      rw [QL (by simp [maxLen]),Zt]
      simp only [eta]
      rw [hv]
      cases ag with
      | true =>
       simp only [cond_true,Bool.true_or] at hlen ⊢
       rw [r1,Option.bind_some,Zt]
       simp only [cond_true,eta]
       rw [r2 true (by omega),Option.bind_some,Zt]
       simp
      | false =>
       simp only [cond_false,Bool.false_or] at hlen ⊢
       rw [show decide (((0 : Nat) : Int) = 1) = false from rfl]
       simp only [cond_false]
       rw [r1,Option.bind_some,Zt]
       simp only [cond_false,eta]
       rw [show decide (((0 + 1 : Nat) : Int) = 1) = true from rfl,hv]
       simp only [cond_true]
       rw [r2 (decide (w.1 = 5)) (by omega),Option.bind_some,Zt]
       simp
   | false =>
    rw [ho] at hq hlen
    simp only [Bool.false_eq_true,if_false,Option.some.injEq,cond_false] at hq hlen ⊢
    subst hq
    rw [UL]
    have hv : (Tree.node w [] : Q5).val = w:=rfl
    have hk : (Tree.node w [] : Q5).kids = []:=rfl
    simp only
    rw [hv,hk,Qbc hall,Qbc hall,Wz ht.1]
    simp only [Option.bind_some]
    have hl:=Qpb hr w.2.1
    rw [QqO hs hl]
    simp only [Option.bind_some]
    unfold QuE at hlen ⊢
    cases k1 : decide (w.1 = 1) with
    | true =>
     rw [k1] at hlen
     simp only [cond_true,List.length_singleton] at hlen
     simp only [cond_true]
     rw [Qic (by omega) (by omega) (by omega)]
     rfl
    | false =>
     rw [k1] at hlen
     simp only [cond_false] at hlen ⊢
     cases k2 : decide (w.1 = 2) with
     | true =>
      rw [k2] at hlen
      simp only [cond_true,List.length_cons,List.length_map] at hlen
      simp only [cond_true]
      unfold Qkj at hlen
      rw [Qic (by omega) (by omega) (by omega),QL (by unfold maxLen; omega),QuF hall _ _ _ _ _ _ _ (by simp; omega)]
      simp [Qkj,QA9]
     | false=>simp [Zt,ZF,maxLen]
theorem QGM {s : Qa} (hs : SchLen s) {t : Qb} (ht : GS t) (hr : ∀ r ∈ t.2.1,r.2.length ≤ 2000000) {all : List Qn} (hall : all.length ≤ maxLen) (fr : Int) {b : List Qp} {q : Q5 × Nat} (h : JJ b 10 0 = some q) (acc : List Qr) (hlen : acc.length + (Gr (Qkj s t) t.1 b 10 0 false).length ≤ 3000000) :
  Qdz s t all fr q.1 false acc = some (acc ++ (Gr (Qkj s t) t.1 b 10 0 false).map (QA9 all fr)) :=
 Qbn ⟨10,fun r hr'=>QzG hs ht hr hall fr 10 r 0 false acc q h hr' hlen⟩
end
end Go.Ab
