import Derived.Test.YtedpigpcdllpaaaGreatAskG
namespace Go.Ab
open Go.Proofs
noncomputable section
def QcM (all : List Qn) (e : Qen Qk) : Qr:=(atI all e.1,atI all e.2.1,e.2.2)
theorem QGN {b : List Qp} {q : Q5 × Nat} (h : b.length ≤ 30) (hq : JJ b 10 0 = some q) : Y5 b = some (q.1,decide (q.2 = b.length)):=by
 have h0:=Qai hq
 rw [Y5,QqM (by unfold maxLen; omega),Option.bind_some,hq,decide_eq_false (show ¬ (b.length : Int) < 1 by omega),decide_eq_false (show ¬ (30 : Int) < (b.length : Int) by omega)]
 simp only [cond_false]
 rw [eta,show decide ((QAz (some q)).2 = (b.length : Int)) = decide (q.2 = b.length) from decide_eq_decide.2 (by show (q.2 : Int) = _ ↔ _; omega)]
 rfl
theorem Qwm {all : List Qn} (hall : all.length ≤ maxLen) (K : List Qr → Option (List Qr)) (t : Qb) (r : Qf) : ∀ (l : List Qm) (acc : List Qr),acc.length + l.length ≤ 3000000 →
  Jr K all t r l acc = K (acc ++ ((l.filter fun k=>!decide (k.2.1 = ([] : List Int))).map fun k=>QcM all ((t.1,r.1),(k.1,k.2.1),false)))
 | [],acc,_=>by rw [Jr]; simp
 | e :: l,acc,h=>by
  simp only [List.length_cons] at h
  rw [Jr,Qbc hall,Qbc hall]
  simp only [Option.bind_some]
  rw [Qwm hall K t r l _ (by simp; omega),Qwm hall K t r l acc (by omega),Qic (by omega) (by omega) (by omega),List.filter_cons]
  cases decide (e.2.1 = ([] : List Int)) <;> simp [QcM]
theorem QBe {s : Qa} (hg : SchGood s) {all : List Qn} (hall : all.length ≤ maxLen) (K : List Qr → Option (List Qr)) {t : Qb} (ht : t ∈ s.2) : ∀ (l : List Qc) (acc : List Qr),(∀ p ∈ l,p ∈ t.2.2) → acc.length + l.length * 270 ≤ 3000000 →
  JG K all s t l acc = K (acc ++ (l.flatMap fun p=>(Gr (Qkj s t) t.1 p.2 10 0 false).map (HQ (t.1,p.1))).map (QcM all))
 | [],acc,_,_=>by rw [JG]; simp
 | e :: l,acc,hl,h=>by
  simp only [List.length_cons] at h
  have he:=hl e List.mem_cons_self
  have hgt:=hg.good t ht
  obtain ⟨h1,⟨q,hq⟩,_⟩:=hgt.body e he
  have hlen:=QzM hgt (QCY hgt) t.1 he
  rw [JG,QGN h1 hq,Option.bind_some,Qbc hall,Option.bind_some,eta,QGM hg.toSchLen (hg.typ t ht) (hg.rel t ht) hall _ hq acc (by omega),Option.bind_some,QBe hg hall K ht l _ (fun p hp=>hl p (List.mem_cons_of_mem _ hp)) (by simp only [List.length_append,List.length_map]; omega)]
  simp only [List.flatMap_cons,List.map_append,List.map_map,List.append_assoc]
  rfl
theorem QBf {s : Qa} (hg : SchGood s) {all : List Qn} (hall : all.length ≤ maxLen) (K : List Qr → Option (List Qr)) {t : Qb} (ht : t ∈ s.2) : ∀ (l : List Qf) (acc : List Qr),(∀ r ∈ l,r ∈ t.2.1) → acc.length + l.length * 8 ≤ 2000000 →
  JY K all s t l acc = K (acc ++ (l.flatMap (fun r=>(QzL r).map (HQ (t.1,r.1))) ++ t.2.2.flatMap (fun p=>(Gr (Qkj s t) t.1 p.2 10 0 false).map (HQ (t.1,p.1)))).map (QcM all))
 | [],acc,_,h=>by
  have:=(hg.good t ht).np
  simp only [List.length_nil] at h
  rw [JY,QL (hg.typ t ht).2,QBe hg hall K ht _ _ (fun _ h=>h) (by omega)]; simp
 | e :: l,acc,hl,h=>by
  simp only [List.length_cons] at h
  have he:=hl e List.mem_cons_self
  have h8:=((hg.good t ht).sub e he).1
  rw [JY,QL (by unfold maxLen; omega),Qwm hall _ _ _ _ _ (by omega),QBf hg hall K ht l _ (fun p hp=>hl p (List.mem_cons_of_mem _ hp)) (by
   have:=List.length_filter_le (fun k : Qm=>!decide (k.2.1 = ([] : List Int))) e.2
   simp only [List.length_append,List.length_map]; omega)]
  simp only [List.flatMap_cons,List.map_append,List.map_map,List.append_assoc,QzL]
  rfl
theorem QzP {s : Qa} (hg : SchGood s) {t : Qb} (ht : t ∈ s.2) : (QoU s t).length ≤ 3336:=by
 have hgt:=hg.good t ht
 unfold QoU
 rw [List.length_append]
 have h1:=Qer (f:=fun r : Qf=>(QzL r).map (HQ (t.1,r.1))) (m:=8) (l:=t.2.1) fun r hr=>by
  unfold QzL
  rw [List.length_map,List.length_map]
  exact Nat.le_trans (List.length_filter_le _ _) (hgt.sub r hr).1
 have h2:=Qer (f:=fun p : Qc=>(Gr (Qkj s t) t.1 p.2 10 0 false).map (HQ (t.1,p.1))) (m:=270) (l:=t.2.2) fun p hp=>by
  rw [List.length_map]; exact QzM hgt (QCY hgt) t.1 hp
 have:=hgt.nr
 have:=hgt.np
 omega
theorem QBg {s : Qa} (hg : SchGood s) {all : List Qn} (hall : all.length ≤ maxLen) : ∀ (l : List Qb) (acc : List Qr),(∀ t ∈ l,t ∈ s.2) → acc.length + l.length * 3336 ≤ 1900000 →
  JZ all s l acc = some (acc ++ (l.flatMap (QoU s)).map (QcM all))
 | [],acc,_,_=>by rw [JZ]; simp
 | e :: l,acc,hl,h=>by
  simp only [List.length_cons] at h
  have he:=hl e List.mem_cons_self
  have hlen:=QzP hg he
  have:=(hg.good e he).nr
  rw [JZ,QL (hg.typ e he).1,QBf hg hall _ he _ _ (fun _ h=>h) (by omega),show (e.2.1.flatMap (fun r=>(QzL r).map (HQ (e.1,r.1))) ++ e.2.2.flatMap (fun p=>(Gr (Qkj s e) e.1 p.2 10 0 false).map (HQ (e.1,p.1)))) = QoU s e from rfl,QBg hg hall l _ (fun p hp=>hl p (List.mem_cons_of_mem _ hp)) (by
   simp only [List.length_append,List.length_map]; omega)]
  simp
theorem QzQ {s : Qa} (hg : SchGood s) {all : List Qn} (hall : all.length ≤ maxLen) : Ga s all = some ((QiX s).map (QcM all)):=by
 have:=hg.nt
 rw [Ga,QL hg.t,QBg hg hall _ _ (fun _ h=>h) (by simp only [List.length_nil]; omega)]; rfl
def XE (N : List Qk) (lv : Qk → Nat) : List Qn:=N.map fun n=>(n.1,n.2,((lv n : Nat) : Int))
theorem Qdr (N : List Qk) (lv : Qk → Nat) : (XE N lv).length = N.length:=List.length_map _
theorem QEg {n : Qk} : ∀ {l : List Qk} {k i : Nat},l.Nodup → l[i]? = some n → atL n.1 n.2 (l.map Qfr) k = ((k + i : Nat) : Int)
 | a :: l,k,i,hn,h=>by
  obtain ⟨h1,h2⟩:=List.nodup_cons.1 hn
  rw [List.map_cons,atL]
  cases i with
  | zero =>
   rw [List.getElem?_cons_zero] at h
   cases h
   rw [if_pos ⟨rfl,rfl⟩]; rfl
  | succ i =>
   rw [List.getElem?_cons_succ] at h
   rw [if_neg (fun e=>h1 (by
    have : a = n:=Prod.ext e.1 e.2
    rw [this]; exact List.mem_of_getElem? h)),QEg h2 h]
   congr 1; omega
theorem QEh {N : List Qk} (hn : N.Nodup) {n : Qk} {i : Nat} (h : N[i]? = some n) : atI (N.map Qfr) n = (i : Int):=by
 rw [atI,QEg hn h,Nat.zero_add]
theorem QBh {N : List Qk} {lv : Qk → Nat} {n : Qk} {i : Nat} (h : N[i]? = some n) (d : Qn) : rd (XE N lv) (i : Int) d = (n.1,n.2,((lv n : Nat) : Int)) :=
 QB5 (by rw [XE,List.getElem?_map,h]; rfl)
theorem QDO {N : List Qk} (hn : N.Nodup) {lv : Qk → Nat} {n : Qk} {i : Nat} (h : N[i]? = some n) (v : Nat) : (XE N lv).set i (n.1,n.2,(v : Int)) = XE N (QxM lv n v):=by
 have hi : i < N.length:=(List.getElem?_eq_some_iff.1 h).1
 refine List.ext_getElem? fun j=>?_
 rw [List.getElem?_set]
 by_cases hj : i = j
 ·subst hj
  rw [if_pos rfl,Qdr,if_pos hi,XE,List.getElem?_map,h,Option.map_some,UN]
 ·rw [if_neg hj,XE,XE,List.getElem?_map,List.getElem?_map]
  cases hm : N[j]? with
  | none=>rfl
  | some m =>
   rw [Option.map_some,Option.map_some,W5 _ _ fun e=>hj ((List.getElem?_inj hi hn).1 (by rw [h,hm,e]))]
theorem QuG {a : Nat} (h : a ≤ 1000000) : IntKind.wrap .i64 ((a : Int) + 1) = ((a + 1 : Nat) : Int):=QG (len:=1000001) (by unfold maxLen; omega) (by omega)
theorem QwS {N : List Qk} (hn : N.Nodup) (hN : N.length ≤ 288) (K : List Qn → Int → Option (List Qn × Bool)) (x3 : Int) : ∀ (E : List (Qen Qk)) (lv : Qk → Nat) (x4 : Bool),(∀ e ∈ E,e.1 ∈ N ∧ e.2.1 ∈ N) → (∀ x,lv x ≤ N.length) →
  QV K x3 (E.map (QcM (N.map Qfr))) (XE N lv) x4 = match VX N.length E lv (!x4) with
   | none=>some ([],false)
   | some (lv',t)=>bif t then K (XE N lv') (IntKind.wrap .i64 (x3 + 1)) else some (XE N lv',true)
 | [],lv,x4,_,_=>by
  rw [List.map_nil,QV,VX]
  cases x4 <;> rfl
 | e :: E,lv,x4,hE,hb=>by
  obtain ⟨⟨i,hi⟩,⟨j,hj⟩⟩:=(⟨List.getElem?_of_mem (hE e List.mem_cons_self).1,List.getElem?_of_mem (hE e List.mem_cons_self).2⟩ : (∃ i,N[i]? = some e.1) ∧ ∃ j,N[j]? = some e.2.1)
  have ih:=fun lv x4 hb=>QwS hn hN K x3 E lv x4 (fun e he=>hE e (List.mem_cons_of_mem _ he)) hb
  have hi' : i < N.length:=(List.getElem?_eq_some_iff.1 hi).1
  have hj' : j < N.length:=(List.getElem?_eq_some_iff.1 hj).1
  have key : ∀ v : Nat,Vj (fun s0 s1=>QV K x3 (E.map (QcM (N.map Qfr))) s0 s1) (XE N lv) x4 (v : Int) ((i : Int),(j : Int),e.2.2) = if N.length < v then some ([],false) else if lv e.1 < v then QV K x3 (E.map (QcM (N.map Qfr))) (XE N (QxM lv e.1 v)) false else QV K x3 (E.map (QcM (N.map Qfr))) (XE N lv) x4:=by
   intro v
   rw [Vj]
   simp only
   rw [Qdr,QM hi',QBh hi,Int.toNat_natCast,QDO hn hi,Qdr]
   simp only [Bool.and_true,cond_true]
   by_cases h1 : N.length < v
   ·rw [if_pos h1,decide_eq_true (show (N.length : Int) < (v : Int) by omega),cond_true]
    cases decide ((lv e.1 : Int) < (v : Int)) <;> rfl
   ·rw [if_neg h1,decide_eq_false (show ¬ (N.length : Int) < (v : Int) by omega),cond_false]
    by_cases h2 : lv e.1 < v
    ·rw [if_pos h2,decide_eq_true (show (lv e.1 : Int) < (v : Int) by omega)]; rfl
    ·rw [if_neg h2,decide_eq_false (show ¬ (lv e.1 : Int) < (v : Int) by omega)]; rfl
  rw [List.map_cons,QV,QcM,QEh hn hi,QEh hn hj]
  simp only
  rw [Qdr,QM hj',QBh hj]
  simp only [Bool.and_true,cond_true]
  have hbj:=hb e.2.1
  rw [QuG (by omega),key,key,VX]
  have hw : (bif e.2.2 then (if N.length < lv e.2.1 + 1 then some ([],false) else if lv e.1 < lv e.2.1 + 1 then QV K x3 (E.map (QcM (N.map Qfr))) (XE N (QxM lv e.1 (lv e.2.1 + 1))) false else QV K x3 (E.map (QcM (N.map Qfr))) (XE N lv) x4)
    else (if N.length < lv e.2.1 then some ([],false) else if lv e.1 < lv e.2.1 then QV K x3 (E.map (QcM (N.map Qfr))) (XE N (QxM lv e.1 (lv e.2.1))) false else QV K x3 (E.map (QcM (N.map Qfr))) (XE N lv) x4))
    = if N.length < lv e.2.1 + wt e.2.2 then some ([],false) else if lv e.1 < lv e.2.1 + wt e.2.2 then QV K x3 (E.map (QcM (N.map Qfr))) (XE N (QxM lv e.1 (lv e.2.1 + wt e.2.2))) false else QV K x3 (E.map (QcM (N.map Qfr))) (XE N lv) x4:=by
   cases e.2.2 <;> rfl
  rw [hw]
  by_cases h1 : N.length < lv e.2.1 + wt e.2.2
  ·rw [if_pos h1,if_pos h1]
  ·rw [if_neg h1,if_neg h1]
   by_cases h2 : lv e.1 < lv e.2.1 + wt e.2.2
   ·rw [if_pos h2,if_pos h2,ih _ _ fun x=>?_]
    ·rfl
    ·by_cases hx : x = e.1
     ·subst hx; rw [UN]; omega
     ·rw [W5 _ _ hx]; exact hb x
   ·rw [if_neg h2,if_neg h2,ih _ _ hb]
def QGO (N : List Qk) : Option (Qk → Nat) → List Qn × Bool
 | none=>([],false)
 | some lv=>(XE N lv,true)
theorem QuH {N : List Qk} (hn : N.Nodup) (hN : N.length ≤ 288) {E : List (Qen Qk)} (hlen : E.length ≤ maxLen) (hE : ∀ e ∈ E,e.1 ∈ N ∧ e.2.1 ∈ N) : ∀ (k m c : Nat) (lv : Qk → Nat),(∀ x,lv x ≤ N.length) → c + k = N.length + 2 → k < m →
  Ye (E.map (QcM (N.map Qfr))) m (XE N lv) (c : Int) = some (QGO N (QdG N.length E k lv))
 | k,0,c,lv,_,_,h=>absurd h (Nat.not_lt_zero _)
 | 0,m + 1,c,lv,_,h,_=>by
  rw [Ye,Qdr,QuG (by omega),decide_eq_false (show ¬ (c : Int) ≤ ((N.length + 1 : Nat) : Int) by omega)]; rfl
 | k + 1,m + 1,c,lv,hb,h,hm=>by
  rw [Ye,Qdr,QuG (by omega),decide_eq_true (show (c : Int) ≤ ((N.length + 1 : Nat) : Int) by omega),QL (by rw [List.length_map]; exact hlen),cond_true,QwS hn hN _ _ E lv true hE hb,QdG,Bool.not_true,QuG (by omega)]
  cases hp : VX N.length E lv false with
  | none=>rfl
  | some r =>
   obtain ⟨lv',t⟩:=r
   cases t with
   | false=>rfl
   | true =>
    simp only [cond_true]
    exact QuH hn hN hlen hE k m (c + 1) lv' (W6 hp hb) (by omega) (by omega)
theorem QDP {s : Qa} (hg : SchGood s) : (QiX s).length ≤ maxLen:=by
 have h:=Qer (f:=QoU s) (m:=3336) (l:=s.2) fun t ht=>QzP hg ht
 have:=hg.nt
 unfold QiX maxLen
 omega
theorem QxQ {s : Qa} (hg : SchGood s) : VP s = some (QGO (JK s) (QdG (JK s).length (QiX s) ((JK s).length + 2) fun _=>0)):=by
 have hN:=Qwi hg
 refine Qbn ⟨(JK s).length + 3,fun m hm=>?_⟩
 show Uy m s = _
 unfold Uy
 rw [QzK hg.toSchLen (by omega),Option.bind_some,QzQ hg (by rw [List.length_map]; unfold maxLen; omega),Option.bind_some]
 exact QuH (QwR hg) hN (QDP hg) (QzO hg) ((JK s).length + 2) m 0 (fun _=>0) (fun _=>Nat.zero_le _) (by omega) (by omega)
theorem QzR {α : Type} (f : Qk → α) (z : α) {x : Qk} : ∀ {N : List Qk},x ∈ N → Hk QB (N.map fun n=>(n,f n)) x z = f x
 | a :: N,h=>by
  rw [List.map_cons,Hk]
  by_cases he : x = a
  ·rw [show @decide (x = (a,f a).1) (Ty.decEq QB x (a,f a).1) = true from @decide_eq_true _ (Ty.decEq QB x (a,f a).1) he,cond_true,he]
  ·rw [show @decide (x = (a,f a).1) (Ty.decEq QB x (a,f a).1) = false from @decide_eq_false _ (Ty.decEq QB x (a,f a).1) he,cond_false]
   exact QzR f z ((List.mem_cons.1 h).resolve_left he)
theorem QzS {α : Type} (f : Qk → α) {x : Qk} (y : α) : ∀ {N : List Qk},x ∉ N → QaA QB (N.map fun n=>(n,f n)) x y = (N.map fun n=>(n,f n)) ++ [(x,y)]
 | [],_=>rfl
 | a :: N,h=>by
  have he : x ≠ a:=fun e=>h (by rw [e]; exact List.mem_cons_self)
  rw [List.map_cons,QaA,show @decide (x = (a,f a).1) (Ty.decEq QB x (a,f a).1) = false from @decide_eq_false _ (Ty.decEq QB x (a,f a).1) he,cond_false,QzS f y fun h'=>h (List.mem_cons_of_mem _ h')]
  rfl
theorem QC0 {α : Type} {f g : Qk → α} {x : Qk} : ∀ {N : List Qk},N.Nodup → x ∈ N → (∀ n,n ≠ x → g n = f n) → QaA QB (N.map fun n=>(n,f n)) x (g x) = N.map fun n=>(n,g n)
 | a :: N,hn,h,hg=>by
  obtain ⟨h1,h2⟩:=List.nodup_cons.1 hn
  rw [List.map_cons,QaA,List.map_cons]
  by_cases he : x = a
  ·rw [show @decide (x = (a,f a).1) (Ty.decEq QB x (a,f a).1) = true from @decide_eq_true _ (Ty.decEq QB x (a,f a).1) he,cond_true,he]
   congr 1
   refine List.map_congr_left fun n hm=>?_
   rw [hg n fun e=>h1 (by rw [← he,← e]; exact hm)]
  ·rw [show @decide (x = (a,f a).1) (Ty.decEq QB x (a,f a).1) = false from @decide_eq_false _ (Ty.decEq QB x (a,f a).1) he,cond_false,QC0 h2 ((List.mem_cons.1 h).resolve_left he) hg,hg a fun e=>he e.symm]
def Qes (N : List Qk) (lv : Qk → Nat) : List (Qk × Int):=N.map fun n=>(n,((lv n : Nat) : Int))
theorem QBi {N : List Qk} (hn : N.Nodup) {lv : Qk → Nat} {x : Qk} (h : x ∈ N) (v : Nat) : QaA QB (Qes N lv) x (v : Int) = Qes N (QxM lv x v):=by
 have:=QC0 (f:=fun n=>((lv n : Nat) : Int)) (g:=fun n=>((QxM lv x v n : Nat) : Int)) hn h fun n hne=>by rw [W5 _ _ hne]
 simp only [UN] at this
 exact this
theorem QBj {N : List Qk} {lv : Qk → Nat} {x : Qk} (h : x ∈ N) : Hk QB (Qes N lv) x 0 = ((lv x : Nat) : Int):=QzR (fun n=>((lv n : Nat) : Int)) 0 h
theorem QuI {N : List Qk} (hn : N.Nodup) (hN : N.length ≤ 288) (K : Bool → List (Qk × Int) → Option (List (Qk × Int) × Bool)) {x : Qk} (hx : x ∈ N) : ∀ (l : List Qx) (lv : Qk → Nat) (t : Bool),(∀ e ∈ l,e.1 ∈ N) → (∀ x,lv x ≤ N.length) →
  QO K N x l t (Qes N lv) = match VX N.length (l.map (HQ x)) lv t with
   | none=>some ([],false)
   | some (lv',t')=>K t' (Qes N lv')
 | [],lv,t,_,_=>by rw [QO]; rfl
 | e :: l,lv,t,hl,hb=>by
  have he:=hl e List.mem_cons_self
  have hbe:=hb e.1
  have ih:=fun lv t hb=>QuI hn hN K hx l lv t (fun e he=>hl e (List.mem_cons_of_mem _ he)) hb
  rw [QO,QBj hx,QBj he,QuG (by omega),QBi hn hx,QBi hn hx,List.map_cons,VX]
  have key : ∀ v : Nat,(bif decide ((lv x : Int) < (v : Int)) then bif decide ((N.length : Int) < (v : Int)) then some (([] : List (Qk × Int)),false) else QO K N x l true (Qes N (QxM lv x v)) else bif decide ((N.length : Int) < (v : Int)) then some (([] : List (Qk × Int)),false) else QO K N x l t (Qes N lv))
    = match (if N.length < v then none else if lv x < v then VX N.length (l.map (HQ x)) (QxM lv x v) true else VX N.length (l.map (HQ x)) lv t) with
     | none=>some ([],false)
     | some (lv',t')=>K t' (Qes N lv'):=by
   intro v
   by_cases h1 : N.length < v
   ·rw [if_pos h1,decide_eq_true (show (N.length : Int) < (v : Int) by omega)]
    cases decide ((lv x : Int) < (v : Int)) <;> rfl
   ·rw [if_neg h1,decide_eq_false (show ¬ (N.length : Int) < (v : Int) by omega)]
    by_cases h2 : lv x < v
    ·rw [if_pos h2,decide_eq_true (show (lv x : Int) < (v : Int) by omega),cond_true,cond_false,ih _ _ fun y=>?_]
     by_cases hy : y = x
     ·subst hy; rw [UN]; omega
     ·rw [W5 _ _ hy]; exact hb y
    ·rw [if_neg h2,decide_eq_false (show ¬ (lv x : Int) < (v : Int) by omega),cond_false,cond_false,ih _ _ hb]
  rw [key,key]
  unfold HQ
  simp only
  cases e.2 <;> rfl
def QoV (s : Qa) (N : List Qk) : List (Qk × List Qx):=N.map fun n=>(n,Xj s n)
theorem QqU {s : Qa} {N : List Qk} (hn : N.Nodup) (hN : N.length ≤ 288) (hL : ∀ n ∈ N,(Xj s n).length ≤ maxLen ∧ ∀ e ∈ Xj s n,e.1 ∈ N) (K : Bool → List (Qk × Int) → Option (List (Qk × Int) × Bool)) : ∀ (l : List Qk) (lv : Qk → Nat) (t : Bool),(∀ n ∈ l,n ∈ N) → (∀ x,lv x ≤ N.length) →
  Zb K N (QoV s N) l t (Qes N lv) = match VX N.length (l.flatMap fun n=>(Xj s n).map (HQ n)) lv t with
   | none=>some ([],false)
   | some (lv',t')=>K t' (Qes N lv')
 | [],lv,t,_,_=>by rw [Zb]; rfl
 | n :: l,lv,t,hl,hb=>by
  have hnN:=hl n List.mem_cons_self
  obtain ⟨h1,h2⟩:=hL n hnN
  rw [Zb,show Hk QB (QoV s N) n ([] : List Qx) = Xj s n from QzR (Xj s) [] hnN,QL h1,QuI hn hN _ hnN _ _ _ h2 hb,List.flatMap_cons,Qlp]
  cases hp : VX N.length ((Xj s n).map (HQ n)) lv t with
  | none=>rfl
  | some r =>
   obtain ⟨lv',t'⟩:=r
   simp only
   exact QqU hn hN hL K l lv' t' (fun n hn=>hl n (List.mem_cons_of_mem _ hn)) (W6 hp hb)
def QGP (N : List Qk) : Option (Qk → Nat) → List (Qk × Int) × Bool
 | none=>([],false)
 | some lv=>(Qes N lv,true)
theorem QqV {s : Qa} {N : List Qk} (hn : N.Nodup) (hN : N.length ≤ 288) (hL : ∀ n ∈ N,(Xj s n).length ≤ maxLen ∧ ∀ e ∈ Xj s n,e.1 ∈ N) : ∀ (m : Nat) (t : Bool) (lv : Qk → Nat),(∀ x,lv x ≤ N.length) →
  Zo N (QoV s N) m t (Qes N lv) = (Qlo N.length (N.flatMap fun n=>(Xj s n).map (HQ n)) m t lv).map (QGP N)
 | 0,_,_,_=>rfl
 | m + 1,t,lv,hb=>by
  rw [Zo,Qlo]
  cases t with
  | false=>rfl
  | true =>
   rw [cond_true,if_pos rfl,QL (by unfold maxLen; omega),QqU hn hN hL _ _ _ _ (fun _ h=>h) hb]
   cases hp : VX N.length (N.flatMap fun n=>(Xj s n).map (HQ n)) lv false with
   | none=>rfl
   | some r =>
    obtain ⟨lv',t'⟩:=r
    simp only
    exact QqV hn hN hL m t' lv' (W6 hp hb)
theorem QoW {N : List Qk} (m : Nat) (M : List (Qk × List Qx)) : ∀ (l pre : List Qk),(pre ++ l).Nodup →
  Q0 m N M l (Qes pre fun _=>0) = Zo N M m true (Qes (pre ++ l) fun _=>0)
 | [],pre,_=>by rw [Q0,List.append_nil]
 | n :: l,pre,hn=>by
  have h1 : n ∉ pre:=fun h=>(List.nodup_append.1 hn).2.2 n h n List.mem_cons_self rfl
  rw [Q0,show QaA QB (Qes pre fun _=>0) n 0 = Qes (pre ++ [n]) fun _=>0 from (QzS (fun _=>((0 : Nat) : Int)) 0 h1).trans (by rw [Qes,List.map_append]; rfl),QoW m M l (pre ++ [n]) (by rw [List.append_assoc]; exact hn),List.append_assoc]
  rfl
theorem Qmk {s : Qa} (hg : SchGood s) (m : Nat) : ∀ (l pre : List Qk),(∀ n ∈ l,n ∈ JK s) → (pre ++ l).Nodup →
  Zg m (JK s) s l (QoV s pre) = Q0 m (JK s) (QoV s (pre ++ l)) (JK s) []
 | [],pre,_,_=>by
  have:=Qwi hg
  rw [Zg,List.append_nil,QL (by unfold maxLen; omega)]
 | n :: l,pre,hl,hn=>by
  have h1 : n ∉ pre:=fun h=>(List.nodup_append.1 hn).2.2 n h n List.mem_cons_self rfl
  rw [Zg,(QqT hg (hl n List.mem_cons_self)).1,Option.bind_some,show QaA QB (QoV s pre) n (Xj s n) = QoV s (pre ++ [n]) from (QzS (Xj s) _ h1).trans (by rw [QoV,List.map_append]; rfl),Qmk hg m l (pre ++ [n]) (fun n hn=>hl n (List.mem_cons_of_mem _ hn)) (by rw [List.append_assoc]; exact hn),List.append_assoc]
  rfl
theorem QzT {s : Qa} (hg : SchGood s) : ∃ b,ZT s = some (QGP (JK s) b) ∧ (b.isSome = true ↔ ∃ L,W4 (QiX s) L):=by
 have hN:=Qwi hg
 have hn:=QwR hg
 have hE : ∀ e ∈ QCa s,e.1 ∈ JK s ∧ e.2.1 ∈ JK s:=fun e he=>QzO hg e ((QzN hg e).1 he)
 have hL : ∀ n ∈ JK s,(Xj s n).length ≤ maxLen ∧ ∀ e ∈ Xj s n,e.1 ∈ JK s:=fun n hn=>⟨by
  have:=(QqT hg hn).2
  unfold maxLen; omega,fun e he=>(hE (HQ n e) (List.mem_flatMap.2 ⟨n,hn,List.mem_map_of_mem he⟩)).2⟩
 obtain ⟨b,h1,h2⟩:=QEU hE ((JK s).length * (JK s).length) (fun _=>0) (fun _=>Nat.zero_le _) (Nat.le_add_left _ _) fun _ _ _ _=>Nat.zero_le _
 refine ⟨b,Qbn ⟨(JK s).length * (JK s).length + 2,fun m hm=>?_⟩,h2.trans (QDJ (QzN hg))⟩
 show Y8 m s = _
 unfold Y8
 rw [QAC hg.toSchLen (by omega),Option.bind_some,QL (by unfold maxLen; omega)]
 refine (Qmk hg m (JK s) [] (fun _ h=>h) hn).trans ((QoW m _ (JK s) [] hn).trans ?_)
 rw [List.nil_append]
 refine (QqV hn hN hL m true (fun _=>0) fun _=>Nat.zero_le _).trans ?_
 rw [show ((JK s).flatMap fun n=>(Xj s n).map (HQ n)) = QCa s from rfl,h1 m hm]; rfl
theorem QsA {s : Qa} (hs : SchBd s) : ∃ b,JO s = some b ∧ JS s = some b:=by
 rw [QoR hs,QoT hs]
 cases h : QzE s with
 | false=>exact ⟨_,rfl,rfl⟩
 | true =>
  have hg:=QGr hs h
  obtain ⟨b,h1,h2⟩:=QzT hg
  have h3:=QDI (QzO hg) (k:=(JK s).length + 2) (by omega)
  rw [QxQ hg,h1]
  refine ⟨_,rfl,?_⟩
  show some (QGP (JK s) b).2 = some (QGO (JK s) _).2
  generalize QdG (JK s).length (QiX s) ((JK s).length + 2) (fun _=>0) = c at h3
  have h4:=h2.trans h3.symm
  cases b <;> cases c
  ·rfl
  ·exact absurd (h4.2 rfl) (by decide)
  ·exact absurd (h4.1 rfl) (by decide)
  ·rfl
end
end Go.Ab
