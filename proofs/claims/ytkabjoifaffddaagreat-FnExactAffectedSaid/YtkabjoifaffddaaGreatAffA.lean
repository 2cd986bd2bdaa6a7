import Derived.Test.YtkabjoifaffddaaGreatDepA
namespace Go.Ab
open Go.Proofs
noncomputable section
def Qan (M:List (Qi × Bool)):Qi→Bool:=fun n=>JW Qs M n false
theorem Qu4 (M:List (Qi × Bool)) (x:Qi) (y:Bool):Qan (H9 Qs M x y)=Qds (Qan M) x y:=by
 funext z
 unfold Qan
 induction M with
 | nil =>
  rw [H9,JW,JW]
  by_cases h:z=x
  ·rw [show @decide (z=(x,y).1) (Ty.decEq Qs z (x,y).1)=true from @decide_eq_true _ (Ty.decEq Qs z (x,y).1) h,cond_true,h,Qf9]
  ·rw [show @decide (z=(x,y).1) (Ty.decEq Qs z (x,y).1)=false from @decide_eq_false _ (Ty.decEq Qs z (x,y).1) h,cond_false,Qbn _ _ h];rfl
 | cons e M ih =>
  rw [H9]
  by_cases hx:x=e.1
  ·rw [show @decide (x=e.1) (Ty.decEq Qs x e.1)=true from @decide_eq_true _ (Ty.decEq Qs x e.1) hx,cond_true,JW]
   by_cases h:z=x
   ·rw [show @decide (z=(x,y).1) (Ty.decEq Qs z (x,y).1)=true from @decide_eq_true _ (Ty.decEq Qs z (x,y).1) h,cond_true,h,Qf9]
   ·have h2:¬ z=e.1:=fun e1=>h (e1.trans hx.symm)
    rw [show @decide (z=(x,y).1) (Ty.decEq Qs z (x,y).1)=false from @decide_eq_false _ (Ty.decEq Qs z (x,y).1) h,cond_false,Qbn _ _ h,JW,show @decide (z=e.1) (Ty.decEq Qs z e.1)=false from @decide_eq_false _ (Ty.decEq Qs z e.1) h2,cond_false]
  ·rw [show @decide (x=e.1) (Ty.decEq Qs x e.1)=false from @decide_eq_false _ (Ty.decEq Qs x e.1) hx,cond_false,JW]
   by_cases h:z=e.1
   ·rw [show @decide (z=e.1) (Ty.decEq Qs z e.1)=true from @decide_eq_true _ (Ty.decEq Qs z e.1) h,cond_true,Qbn _ _ (fun e1=>hx (e1.symm.trans h)),JW,show @decide (z=e.1) (Ty.decEq Qs z e.1)=true from @decide_eq_true _ (Ty.decEq Qs z e.1) h,cond_true]
   ·rw [show @decide (z=e.1) (Ty.decEq Qs z e.1)=false from @decide_eq_false _ (Ty.decEq Qs z e.1) h,cond_false,ih]
    unfold Qds
    split
    ·rfl
    ·exact (show JW Qs (e::M) z false=JW Qs M z false by rw [JW,show @decide (z=e.1) (Ty.decEq Qs z e.1)=false from @decide_eq_false _ (Ty.decEq Qs z e.1) h,cond_false]).symm
theorem Qqp (n:Qi):∀ (l:List Qy) (t:Bool) (M:List (Qi × Bool)),∃ M',Qan M'=(VK (l.map (Gk n)) (Qan M) t).1∧∀ K,ZB K n l t M=K (VK (l.map (Gk n)) (Qan M) t).2 M'
 | [],t,M=>⟨M,rfl,fun _=>rfl⟩
 | e::l,t,M=>by
  rw [List.map_cons,VK]
  have hc:(Qan M (Gk n e).2.1=true∧Qan M (Gk n e).1=false)↔(JW Qs M e.1 false=true∧JW Qs M n false=false):=Iff.rfl
  by_cases h:JW Qs M e.1 false=true∧JW Qs M n false=false
  ·rw [if_pos (hc.2 h)]
   obtain ⟨M',h1,h2⟩:=Qqp n l true (H9 Qs M n true)
   rw [Qu4] at h1 h2
   refine ⟨M',h1,fun K=>?_⟩
   rw [ZB,h.1,h.2]
   exact h2 K
  ·rw [if_neg fun h'=>h (hc.1 h')]
   obtain ⟨M',h1,h2⟩:=Qqp n l t M
   refine ⟨M',h1,fun K=>?_⟩
   rw [ZB,h2]
   cases k1:JW Qs M e.1 false with
   | false=>rfl
   | true =>
    cases k2:JW Qs M n false with
    | true=>rfl
    | false=>exact (h ⟨k1,k2⟩).elim
theorem QtD {s:Qa} (hg:SchGood s):∀ (r:List Qi) (t:Bool) (M:List (Qi × Bool)),(∀ n∈r,n∈QH s)→∃ M',Qan M'=(VK (r.flatMap fun n=>(Gj s n).map (Gk n)) (Qan M) t).1∧∀ K,Yu K s r t M=K (VK (r.flatMap fun n=>(Gj s n).map (Gk n)) (Qan M) t).2 M'
 | [],t,M,_=>⟨M,rfl,fun _=>rfl⟩
 | n::r,t,M,hr=>by
  obtain ⟨h1,h2⟩:=Qgx hg (hr n List.mem_cons_self)
  obtain ⟨M1,a1,a2⟩:=Qqp n (Gj s n) t M
  obtain ⟨M2,b1,b2⟩:=QtD hg r (VK ((Gj s n).map (Gk n)) (Qan M) t).2 M1 fun n hn=>hr n (List.mem_cons_of_mem _ hn)
  rw [List.flatMap_cons,Qig,← a1]
  refine ⟨M2,b1,fun K=>?_⟩
  rw [Yu,h1,Option.bind_some,Qw (by unfold maxLen;omega),a2,b2]
theorem Qv5 {s:Qa} (hg:SchGood s):∀ (m:Nat) (M:List (Qi × Bool)),(QH s).length≤QwZ (QH s) (Qan M)+m →
  ∃ M',(∀ k,m+2≤k→Zg s k true M=some M')∧(∀ x,Qan M x=true→Qan M' x=true)∧Qcz (Qal s) (Qan M')∧∀ h:Qi→Bool,(∀ x,Qan M x=true→h x=true)→Qcz (Qal s) h→∀ x,Qan M' x=true→h x=true:=by
 have hN:=W7 hg
 have hE:∀ e∈Qal s,e.1∈QH s:=fun e he=>(Qfo hg e ((Qam hg e).1 he)).1
 have step:∀ M,∃ M1,Qan M1=(VK (Qal s) (Qan M) false).1∧∀ k,Zg s (k+1) true M=Zg s k (VK (Qal s) (Qan M) false).2 M1:=by
  intro M
  obtain ⟨M1,a1,a2⟩:=QtD hg (QH s) false M fun _ h=>h
  refine ⟨M1,a1,fun k=>?_⟩
  rw [Zg,Qgw hg.toSchLen (by omega),Option.bind_some,Qw (by unfold maxLen;omega)]
  exact a2 _
 intro m
 induction m with
 | zero =>
  intro M hs
  obtain ⟨M1,a1,a2⟩:=step M
  cases ht:(VK (Qal s) (Qan M) false).2 with
  | true=>have:=Qlb hE ht;have:=QyH (QH s) (VK (Qal s) (Qan M) false).1;omega
  | false =>
   obtain ⟨_,h2,h3⟩:=Qfh ht
   rw [h2] at a1
   refine ⟨M1,fun k hk=>?_,fun x h=>by rw [a1];exact h,by rw [a1];exact h3,fun h hf _ x hx=>hf x (by rw [a1] at hx;exact hx)⟩
   obtain ⟨k,rfl⟩:∃ j,k=j+2:=⟨k - 2,by omega⟩
   rw [a2,ht];rfl
 | succ m ih =>
  intro M hs
  obtain ⟨M1,a1,a2⟩:=step M
  cases ht:(VK (Qal s) (Qan M) false).2 with
  | true =>
   have:=Qlb hE ht
   obtain ⟨M',h1,h2,h3,h4⟩:=ih M1 (by rw [a1];omega)
   rw [a1] at h2 h4
   refine ⟨M',fun k hk=>?_,fun x hx=>h2 x (QkC hx),h3,fun h hf hc=>h4 h (Qla hf hc) hc⟩
   obtain ⟨k,rfl⟩:∃ j,k=j+1:=⟨k - 1,by omega⟩
   rw [a2,ht];exact h1 k (by omega)
  | false =>
   obtain ⟨_,h2,h3⟩:=Qfh ht
   rw [h2] at a1
   refine ⟨M1,fun k hk=>?_,fun x h=>by rw [a1];exact h,by rw [a1];exact h3,fun h hf _ x hx=>hf x (by rw [a1] at hx;exact hx)⟩
   obtain ⟨k,rfl⟩:∃ j,k=j+2:=⟨k - 2,by omega⟩
   rw [a2,ht];rfl
theorem Qo6 (m:Nat) (s:Qa):∀ (ws:List Q5) (M:List (Qi × Bool)),∃ M',(∀ m,GC m s ws M=Zg s m true M')∧∀ x,Qan M' x=(Qan M x||ws.any fun w=>decide (Xe w=x))
 | [],M=>⟨M,fun _=>rfl,fun x=>by rw [List.any_nil,Bool.or_false]⟩
 | w::ws,M=>by
  obtain ⟨M',h1,h2⟩:=Qo6 m s ws (H9 Qs M (Xe w) true)
  refine ⟨M',fun m=>by rw [GC];exact h1 m,fun x=>?_⟩
  rw [h2,Qu4,List.any_cons]
  unfold Qds
  by_cases h:x=Xe w
  ·rw [if_pos h,decide_eq_true h.symm];simp
  ·rw [if_neg h,decide_eq_false (fun e=>h e.symm),Bool.false_or]
theorem Qqq {s:Qa} (hg:SchGood s) {ws:List Q5} (hw:∀ w∈ws,Xe w∈QH s) (hl:ws.length≤maxLen):∃ M,W3 s ws=some M∧∀ x,Qan M x=QlN s ws x:=by
 obtain ⟨M0,h1,h2⟩:=Qo6 0 s ws []
 obtain ⟨M,k1,k2,k3,k4⟩:=Qv5 hg (QH s).length M0 (Nat.le_add_left _ _)
 refine ⟨M,XD ⟨(QH s).length+2,fun m hm=>?_⟩,fun x=>?_⟩
 ·show Qca m s ws=_
  unfold Qca
  rw [Qw hl,h1]
  exact k1 m hm
 ·rw [Bool.eq_iff_iff]
  have hS:∀ y,Qan M0 y=true↔∃ w∈ws,Xe w=y:=fun y=>by
   rw [h2,show Qan [] y=false from rfl,Bool.false_or,List.any_eq_true]
   simp only [decide_eq_true_eq]
  have hR:Qan M x=true↔QkB (Qal s) (Qan M0) x:=⟨fun h f hf hc=>k4 f hf hc x h,fun h=>h _ k2 k3⟩
  rw [hR,Qx7 (Qam hg),Qzw]
  unfold QlN
  rw [List.any_eq_true]
  constructor
  ·rintro ⟨a,ha,hr⟩
   obtain ⟨w,hw',rfl⟩:=(hS a).1 ha
   exact ⟨w,hw',(Qu2 hg (hw w hw') x).2 hr⟩
  ·rintro ⟨w,hw',hr⟩
   exact ⟨_,(hS _).2 ⟨w,hw',rfl⟩,(Qu2 hg (hw w hw') x).1 hr⟩
theorem Qmj {lv:Qi→Nat} {N:List Qi}:∀ (r:List Qi) (acc:List Qh),(∀ n∈r,n∈N)→acc.length+r.length≤3000000→VP (Qaw N lv) r acc=some (acc++Q6 r lv)
 | [],acc,_,_=>by rw [VP];simp [Q6]
 | n::r,acc,hr,hl=>by
  simp only [List.length_cons] at hl
  rw [VP,Qqk (hr n List.mem_cons_self),QbI (by omega) (by omega) (by omega),Qmj r _ (fun n hn=>hr n (List.mem_cons_of_mem _ hn)) (by simp;omega)]
  simp [Q6]
def QtE (M:List (Qi × Bool)) (d:Qh):Bool:=JW Qs M (d.1,d.2.1) false
theorem Qnv (M:List (Qi × Bool)) (all:List Qh) (hall:all.length≤3000000):∀ (d m i j:Nat) (xs:List Qh),d=all.length - j→d<m→i<j→j≤all.length→xs.length=all.length→xs.take i=(all.take j).filter (QtE M)→xs.drop j=all.drop j →
  Z0 M m xs (i:Int) (j:Int)=some (all.filter (QtE M))
 | d,0,i,j,xs,_,h,_,_,_,_,_=>absurd h (Nat.not_lt_zero _)
 | d,m+1,i,j,xs,hd,hm,hij,hj,hlen,ht,hdr=>by
  rw [Z0]
  by_cases hjl:j<all.length
  ·have hjx:j<xs.length:=by omega
   have hix:i<xs.length:=by omega
   have hej:xs[j]? = some (all[j]):=by
    have:=congrArg (fun l=>l[0]?) hdr
    simp only [List.getElem?_drop,Nat.add_zero] at this
    rw [this,List.getElem?_eq_getElem hjl]
   rw [decide_eq_true (show (j:Int)<(xs.length:Int) by omega),YS hjx,YS hix,QkG hej,GH (len:=all.length) (by unfold maxLen;omega) hjl,GH (len:=all.length) (by unfold maxLen;omega) (show i<all.length by omega)]
   simp only [cond_true,Bool.and_true,Bool.not_not]
   have htk:all.take (j+1)=all.take j++[all[j]]:=by rw [List.take_add_one,List.getElem?_eq_getElem hjl];rfl
   have hdr1:∀ ys:List Qh,ys.drop j=all.drop j→ys.drop (j+1)=all.drop (j+1):=fun ys h=>by
    rw [← List.drop_drop,← List.drop_drop,h]
   cases hk:JW Qs M (all[j].1,all[j].2.1) false with
   | true =>
    simp only [cond_true]
    refine Qnv M all hall (d - 1) m (i+1) (j+1) _ (by omega) (by omega) (by omega) (by omega) (by rw [List.length_set];exact hlen) ?_ ?_
    ·rw [Int.toNat_natCast,List.take_add_one,List.getElem?_set_self hix,List.take_set_of_le (Nat.le_refl _),ht,htk,List.filter_append,List.filter_cons]
     rw [show QtE M all[j]=true from hk]
     rfl
    ·rw [Int.toNat_natCast,List.drop_set_of_lt (by omega)]
     exact hdr1 xs hdr
   | false =>
    simp only [cond_false]
    refine Qnv M all hall (d - 1) m i (j+1) xs (by omega) (by omega) (by omega) (by omega) hlen ?_ (hdr1 xs hdr)
    rw [ht,htk,List.filter_append,List.filter_cons,show QtE M all[j]=false from hk]
    simp
  ·have hje:j=all.length:=by omega
   rw [decide_eq_false (show ¬ (j:Int)<(xs.length:Int) by omega),decide_eq_true (show (0:Int)≤(i:Int) by omega),decide_eq_true (show (i:Int)≤(xs.length:Int) by omega)]
   have hl2:(xs.take (Int.toNat (i:Int))++List.replicate (xs.length - Int.toNat (i:Int)) (([]:List Int),([]:List Int),(0:Int))).length=xs.length:=by simp;omega
   rw [hl2,decide_eq_true (show (i:Int)≤(xs.length:Int) by omega)]
   simp only [Bool.and_true,cond_true,cond_false,Int.toNat_natCast]
   rw [List.take_append_of_le_length (by simp;omega),List.take_take,Nat.min_self,ht,hje,List.take_length]
theorem QtF (M:List (Qi × Bool)) (all:List Qh) (hall:all.length≤3000000) (m:Nat) (hm:all.length<m):∀ (r:List Qh) (k:Nat),r=all.drop k→(∀ d∈all.take k,QtE M d=true) →
  ZO m all M r k=some (all.filter (QtE M))
 | [],k,h,hk=>by
  have hle:all.length≤k:=by
   rcases Nat.lt_or_ge k all.length with h1 | h1
   ·rw [List.drop_eq_getElem_cons h1] at h;cases h
   ·exact h1
  rw [List.take_of_length_le hle] at hk
  rw [ZO,List.filter_eq_self.2 hk]
 | e::r,k,h,hk=>by
  obtain ⟨hlt,he,hr⟩:=Qlf h
  have htk:all.take (k+1)=all.take k++[e]:=by rw [List.take_add_one,he];rfl
  rw [ZO]
  simp only [Bool.and_true,cond_true]
  cases hkp:JW Qs M (e.1,e.2.1) false with
  | true =>
   simp only [Bool.not_true,cond_false]
   refine QtF M all hall m hm r (k+1) hr fun d hd=>?_
   rw [htk] at hd
   rcases List.mem_append.1 hd with hd | hd
   ·exact hk d hd
   ·rw [List.mem_singleton.1 hd];exact hkp
  | false =>
   simp only [Bool.not_false,cond_true]
   rw [decide_eq_false (show ¬ (k:Int)=-1 by omega),cond_false,GH (len:=all.length) (by unfold maxLen;omega) hlt]
   refine Qnv M all hall (all.length - (k+1)) m k (k+1) all rfl (by omega) (by omega) (by omega) rfl ?_ rfl
   rw [htk,List.filter_append,List.filter_cons,show QtE M e=false from hkp,List.filter_eq_self.2 hk]
   simp
theorem Qq3 {s:Qa} (hs:SchBd s) (h:QU s=some true) (h':Z8 s=some true) {lv:Qi→Nat} (hi:QT s=some (Qaw (QH s) lv,true)) {ws:List Q5} (hl:ws.length≤maxLen) (m:Nat) (hm:(QH s).length<m):∀ (r:List Q5),(∀ w∈r,wfD QE w) →
  (∀ w∈ws,okW s w=true∨w∈r)→(∀ w∈r,w∈ws)→VQ m ws s r=bif r.all (okW s) then some ((Q6 (QH s) lv).filter fun d=>QlN s ws (d.1,d.2.1)) else some []
 | [],_,hok,_=>by
  have hg:=Qql hs h
  have hN:=W7 hg
  have hw:∀ w∈ws,Xe w∈QH s:=fun w hw=>by
   rcases hok w hw with h | h
   ·unfold okW at h
    rw [Bool.and_eq_true] at h
    exact Qu0 h.2
   ·cases h
  obtain ⟨M,k1,k2⟩:=Qqq hg hw hl
  rw [VQ,k1,Option.bind_some,UI,h',Option.bind_some,hi]
  simp only [Bool.not_true,cond_false,Option.bind_some]
  rw [Qgw hg.toSchLen (by omega),Option.bind_some,Qw (by unfold maxLen;omega),Qmj _ _ (fun _ h=>h) (by simp;omega),Option.bind_some,List.nil_append,Qw (by rw [JM];unfold maxLen;omega)]
  have hdel:=QtF M (Q6 (QH s) lv) (by rw [JM];omega) m (by rw [JM];exact hm) (Q6 (QH s) lv) 0 rfl (by simp)
  rw [hdel]
  simp only [List.all_nil,cond_true,Option.some.injEq]
  refine congrArg (fun f=>(Q6 (QH s) lv).filter f) (funext fun d=>?_)
  exact k2 _
 | w::r,hw,hok,hin=>by
  have hww:wfD Vt w.2:=(hw w List.mem_cons_self).2
  rw [VQ,Qo3 hs hww,Option.bind_some,List.all_cons]
  have e1:decide (w.1<1)=!decide (1≤w.1):=by grind
  have e2:decide ((3:Int)<w.1)=!decide (w.1≤3):=by grind
  have e3:okW s w=(decide (1≤w.1)&&decide (w.1≤3)&&Qmi s w.2):=rfl
  rw [e1,e2]
  cases k1:decide (1≤w.1) with
  | false=>rw [e3,k1];rfl
  | true =>
   cases k2:decide (w.1≤3) with
   | false=>rw [e3,k1,k2];rfl
   | true =>
    cases k3:Qmi s w.2 with
    | false=>rw [e3,k1,k2,k3];rfl
    | true =>
     rw [k1,k2,k3] at e3
     simp only [Bool.not_true,cond_false]
     rw [Qq3 hs h h' hi hl m hm r (fun w hw'=>hw w (List.mem_cons_of_mem _ hw')) (fun x hx=>by
      rcases hok x hx with h | h
      ·exact .inl h
      ·rcases List.mem_cons.1 h with rfl | h
       ·exact .inl e3
       ·exact .inr h) (fun x hx=>hin x (List.mem_cons_of_mem _ hx)),e3]
     rfl
theorem Quc {s:Qa} (hs:SchBd s) {ws:List Q5} (hw:wfD (.list QE) ws):∃ l,VS s ws=some l∧GZ s ws=some l∧wfD (.list Qt) l∧l.length≤288:=by
 obtain ⟨b,g1,g2⟩:=Qnu hs
 have hnil:wfD (.list Qt) []:=⟨Nat.zero_le _,fun _ h=>by cases h⟩
 cases b with
 | false =>
  refine ⟨[],?_,XD ⟨0,fun m _=>?_⟩,hnil,Nat.zero_le _⟩
  ·rw [VS,g1];rfl
  ·show GY m s ws=_
   unfold GY
   rw [g2];rfl
 | true =>
  by_cases hb:1000<ws.length
  ·refine ⟨[],?_,XD ⟨0,fun m _=>?_⟩,hnil,Nat.zero_le _⟩
   ·rw [VS,g1,decide_eq_true (show (1000:Int)<(ws.length:Int) by omega)];rfl
   ·show GY m s ws=_
    unfold GY
    rw [g2,decide_eq_true (show (1000:Int)<(ws.length:Int) by omega)];rfl
  ·obtain ⟨lv,q1,q2,q3⟩:=Qxd hs g1
   have hg:=Qql hs g1
   have hN:=W7 hg
   have hsp:VS s ws=bif ws.all (okW s) then some ((Q6 (QH s) lv).filter fun d=>QlN s ws (d.1,d.2.1)) else some []:=by
    rw [VS,g1,decide_eq_false (show ¬ (1000:Int)<(ws.length:Int) by omega),Qw hw.1]
    simp only [Option.bind_some,Bool.not_true,cond_false]
    rw [Qu3 hs g1 q2 ws [] hw.2 (fun _ h=>by cases h) (by simp;omega)]
    simp only [QBh]
   have him:∀ m,(QH s).length<m→GY m s ws=bif ws.all (okW s) then some ((Q6 (QH s) lv).filter fun d=>QlN s ws (d.1,d.2.1)) else some []:=by
    intro m hm
    unfold GY
    rw [g2,decide_eq_false (show ¬ (1000:Int)<(ws.length:Int) by omega),Qw hw.1]
    simp only [Option.bind_some,Bool.not_true,cond_false]
    exact Qq3 hs g1 g2 q3 hw.1 m hm ws hw.2 (fun w h=>.inr h) fun _ h=>h
   cases hok:ws.all (okW s) with
   | false =>
    rw [hok] at hsp him
    exact ⟨[],hsp,XD ⟨(QH s).length+1,fun m hm=>him m (by omega)⟩,hnil,Nat.zero_le _⟩
   | true =>
    rw [hok] at hsp him
    refine ⟨_,hsp,XD ⟨(QH s).length+1,fun m hm=>him m (by omega)⟩,?_,Nat.le_trans (List.length_filter_le _ _) (by rw [JM];exact hN)⟩
    refine ⟨Nat.le_trans (List.length_filter_le _ _) (by rw [JM];unfold maxLen;omega),fun d hd=>?_⟩
    obtain ⟨n,hn,rfl⟩:=List.mem_map.1 (List.mem_filter.1 hd).1
    have hwt:∀ t∈s.2,wfD Qj t:=hg.wf.2.2
    obtain ⟨t,ht,hc⟩:=W8.1 hn
    have h1:wfD .str n.1∧wfD .str n.2:=by
     rcases hc with ⟨r,hr,rfl⟩ | ⟨p,hp,rfl⟩
     ·exact ⟨(hwt t ht).1,((hwt t ht).2.1.2 r hr).1⟩
     ·exact ⟨(hwt t ht).1,((hwt t ht).2.2.2 p hp).1⟩
    refine ⟨h1.1,h1.2,?_⟩
    have:=q1 n
    show inK .i64 ((lv n:Nat):Int)=true
    rw [VZ,WS,Ui]
    omega
theorem Qud (e:Qh):Wo Qt e=(1+(1+1)):=by kernel_rfl
theorem Que (e:Qh) (k:Int):XE Qt e k=((k+1+1+1),(QgN k,(QgN (k+1),(IntKind.wrap .i64 (k+1+1))))):=by kernel_rfl
theorem QhB:∀ (l:List Qh) (k:Int),(∀ e∈l,wfD Qt e)→0≤k→k+((l.map (Wo Qt)).sum:Nat)≤1099511627776→Vd (QaG (XE Qt) l k).2 k=some (QaG (XE Qt) l k).1
 | [],k,_,_,_=>rfl
 | e::l,k,hl,h0,h1=>by
  rw [List.map_cons,List.sum_cons,Qud] at h1
  have hw:=hl e (by simp)
  have ih:=QhB l (k+1+1+1) (fun p hp=>hl p (by simp [hp])) (by omega) (by omega)
  rw [QaG,Que]
  simp only
  rw [Vd]
  simp (disch:=omega) only [QB3,Qzt,Option.bind_some,decide_true,Bool.not_true,cond_false,Qzu]
  exact ih
theorem QtG {l:List Qh} (hw:wfD (.list Qt) l) (k:Int) (h0:0≤k) (h1:k+HS (.list Qt) l≤1099511627776):YC (Gl (.list Qt) l k).2 k=some (Gl (.list Qt) l k).1:=by
 have hlen:(Gl (.list Qt) l k).2.length=l.length:=QuM (XE Qt) l k
 rw [YC,Qw (by rw [hlen];exact hw.1)]
 exact QhB l k hw.2 h0 h1
theorem Qo7:∀ l:List Qh,HS (.list Qt) l=3*l.length
 | []=>rfl
 | x::l=>by
  have ih:=Qo7 l
  have e:HS (.list Qt) (x::l)=Wo Qt x+HS (.list Qt) l:=by unfold HS;rw [List.map_cons,List.sum_cons]
  rw [e,ih,List.length_cons]
  have:Wo Qt x=3:=rfl
  omega
theorem Qv6 (s:Qa) (ws:List Q5) (hw:wfD Qe s) (hws:wfD (.list QE) ws):Xp s ws=some true:=by
 rw [Xp,QnV hw (by omega) (by omega)]
 simp only [Option.bind_some]
 cases d1:decide (Vn 1048576 (Ty.size Qe s)<0) with
 | true=>rfl
 | false =>
 obtain ⟨b1,b2,b3⟩:=QAw d1
 rw [QnV hws b2 (by omega)]
 simp only [Option.bind_some,cond_false]
 cases d2:decide (Vn (Vn 1048576 (Ty.size Qe s)) (Ty.size (.list QE) ws)<0) with
 | true=>rfl
 | false =>
 obtain ⟨c1,c2,c3⟩:=QAw d2
 obtain ⟨zs,s1,s2,s3,s4⟩:=Quc (QAH hw (by omega)) hws
 have m1:=QsY (t:=Qe) (x:=s) (n:=1048576) (by omega) (by decide)
 have m3:=QsY (t:=.list QE) (x:=ws) (n:=1048576) (by omega) (by decide)
 have m2:=Qo7 zs
 have f1:(Gl Qe s 1).1=1+(HS Qe s:Nat):=WU ..
 have hk1:¬ (Gl (.list QE) ws (Gl Qe s 1).1).1<0:=by rw [WU,f1];omega
 have hk2:¬ (Gl (.list Qt) zs 1).1<0:=by rw [WU];omega
 have hh:=QtG s3 1 (by omega) (by omega)
 simp only [cond_false,Qer hw (by omega),Qer hws (by omega),Option.bind_some,s1,s2,QjH hw,QjH hws,QjH s3,decide_true,Bool.not_true,
  QmM (t:=Qe) (x:=s) (k:=1) (by omega) (by unfold ZT;omega),QmM (t:=.list QE) (x:=ws) (k:=(Gl Qe s 1).1) (by rw [f1];omega) (by unfold ZT;rw [f1];omega),decide_eq_false hk1]
 rw [Xo]
 simp only [QmM (t:=.list Qt) (x:=zs) (k:=1) (by omega) (by unfold ZT;omega),Option.bind_some,hh,decide_eq_false hk2,cond_false,decide_true,Bool.not_true,Qer hw (by omega),Qer hws (by omega),s2,QjH s3]
end
end Go.Ab
