import Derived.Test.YtafopbigcffjgaaGreatAb26
namespace Go.Ab
structure EnvOk (E : TEnv) (P : Program) (L : Pl) : Prop where
 prog : E.P = P
 text : ∀ g,Qs2 E.gt g = true → QjJ P g
 hot : ∀ g t,Qd5 g t E.hs = true → Qcw P g t
 hdr : ∃ O0 cap,L.hdr = .slice (some ⟨L.B,O0,none⟩) L.n.toNat cap ∧ L.O = O0 + L.i.toNat * E.m
 i : 0 ≤ L.i ∧ L.i < L.n ∧ L.n ≤ 9223372036854775807
section
variable {P : Program} {L : Pl} {nn : Nat} {s s' : TS} {k k' : Int} {us : List Value} {a : Act} {w0 w : World} {arr0 : Array Value} {T0 : TypeId} {cs cs' : List V} {bs : List Nat} {E : TEnv}
def After (E : TEnv) (L : Pl) (nn : Nat) (w0 : World) (arr0 : Array Value) (T0 : TypeId) (bs : List Nat) (s : TS) (us : List Value) (s' : TS) (cs' : List V) (k' : Int) (a' : Act) (w' : World) : Prop :=
 ∃ us',(s.mv ≤ s'.mv ∧ (s'.mv = s.mv → us' = us)) ∧ SimV L nn s' k' us' a' ∧ Mem L w0 arr0 T0 cs' us' bs w' ∧ cs'.length = E.m ∧ 0 ≤ k' ∧ k' ≤ Q2
theorem Qd6 {k : Int} (h0 : 0 ≤ k) (h1 : k ≤ Q2) : inK .i64 k = true:=by
 rw [Jz,GI,VB]
 unfold Q2 at h1
 omega
def Qs3 : Me:=⟨fun _=>none,fun _ _=>none,fun _=>none,0,.no⟩
theorem Qfb {o : Oper} {op : BinOp} {t t' : TypeId} {x y : Operand} (hop : o.op = .binOp op t x y t') {p q : Int} (hx : a.eval x = .int .i64 p) (hy : a.eval y = .int .i64 q) (hp : inK .i64 p = true) (hq : inK .i64 q = true) {r : V}
  (h : W4 P op t (.d (.int .i64) p) (.d (.int .i64) q) some = some r) : ∃ u,RelV Qs3 r u ∧ (execOp a.eval o).run P w = .ok (.value u) w:=by
 obtain ⟨v,u,h1,h2,h3,_⟩:=Qgl (X:=x) (Y:=y) (w:=w) (M:=Qs3) h (.mkInt hp) (.mkInt hq)
 cases h1
 refine ⟨u,h3,?_⟩
 simp only [execOp,hop,hx,hy]
 have:=h2 w
 rw [Sem.run_bind,this]
 rfl
theorem QpI (hE : EnvOk E P L) (hs : SimV L nn s k us a) (hm : Mem L w0 arr0 T0 cs us bs w) (hc : cs.length = E.m) (h0 : 0 ≤ k) (h1 : k ≤ Q2) {o : Oper} (hd : ∀ t,o.dst = some t → t < nn) {op : BinOp} {t t' : TypeId} {x y : Operand} (hop : o.op = .binOp op t x y t') {as : List Act1}
  (h : Qsr s o.dst op (s.ev x) (s.ev y) = some (s',as)) (hr : J3 as (cs,k) = some (cs',k')) (Q : Exit → Act → World → Prop) :
  o.wp P a w (After E L nn w0 arr0 T0 bs s us s' cs' k') Q:=by
 have hx:=hs.ev x
 have hy:=hs.ev y
 have hkk:=Qd6 h0 h1
 have hi:=hE.i
 have hin : inK .i64 L.i = true:=Jz.2 (by rw [GI,VB]; omega)
 have hnn : inK .i64 L.n = true:=Jz.2 (by rw [GI,VB]; omega)
 have fin : ∀ {m : MV} {u : Value},(execOp a.eval o).run P w = .ok (.value u) w → Qcx L s k us m u → m.vle s.ver s.mv → s' = s.put o.dst m → as = [] → o.wp P a w (After E L nn w0 arr0 T0 bs s us s' cs' k') Q:=by
  intro m u hrun hmv hvl e1 e2
  subst e1; subst e2
  simp only [J3,Option.some.injEq,Prod.mk.injEq] at hr
  obtain ⟨rfl,rfl⟩:=hr
  exact QhW hrun ⟨us,⟨by rw [TS.put_mv]; exact Nat.le_refl _,fun _=>rfl⟩,hs.put rfl (Nat.le_refl _) (fun _=>rfl) (Nat.le_refl _) (fun _=>rfl) hd hmv hvl,hm,hc,h0,h1⟩
 unfold Qsr at h
 split at h
 ·rename_i j n ex ey
  obtain ⟨hb,h2⟩:=Qe h
  clear h
  simp only [Bool.and_eq_true,decide_eq_true_eq] at hb
  obtain ⟨hj,hn⟩:=hb
  subst hn
  have hj:=Nat.eq_of_beq_eq_true hj
  rw [ex] at hx; rw [ey] at hy
  have hx:=hx hj
  cases h2
  simp only [J3,XH] at hr
  split at hr
  case isFalse=>cases hr
  rename_i hlt
  simp only [Option.bind_some,Option.some.injEq,Prod.mk.injEq] at hr
  obtain ⟨rfl,rfl⟩:=hr
  obtain ⟨u,hu,hrun⟩:=Qfb (P:=P) (w:=w) hop hx hy hkk (by decide) (r:=.d (.int .i64) (IntKind.wrap .i64 (k + 1))) (by simp [W4])
  obtain ⟨rfl,_⟩:=hu.int_inv
  rw [wrap_i64 (by omega) hlt] at hrun
  exact QhW hrun ⟨us,⟨by rw [TS.put_mv]; exact Nat.le_refl _,fun _=>rfl⟩,hs.put (s1:={ s with ver:=s.ver + 1 }) rfl (Nat.le_succ _) (fun e=>absurd e (by simp)) (Nat.le_refl _) (fun _=>rfl) hd (fun _=>rfl) (Nat.le_refl _),hm,hc,by omega,hlt⟩
 ·rename_i n ex ey
  obtain ⟨hb,h2⟩:=Qe h
  clear h
  simp only [decide_eq_true_eq] at hb
  subst hb
  rw [ex] at hx; rw [ey] at hy
  cases h2
  obtain ⟨u,hu,hrun⟩:=Qfb (P:=P) (w:=w) hop hx hy hin (by decide) (r:=.d (.int .i64) (IntKind.wrap .i64 (L.i + 1))) (by simp [W4])
  obtain ⟨rfl,_⟩:=hu.int_inv
  exact fin (m:=.ix1) hrun rfl trivial rfl rfl
 ·rename_i ex ey
  rw [ex] at hx; rw [ey] at hy
  cases h
  obtain ⟨u,hu,hrun⟩:=Qfb (P:=P) (w:=w) hop hx hy hin hnn (r:=.d .bool (decide (L.i < L.n))) (by simp [W4,QrN])
  have:=hu.bool_inv
  subst this
  exact fin (m:=.lt) hrun rfl trivial rfl rfl
 ·rename_i j n ex ey
  obtain ⟨hb,h2⟩:=Qe h
  clear h
  simp only [Bool.and_eq_true,decide_eq_true_eq] at hb
  obtain ⟨hj,hn⟩:=hb
  subst hn
  have hj:=Nat.eq_of_beq_eq_true hj
  rw [ex] at hx; rw [ey] at hy
  have hx:=hx hj
  cases h2
  obtain ⟨u,hu,hrun⟩:=Qfb (P:=P) (w:=w) hop hx hy hkk (by decide) (r:=.d (.int .i64) (Int.tmod k 3)) (by simp [W4])
  obtain ⟨rfl,_⟩:=hu.int_inv
  exact fin (m:=.r3 j) hrun (fun _=>rfl) (by rw [hj]; exact Nat.le_refl _) rfl rfl
 ·rename_i j n ex ey
  obtain ⟨hb,h2⟩:=Qe h
  clear h
  simp only [Bool.and_eq_true,decide_eq_true_eq] at hb
  obtain ⟨hj,hn⟩:=hb
  subst hn
  have hj:=Nat.eq_of_beq_eq_true hj
  rw [ex] at hx; rw [ey] at hy
  have hx:=hx hj
  cases h2
  obtain ⟨u,hu,hrun⟩:=Qfb (P:=P) (w:=w) hop hx hy (Qpe hkk) (by decide) (r:=.d .bool (decide (Int.tmod k 3 = 0))) (by simp [W4,QrN])
  have:=hu.bool_inv
  subst this
  exact fin (m:=.b3 j) hrun (fun _=>rfl) (by rw [hj]; exact Nat.le_refl _) rfl rfl
 ·cases h
theorem QoT (hE : EnvOk E P L) (hs : SimV L nn s k us a) (hm : Mem L w0 arr0 T0 cs us bs w) (hc : cs.length = E.m) (h0 : 0 ≤ k) (h1 : k ≤ Q2) {o : Oper} (hd : ∀ t,o.dst = some t → t < nn) {g : Nat} {args : Array Operand} {ats : Array TypeId} (hop : o.op = .call ⟨.value (.func g),args,ats⟩) {as : List Act1}
  (h : Qqt E s o.dst g (args.toList.map s.ev) = some (s',as)) (hr : J3 as (cs,k) = some (cs',k')) (Q : Exit → Act → World → Prop) :
  o.wp P a w (After E L nn w0 arr0 T0 bs s us s' cs' k') Q:=by
 have hexec : ∀ {vals : List Value},args.toList.map a.eval = vals → Z8 P g = true → (execOp a.eval o).run P w = .ok (.enter g vals.toArray) w:=by
  intro vals hv hb
  have e1 : args.map a.eval = vals.toArray:=by rw [← hv,← Array.toList_map,Array.toArray_toList]
  simp [execOp,hop,resolve,Act.eval,Deferred.ofValue,invoke,V8 hb,← e1]
 have hev : ∀ (xs : List Operand) (ms : List MV),xs.map s.ev = ms → (xs.map a.eval).length = ms.length ∧ ∀ (i : Nat) (m : MV) (u : Value),ms[i]? = some m → (xs.map a.eval)[i]? = some u → Qcx L s k us m u:=by
  intro xs ms e
  subst e
  refine ⟨by simp,fun i m u hm hu=>?_⟩
  rw [List.getElem?_map] at hm hu
  cases hx : xs[i]? with
  | none=>rw [hx] at hm; cases hm
  | some x =>
   rw [hx] at hm hu
   cases hm; cases hu
   exact hs.ev x
 unfold Qqt at h
 split at h
 ·rename_i j hargs
  obtain ⟨hb,h⟩:=Qe h
  simp only [Bool.and_eq_true] at hb
  have hg:=hb.1
  have hj:=Nat.eq_of_beq_eq_true hb.2
  cases h
  simp only [J3,Option.some.injEq,Prod.mk.injEq] at hr
  obtain ⟨rfl,rfl⟩:=hr
  obtain ⟨hl,hat⟩:=hev _ _ hargs
  obtain ⟨u,hu⟩ : ∃ u,args.toList.map a.eval = [u]:=List.length_eq_one_iff.1 hl
  have hk:=hat 0 _ u rfl (by rw [hu]; rfl) hj
  subst hk
  obtain ⟨hb,htx⟩:=hE.text g hg
  unfold Oper.wp
  rw [hexec hu hb,Oper.upon_enter]
  refine (htx w k h0 h1).mono fun e w'=>?_
  rintro ⟨b,rfl,q1,q2,q3⟩
  refine ⟨us,⟨by rw [TS.put_mv]; exact Nat.le_refl _,fun _=>rfl⟩,hs.put rfl (Nat.le_refl _) (fun _=>rfl) (Nat.le_refl _) (fun _=>rfl) hd (m:=.txt j) (fun _=>⟨b,rfl,q1,q2⟩) (by rw [hj]; exact Nat.le_refl _),?_,hc,h0,h1⟩
  obtain ⟨⟨arr,m1,m2,m3,m4⟩,m5,m6,m7,m8,m9,m10,m11,m12,⟨m13,m13'⟩,m14,m15⟩:=hm
  have hblk : ∀ c,c < w.heap.size → w'.heap[c]? = w.heap[c]?:=fun c hc=>q3.block c hc
  refine ⟨⟨arr,by rw [hblk _ (by omega)]; exact m1,m2,m3,m4⟩,XI m5 (fun c hc=>hblk c (by have:=m13' c hc; omega)),m6,m7,m8,q3.os.trans m9,q3.tape.trans m10,q3.output.trans m11,Nat.le_trans m12 q3.size,⟨m13,m13'⟩,fun c h1 h2 h3=>(hblk c (by omega)).trans (m14 c h1 h2 h3),Nat.le_trans m15 q3.drawn⟩
 ·rename_i off t m j hargs
  obtain ⟨hb,h⟩:=Qe h
  simp only [Bool.and_eq_true] at hb
  obtain ⟨⟨⟨⟨hj,hmv⟩,hhot⟩,hfit⟩,hdok⟩:=hb
  have hj:=Nat.eq_of_beq_eq_true hj
  have hmv:=Nat.eq_of_beq_eq_true hmv
  have hfit:=Nat.le_of_ble_eq_true hfit
  cases h
  simp only [J3,XH] at hr
  split at hr
  case h_2=>cases hr
  rename_i x hx
  split at hr
  case isFalse=>cases hr
  rename_i hlt
  simp only [Option.bind_some,Option.some.injEq,Prod.mk.injEq] at hr
  obtain ⟨rfl,rfl⟩:=hr
  obtain ⟨hl,hat⟩:=hev _ _ hargs
  obtain ⟨u1,u2,hu⟩ : ∃ u1 u2,args.toList.map a.eval = [u1,u2]:=by
   generalize args.toList.map a.eval = l at hl
   match l,hl with
   | [u1,u2],_=>exact ⟨u1,u2,rfl⟩
  have hk:=hat 1 _ u2 rfl (by rw [hu]; rfl) hj
  subst hk
  have hsub:=hat 0 _ u1 rfl (by rw [hu]; rfl) hmv
  obtain ⟨hb,hmk⟩:=hE.hot g t hhot
  obtain ⟨⟨arr,m1,m2,m3,m4⟩,m5,m6,m7,m8,m9,m10,m11,m12,⟨m13,m13'⟩,m14,m15⟩:=hm
  obtain ⟨b1,b23,e1,d1,d23⟩:=WR off m5
  obtain ⟨b2,b3,e2,d2,d3⟩:=WR t.cells d23
  have hul : us.length = cs.length:=(Qgr m5).symm
  have hD:=V7 hdok hx d2
  have hU : QkW w t x u1 b2:=by
   unfold QkW
   cases hsc : t.scalar with
   | true =>
    rw [hsc] at hsub
    have hc1 : t.cells = 1:=by cases t <;> first | rfl | (simp [Ty.scalar] at hsc)
    rw [hc1] at hD
    have hlt : off < us.length:=by rw [hul]; omega
    have e : (us.drop off).take 1 = [u1]:=by
     have hsub : us[off]? = some u1:=hsub
     rw [List.drop_eq_getElem_cons hlt,List.take_succ_cons,List.take_zero]
     rw [List.getElem?_eq_getElem hlt] at hsub
     rw [Option.some.inj hsub]
    rw [e] at hD
    exact hD
   | false =>
    rw [hsc] at hsub
    exact ⟨_,hsub,hD⟩
  have hsubl : ∀ c ∈ b2,c ∈ bs:=fun c hc=>by rw [e1,e2]; simp [hc]
  have hbn : (b1 ++ (b2 ++ b3)).Nodup:=by rw [← e2,← e1]; exact m8
  obtain ⟨n1,n23,n4⟩:=List.nodup_append.1 hbn
  obtain ⟨n2,n3,n5⟩:=List.nodup_append.1 n23
  unfold Oper.wp
  rw [hexec hu hb,Oper.upon_enter]
  refine (hmk w u1 b2 x k hU n2 h0 hlt).mono fun e w'=>?_
  rintro ⟨rfl,q2,q3⟩
  have hk' : (YN t x k).1 = k + VC t x:=W1 t x k
  have hblk : ∀ c,c < w.heap.size → c ∉ b2 → w'.heap[c]? = w.heap[c]?:=q3.block
  have hD' : DeepD w' t (YN t x k).2 ((us.drop off).take t.cells) b2:=by
   unfold QkW at q2 hU
   cases hsc : t.scalar with
   | true =>
    rw [hsc] at q2 hsub
    have hc1 : t.cells = 1:=by cases t <;> first | rfl | (simp [Ty.scalar] at hsc)
    rw [hc1]
    have hlt : off < us.length:=by rw [hul]; omega
    have e : (us.drop off).take 1 = [u1]:=by
     have hsub : us[off]? = some u1:=hsub
     rw [List.drop_eq_getElem_cons hlt,List.take_succ_cons,List.take_zero]
     rw [List.getElem?_eq_getElem hlt] at hsub
     rw [Option.some.inj hsub]
    rw [e]
    exact q2
   | false =>
    rw [hsc] at q2 hsub
    obtain ⟨arr',e,hq⟩:=q2
    have hsub : u1 = _:=hsub
    rw [hsub] at e
    cases e
    simpa using hq
  have hnew : Zh.DeepVL w' (Z4 cs off (Qm t (YN t x k).2)) us bs:=by
   have p1 : Zh.DeepVL w' (cs.take off) (us.take off) b1:=XI d1 fun c hc=>hblk c (by have:=m13' c (by rw [e1]; simp [hc]); omega) fun hm=>n4 c hc c (by simp [hm]) rfl
   have p3 : Zh.DeepVL w' ((cs.drop off).drop t.cells) ((us.drop off).drop t.cells) b3:=XI d3 fun c hc=>hblk c (by have:=m13' c (by rw [e1,e2]; simp [hc]); omega) fun hm=>n5 c hm c hc rfl
   have p2:=V6 hD'
   have hj:=UC p1 (UC p2 p3)
   unfold Z4
   rw [ZX,e1,e2,← List.drop_drop]
   have ec : us = us.take off ++ ((us.drop off).take t.cells ++ (us.drop off).drop t.cells):=by rw [List.take_append_drop,List.take_append_drop]
   rw [List.append_assoc]
   rw [ec]
   exact hj
  have hspl : (Z4 cs off (Qm t (YN t x k).2)).length = cs.length:=Qox (by rw [ZX]; omega)
  refine ⟨us,⟨by rw [TS.put_mv]; exact Nat.le_refl _,fun _=>rfl⟩,hs.put (s1:={ s with ver:=s.ver + 1 }) rfl (Nat.le_succ _) (fun e=>absurd e (by simp)) (Nat.le_refl _) (fun _=>rfl) hd (fun _=>rfl) (Nat.le_refl _),?_,by rw [hspl]; exact hc,by omega,by omega⟩
  refine ⟨⟨arr,by rw [hblk _ (by omega) (fun hm=>m7 (hsubl _ hm))]; exact m1,m2,by rw [hspl]; exact m3,by rw [hspl]; exact m4⟩,hnew,by rw [hspl]; exact m6,m7,m8,q3.os.trans m9,q3.tape.trans m10,q3.output.trans m11,Nat.le_trans m12 q3.size,⟨m13,m13'⟩,fun c h1 h2 h3=>(hblk c (by omega) (fun hm=>h3 (hsubl c hm))).trans (m14 c h1 h2 h3),Nat.le_trans m15 q3.drawn⟩
 ·cases h
end
end Go.Ab
