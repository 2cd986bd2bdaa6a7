import Derived.Test.YtgmdnickgijkoaaGreatDoorGenSliceT
import Derived.Test.YtgmdnickgijkoaaGreatDoorPlain1
import Derived.Test.YtgmdnickgijkoaaGreatDoorAb24
namespace Go.Ab
open Go.Proofs
noncomputable section
theorem Qt5 (s : List Int) : Jr s = some (Qd0 s):=by
 induction s with
 | nil=>rfl
 | cons e r ih =>
  simp only [Jr,ih,Qd0,List.all_cons,QAy]
  grind
theorem QkQ {s : List Int} (h : s.length ≤ maxLen) : Je s = some (Qd0 s):=by
 rw [Je,QG h,Qt5]
theorem Qwo (s : List Int) : JX s = some (Qd0 s):=by
 induction s with
 | nil=>rfl
 | cons e r ih =>
  simp only [JX,ih,Qd0,List.all_cons,QAy]
  grind
theorem Qns {s : List Int} (lo hi : Int) (h : s.length ≤ maxLen) : JK s lo hi = some (QcU s lo hi):=by
 rw [JK,QG h,Qwo,QcU,Qd0]
 grind
theorem QhD (x : Int) : YR x = Qll x:=by unfold YR Qll; grind
theorem Qr9 (x : Int) : GH x = Qll x:=by unfold GH Qll; grind
theorem Qnt (x : Int) : VB x = Qjk x:=by unfold VB Qjk; grind
theorem QB4 (x : Int) : Hc x = Qjk x:=by unfold Hc Qjk; grind
theorem QkR (x : Int) : Ve x = QsG x:=by unfold Ve QsG; rw [QB4,Qr9]; grind
theorem Qwp (s : List Int) : ZK s = some (s.all QsG):=by
 induction s with
 | nil=>rfl
 | cons e r ih =>
  simp only [ZK,ih,List.all_cons,QsG,Qnt,QhD]
  grind
theorem Xo {s : List Int} (h : s.length ≤ maxLen) : Zn s = some (Xv s):=by
 rw [Zn,QG h,Qwp,Xv]
 simp only [QhD,inB]
 grind
theorem Qwq (s : List Int) : JY s = some (s.all QsG):=by
 induction s with
 | nil=>rfl
 | cons e r ih =>
  simp only [JY,ih,List.all_cons,QkR]
  grind
theorem H1 {s : List Int} (h : s.length ≤ maxLen) : ZN s = some (Xv s):=by
 rw [ZN,QG h,Qwq,Xv]
 simp only [Qr9,inB]
 cases s with
 | nil=>rfl
 | cons x s=>grind
theorem QAc (x : Int) (hx : x ≤ 62) : ∀ (m : Nat) (k : Int),0 ≤ k → k ≤ x → x - k < m → Vn x m (2 ^ k.toNat) k = some (2 ^ x.toNat):=by
 intro m
 induction m with
 | zero=>intro k _ _ h; omega
 | succ m ih =>
  intro k h0 hk hm
  rw [Vn]
  by_cases h : k < x
  ·have e : (2 : Int) ^ k.toNat * 2 = 2 ^ (k + 1).toNat:=by
    rw [show (k + 1).toNat = k.toNat + 1 by omega,Int.pow_succ]
   have hb : (2 : Int) ^ (k + 1).toNat ≤ 2 ^ 62:=by
    have:=Nat.pow_le_pow_right (n:=2) (by omega) (show (k + 1).toNat ≤ 62 by omega)
    exact_mod_cast this
   have hp : (0 : Int) < 2 ^ (k + 1).toNat:=Int.pow_pos (by omega)
   rw [decide_eq_true h,e,QoJ (by omega),QoJ (by omega)]
   exact ih _ (by omega) (by omega) (by omega)
  ·have : k = x:=by omega
   subst this
   rw [decide_eq_false h]; rfl
theorem Qsa {x : Int} (h0 : 0 ≤ x) (hx : x ≤ 62) : XN x = some (QHc x):=by
 refine VH ⟨x.toNat + 1,fun m hm=>?_⟩
 have:=QAc x hx m 0 (by omega) h0 (by omega)
 exact this
theorem QB5 {a : Atm} (h0 : 0 ≤ a.2.1) (h1 : a.2.1 ≤ 9223372036854775807) (h : a.2.1.tmod 64 ≤ 32) : GY a = some (a.2.1.tdiv 64,QHc (32 - a.2.1.tmod 64)):=by
 have hm:=Int.tmod_nonneg 64 h0
 have hd : a.2.1.tdiv 64 = a.2.1 / 64:=Int.tdiv_eq_ediv_of_nonneg h0
 rw [GY,QoJ (by omega),Qsa (by omega) (by omega),QoJ (by omega)]
 rfl
theorem Xp {a : Atm} (hw : wfD Qa a) : Zo a = some (GW a):=by
 have hw2 : inK .i64 a.1 = true ∧ inK .i64 a.2.1 = true ∧ wfD .str a.2.2.1 ∧ wfD .str a.2.2.2:=hw
 have h1:=XR hw2.2.2.1
 have h2:=XR hw2.2.2.2
 have hn:=hw2.2.1
 rw [VW,Ew,Uc] at hn
 have hp : XN 32 = some 4294967296:=Qsa (x:=32) (by omega) (by omega)
 have hb:=QB5 (a:=a)
 have hd : 0 ≤ a.2.1 → a.2.1.tdiv 64 = a.2.1 / 64:=fun h=>Int.tdiv_eq_ediv_of_nonneg h
 have hw1 : IntKind.wrap .i64 (4294967296 - 1) = 4294967295:=QoJ (by omega)
 have hpos : QHc (32 - a.2.1.tmod 64) ≠ 0:=by unfold QHc; exact Int.ne_of_gt (Int.pow_pos (by omega))
 have hwr : 0 ≤ a.2.1 → IntKind.wrap .i64 (a.2.1.tdiv 64) = a.2.1.tdiv 64:=fun h=>QoJ (by have:=hd h; omega)
 simp only [Zo,Z9,Gx,QkQ h1,Xo h2,hp,Option.bind_some,hw1]
 unfold GW QcU Qd0
 by_cases k6 : a.1 = 6
 ·simp only [k6]
  by_cases h0 : a.2.1 < 0
  ·have : ¬ 0 ≤ a.2.1:=by omega
   grind
  ·have h0' : 0 ≤ a.2.1:=by omega
   rw [hwr h0']
   by_cases h32 : a.2.1.tmod 64 ≤ 32
   ·rw [hb h0' hn.2 h32]
    simp only [Option.bind_some]
    grind
   ·grind
 ·clear hb hd hpos hwr hp hw hw2
  simp only [k6,decide_false,cond_false,Xw,Qba,Zx,JJ]
  grind (splits:=30)
theorem H2 {a : Atm} (hw : wfD Qa a) : Zp a = some (GW a):=by
 have hw2 : inK .i64 a.1 = true ∧ inK .i64 a.2.1 = true ∧ wfD .str a.2.2.1 ∧ wfD .str a.2.2.2:=hw
 have h1:=XR hw2.2.2.1
 have h2:=XR hw2.2.2.2
 have hn:=hw2.2.1
 rw [VW,Ew,Uc] at hn
 have hd : 0 ≤ a.2.1 → a.2.1.tdiv 64 = a.2.1 / 64:=fun h=>Int.tdiv_eq_ediv_of_nonneg h
 have hwr : 0 ≤ a.2.1 → IntKind.wrap .i64 (a.2.1.tdiv 64) = a.2.1.tdiv 64:=fun h=>QoJ (by have:=hd h; omega)
 have hmm : 0 ≤ a.2.1 → 0 ≤ a.2.1.tmod 64:=fun h=>Int.tmod_nonneg 64 h
 simp only [Zp,GC,GB,Qns _ _ h1,H1 h2,Option.bind_some]
 unfold GW
 by_cases k6 : a.1 = 6
 ·simp only [k6]
  by_cases h0 : a.2.1 < 0
  ·have : ¬ 0 ≤ a.2.1:=by omega
   grind
  ·have h0' : 0 ≤ a.2.1:=by omega
   have hm0:=hmm h0'
   rw [hwr h0']
   by_cases h32 : a.2.1.tmod 64 ≤ 32
   ·have hws : IntKind.wrap .i64 (32 - a.2.1.tmod 64) = 32 - a.2.1.tmod 64:=QoJ (by omega)
    have hmn : min (32 - a.2.1.tmod 64).toNat 64 = (32 - a.2.1.tmod 64).toNat:=by omega
    have hb : (2 : Int) ^ (32 - a.2.1.tmod 64).toNat ≤ 2 ^ 32:=by
     have:=Nat.pow_le_pow_right (n:=2) (by omega) (show (32 - a.2.1.tmod 64).toNat ≤ 32 by omega)
     exact_mod_cast this
    have hp : (0 : Int) < 2 ^ (32 - a.2.1.tmod 64).toNat:=Int.pow_pos (by omega)
    rw [hws,hmn,Int.one_mul,QoJ (by omega)]
    unfold QHc
    have hp2 : (2 : Int) ^ (32 - a.2.1.tmod 64).toNat ≠ 0:=by omega
    generalize (2 : Int) ^ (32 - a.2.1.tmod 64).toNat = q at *
    grind
   ·grind
 ·grind
theorem E1 (a b : Int) : Q6 a b = HC a b:=by unfold Q6 HC; rfl
theorem Qt6 (a b : List Int) (ha : bytesL a) (hb : bytesL b) : ∀ (r : List Int) (k : Nat),r = a.drop k → k ≤ a.length → k ≤ b.length → ZQ a b r k = some (Qf5 r (b.drop k)):=by
 intro r
 induction r with
 | nil =>
  intro k hr hk hkb
  have h1:=QH hr
  rw [ZQ,E1,QET,List.length_drop]
  unfold HC
  grind
 | cons e r ih =>
  intro k hr hk hkb
  obtain ⟨h1,_,h2⟩:=Qz (d:=0) hr
  have h3 : (e :: r).length = a.length - k:=by rw [hr,List.length_drop]
  rw [ZQ]
  by_cases h : k < b.length
  ·have hg:=List.getElem?_eq_getElem h
   have he:=ha e (List.mem_of_mem_drop (hr ▸ List.mem_cons_self))
   have hbk:=hb b[k] (List.getElem_mem h)
   rw [Qa7 hg,Qx h,decide_eq_true (by omega),List.drop_eq_getElem_cons h,QoJ (by omega),QoJ (by omega),E1,ih (k + 1) h2 (by omega) (by omega)]
   simp only [Qf5,cond_true]
   by_cases hc : e = b[k]
   ·simp [hc]
   ·simp [hc]
  ·rw [decide_eq_false (by omega),List.drop_eq_nil_of_le (by omega),QDX,h3]
   simp only [cond_false,E1,HC]
   grind
theorem Hl {a b : List Int} (ha : wfD .str a) (hb : wfD .str b) : Zb a b = some (E5 a b):=by
 rw [Zb,QG (XR ha),Qt6 a b (QDa ha) (QDa hb) a 0 rfl (by omega) (by omega),List.drop_zero,QyO]
theorem Qcm {a b : Atm} (ha : wfD Qa a) (hb : wfD Qa b) : JC a b = some (Ud a b):=by
 have ha2 : inK .i64 a.1 = true ∧ inK .i64 a.2.1 = true ∧ wfD .str a.2.2.1 ∧ wfD .str a.2.2.2:=ha
 have hb2 : inK .i64 b.1 = true ∧ inK .i64 b.2.1 = true ∧ wfD .str b.2.2.1 ∧ wfD .str b.2.2.2:=hb
 rw [JC,Hl ha2.2.2.1 hb2.2.2.1,Hl ha2.2.2.2 hb2.2.2.2]
 simp only [E1,Ud,Option.bind_some]
 grind
theorem Qwr (a b : Int) : YD a b = HC a b:=by
 unfold YD YX HC
 simp
theorem Qql (a b : List Int) : Ju a b = E5 a b:=by
 unfold Ju JG E5
 simp
theorem Qnu (a b : Atm) : YY a b = some (Ud a b):=by
 rw [YY,Wu,QG (by simp [maxLen])]
 simp only [VR,Qwr,Qql,Ud]
 have h:=Qh0 a.2.2.1 b.2.2.1
 grind
theorem Xq {a : Atm} (hw : wfD Qa a) : Zq a = some (GF a):=by
 rw [Zq,H2 hw,GF]; grind
theorem Eq {a : Atm} (hw : wfD Qa a) : Z0 a = some (GF a):=by
 rw [Z0,Xp hw,GF]; grind
theorem QhE : ∀ (l : List (List Int)) (k : Nat),(∀ s ∈ l,s.length ≤ maxLen) → Q4 l k = some (l.all Xv)
 | [],k,_=>rfl
 | s :: l,k,h=>by
  rw [Q4,H1 (h s (by simp)),QhE l (k + 1) (fun x hx=>h x (by simp [hx])),List.all_cons]
  simp only [Option.bind_some,QH7]
  grind
theorem QkS {l : List (List Int)} (h : wfD (.list .str) l) : Yr l = some (l.all Xv):=by
 rw [Yr,QG h.1,QhE l 0 fun s hs=>XR (h.2 s hs)]
theorem QkT (xs : List (List Int)) (hl : xs.length ≤ maxLen) : ∀ (r : List (List Int)) (k : Nat),r = xs.drop k → JH xs r k = some (ZZ Z4 (J2 xs k) r)
 | [],k,_=>by rw [YQ]; rfl
 | e :: r,k,h=>by
  obtain ⟨h1,h2,h3,h4,h5⟩:=H5 (d:=Ty.dflt .str) hl h
  rw [JH,QkT xs hl r (k + 1) h1,h2,Jd]
  rcases h5 with rfl | ⟨h5,h6,h7,_⟩
  ·simp [J2]
  ·rw [h6,h7]; grind
theorem Qqm {l : List (List Int)} (h : l.length ≤ maxLen) : Vs l = some (V5 Z4 l):=by
 rw [Vs,QG h,QkT l h l 0 rfl]; rfl
theorem Qys (a : Atm) : QU a = decide (a = (0,0,[],[])):=by unfold QU; exact decide_eq_decide.2 Iff.rfl
theorem QcI (xs : List Atm) (hw : wfD (.list Qa) xs) : ∀ (r : List Atm) (k : Nat),r = xs.drop k → Zk xs r k = some (r.all GW && ZZ Yu (J2 xs k) r)
 | [],k,_=>by rw [YQ]; rfl
 | e :: r,k,h=>by
  obtain ⟨h1,h2,h3,h4,h5⟩:=H5 (d:=Ty.dflt Qa) hw.1 h
  rw [Zk,H2 (hw.2 e h4),QcI xs hw r (k + 1) h1,h2,Jd]
  simp only [Option.bind_some,Qnu,Qgu,List.all_cons]
  rcases h5 with rfl | ⟨h5,h6,h7,_⟩
  ·simp [J2]; grind
  ·rw [h6,h7]; grind
theorem QfQ {l : List Atm} (h : wfD (.list Qa) l) : Jb l = some (l.all GW && V5 Yu l):=by
 rw [Jb,QG h.1,QcI l h l 0 rfl]; rfl
theorem QhF : ∀ (l : List Atm) (k : Nat),(∀ a ∈ l,wfD Qa a) → Q5 l k = some (l.all GW)
 | [],k,_=>rfl
 | s :: l,k,h=>by
  rw [Q5,H2 (h s (by simp)),QhF l (k + 1) (fun x hx=>h x (by simp [hx])),List.all_cons]
  simp only [Option.bind_some,QH7]
  grind
theorem Qyt {v : Val} (hw : wfD Qf v) : VT v = some (Y7 v):=by
 have hw2 : inK .i64 v.1 = true ∧ wfD Qa v.2.1 ∧ wfD (.list Qa) v.2.2.1 ∧ wfD (.list .str) v.2.2.2:=hw
 rw [VT,H2 hw2.2.1,QfQ hw2.2.2.1,QkS hw2.2.2.2,Qqm hw2.2.2.2.1,QG hw2.2.2.1.1,QhF _ _ hw2.2.2.1.2]
 simp only [Qys,Option.bind_some,Y7,Xw,Qba,Zx,JJ]
 clear hw hw2
 grind (splits:=30)
theorem QhG (v : Val) (hw : wfD (.list .str) v.2.2.2) : ∀ (r : List (List Int)) (k : Nat),r = v.2.2.2.drop k → ZG v r k = some (r.all Xv && ZZ Z4 (J2 v.2.2.2 k) r)
 | [],k,_=>by rw [YQ]; rfl
 | e :: r,k,h=>by
  obtain ⟨h1,h2,h3,h4,h5⟩:=H5 (d:=Ty.dflt .str) hw.1 h
  rw [ZG,Xo (XR (hw.2 e h4)),QhG v hw r (k + 1) h1,h2,Jd]
  simp only [Option.bind_some,List.all_cons]
  rcases h5 with rfl | ⟨h5,h6,h7,h8⟩
  ·simp [J2]; grind
  ·rw [h6,h7,Hl (hw.2 _ h8) (hw.2 _ h4)]
   simp only [Option.bind_some,Qjl]
   grind
theorem QhH (v : Val) (hw : wfD (.list Qa) v.2.2.1) (hn : wfD (.list .str) v.2.2.2) : ∀ (r : List Atm) (k : Nat),r = v.2.2.1.drop k → Zg v r k =
  some (r.all GW && (bif decide (v.1 = 2) then ZZ Yu (J2 v.2.2.1 k) r && decide (v.2.2.2.length = 0) else decide (v.2.2.2.length = v.2.2.1.length) && v.2.2.2.all Xv && V5 Z4 v.2.2.2))
 | [],k,_=>by
  rw [Zg,YQ,QG hn.1,QhG v hn v.2.2.2 0 rfl,V5,YC]
  simp only [List.all_nil,Xw,Qba,Zx,JJ]
  grind (splits:=30)
 | e :: r,k,h=>by
  obtain ⟨h1,h2,h3,h4,h5⟩:=H5 (d:=Ty.dflt Qa) hw.1 h
  rw [Zg,Xp (hw.2 e h4),QhH v hw hn r (k + 1) h1,h2,Jd]
  simp only [Option.bind_some,List.all_cons]
  rcases h5 with rfl | ⟨h5,h6,h7,h8⟩
  ·simp [J2]; grind
  ·rw [h6,h7,Qcm (hw.2 _ h8) (hw.2 _ h4)]
   simp only [Option.bind_some,Qgu]
   grind
theorem Qyu {v : Val} (hw : wfD Qf v) : Ym v = some (Y7 v):=by
 have hw2 : inK .i64 v.1 = true ∧ wfD Qa v.2.1 ∧ wfD (.list Qa) v.2.2.1 ∧ wfD (.list .str) v.2.2.2:=hw
 rw [Ym]
 simp only [V8]
 rw [Xp hw2.2.1,QG hw2.2.2.1.1,QhH v hw2.2.2.1 hw2.2.2.2 v.2.2.1 0 rfl,YC]
 have e : (@decide (v.2.1 = (0,0,([] : List Int),([] : List Int))) (Ty.decEq Qa v.2.1 (0,0,([] : List Int),([] : List Int)))) = decide (v.2.1 = (0,0,[],[])):=decide_eq_decide.2 Iff.rfl
 simp only [e,Option.bind_some,Y7,V5,Xw,Qba,Zx,JJ]
 clear hw hw2 e
 grind (splits:=30)
theorem Qet : ∀ (l : List Val) (k : Nat),(∀ v ∈ l,wfD Qf v) → QW l k = some (l.all fun v=>!decide (v.1 = 3) && Y7 v)
 | [],k,_=>rfl
 | v :: l,k,h=>by
  rw [QW,Qyt (h v (by simp)),Qet l (k + 1) (fun x hx=>h x (by simp [hx])),List.all_cons]
  simp only [Option.bind_some,QH7,Xw,Qba,Zx,JJ]
  grind
theorem QhI {n : List (List Int)} {v : List Val} (hn : wfD (.list .str) n) (hv : wfD (.list Qf) v) : ZC n v = some (GX n v):=by
 rw [ZC,QkS hn,Qqm hn.1,QG hv.1,Qet v 0 hv.2]
 simp only [Option.bind_some,GX,Xw,Qba,Zx,JJ]
 grind (splits:=30)
theorem QhJ (xs : List (List Int)) (vs : List Val) (hx : wfD (.list .str) xs) (hv : wfD (.list Qf) vs) (hlen : vs.length = xs.length) : ∀ (r : List (List Int)) (k : Nat),r = xs.drop k →
  ZR xs vs r k = some (r.all Xv && ZZ Z4 (J2 xs k) r && (vs.drop k).all fun v=>!decide (v.1 = 3) && Y7 v)
 | [],k,h=>by
  have:=QH h
  rw [YQ,List.drop_eq_nil_of_le (by omega)]; rfl
 | e :: r,k,h=>by
  obtain ⟨h1,h2,h3,h4,h5⟩:=H5 (d:=Ty.dflt .str) hx.1 h
  have hk : k < vs.length:=by omega
  have hg:=List.getElem?_eq_getElem hk
  rw [ZR,Xo (XR (hx.2 e h4)),QhJ xs vs hx hv hlen r (k + 1) h1,h2,Jd,Qx hk,Qa7 hg,Qyu (hv.2 _ (List.getElem_mem hk)),List.drop_eq_getElem_cons hk]
  simp only [Option.bind_some,List.all_cons,cond_true]
  rcases h5 with rfl | ⟨h5,h6,h7,h8⟩
  ·simp only [YC,Int.natCast_zero,Int.lt_irrefl,decide_false,cond_false,Xw,Qba,Zx,JJ]
   grind
  ·rw [h6,h7,Hl (hx.2 _ h8) (hx.2 _ h4)]
   simp only [Option.bind_some,Qjl,cond_true,Xw,Qba,Zx,JJ]
   have : decide ((0 : Int) < (k : Int)) = true:=decide_eq_true (by omega)
   rw [this]
   clear hx hv h h1 h2 h7 h8
   grind
theorem QkU {n : List (List Int)} {v : List Val} (hn : wfD (.list .str) n) (hv : wfD (.list Qf) v) : Jf n v = some (GX n v):=by
 rw [Jf,QG hn.1]
 by_cases hl : v.length = n.length
 ·rw [QhJ n v hn hv hl n 0 rfl,List.drop_zero,YC]
  simp only [Option.bind_some,GX,V5,hl,Xw,Qba,Zx,JJ]
  clear hn hv
  grind (splits:=30)
 ·simp only [GX,Xw,Qba,Zx,JJ]
  clear hn hv
  grind (splits:=30)
theorem QaG {r : Req} (hw : wfD Qu r) : Yh r = some (Ho r):=by
 have h : wfD Qa r.1 ∧ wfD Qa r.2.1 ∧ wfD Qa r.2.2.1 ∧ wfD (.list .str) r.2.2.2.1 ∧ wfD (.list Qf) r.2.2.2.2:=hw
 rw [Yh,Xq h.1,Xq h.2.1,Xq h.2.2.1,QhI h.2.2.2.1 h.2.2.2.2]
 simp only [Option.bind_some,Ho,Xw,Qba,Zx,JJ]
 clear h hw
 grind (splits:=30)
theorem QaH {r : Req} (hw : wfD Qu r) : Y1 r = some (Ho r):=by
 have h : wfD Qa r.1 ∧ wfD Qa r.2.1 ∧ wfD Qa r.2.2.1 ∧ wfD (.list .str) r.2.2.2.1 ∧ wfD (.list Qf) r.2.2.2.2:=hw
 rw [Y1,Eq h.1,Eq h.2.1,Eq h.2.2.1,QkU h.2.2.2.1 h.2.2.2.2]
 simp only [Option.bind_some,Ho,Xw,Qba,Zx,JJ]
 clear h hw
 grind (splits:=30)
theorem QhK : ∀ (l : List Atm) (k : Nat),Q3 l k = some (l.all fun a=>decide (a.1 = 4))
 | [],k=>rfl
 | a :: l,k=>by
  rw [Q3,QhK l (k + 1),List.all_cons]
  simp only [QH7,Xw,Qba,Zx,JJ]
  grind
theorem Qyv {l : List Atm} {m : Int} (h : wfD (.list Qa) l) : Yq l m = some (decide ((l.length : Int) ≤ m) && QuI l):=by
 rw [Yq,QfQ h,QG h.1,QhK]
 rw [QuI,show l.all GF = ((l.all fun a=>decide (a.1 = 4)) && l.all GW) from (QGv _ _ l).symm]
 simp only [Option.bind_some]
 cases l.all GW <;> cases V5 Yu l <;> cases (l.all fun a=>decide (a.1 = 4)) <;> cases decide ((l.length : Int) ≤ m) <;> rfl
theorem QfR (xs : List Thg) (hw : wfD (.list Qe) xs) : ∀ (r : List Thg) (k : Nat),r = xs.drop k →
  ZI xs r k = some (r.all H6 && ZZ (fun a b=>Yu a.1 b.1) (J2 xs k) r)
 | [],k,h=>by rw [YQ]; rfl
 | e :: r,k,h=>by
  obtain ⟨h1,h2,h3,h4,h5⟩:=H5 (d:=Ty.dflt Qe) hw.1 h
  have we : wfD Qa e.1 ∧ wfD (.list Qa) e.2.1 ∧ wfD (.list .str) e.2.2.1 ∧ wfD (.list Qf) e.2.2.2:=hw.2 e h4
  rw [ZI,Xq we.1,Qyv we.2.1,QhI we.2.2.1 we.2.2.2,QfR xs hw r (k + 1) h1,h2,Jd]
  simp only [Option.bind_some,List.all_cons,Qnu,Qgu]
  rcases h5 with rfl | ⟨h5,h6,h7,h8⟩
  ·simp only [YC,H6,Int.natCast_zero,Int.lt_irrefl,decide_false,cond_false,Xw,Qba,Zx,JJ]
   clear hw we h h1 h2
   grind (splits:=30)
  ·rw [h6,h7,decide_eq_true (show (0 : Int) < (k : Int) by omega)]
   simp only [H6,cond_true,Xw,Qba,Zx,JJ]
   clear hw we h h1 h2 h7 h8
   grind (splits:=30)
theorem Uw {l : List Thg} (hw : wfD (.list Qe) l) : YE l = some (QcV l):=by
 rw [YE,QG hw.1,QfR l hw l 0 rfl,YC]
 simp only [QcV,V5,Xw,Qba,Zx,JJ]
 clear hw
 grind
theorem QfS (K : Option Bool) (x : Thg) (hw : wfD (.list Qa) x.2.1) : ∀ (r : List Atm) (k : Nat),r = x.2.1.drop k →
  Zl K x r k = bif r.all GF && ZZ Yu (J2 x.2.1 k) r then K else some false
 | [],k,_=>by rw [YQ]; rfl
 | e :: r,k,h=>by
  obtain ⟨h1,h2,h3,h4,h5⟩:=H5 (d:=Ty.dflt Qa) hw.1 h
  rw [Zl,Eq (hw.2 e h4),QfS K x hw r (k + 1) h1,h2,Jd]
  simp only [Option.bind_some,List.all_cons]
  rcases h5 with rfl | ⟨h5,h6,h7,h8⟩
  ·simp only [YC,Int.natCast_zero,Int.lt_irrefl,decide_false,cond_false,Xw,Qba]
   clear hw h h1 h2
   grind (splits:=30)
  ·rw [h6,h7,decide_eq_true (show (0 : Int) < (k : Int) by omega),Qcm (hw.2 _ h8) (hw.2 _ h4)]
   simp only [Option.bind_some,Qgu,cond_true,Xw,Qba]
   clear hw h h1 h2 h7 h8
   grind (splits:=30)
theorem QfT (xs : List Thg) (hw : wfD (.list Qe) xs) : ∀ (r : List Thg) (k : Nat),r = xs.drop k →
  ZH xs r k = some (r.all H6 && ZZ (fun a b=>Yu a.1 b.1) (J2 xs k) r)
 | [],k,h=>by rw [YQ]; rfl
 | e :: r,k,h=>by
  obtain ⟨h1,h2,h3,h4,h5⟩:=H5 (d:=Ty.dflt Qe) hw.1 h
  have we : wfD Qa e.1 ∧ wfD (.list Qa) e.2.1 ∧ wfD (.list .str) e.2.2.1 ∧ wfD (.list Qf) e.2.2.2:=hw.2 e h4
  rw [ZH,Eq we.1,QkU we.2.2.1 we.2.2.2,QG we.2.1.1,QfS _ e we.2.1 e.2.1 0 rfl,QfT xs hw r (k + 1) h1,h2,Jd]
  simp only [Option.bind_some,List.all_cons,YC]
  have hg : H6 e = (GF e.1 && decide (e.2.1.length ≤ 50) && (e.2.1.all GF && ZZ Yu none e.2.1) && GX e.2.2.1 e.2.2.2):=rfl
  rcases h5 with rfl | ⟨h5,h6,h7,h8⟩
  ·simp only [hg,YC,Int.natCast_zero,Int.lt_irrefl,decide_false,cond_false,Xw,Qba,Zx,JJ]
   clear hw we h h1 h2 hg
   grind (splits:=30)
  ·have wp : wfD Qa _ ∧ _:=hw.2 _ h8
   rw [h6,h7,decide_eq_true (show (0 : Int) < (k : Int) by omega),Qcm wp.1 we.1]
   simp only [Option.bind_some,hg,Qgu,cond_true,Xw,Qba,Zx,JJ]
   clear hw we h h1 h2 h7 h8 wp hg
   grind (splits:=30)
theorem Ux {l : List Thg} (hw : wfD (.list Qe) l) : Vo l = some (QcV l):=by
 rw [Vo,QG hw.1,QfT l hw l 0 rfl,YC]
 simp only [QcV,V5,Xw,Qba,Zx,JJ]
 clear hw
 grind
theorem QAd (a : Qb) (xs : List Qb) : J4 a xs = some (decide (a ∈ xs)):=by
 induction xs with
 | nil=>simp [J4]
 | cons e r ih =>
  rw [J4,ih]
  by_cases h : e = a
  ·subst h; simp
  ·have h' : ¬ a = e:=fun q=>h q.symm
   simp [h,h']
theorem Qi6 {xs : List Qb} (h : xs.length ≤ maxLen) (a : Qb) : VZ xs a = some (decide (a ∈ xs)):=by
 rw [VZ,QG h,QAd]
def Hm (h : J6) : Bool :=
 bif decide (h.1 = 1) || decide (h.1 = 5) || decide (h.1 = 6) then @decide (h.2.1 = (0,0,([] : List Int),([] : List Int))) (Ty.decEq Qa h.2.1 (0,0,([] : List Int),([] : List Int))) && decide (h.2.2 = ([] : List Int))
 else bif decide (h.1 = 2) || decide (h.1 = 3) then GF h.2.1 && decide (h.2.2 = ([] : List Int))
 else bif decide (h.1 = 4) then @decide (h.2.1 = (0,0,([] : List Int),([] : List Int))) (Ty.decEq Qa h.2.1 (0,0,([] : List Int),([] : List Int))) && Xv h.2.2
 else false
theorem QhL {h : J6} (hw : wfD Qs h) : Zc h true = some (Hm h):=by
 have h1 : wfD Qa h.2.1:=hw.2.1
 have h2 : wfD .str h.2.2:=hw.2.2
 simp only [Zc,Yn,Xp h1,Xo (XR h2),Option.bind_some,Hm,GF,Xw,Qba,Zx,JJ,cond_true]
 clear hw h1 h2
 grind (splits:=30)
theorem QkV {h : J6} (hw : wfD Qs h) : Zy h false = some (Hm h):=by
 have h1 : wfD Qa h.2.1:=hw.2.1
 have h2 : wfD .str h.2.2:=hw.2.2
 simp only [Zy,Vf,YN,Xq h1,H1 (XR h2),QU,Option.bind_some,Hm,Xw,Qba,Zx,JJ,Bool.not_false]
 clear hw h1 h2
 grind (splits:=30)
theorem Qt7 {p : Nat} {x : Qb} : ∀ (d j : Nat) (ys : List Qb),j = p + d → j < ys.length → ys.length ≤ maxLen →
  ∃ zs,zs.length = ys.length ∧ (∀ a,a ∈ zs ↔ a = x ∨ ∃ i,i ≠ j ∧ ys[i]? = some a) ∧ ∀ (K : List Qb → Option (List Qb)) m,d + 1 ≤ m → ZT K p x m ys j = K zs:=by
 intro d
 induction d with
 | succ d ih =>
  intro j ys hp hj hl
  have hpj : p < j:=by omega
  ·obtain ⟨j',rfl⟩ : ∃ j',j = j' + 1:=⟨j - 1,by omega⟩
   have hw : IntKind.wrap .i64 (((j' + 1 : Nat) : Int) - 1) = (j' : Int):=Qjh hl (by omega)
   obtain ⟨zs,h1,h2,h3⟩:=ih j' (ys.set (j' + 1) (rd ys (j' : Int) (Ty.dflt Qa))) (by omega) (by rw [List.length_set]; omega) (by rw [List.length_set]; exact hl)
   refine ⟨zs,by rw [h1,List.length_set],?_,?_⟩
   ·intro a
    rw [h2]
    have hrd : rd ys (j' : Int) (Ty.dflt Qa) = ys[j']:=Qa7 (List.getElem?_eq_getElem (by omega))
    constructor
    ·rintro (h | ⟨i,hi,h⟩)
     ·exact .inl h
     ·rw [List.getElem?_set] at h
      split at h
      ·cases h; exact .inr ⟨j',by omega,by rw [hrd]; exact List.getElem?_eq_getElem (by omega)⟩
      ·rename_i hne; exact .inr ⟨i,fun e=>hne e.symm,h⟩
    ·rintro (h | ⟨i,hi,h⟩)
     ·exact .inl h
     ·right
      by_cases hij : i = j'
      ·subst hij
       refine ⟨i + 1,by omega,?_⟩
       rw [List.getElem?_set,if_pos rfl,if_pos hj,hrd]
       rw [List.getElem?_eq_getElem (by omega)] at h
       exact h
      ·exact ⟨i,hij,by rw [List.getElem?_set,if_neg (fun e=>hi e.symm)]; exact h⟩
   ·intro K m hm
    obtain ⟨m,rfl⟩ : ∃ m',m = m' + 1:=⟨m - 1,by omega⟩
    rw [ZT]
    have d1 : decide ((p : Int) < ((j' + 1 : Nat) : Int)) = true:=decide_eq_true (by omega)
    have d2 : inB (j' : Int) ys.length = true:=Qx (by omega)
    have d3 : inB ((j' + 1 : Nat) : Int) ys.length = true:=Qx hj
    simp only [d1,hw,d2,d3,cond_true,Bool.and_self,Int.toNat_natCast]
    exact h3 K m (by omega)
 | zero =>
  intro j ys hp hj hl
  ·have hjp : j = p:=by omega
   subst hjp
   refine ⟨ys.set j x,by simp,?_,?_⟩
   ·intro a
    constructor
    ·intro h
     obtain ⟨i,hi⟩:=List.getElem?_of_mem h
     rw [List.getElem?_set] at hi
     split at hi
     ·cases hi; exact .inl rfl
     ·rename_i hne; exact .inr ⟨i,fun e=>hne e.symm,hi⟩
    ·rintro (rfl | ⟨i,hi,h⟩)
     ·exact List.mem_of_getElem? (i:=j) (by rw [List.getElem?_set,if_pos rfl,if_pos hj])
     ·exact List.mem_of_getElem? (i:=i) (by rw [List.getElem?_set,if_neg (fun e=>hi e.symm)]; exact h)
   ·intro K m hm
    obtain ⟨m,rfl⟩ : ∃ m',m = m' + 1:=⟨m - 1,by omega⟩
    rw [ZT]
    have d1 : decide ((j : Int) < (j : Int)) = false:=decide_eq_false (by omega)
    have d3 : inB (j : Int) ys.length = true:=Qx hj
    simp only [d1,d3,cond_true,cond_false,Bool.and_self,Int.toNat_natCast]
theorem QhM {x1 : List Qb} {x : Qb} {k : Nat} (hk : k ≤ x1.length) (hl : x1.length ≤ 1000000) (hx : wfD Qa x) (h1 : ∀ a ∈ x1,wfD Qa a) (hc : ∀ a b : Qb,Ud a b = 0 → a = b) :
  ∃ zs,zs.length ≤ x1.length + 1 ∧ (∀ a,a ∈ zs ↔ a = x ∨ a ∈ x1) ∧ ∀ (K : List Qb → Option (List Qb)) m,x1.length + 2 ≤ m → JS K m x1 k x = K zs:=by
 have hmax : x1.length + 1 ≤ maxLen:=by unfold maxLen; omega
 obtain ⟨zs,z1,z2,z3⟩:=Qt7 (p:=k) (x:=x) (x1.length - k) x1.length (x1 ++ [x]) (by omega) (by simp) (by simpa using hmax)
 have hmem : ∀ a,a ∈ zs ↔ a = x ∨ a ∈ x1:=by
  intro a
  rw [z2]
  constructor
  ·rintro (h | ⟨i,hi,h⟩)
   ·exact .inl h
   ·right
    rw [List.getElem?_append] at h
    split at h
    ·exact List.mem_of_getElem? h
    ·have : i - x1.length ≠ 0:=by omega
     rw [List.getElem?_eq_none (by simp; omega)] at h
     cases h
  ·rintro (h | h)
   ·exact .inl h
   ·obtain ⟨i,hi⟩:=List.getElem?_of_mem h
    have hlt : i < x1.length:=(List.getElem?_eq_some_iff.1 hi).1
    exact .inr ⟨i,by omega,by rw [List.getElem?_append_left hlt]; exact hi⟩
 have hroom : (decide (((x1.length : Int) + (([x] : List Qb).length : Int)) * 48 ≤ Qv) && decide ((x1.length : Int) + (([x] : List Qb).length : Int) ≤ Qv)) = true:=by
  rw [ZP]; simp; omega
 have hpos : IntKind.wrap .i64 (((x1 ++ ([x] : List Qb)).length : Int) - 1) = ((x1.length : Nat) : Int):=by
  rw [List.length_append]
  exact Qjh hmax (by omega)
 by_cases h0 : k = 0
 ·subst h0
  refine ⟨zs,by rw [z1]; simp,hmem,fun K m hm=>?_⟩
  rw [JS]
  simp only [Int.natCast_zero,hroom,hpos,cond_true]
  exact z3 K m (by omega)
 ·obtain ⟨k',rfl⟩ : ∃ k',k = k' + 1:=⟨k - 1,by omega⟩
  have hw : IntKind.wrap .i64 (((k' + 1 : Nat) : Int) - 1) = (k' : Int):=Qjh (by unfold maxLen; omega) hk
  have hin : inB (k' : Int) x1.length = true:=Qx (by omega)
  have hrd : rd x1 (k' : Int) (Ty.dflt Qa) = x1[k']:=Qa7 (List.getElem?_eq_getElem (by omega))
  have hcm:=Qcm (h1 x1[k'] (List.getElem_mem _)) hx
  have d1 : decide ((0 : Int) < ((k' + 1 : Nat) : Int)) = true:=decide_eq_true (by omega)
  by_cases he : Ud x1[k'] x = 0
  ·refine ⟨x1,by omega,fun a=>⟨.inr,?_⟩,fun K m hm=>?_⟩
   ·rintro (h | h)
    ·rw [h,← hc _ _ he]; exact List.getElem_mem _
    ·exact h
   ·rw [JS]
    simp only [d1,hw,hin,hrd,hcm,Option.bind_some,he,decide_true,cond_true]
  ·refine ⟨zs,by rw [z1]; simp,hmem,fun K m hm=>?_⟩
   rw [JS]
   simp only [d1,hw,hin,hrd,hcm,Option.bind_some,he,decide_false,cond_true,cond_false,hroom,hpos]
   exact z3 K m (by omega)
theorem QrA {x1 : List Qb} {x : Qb} (hl : x1.length ≤ 1000000) (hx : wfD Qa x) (h1 : ∀ a ∈ x1,wfD Qa a) (hc : ∀ a b : Qb,Ud a b = 0 → a = b) : ∀ (k : Nat),k ≤ x1.length →
  ∃ zs,zs.length ≤ x1.length + 1 ∧ (∀ a,a ∈ zs ↔ a = x ∨ a ∈ x1) ∧ ∀ (K : List Qb → Option (List Qb)) m,x1.length + k + 4 ≤ m → Ja K x1 x m k = K zs:=by
 intro k
 induction k with
 | zero =>
  intro hk
  obtain ⟨zs,z1,z2,z3⟩:=QhM hk hl hx h1 hc
  refine ⟨zs,z1,z2,fun K m hm=>?_⟩
  obtain ⟨m,rfl⟩ : ∃ m',m = m' + 1:=⟨m - 1,by omega⟩
  rw [Ja]
  have d1 : decide ((0 : Int) < ((0 : Nat) : Int)) = false:=decide_eq_false (by omega)
  simp only [d1,cond_false]
  exact z3 K m (by omega)
 | succ k ih =>
  intro hk
  have hw : IntKind.wrap .i64 (((k + 1 : Nat) : Int) - 1) = (k : Int):=Qjh (by unfold maxLen; omega) hk
  have hin : inB (k : Int) x1.length = true:=Qx (by omega)
  have hrd : rd x1 (k : Int) (Ty.dflt Qa) = x1[k]:=Qa7 (List.getElem?_eq_getElem (by omega))
  have hcm:=Qcm (h1 x1[k] (List.getElem_mem _)) hx
  have d1 : decide ((0 : Int) < ((k + 1 : Nat) : Int)) = true:=decide_eq_true (by omega)
  by_cases hg : 0 < Ud x1[k] x
  ·obtain ⟨zs,z1,z2,z3⟩:=ih (by omega)
   refine ⟨zs,z1,z2,fun K m hm=>?_⟩
   obtain ⟨m,rfl⟩ : ∃ m',m = m' + 1:=⟨m - 1,by omega⟩
   rw [Ja]
   simp only [d1,hw,hin,hrd,hcm,Option.bind_some,hg,decide_true,cond_true]
   exact z3 K m (by omega)
  ·obtain ⟨zs,z1,z2,z3⟩:=QhM hk hl hx h1 hc
   refine ⟨zs,z1,z2,fun K m hm=>?_⟩
   obtain ⟨m,rfl⟩ : ∃ m',m = m' + 1:=⟨m - 1,by omega⟩
   rw [Ja]
   simp only [d1,hw,hin,hrd,hcm,Option.bind_some,hg,decide_false,cond_true,cond_false]
   exact z3 K m (by omega)
theorem Qws (hc : ∀ a b : Qb,Ud a b = 0 → a = b) : ∀ (rest x1 : List Qb),x1.length + rest.length ≤ 1000000 → (∀ a ∈ rest,wfD Qa a) → (∀ a ∈ x1,wfD Qa a) →
  ∃ zs,(∀ a,a ∈ zs ↔ a ∈ x1 ∨ a ∈ rest) ∧ zs.length ≤ x1.length + rest.length ∧ ∀ m,2 * (x1.length + rest.length) + 8 ≤ m → JT m rest x1 = some zs:=by
 intro rest
 induction rest with
 | nil=>intro x1 _ _ _; exact ⟨x1,fun a=>by simp,by simp,fun m _=>rfl⟩
 | cons e rest ih =>
  intro x1 hl hr h1
  rw [List.length_cons] at hl
  obtain ⟨zs,z1,z2,z3⟩:=QrA (x1:=x1) (x:=e) (by omega) (hr e (by simp)) h1 hc x1.length (Nat.le_refl _)
  obtain ⟨ys,y1,y2,y3⟩:=ih zs (by omega) (fun a ha=>hr a (by simp [ha])) (fun a ha=>by
   rcases (z2 a).1 ha with rfl | h
   ·exact hr a (by simp)
   ·exact h1 a h)
  refine ⟨ys,fun a=>?_,by rw [List.length_cons]; omega,fun m hm=>?_⟩
  ·rw [y1,z2,List.mem_cons]
   constructor
   ·rintro ((h | h) | h)
    ·exact .inr (.inl h)
    ·exact .inl h
    ·exact .inr (.inr h)
   ·rintro (h | h | h)
    ·exact .inl (.inr h)
    ·exact .inl (.inl h)
    ·exact .inr h
  ·rw [List.length_cons] at hm
   rw [JT,z3 _ m (by omega)]
   exact y3 m (by omega)
theorem QAe (hc : ∀ a b : Qb,Ud a b = 0 → a = b) {xs : List Qb} (hl : xs.length ≤ 1000000) (hw : ∀ a ∈ xs,wfD Qa a) : ∃ zs,(∀ a,a ∈ zs ↔ a ∈ xs) ∧ zs.length ≤ xs.length ∧ EJ xs = some zs:=by
 obtain ⟨zs,z1,z2,z3⟩:=Qws hc xs [] (by simpa using hl) hw (fun a ha=>by simp at ha)
 refine ⟨zs,fun a=>by rw [z1]; simp,by simpa using z2,VH ⟨2 * xs.length + 8,fun m hm=>?_⟩⟩
 show HR m xs = some zs
 rw [HR,QG (by unfold maxLen; omega)]
 exact z3 m (by simpa using hm)
theorem QB6 (a : List Int) (xs : List (List Int)) : Yo a xs = some (decide (a ∈ xs)):=by
 induction xs with
 | nil=>simp [Yo]
 | cons e r ih =>
  rw [Yo,ih]
  by_cases h : e = a
  ·subst h; simp
  ·have h' : ¬ a = e:=fun q=>h q.symm
   simp [h,h']
theorem QD4 {xs : List (List Int)} (h : xs.length ≤ maxLen) (a : List Int) : XA xs a = some (decide (a ∈ xs)):=by
 rw [XA,QG h,QB6]
theorem QyT (a : List Int) : ∀ (l : List (List Int)) (k : Nat),∃ y : Int,QX a l k = some y ∧ decide (0 ≤ y) = decide (a ∈ l)
 | [],k=>⟨-1,rfl,by simp⟩
 | e :: r,k=>by
  obtain ⟨y,h1,h2⟩:=QyT a r (k + 1)
  rw [QX,h1]
  by_cases h : a = e
  ·subst h
   exact ⟨k,by simp,by simp⟩
  ·refine ⟨y,by simp [h],?_⟩
   rw [h2]
   simp [h]
theorem QB7 {l : List (List Int)} (h : l.length ≤ maxLen) (a : List Int) : Q0 l a = some (decide (a ∈ l)):=by
 obtain ⟨y,h1,h2⟩:=QyT a l 0
 rw [Q0,ZO,QG h,h1,Option.bind_some,h2]
def QEW (c : Int) : Bool:=Qjk c || Qll c || decide (c = 95) || decide (c = 45) || decide (c = 46)
def Qt8 (s : List Int) : Bool:=s.all QEW && decide (1 ≤ s.length) && decide (s.length ≤ 40)
theorem Qsb (xs : List Int) : ∀ s : List Int,ZM xs s = some (s.all QEW && (decide (1 ≤ xs.length) && decide (xs.length ≤ 40)))
 | []=>by
  rw [ZM]
  by_cases h : 1 ≤ xs.length
  ·have h' : (1 : Int) ≤ (xs.length : Int):=by omega
   simp [h,h']; omega
  ·have h' : ¬ (1 : Int) ≤ (xs.length : Int):=by omega
   simp [h,h']
 | e :: r=>by
  rw [ZM,Qsb xs r,Qnt,QhD,List.all_cons,QEW]
  grind
theorem QEX {s : List Int} (h : s.length ≤ maxLen) : UG s = some (Qt8 s):=by
 rw [UG,QG h,Qsb,Qt8,Bool.and_assoc]
theorem QkW : ∀ s : List Int,Z2 s = some (s.all QEW)
 | []=>rfl
 | e :: r=>by
  rw [Z2,QkW r,QkR,List.all_cons,QEW,QsG]
  grind
theorem QB8 {s : List Int} (h : s.length ≤ maxLen) : G1 s = some (Qt8 s):=by
 rw [G1,QG h,QkW,Qt8]
 by_cases h1 : 1 ≤ s.length
 ·by_cases h2 : s.length ≤ 40
  ·have q1 : ¬ (s.length : Int) < 1:=by omega
   have q2 : ¬ (40 : Int) < (s.length : Int):=by omega
   simp [h1,h2,q1,q2]
  ·have q1 : ¬ (s.length : Int) < 1:=by omega
   have q2 : (40 : Int) < (s.length : Int):=by omega
   simp [h1,h2,q1,q2]
 ·have q1 : (s.length : Int) < 1:=by omega
  simp [h1,q1]
def Qcn (st : Int) : List Int → List Int → List Int × Bool
 | [],acc=>(acc,true)
 | x :: r,acc=>bif decide (x = 42) then Qcn st r (acc ++ [st]) else bif decide (x = 92) then (match r with
  | []=>([],false)
  | c :: r'=>bif decide (c = 42) || decide (c = 92) then Qcn st r' (acc ++ [IntKind.wrap .i64 c]) else ([],false)) else Qcn st r (acc ++ [IntKind.wrap .i64 x])
theorem QDc {st x : Int} (h : x = 42) (r acc : List Int) : Qcn st (x :: r) acc = Qcn st r (acc ++ [st]):=by rw [Qcn.eq_def]; simp only [h]; rfl
theorem QEY {st x : Int} (h : x = 92) (acc : List Int) : Qcn st (x :: []) acc = ([],false):=by rw [Qcn.eq_def]; simp only [h]; rfl
theorem QEZ {st x c : Int} (h : x = 92) (r acc : List Int) : Qcn st (x :: c :: r) acc = bif decide (c = 42) || decide (c = 92) then Qcn st r (acc ++ [IntKind.wrap .i64 c]) else ([],false):=by rw [Qcn.eq_def]; simp only [h]; rfl
theorem QE0 {st x : Int} (h : x ≠ 42) (h2 : x ≠ 92) (r acc : List Int) : Qcn st (x :: r) acc = Qcn st r (acc ++ [IntKind.wrap .i64 x]):=by rw [Qcn.eq_def]; simp only [decide_eq_false h,decide_eq_false h2]; rfl
theorem QAz (st st' : Int) : ∀ (n : Nat) (s acc acc' : List Int),s.length ≤ n → (Qcn st s acc).2 = (Qcn st' s acc').2
 | 0,s,acc,acc',h=>by
  have : s = []:=List.length_eq_zero_iff.1 (by omega)
  subst this; rfl
 | n + 1,[],acc,acc',h=>rfl
 | n + 1,x :: r,acc,acc',h=>by
  have hr : r.length ≤ n:=by simpa using h
  rw [Qcn.eq_def,Qcn.eq_def]
  simp only
  cases decide (x = 42) with
  | true=>exact QAz st st' n r _ _ hr
  | false =>
   cases decide (x = 92) with
   | false=>exact QAz st st' n r _ _ hr
   | true =>
    cases r with
    | nil=>rfl
    | cons c r' =>
     simp only [cond_true,cond_false]
     cases decide (c = 42) || decide (c = 92) with
     | true=>exact QAz st st' n r' _ _ (by simp at hr; omega)
     | false=>rfl
def QH8 (s : List Int) : Bool:=(Qcn 256 s []).2
theorem QAA {s : List Int} {k : Nat} {x : Int} {r : List Int} (h : s.drop k = x :: r) : k < s.length ∧ rd s (k : Int) 0 = x ∧ s.drop (k + 1) = r:=by
 obtain ⟨h1,h2,h3⟩:=Qz (d:=(0 : Int)) h.symm
 exact ⟨h1,h2,h3.symm⟩
theorem QB9 {α : Type} {xs ys : List α} {b : Nat} (hx : xs.length ≤ 3000000) (hy : ys.length ≤ 1) (hb : b ≤ 1000) : (decide (((xs.length : Int) + (ys.length : Int)) * (b : Int) ≤ Qv) && decide ((xs.length : Int) + (ys.length : Int) ≤ Qv)) = true:=by
 have h : (xs.length + ys.length) * b ≤ 3000001 * 1000:=Nat.mul_le_mul (by omega) hb
 rw [ZP,Bool.and_eq_true,decide_eq_true_eq,decide_eq_true_eq]
 have h2 : ((xs.length : Int) + (ys.length : Int)) * (b : Int) = (((xs.length + ys.length) * b : Nat) : Int):=by push_cast; rfl
 rw [h2]
 omega
theorem Qwt {s : List Int} (hs : s.length ≤ 2000000) : ∀ (n : Nat) (k : Nat),s.length - k ≤ n → k ≤ s.length → ∀ (m : Nat) (acc : List Int),n < m → acc.length ≤ k →
  Ze s m acc (k : Int) = some (Qcn 256 (s.drop k) acc):=by
 intro n
 induction n using Nat.strongRecOn with
 | ind n ih =>
  intro k hn hk m acc hm ha
  obtain ⟨m,rfl⟩ : ∃ j,m = j + 1:=⟨m - 1,by omega⟩
  rw [Ze]
  cases hd : s.drop k with
  | nil =>
   have : s.length ≤ k:=List.drop_eq_nil_iff.1 hd
   rw [decide_eq_false (show ¬ (k : Int) < (s.length : Int) by omega)]
   rfl
  | cons x r =>
   obtain ⟨h1,h2,h3⟩:=QAA hd
   have hw : IntKind.wrap .i64 ((k : Int) + 1) = ((k + 1 : Nat) : Int):=Qy (show s.length ≤ maxLen by unfold maxLen; omega) h1
   have hg : ∀ z : List Int,z.length ≤ 1 → (decide (((acc.length : Int) + (z.length : Int)) * 8 ≤ Qv) && decide ((acc.length : Int) + (z.length : Int) ≤ Qv)) = true:=fun z hz=>QB9 (b:=8) (by omega) hz (by omega)
   have go : ∀ z : Int,Ze s m (acc ++ [z]) ((k + 1 : Nat) : Int) = some (Qcn 256 r (acc ++ [z])):=by
    intro z
    rw [← h3]
    exact ih (s.length - (k + 1)) (by omega) (k + 1) (by omega) (by omega) m _ (by omega) (by simp; omega)
   rw [decide_eq_true (show (k : Int) < (s.length : Int) by omega),Qx h1,h2,hw]
   simp only [cond_true]
   by_cases e1 : x = 42
   ·rw [decide_eq_true e1]
    simp only [cond_true,hg [256] (by simp)]
    rw [go,QDc e1]
   ·rw [decide_eq_false e1]
    simp only [cond_false]
    by_cases e2 : x = 92
    ·rw [decide_eq_true e2]
     simp only [cond_true]
     cases hr : r with
     | nil =>
      have hl : s.length = k + 1:=by
       rw [hr] at h3
       have:=List.drop_eq_nil_iff.1 h3
       omega
      rw [decide_eq_true (show ((k + 1 : Nat) : Int) = (s.length : Int) by omega)]
      rw [QEY e2]; rfl
     | cons c r' =>
      rw [hr] at h3
      obtain ⟨g1,g2,g3⟩:=QAA h3
      have hw2 : IntKind.wrap .i64 (((k + 1 : Nat) : Int) + 1) = ((k + 1 + 1 : Nat) : Int):=Qy (show s.length ≤ maxLen by unfold maxLen; omega) g1
      have fin : ∀ z : Int,Ze s m (acc ++ [z]) ((k + 1 + 1 : Nat) : Int) = some (Qcn 256 r' (acc ++ [z])):=by
       intro z
       rw [← g3]
       exact ih (s.length - (k + 1 + 1)) (by omega) (k + 1 + 1) (by omega) (by omega) m _ (by omega) (by simp; omega)
      rw [decide_eq_false (show ¬ ((k + 1 : Nat) : Int) = (s.length : Int) by omega),Qx g1,g2,hw2]
      simp only [cond_true,cond_false,hg _ (show ([IntKind.wrap .i64 c] : List Int).length ≤ 1 by simp)]
      rw [fin,QEZ e2]
      cases decide (c = 42) <;> cases decide (c = 92) <;> rfl
    ·rw [decide_eq_false e2]
     simp only [cond_false,hg _ (show ([IntKind.wrap .i64 x] : List Int).length ≤ 1 by simp),cond_true]
     rw [go,QE0 e1 e2]
theorem QAf {s : List Int} (hs : s.length ≤ 2000000) : EF s = some (Qcn 256 s []) :=
 VH ⟨s.length + 1,fun m hm=>Qwt hs s.length 0 (by omega) (by omega) m [] (by omega) (by simp)⟩
theorem Qwu {s : List Int} (hs : s.length ≤ 2000000) : ∀ (n : Nat) (k : Nat),s.length - k ≤ n → k ≤ s.length → ∀ (m : Nat) (acc : List Int),n < m → acc.length ≤ k →
  Zf s m acc (k : Int) = some (Qcn (-1) (s.drop k) acc):=by
 intro n
 induction n using Nat.strongRecOn with
 | ind n ih =>
  intro k hn hk m acc hm ha
  obtain ⟨m,rfl⟩ : ∃ j,m = j + 1:=⟨m - 1,by omega⟩
  rw [Zf]
  cases hd : s.drop k with
  | nil =>
   have : s.length ≤ k:=List.drop_eq_nil_iff.1 hd
   rw [decide_eq_false (show ¬ (k : Int) < (s.length : Int) by omega)]
   rfl
  | cons x r =>
   obtain ⟨h1,h2,h3⟩:=QAA hd
   have hw : IntKind.wrap .i64 ((k : Int) + 1) = ((k + 1 : Nat) : Int):=Qy (show s.length ≤ maxLen by unfold maxLen; omega) h1
   have hg : ∀ z : List Int,z.length ≤ 1 → (decide (((acc.length : Int) + (z.length : Int)) * 8 ≤ Qv) && decide ((acc.length : Int) + (z.length : Int) ≤ Qv)) = true:=fun z hz=>QB9 (b:=8) (by omega) hz (by omega)
   have go : ∀ z : Int,Zf s m (acc ++ [z]) ((k + 1 : Nat) : Int) = some (Qcn (-1) r (acc ++ [z])):=by
    intro z
    rw [← h3]
    exact ih (s.length - (k + 1)) (by omega) (k + 1) (by omega) (by omega) m _ (by omega) (by simp; omega)
   rw [decide_eq_true (show (k : Int) < (s.length : Int) by omega),Qx h1,h2,hw]
   simp only [cond_true]
   by_cases e1 : x = 42
   ·rw [decide_eq_true e1]
    simp only [cond_true,hg [-1] (by simp)]
    rw [go,QDc e1]
   ·rw [decide_eq_false e1]
    simp only [cond_false]
    by_cases e2 : x = 92
    ·rw [decide_eq_true e2]
     simp only [cond_true]
     cases hr : r with
     | nil =>
      have hl : s.length = k + 1:=by
       rw [hr] at h3
       have:=List.drop_eq_nil_iff.1 h3
       omega
      rw [decide_eq_true (show (s.length : Int) ≤ ((k + 1 : Nat) : Int) by omega)]
      rw [QEY e2]; rfl
     | cons c r' =>
      rw [hr] at h3
      obtain ⟨g1,g2,g3⟩:=QAA h3
      have hw2 : IntKind.wrap .i64 (((k + 1 : Nat) : Int) + 1) = ((k + 1 + 1 : Nat) : Int):=Qy (show s.length ≤ maxLen by unfold maxLen; omega) g1
      have fin : ∀ z : Int,Zf s m (acc ++ [z]) ((k + 1 + 1 : Nat) : Int) = some (Qcn (-1) r' (acc ++ [z])):=by
       intro z
       rw [← g3]
       exact ih (s.length - (k + 1 + 1)) (by omega) (k + 1 + 1) (by omega) (by omega) m _ (by omega) (by simp; omega)
      rw [decide_eq_false (show ¬ (s.length : Int) ≤ ((k + 1 : Nat) : Int) by omega),Qx g1,g2,hw2]
      simp only [cond_true,cond_false,hg _ (show ([IntKind.wrap .i64 c] : List Int).length ≤ 1 by simp)]
      rw [fin,QEZ e2]
      cases decide (c = 42) <;> cases decide (c = 92) <;> rfl
    ·rw [decide_eq_false e2]
     simp only [cond_false,hg _ (show ([IntKind.wrap .i64 x] : List Int).length ≤ 1 by simp),cond_true]
     rw [go,QE0 e1 e2]
theorem QAg {s : List Int} (hs : s.length ≤ 2000000) : EN s = some (Qcn (-1) s []) :=
 VH ⟨s.length + 1,fun m hm=>Qwu hs s.length 0 (by omega) (by omega) m [] (by omega) (by simp)⟩
def QiA : List (List Int):=[[112,114,105,110,99,105,112,97,108],[97,99,116,105,111,110],[114,101,115,111,117,114,99,101],[99,111,110,116,101,120,116]]
def QDd (k : Int) : Int :=
 bif decide (k = 1) || decide (k = 3) then 0 else bif decide (k = 2) then -2 else bif decide (k = 4) || decide (k = 5) || decide (k = 6) || decide (k = 7) || decide (k = 20) || decide (k = 21) then 1
 else bif decide (k = 10) then 3 else bif decide (8 ≤ k) && decide (k ≤ 19) then 2 else -1
theorem QAh (k : Int) : Gn k = some (QDd k):=by
 simp only [Gn,Gy,ZS,QDd,Xw,Qba,Zx]
 grind (splits:=30)
def QDe (a : Qb) : Bool:=@decide (a = (0,0,([] : List Int),([] : List Int))) (Ty.decEq Qa a (0,0,([] : List Int),([] : List Int)))
def QCa (n : Qr) : Bool :=
 bif decide (n.1 = 1) then decide (n.2.1 = []) && GW n.2.2.1 else bif decide (n.1 = 3) then decide (n.2.1 ∈ QiA) else bif decide (n.1 = 4) || decide (n.1 = 5) || decide (n.1 = 21) then Xv n.2.1
 else bif decide (n.1 = 20) then QH8 n.2.1 && (decide ((n.2.1.length : Int) ≤ 200) && Qd0 n.2.1) else decide (n.2.1 = [])
def QE1 (n : Qr) (c : Int) : Bool:=!decide (QDd n.1 = -1) && (!decide (0 ≤ QDd n.1) || decide (c = QDd n.1)) && (decide (n.1 = 1) || QDe n.2.2.1) && QCa n
theorem Tree.eta {α : Type} (t : Tree α) : Tree.node t.val t.kids = t:=by cases t; rfl
def Qqn (k : Int) (t : QA) : Bool:=!decide (k = 2) || decide (t.val.1 = 1)
theorem QiB {Rc : QA → Option Bool} {f : QA → Bool} (n : Qr) : ∀ (l : List QA) (x : Bool),(∀ t ∈ l,Rc t = some (f t)) → QF Rc n l x = some (x && l.all fun t=>f t && Qqn n.1 t)
 | [],x,_=>by rw [QF]; simp
 | e :: r,x,h=>by
  have ih:=fun x=>QiB n r x (fun t ht=>h t (by simp [ht]))
  rw [QF,Tree.eta,h e (by simp),ih,ih,ih,List.all_cons,Qqn]
  cases x <;> cases f e <;> cases decide (n.1 = 2) <;> cases decide (e.val.1 = 1) <;> simp
theorem Qwv {Rc : QA → Option Bool} {f : QA → Bool} {t : QA} (hw : wfD Qo t.val) (hx : t.val.2.1.length ≤ 2000000) (hk : t.kids.length ≤ maxLen) (h : ∀ k ∈ t.kids,Rc k = some (f k)) :
  Xj Rc t = some (QE1 t.val (t.kids.length : Int) && t.kids.all fun k=>f k && Qqn t.val.1 k):=by
 have hL : ∀ b,Zu t.kids (QF Rc t.val t.kids b) = some (b && t.kids.all fun k=>f k && Qqn t.val.1 k):=fun b=>by rw [QG hk,QiB t.val t.kids b h]
 have h1 : wfD Qa t.val.2.2.1:=hw.2.2.1
 have h2 : t.val.2.1.length ≤ maxLen:=XR hw.2.1
 have hv : XA UI t.val.2.1 = some (decide (t.val.2.1 ∈ QiA)):=QD4 (xs:=QiA) (by show (4 : Nat) ≤ maxLen; unfold maxLen; omega) _
 have ht : (Qcn 256 t.val.2.1 []).2 = QH8 t.val.2.1:=rfl
 simp only [Xj,Yy,Va,Tree.eta,hL,QAh,Xp h1,Xo h2,QAf hx,QkQ h2,hv,Option.bind_some,ht]
 generalize (t.kids.all fun k=>f k && Qqn t.val.1 k) = K
 simp only [QE1,QCa,QDe,Xw,Qba,Zx,JJ]
 clear hw h h1 h2 hv hL ht hx hk
 grind (splits:=40)
def Qww (k : Int) : Int × Int :=
 bif decide (k = 1) || decide (k = 3) then (0,0) else bif decide (k = 2) then (0,10) else bif decide (k = 4) || decide (k = 5) || decide (k = 6) || decide (k = 7) || decide (k = 20) || decide (k = 21) then (1,1)
 else bif decide (k = 10) then (3,3) else (2,2)
theorem QCb (k : Int) : G3 k = some (Qww k):=by
 simp only [G3,G2,Qww,Xw,Qba,Zx]
 grind (splits:=40)
def Wc (n : Qr) : Bool:=decide (1 ≤ n.1) && decide (n.1 ≤ 21) && (decide ((Qww n.1).1 ≤ n.2.2.2) && decide (n.2.2.2 ≤ (Qww n.1).2)) && (decide (n.1 = 1) || QDe n.2.2.1) && QCa n
theorem Qqo {g : List (List Int)} (hg : g = QiA) {n : Qr} (hw : wfD Qo n) (hx : n.2.1.length ≤ 2000000) : Yi g n = some (Wc n):=by
 subst hg
 have h1 : wfD Qa n.2.2.1:=hw.2.2.1
 have h2 : n.2.1.length ≤ maxLen:=XR hw.2.1
 have hv : Q0 QiA n.2.1 = some (decide (n.2.1 ∈ QiA)):=QB7 (by show (4 : Nat) ≤ maxLen; unfold maxLen; omega) _
 have ht : (Qcn (-1) n.2.1 []).2 = QH8 n.2.1:=QAz _ _ n.2.1.length _ _ _ (Nat.le_refl _)
 have hp : QcU n.2.1 0 200 = (decide ((n.2.1.length : Int) ≤ 200) && Qd0 n.2.1):=by
  unfold QcU Qd0
  rw [decide_eq_false (show ¬ (n.2.1.length : Int) < 0 by omega)]
  by_cases q : (n.2.1.length : Int) ≤ 200
  ·rw [decide_eq_true q,decide_eq_false (show ¬ (200 : Int) < (n.2.1.length : Int) by omega)]; rfl
  ·rw [decide_eq_false q,decide_eq_true (show (200 : Int) < (n.2.1.length : Int) by omega)]; rfl
 simp only [Yi,V0,YS,JA,QU,QCb,H2 h1,H1 h2,QAg hx,Qns _ _ h2,hv,Option.bind_some,ht,hp,Wc,QCa,QDe,Xw,Qba,Zx,JJ]
 clear hw h1 h2 hv ht hx hp
 generalize Qww n.1 = K
 grind (splits:=40)
theorem QFZ {n : Qr} {c : Int} (h : c = n.2.2.2) (h0 : 0 ≤ n.2.2.2) (h1 : n.2.2.2 ≤ 10) : QE1 n c = Wc n:=by
 subst h
 unfold QE1 Wc QDd Qww
 generalize (decide (n.1 = 1) || QDe n.2.2.1) = A
 generalize QCa n = B
 generalize n.2.2.2 = c at *
 generalize n.1 = k at *
 cases A <;> cases B <;> simp
 grind (splits:=40)
def Qco (f : Nat → Option (QA × Nat)) : Nat → Nat → Option (List QA × Nat)
 | 0,a=>some ([],a)
 | c + 1,a=>match f a with
  | none=>none
  | some (t,a2)=>match Qco f c a2 with
   | none=>none
   | some (l,a3)=>some (t :: l,a3)
def Er (e : List Qr) : Nat → Nat → Option (QA × Nat)
 | 0,_=>none
 | d + 1,a=>match e[a]? with
  | none=>none
  | some n=>bif decide (0 ≤ n.2.2.2) && decide (n.2.2.2 ≤ 10) then (match Qco (Er e d) n.2.2.2.toNat (a + 1) with
   | none=>none
   | some (l,a2)=>some (.node n l,a2)) else none
def QGx : QA:=Tree.node (0,([] : List Int),(0,0,([] : List Int),([] : List Int)),0) []
def QCL : Option (QA × Nat) → QA × Int
 | none=>(QGx,-1)
 | some (t,a)=>(t,(a : Int))
theorem QE2 {f : Nat → Option (QA × Nat)} (hf : ∀ a t a2,f a = some (t,a2) → a ≤ a2) : ∀ (c a : Nat) (l : List QA) (a2 : Nat),Qco f c a = some (l,a2) → a ≤ a2 ∧ l.length = c
 | 0,a,l,a2,h=>by simp only [Qco,Option.some.injEq,Prod.mk.injEq] at h; obtain ⟨rfl,rfl⟩:=h; exact ⟨Nat.le_refl _,rfl⟩
 | c + 1,a,l,a2,h=>by
  simp only [Qco] at h
  split at h
  ·cases h
  ·rename_i t a3 ht
   split at h
   ·cases h
   ·rename_i l' a4 hl
    simp only [Option.some.injEq,Prod.mk.injEq] at h
    obtain ⟨rfl,rfl⟩:=h
    have h1:=hf _ _ _ ht
    obtain ⟨h2,h3⟩:=QE2 hf c a3 l' a4 hl
    exact ⟨by omega,by simp [h3]⟩
theorem QkX {Rc : List Qr → Int → Int → Option (QA × Int)} {e : List Qr} {deep : Int} {f : Nat → Option (QA × Nat)} (hR : ∀ a : Nat,Rc e (a : Int) (IntKind.wrap .i64 (deep + 1)) = some (QCL (f a))) {n : Qr} (hn : n.2.2.2 ≤ 10) :
  ∀ (c i m a : Nat) (ks : List QA),(i : Int) + c = n.2.2.2 → ks.length = i → c < m → Ye Rc e deep m (a : Int) (i : Int) ks (Tree.node n ks) = some (match Qco f c a with
   | none=>(QGx,-1)
   | some (l,a2)=>(Tree.node n (ks ++ l),(a2 : Int)))
 | 0,i,m,a,ks,hc,hk,hm=>by
  obtain ⟨m,rfl⟩ : ∃ j,m = j + 1:=⟨m - 1,by omega⟩
  rw [Ye,decide_eq_false (show ¬ (i : Int) < (Tree.node n ks).val.2.2.2 by show ¬ (i : Int) < n.2.2.2; omega)]
  simp [Qco,Tree.val]
 | c + 1,i,m,a,ks,hc,hk,hm=>by
  obtain ⟨m,rfl⟩ : ∃ j,m = j + 1:=⟨m - 1,by omega⟩
  rw [Ye,decide_eq_true (show (i : Int) < (Tree.node n ks).val.2.2.2 by show (i : Int) < n.2.2.2; omega),hR a,Option.bind_some,Qco]
  cases hf : f a with
  | none=>rfl
  | some q =>
   obtain ⟨t,a2⟩:=q
   have hw : IntKind.wrap .i64 ((i : Int) + 1) = ((i + 1 : Nat) : Int):=Qy (len:=100) (by unfold maxLen; omega) (by omega)
   have ih:=QkX hR hn c (i + 1) m a2 (ks ++ [t]) (by omega) (by simp; omega) (by omega)
   have hg:=QB9 (b:=104) (xs:=ks) (ys:=[t]) (by omega) (by simp) (by omega)
   have hg : (decide (((ks.length : Int) + (([t] : List QA).length : Int)) * 104 ≤ Qv) && decide ((ks.length : Int) + (([t] : List QA).length : Int) ≤ Qv)) = true:=hg
   simp only [QCL,Tree.eta,hw]
   have h5 : ¬ (a2 : Int) < 0:=by omega
   simp only [h5,hg,decide_false,cond_true,cond_false]
   have hv : (Tree.node n ks).val = n:=rfl
   rw [hv,ih]
   cases Qco f c a2 with
   | none=>rfl
   | some q=>obtain ⟨l,a3⟩:=q; simp
theorem QCc (e : List Qr) : ∀ (d a : Nat) (t : QA) (a2 : Nat),Er e d a = some (t,a2) → a < a2 ∧ ∃ n l,e[a]? = some n ∧ t = .node n l ∧ 0 ≤ n.2.2.2 ∧ n.2.2.2 ≤ 10 ∧ Qco (Er e (d - 1)) n.2.2.2.toNat (a + 1) = some (l,a2)
 | 0,a,t,a2,h=>by cases h
 | d + 1,a,t,a2,h=>by
  simp only [Er] at h
  split at h
  ·cases h
  ·rename_i n hn
   cases hc : (decide (0 ≤ n.2.2.2) && decide (n.2.2.2 ≤ 10)) with
   | false=>rw [hc] at h; cases h
   | true =>
    rw [hc] at h
    simp only [cond_true] at h
    split at h
    ·cases h
    ·rename_i l a3 hl
     simp only [Option.some.injEq,Prod.mk.injEq] at h
     obtain ⟨rfl,rfl⟩:=h
     simp only [Bool.and_eq_true,decide_eq_true_eq] at hc
     obtain ⟨h2,_⟩:=QE2 (fun a t a2 h=>Nat.le_of_lt (QCc e d a t a2 h).1) _ _ _ _ hl
     exact ⟨by omega,n,l,hn,rfl,hc.1,hc.2,hl⟩
theorem QH9 {e : List Qr} {a : Nat} {n : Qr} (h : e[a]? = some n) : rd e (a : Int) (Ty.dflt Qo) = n:=Qa7 h
theorem QkY {e : List Qr} (he : e.length ≤ maxLen) : ∀ (r d : Nat) (a : Nat),d ≤ 12 → d < r → GZ r e (a : Int) (13 - (d : Int)) = some (QCL (Er e d a))
 | 0,d,a,h,hr=>by omega
 | r + 1,d,a,h,hr=>by
  show (Qcw fun m=>UH (GZ r) m e (a : Int) (13 - (d : Int))) = _
  refine VH ⟨12,fun m hm=>?_⟩
  unfold UH
  have zz : (Tree.node (0,([] : List Int),(0,0,([] : List Int),([] : List Int)),0) [] : QA) = QGx:=rfl
  rw [zz]
  cases d with
  | zero =>
   rw [decide_eq_true (show (12 : Int) < 13 - ((0 : Nat) : Int) by omega)]
   cases decide ((e.length : Int) ≤ (a : Int)) <;> rfl
  | succ d =>
   rw [decide_eq_false (show ¬ (12 : Int) < 13 - ((d + 1 : Nat) : Int) by omega),Er]
   cases hn : e[a]? with
   | none =>
    have:=List.getElem?_eq_none_iff.1 hn
    rw [decide_eq_true (show (e.length : Int) ≤ (a : Int) by omega)]; rfl
   | some n =>
    have ha : a < e.length:=(List.getElem?_eq_some_iff.1 hn).1
    rw [decide_eq_false (show ¬ (e.length : Int) ≤ (a : Int) by omega),Qx ha,QH9 hn]
    simp only [cond_true,cond_false]
    by_cases h0 : 0 ≤ n.2.2.2
    case neg=>rw [decide_eq_true (show n.2.2.2 < 0 by omega),decide_eq_false h0]; rfl
    by_cases h1 : n.2.2.2 ≤ 10
    case neg=>rw [decide_eq_false (show ¬ n.2.2.2 < 0 by omega),decide_eq_true (show 10 < n.2.2.2 by omega),decide_eq_true h0,decide_eq_false h1]; rfl
    rw [decide_eq_false (show ¬ n.2.2.2 < 0 by omega),decide_eq_false (show ¬ 10 < n.2.2.2 by omega),decide_eq_true h0,decide_eq_true h1,Qy he ha]
    simp only [cond_true,cond_false,Bool.and_self]
    have hd : IntKind.wrap .i64 (13 - ((d + 1 : Nat) : Int) + 1) = 13 - (d : Int):=by
     rw [QiL (by omega)]; omega
    have hR : ∀ a : Nat,GZ r e (a : Int) (IntKind.wrap .i64 (13 - ((d + 1 : Nat) : Int) + 1)) = some (QCL (Er e d a)):=fun a=>by
     rw [hd]; exact QkY he r d a (by omega) (by omega)
    have hl:=QkX hR h1 n.2.2.2.toNat 0 m (a + 1) [] (by omega) rfl (by omega)
    rw [show ((0 : Nat) : Int) = 0 from rfl] at hl
    rw [hl]
    cases Qco (Er e d) n.2.2.2.toNat (a + 1) with
    | none=>rfl
    | some q=>rfl
theorem QCd {e : List Qr} (he : e.length ≤ maxLen) : Qbm e 0 1 = some (QCL (Er e 12 0)) :=
 VH ⟨13,fun r hr=>QkY he r 12 0 (by omega) (by omega)⟩
mutual
def setOk : QA → Bool
 | .node n ks=>setOkL n.1 ks
def setOkL (k : Int) : List QA → Bool
 | []=>true
 | t :: r=>setOk t && Qqn k t && setOkL k r
end
mutual
def flat : QA → List Qr
 | .node n ks=>n :: flatL ks
def flatL : List QA → List Qr
 | []=>[]
 | t :: r=>flat t ++ flatL r
end
mutual
def rightB : QA → Bool
 | .node n ks=>QE1 n (ks.length : Int) && rightL n.1 ks
def rightL (k : Int) : List QA → Bool
 | []=>true
 | t :: r=>(rightB t && Qqn k t) && rightL k r
end
mutual
def hgt : QA → Nat
 | .node _ ks=>hgtL ks + 1
def hgtL : List QA → Nat
 | []=>0
 | t :: r=>hgt t + hgtL r
end
mutual
def cntOk : QA → Prop
 | .node n ks=>(ks.length : Int) = n.2.2.2 ∧ n.2.2.2 ≤ 10 ∧ cntOkL ks
def cntOkL : List QA → Prop
 | []=>True
 | t :: r=>cntOk t ∧ cntOkL r
end
theorem QCe (k : Int) : ∀ l : List QA,rightL k l = l.all fun t=>rightB t && Qqn k t
 | []=>rfl
 | t :: r=>by rw [rightL,QCe k r,List.all_cons]
theorem QE3 {t : QA} : ∀ {l : List QA},t ∈ l → hgt t ≤ hgtL l
 | e :: r,h=>by
  rw [hgtL]
  rcases List.mem_cons.1 h with rfl | h
  ·omega
  ·have:=QE3 h; omega
theorem QDf {t : QA} {n : Qr} (hn : n ∈ flat t) : ∀ {l : List QA},t ∈ l → n ∈ flatL l
 | e :: r,h=>by
  rw [flatL,List.mem_append]
  rcases List.mem_cons.1 h with rfl | h
  ·exact .inl hn
  ·exact .inr (QDf hn h)
theorem QCf {t : QA} : ∀ {l : List QA},cntOkL l → t ∈ l → cntOk t
 | e :: r,hc,h=>by
  rw [cntOkL] at hc
  rcases List.mem_cons.1 h with rfl | h
  ·exact hc.1
  ·exact QCf hc.2 h
theorem QiC : ∀ (r : Nat) (t : QA),hgt t ≤ r → cntOk t → (∀ n ∈ flat t,wfD Qo n ∧ n.2.1.length ≤ 2000000) → Xk r t = some (rightB t)
 | 0,.node n ks,h,_,_=>by rw [hgt] at h; omega
 | r + 1,.node n ks,h,hc,hw=>by
  rw [hgt] at h
  rw [cntOk] at hc
  have hn:=hw n (by rw [flat]; simp)
  show Xj (Xk r) (.node n ks) = _
  rw [Qwv (f:=rightB) (t:=.node n ks) hn.1 hn.2 (by show ks.length ≤ maxLen; unfold maxLen; omega) (fun k hk=>QiC r k (by have : hgt k ≤ hgtL ks:=QE3 hk; omega) (QCf hc.2.2 hk) (fun n hn=>hw n (by rw [flat,List.mem_cons]; exact .inr (QDf hn hk)))),
   rightB,QCe]
  rfl
theorem QAi {t : QA} (hc : cntOk t) (hw : ∀ n ∈ flat t,wfD Qo n ∧ n.2.1.length ≤ 2000000) : EG t = some (rightB t) :=
 VH ⟨hgt t,fun r hr=>QiC r t hr hc hw⟩
mutual
theorem right_flat : ∀ t : QA,cntOk t → rightB t = ((flat t).all Wc && setOk t)
 | .node n ks,hc=>by
  rw [cntOk] at hc
  rw [rightB,flat,setOk,List.all_cons,right_flatL n.1 ks hc.2.2,QFZ hc.1 (by omega) hc.2.1,Bool.and_assoc]
theorem right_flatL (k : Int) : ∀ l : List QA,cntOkL l → rightL k l = ((flatL l).all Wc && setOkL k l)
 | [],_=>rfl
 | t :: r,hc=>by
  rw [cntOkL] at hc
  rw [rightL,flatL,setOkL,List.all_append,right_flat t hc.1,right_flatL k r hc.2]
  cases (flat t).all Wc <;> cases (flatL r).all Wc <;> cases setOk t <;> cases Qqn k t <;> cases setOkL k r <;> rfl
end
theorem QHd {α : Type} {e : List α} {a b c : Nat} (h1 : a ≤ b) (h2 : b ≤ c) : (e.drop a).take (b - a) ++ (e.drop b).take (c - b) = (e.drop a).take (c - a):=by
 rw [show c - a = (b - a) + (c - b) by omega,List.take_add,List.drop_drop,show a + (b - a) = b by omega]
theorem QCg {e : List Qr} {f : Nat → Option (QA × Nat)} (hf : ∀ a t a2,f a = some (t,a2) → a ≤ a2 ∧ a2 ≤ e.length ∧ flat t = (e.drop a).take (a2 - a) ∧ cntOk t) :
  ∀ (c a : Nat) (l : List QA) (a2 : Nat),a ≤ e.length → Qco f c a = some (l,a2) → a ≤ a2 ∧ a2 ≤ e.length ∧ flatL l = (e.drop a).take (a2 - a) ∧ cntOkL l ∧ l.length = c
 | 0,a,l,a2,ha,h=>by simp only [Qco,Option.some.injEq,Prod.mk.injEq] at h; obtain ⟨rfl,rfl⟩:=h; exact ⟨Nat.le_refl _,ha,by simp [flatL],by rw [cntOkL]; trivial,rfl⟩
 | c + 1,a,l,a2,ha,h=>by
  simp only [Qco] at h
  split at h
  ·cases h
  ·rename_i t a3 ht
   split at h
   ·cases h
   ·rename_i l' a4 hl
    simp only [Option.some.injEq,Prod.mk.injEq] at h
    obtain ⟨rfl,rfl⟩:=h
    obtain ⟨g1,g2,g3,g4⟩:=hf _ _ _ ht
    obtain ⟨k1,k2,k3,k4,k5⟩:=QCg hf c a3 l' a4 g2 hl
    exact ⟨by omega,k2,by rw [flatL,g3,k3,QHd g1 k1],by rw [cntOkL]; exact ⟨g4,k4⟩,by simp [k5]⟩
theorem Qt9 {e : List Qr} : ∀ (d a : Nat) (t : QA) (a2 : Nat),Er e d a = some (t,a2) → a ≤ a2 ∧ a2 ≤ e.length ∧ flat t = (e.drop a).take (a2 - a) ∧ cntOk t
 | 0,a,t,a2,h=>by cases h
 | d + 1,a,t,a2,h=>by
  obtain ⟨h1,n,l,hn,rfl,h2,h3,h4⟩:=QCc e (d + 1) a t a2 h
  have ha : a < e.length:=(List.getElem?_eq_some_iff.1 hn).1
  obtain ⟨k1,k2,k3,k4,k5⟩:=QCg (e:=e) (fun a t a2 h=>Qt9 d a t a2 h) _ _ _ _ (by omega) h4
  refine ⟨by omega,k2,?_,?_⟩
  ·have hd : e.drop a = n :: e.drop (a + 1):=by
    rw [List.drop_eq_getElem_cons ha]
    congr 1
    exact (List.getElem?_eq_some_iff.1 hn).2
   rw [flat,k3,hd,show a2 - a = (a2 - (a + 1)) + 1 by omega,List.take_succ_cons]
  ·rw [cntOk]
   exact ⟨by rw [k5]; omega,h3,k4⟩
def Qyw : Option (QA × Nat) → Int
 | none=>-1
 | some (t,a)=>bif setOk t then (a : Int) else -1
theorem QiD {Rc : List Qr → Int → Int → Option Int} {e : List Qr} {deep : Int} {f : Nat → Option (QA × Nat)} (hR : ∀ a : Nat,Rc e (a : Int) (IntKind.wrap .i64 (deep + 1)) = some (Qyw (f a))) {n : Qr} (hn : n.2.2.2 ≤ 10)
  (hf : ∀ a t a2,f a = some (t,a2) → e[a]? = some t.val) :
  ∀ (c i m a : Nat),(i : Int) + c = n.2.2.2 → c < m → Jc Rc e deep n.2.2.2 n m (a : Int) (i : Int) = some (match Qco f c a with
   | none=>-1
   | some (l,a2)=>bif setOkL n.1 l then (a2 : Int) else -1)
 | 0,i,m,a,hc,hm=>by
  obtain ⟨m,rfl⟩ : ∃ j,m = j + 1:=⟨m - 1,by omega⟩
  rw [Jc,decide_eq_false (show ¬ (i : Int) < n.2.2.2 by omega)]
  rfl
 | c + 1,i,m,a,hc,hm=>by
  obtain ⟨m,rfl⟩ : ∃ j,m = j + 1:=⟨m - 1,by omega⟩
  have hw : IntKind.wrap .i64 ((i : Int) + 1) = ((i + 1 : Nat) : Int):=Qy (len:=100) (by unfold maxLen; omega) (by omega)
  have ih:=fun a2=>QiD hR hn hf c (i + 1) m a2 (by omega) (by omega)
  rw [Jc,decide_eq_true (show (i : Int) < n.2.2.2 by omega),hR a,Option.bind_some,Qco,hw]
  cases hfa : f a with
  | none =>
   have hm1 : decide ((-1 : Int) < 0) = true:=by decide
   simp only [Qyw,hm1,cond_true]
   cases decide (n.1 = 2) with
   | false=>rfl
   | true =>
    by_cases ha : a < e.length
    ·rw [decide_eq_false (show ¬ (e.length : Int) ≤ (a : Int) by omega),Qx ha]
     cases decide ((rd e (a : Int) (Ty.dflt Qo)).1 = 1) <;> rfl
    ·rw [decide_eq_true (show (e.length : Int) ≤ (a : Int) by omega)]; rfl
  | some q =>
   obtain ⟨t,a2⟩:=q
   have hv:=hf _ _ _ hfa
   have ha : a < e.length:=(List.getElem?_eq_some_iff.1 hv).1
   rw [decide_eq_false (show ¬ (e.length : Int) ≤ (a : Int) by omega),Qx ha,QH9 hv]
   have h5 : ¬ (a2 : Int) < 0:=by omega
   have hk : ∀ l : List QA,setOkL n.1 (t :: l) = (setOk t && Qqn n.1 t && setOkL n.1 l):=fun l=>by rw [setOkL]
   cases hs : setOk t with
   | false =>
    have hm1 : decide ((-1 : Int) < 0) = true:=by decide
    simp only [Qyw,hs,cond_false,cond_true,hm1]
    cases decide (n.1 = 2) <;> cases decide (t.val.1 = 1) <;> cases Qco f c a2 <;> simp [hk,hs]
   | true =>
    simp only [Qyw,hs,cond_true,cond_false,h5,decide_false,ih a2]
    cases hl : Qco f c a2 with
    | none=>cases decide (n.1 = 2) <;> cases decide (t.val.1 = 1) <;> rfl
    | some q =>
     obtain ⟨l,a3⟩:=q
     simp only [hk,hs,Qqn,Bool.true_and]
     cases decide (n.1 = 2) <;> cases decide (t.val.1 = 1) <;> simp
theorem QiE {e : List Qr} (he : e.length ≤ maxLen) (hg : ∀ n ∈ e,0 ≤ n.2.2.2 ∧ n.2.2.2 ≤ 10) : ∀ (r d : Nat) (a : Nat),d ≤ 12 → d < r → Gs r e (a : Int) (13 - (d : Int)) = some (Qyw (Er e d a))
 | 0,d,a,h,hr=>by omega
 | r + 1,d,a,h,hr=>by
  show (Qcw fun m=>HU (Gs r) m e (a : Int) (13 - (d : Int))) = _
  refine VH ⟨12,fun m hm=>?_⟩
  unfold HU
  cases d with
  | zero =>
   rw [decide_eq_true (show (12 : Int) < 13 - ((0 : Nat) : Int) by omega)]
   cases decide ((e.length : Int) ≤ (a : Int)) <;> rfl
  | succ d =>
   rw [decide_eq_false (show ¬ (12 : Int) < 13 - ((d + 1 : Nat) : Int) by omega),Er]
   cases hn : e[a]? with
   | none =>
    have:=List.getElem?_eq_none_iff.1 hn
    rw [decide_eq_true (show (e.length : Int) ≤ (a : Int) by omega)]; rfl
   | some n =>
    have ha : a < e.length:=(List.getElem?_eq_some_iff.1 hn).1
    obtain ⟨h0,h1⟩:=hg n (List.mem_of_getElem? hn)
    rw [decide_eq_false (show ¬ (e.length : Int) ≤ (a : Int) by omega),Qx ha,QH9 hn]
    simp only [cond_true,cond_false]
    rw [decide_eq_true h0,decide_eq_true h1,Qy he ha]
    simp only [cond_true,Bool.and_self]
    have hd : IntKind.wrap .i64 (13 - ((d + 1 : Nat) : Int) + 1) = 13 - (d : Int):=by
     rw [QiL (by omega)]; omega
    have hR : ∀ a : Nat,Gs r e (a : Int) (IntKind.wrap .i64 (13 - ((d + 1 : Nat) : Int) + 1)) = some (Qyw (Er e d a)):=fun a=>by
     rw [hd]; exact QiE he hg r d a (by omega) (by omega)
    have hl:=QiD hR h1 (fun a t a2 h=>by
     obtain ⟨_,n',l',q1,rfl,_⟩:=QCc e d a t a2 h
     exact q1) n.2.2.2.toNat 0 m (a + 1) (by omega) (by omega)
    rw [show ((0 : Nat) : Int) = 0 from rfl] at hl
    rw [hl]
    cases Qco (Er e d) n.2.2.2.toNat (a + 1) with
    | none=>rfl
    | some q=>simp only [Qyw,setOk]
theorem QAj {e : List Qr} (he : e.length ≤ maxLen) (hg : ∀ n ∈ e,0 ≤ n.2.2.2 ∧ n.2.2.2 ≤ 10) : Gt e 0 1 = some (Qyw (Er e 12 0)) :=
 VH ⟨13,fun r hr=>QiE he hg r 12 0 (by omega) (by omega)⟩
def Es (e : List Qr) : Bool:=decide (1 ≤ e.length) && decide (e.length ≤ 60) && (match Er e 12 0 with
 | none=>false
 | some (t,a)=>decide (a = e.length) && rightB t)
def QGy (e : List Qr) : QA:=match Er e 12 0 with
 | none=>QGx
 | some (t,_)=>t
def Qfm (e : List Qr) : Prop:=∀ n ∈ e,wfD Qo n ∧ n.2.1.length ≤ 2000000
theorem QCh {e : List Qr} (hw : Qfm e) (hl : e.length ≤ maxLen) : ∃ t,G0 e = some (t,Es e) ∧ (Es e = true → t = QGy e):=by
 unfold G0 Es QGy
 by_cases h1 : 1 ≤ e.length
 case neg=>rw [decide_eq_true (show (e.length : Int) < 1 by omega),decide_eq_false h1]; exact ⟨_,rfl,fun h=>by simp at h⟩
 by_cases h2 : e.length ≤ 60
 case neg=>rw [decide_eq_false (show ¬ (e.length : Int) < 1 by omega),decide_eq_true (show 60 < (e.length : Int) by omega),decide_eq_false h2,decide_eq_true h1]; exact ⟨_,rfl,fun h=>by simp at h⟩
 rw [decide_eq_false (show ¬ (e.length : Int) < 1 by omega),decide_eq_false (show ¬ 60 < (e.length : Int) by omega),decide_eq_true h1,decide_eq_true h2,cond_false,cond_false,HG,QCd hl,Option.bind_some]
 cases ht : Er e 12 0 with
 | none =>
  rw [decide_eq_false (show ¬ (QCL none).2 = (e.length : Int) by show ¬ (-1 : Int) = _; omega)]
  exact ⟨_,rfl,fun h=>by simp at h⟩
 | some q =>
  obtain ⟨t,a⟩:=q
  obtain ⟨k1,k2,k3,k4⟩:=Qt9 _ _ _ _ ht
  have het : Tree.node (QCL (some (t,a))).1.val (QCL (some (t,a))).1.kids = t:=Tree.eta t
  rw [het]
  dsimp only
  by_cases ha : a = e.length
  ·have hf : ∀ n ∈ flat t,wfD Qo n ∧ n.2.1.length ≤ 2000000:=fun n hn=>hw n (by rw [k3] at hn; exact List.mem_of_mem_drop (List.mem_of_mem_take hn))
   rw [decide_eq_true (show (QCL (some (t,a))).2 = (e.length : Int) by show (a : Int) = _; omega),decide_eq_true ha,QAi k4 hf]
   exact ⟨t,by simp,fun _=>rfl⟩
  ·rw [decide_eq_false (show ¬ (QCL (some (t,a))).2 = (e.length : Int) by show ¬ (a : Int) = _; omega),decide_eq_false ha]
   exact ⟨t,by simp,fun h=>by simp at h⟩
theorem QF0 {n : Qr} (h : Wc n = true) : 0 ≤ n.2.2.2 ∧ n.2.2.2 ≤ 10:=by
 unfold Wc at h
 simp only [Bool.and_eq_true,decide_eq_true_eq] at h
 obtain ⟨⟨⟨_,h3,h4⟩,_⟩,_⟩:=h
 have : 0 ≤ (Qww n.1).1 ∧ (Qww n.1).2 ≤ 10:=by
  unfold Qww
  cases decide (n.1 = 1) || decide (n.1 = 3) with
  | true=>simp
  | false =>
   cases decide (n.1 = 2) with
   | true=>simp
   | false =>
    cases decide (n.1 = 4) || decide (n.1 = 5) || decide (n.1 = 6) || decide (n.1 = 7) || decide (n.1 = 20) || decide (n.1 = 21) with
    | true=>simp
    | false=>cases decide (n.1 = 10) <;> simp
 omega
theorem QiF {g : List (List Int)} (hg : g = QiA) {xs : List Qr} {T : Bool} (hT : xs.all Wc = true → Option.bind (Gt xs 0 1) (fun y3 : Int=>some (decide (y3 = (xs.length : Int)))) = some T) :
  ∀ (r : List Qr) (k : Nat),(∀ n ∈ r,wfD Qo n ∧ n.2.1.length ≤ 2000000) → (r.all Wc = true → xs.all Wc = true) → QY g xs r k = some (r.all Wc && T)
 | [],k,_,h=>by
  rw [QY,cond_false,hT (h rfl)]; rfl
 | e :: r,k,hw,h=>by
  rw [QY,Qqo hg (hw e (by simp)).1 (hw e (by simp)).2,Option.bind_some,List.all_cons]
  cases hn : Wc e with
  | false=>simp [QH7]
  | true =>
   rw [QiF hg hT r (k + 1) (fun n h=>hw n (by simp [h])) (fun h2=>h (by rw [List.all_cons,hn,h2]; rfl))]
   rfl
theorem QIH {t : QA} {a n : Nat} (h : a ≠ n) : ¬ Qyw (some (t,a)) = (n : Int):=by
 show ¬ (bif setOk t then (a : Int) else -1) = (n : Int)
 cases setOk t with
 | true=>rw [cond_true]; omega
 | false=>rw [cond_false]; omega
theorem QII {t : QA} {n : Nat} : decide (Qyw (some (t,n)) = (n : Int)) = setOk t:=by
 cases hs : setOk t with
 | true=>exact decide_eq_true (show (bif setOk t then (n : Int) else -1) = (n : Int) by rw [hs]; rfl)
 | false=>exact decide_eq_false (show ¬ (bif setOk t then (n : Int) else -1) = (n : Int) by rw [hs,cond_false]; omega)
theorem QyU {e : List Qr} : Es e = (decide (1 ≤ e.length) && decide (e.length ≤ 60) && (e.all Wc && decide (Qyw (Er e 12 0) = (e.length : Int)))):=by
 unfold Es
 cases ht : Er e 12 0 with
 | none=>rw [decide_eq_false (show ¬ Qyw none = (e.length : Int) by show ¬ (-1 : Int) = _; omega)]; simp
 | some q =>
  obtain ⟨t,a⟩:=q
  obtain ⟨k1,k2,k3,k4⟩:=Qt9 _ _ _ _ ht
  dsimp only
  by_cases ha : a = e.length
  ·subst ha
   rw [decide_eq_true rfl,right_flat t k4,k3,QII]
   simp only [Nat.sub_zero,List.drop_zero,List.take_length,Bool.true_and]
  ·rw [decide_eq_false ha,decide_eq_false (QIH ha)]
   simp
theorem QAk {g : List (List Int)} (hg : g = QiA) {e : List Qr} (hw : Qfm e) (hl : e.length ≤ maxLen) : Gu g e = some (Es e):=by
 rw [QyU]
 unfold Gu
 by_cases h1 : 1 ≤ e.length
 case neg=>rw [decide_eq_true (show (e.length : Int) = 0 by omega),decide_eq_false h1]; rfl
 by_cases h2 : e.length ≤ 60
 case neg=>rw [decide_eq_false (show ¬ (e.length : Int) = 0 by omega),decide_eq_true (show 60 < (e.length : Int) by omega),decide_eq_true h1,decide_eq_false h2]; rfl
 rw [decide_eq_false (show ¬ (e.length : Int) = 0 by omega),decide_eq_false (show ¬ 60 < (e.length : Int) by omega),decide_eq_true h1,decide_eq_true h2,cond_false,cond_false,QG hl,
  QiF hg (T:=decide (Qyw (Er e 12 0) = (e.length : Int))) (fun ha=>by rw [QAj hl (fun n hn=>QF0 (List.all_eq_true.1 ha n hn)),Option.bind_some]) e 0 hw id]
 rfl
def QJc : List (List UInt8):=[[112,114,105,110,99,105,112,97,108],[97,99,116,105,111,110],[114,101,115,111,117,114,99,101],[99,111,110,116,101,120,116]]
theorem QAl {P : Program} {W : World} {t e : TypeId} {fuel : Nat} {cs : List Value} {ps : List MemPlace} (hu : P.underlying t = some (.slice e)) (he : GE P JB e = some .str)
  (h : DataW.trod (fun _=>()) P W 0 (fun _=>true) false fuel t cs = some (QDR QJc,ps)) : ∃ es : List (List Int),RelD (Qf3 W) (.list .str) es cs ∧ es = QiA :=
 ⟨_,QG8 hu he (by decide) h,rfl⟩
def QdT (h : J6) : Bool:=!decide (h.1 = 5) && !decide (h.1 = 6) && Hm h
theorem Qqp {h : J6} (hw : wfD Qs h) : Zc h false = some (QdT h):=by
 have h1 : wfD Qa h.2.1:=hw.2.1
 have h2 : wfD .str h.2.2:=hw.2.2
 simp only [Zc,Yn,Xp h1,Xo (XR h2),Option.bind_some,QdT,Hm,GF,Xw,Qba,Zx,JJ,cond_false]
 clear hw h1 h2
 grind (splits:=30)
theorem Qua {h : J6} (hw : wfD Qs h) : Zy h true = some (QdT h):=by
 have h1 : wfD Qa h.2.1:=hw.2.1
 have h2 : wfD .str h.2.2:=hw.2.2
 simp only [Zy,Vf,YN,Xq h1,H1 (XR h2),QU,Option.bind_some,QdT,Hm,Xw,Qba,Zx,JJ,Bool.not_true]
 clear hw h1 h2
 grind (splits:=30)
def Gv (p : Qi) : Bool:=Qt8 p.1 && Hm p.2.2.1 && QdT p.2.2.2.1 && Hm p.2.2.2.2.1 && (decide ((p.2.2.2.2.2.length : Int) = 0) || Es p.2.2.2.2.2)
theorem QAm {e : List Qr} (hw : Qfm e) (hl : e.length ≤ maxLen) : Gp e = some (Es e):=by
 obtain ⟨t,h,_⟩:=QCh hw hl
 rw [Gp,h]; rfl
theorem Qwx {p : Qi} (hw : wfD Qg p) (hx : Qfm p.2.2.2.2.2) : Vp p = some (Gv p):=by
 have w : wfD .str p.1 ∧ wfD .bool p.2.1 ∧ wfD Qs p.2.2.1 ∧ wfD Qs p.2.2.2.1 ∧ wfD Qs p.2.2.2.2.1 ∧ wfD (.list Qo) p.2.2.2.2.2:=hw
 rw [Vp,QEX (XR w.1),QhL w.2.2.1,Qqp w.2.2.2.1,QhL w.2.2.2.2.1,QAm hx w.2.2.2.2.2.1]
 simp only [Option.bind_some,Gv]
 cases Qt8 p.1 <;> cases Hm p.2.2.1 <;> cases QdT p.2.2.2.1 <;> cases Hm p.2.2.2.2.1 <;> cases decide ((p.2.2.2.2.2.length : Int) = 0) <;> cases Es p.2.2.2.2.2 <;> rfl
theorem Qwy {g : List (List Int)} (hg : g = QiA) {p : Qi} (hw : wfD Qg p) (hx : Qfm p.2.2.2.2.2) : Vt g p = some (Gv p):=by
 have w : wfD .str p.1 ∧ wfD .bool p.2.1 ∧ wfD Qs p.2.2.1 ∧ wfD Qs p.2.2.2.1 ∧ wfD Qs p.2.2.2.2.1 ∧ wfD (.list Qo) p.2.2.2.2.2:=hw
 rw [Vt,QB8 (XR w.1),QkV w.2.2.1,Qua w.2.2.2.1,QkV w.2.2.2.2.1,QAk hg hx w.2.2.2.2.2.1]
 simp only [Option.bind_some,Gv]
 cases Qt8 p.1 <;> cases Hm p.2.2.1 <;> cases QdT p.2.2.2.1 <;> cases Hm p.2.2.2.2.1 <;> cases decide ((p.2.2.2.2.2.length : Int) = 0) <;> cases Es p.2.2.2.2.2 <;> rfl
theorem QGz {l : List Nat} {x : Nat} (h : x ∈ l) : x ≤ l.sum:=by
 induction l with
 | nil=>cases h
 | cons y r ih =>
  rw [List.sum_cons]
  rcases List.mem_cons.1 h with rfl | h
  ·omega
  ·have:=ih h; omega
theorem QIJ {e : List Qr} (hw : wfD (.list Qo) e) (h : Ty.size (.list Qo) e ≤ 1048576) : Qfm e:=by
 intro n hn
 refine ⟨hw.2 n hn,?_⟩
 have h1 : Ty.size (.list Qo) e = e.length + (e.map (Ty.size Qo)).sum:=rfl
 have h2:=QGz (List.mem_map.2 ⟨n,hn,rfl⟩ : Ty.size Qo n ∈ e.map (Ty.size Qo))
 have h3 : n.2.1.length ≤ Ty.size Qo n:=by
  have : Ty.size Qo n = 0 + (n.2.1.length + (Ty.size Qa n.2.2.1 + 0)):=rfl
  omega
 omega
theorem QHe {p : Qi} (hw : wfD Qg p) (h : Ty.size Qg p ≤ 1048576) : Qfm p.2.2.2.2.2:=by
 have w : wfD .str p.1 ∧ wfD .bool p.2.1 ∧ wfD Qs p.2.2.1 ∧ wfD Qs p.2.2.2.1 ∧ wfD Qs p.2.2.2.2.1 ∧ wfD (.list Qo) p.2.2.2.2.2:=hw
 refine QIJ w.2.2.2.2.2 ?_
 have : Ty.size Qg p = p.1.length + (0 + (Ty.size Qs p.2.2.1 + (Ty.size Qs p.2.2.2.1 + (Ty.size Qs p.2.2.2.2.1 + Ty.size (.list Qo) p.2.2.2.2.2)))):=rfl
 omega
theorem Qwz {k : Int} (h0 : 0 ≤ k) (h1 : k ≤ 2199023255552) : IntKind.wrap .i64 k = k:=QiL (by omega)
theorem WK {k : Int} (h0 : 0 ≤ k) (h1 : k ≤ 1099511627776) : Q9 k = some (Qcx k):=QBR k h0 (by unfold Zz; omega)
theorem WL (b : Bool) : (b != b) = false:=by cases b <;> rfl
theorem QkZ {α : Type} (f : α → Int → Int × α) : ∀ (l : List α) (k : Int),(QP f l k).2.length = l.length
 | [],_=>rfl
 | x :: l,k=>by rw [QP]; simp [QkZ f l]
theorem QD5 (e : (List Int)) : X4 .str e = 1:=by kernel_rfl
theorem QD6 (e : (List Int)) (k : Int) : QJ .str e k = ((k + 1),Qcx k):=by kernel_rfl
theorem Qnv : ∀ (l : List (List Int)) (k : Int),(∀ e ∈ l,wfD .str e) → 0 ≤ k → k + ((l.map (X4 .str)).sum : Nat) ≤ 1099511627776 → ZY (QP (QJ .str) l k).2 k = some (QP (QJ .str) l k).1
 | [],k,_,_,_=>rfl
 | e :: l,k,hl,h0,h1=>by
  rw [List.map_cons,List.sum_cons,QD5] at h1
  have hw:=hl e (by simp)
  have ih:=Qnv l (k + 1) (fun p hp=>hl p (by simp [hp])) (by omega) (by omega)
  rw [QP,QD6]
  simp only
  rw [ZY]
  simp (disch:=omega) only [Qwz,WK,Option.bind_some,decide_true,Bool.not_true,cond_false,WL]
  exact ih
theorem Qsc {l : List (List Int)} (hw : wfD (.list .str) l) (k : Int) (h0 : 0 ≤ k) (h1 : k + Xb (.list .str) l ≤ 1099511627776) : ZE (JQ (.list .str) l k).2 k = some (JQ (.list .str) l k).1:=by
 have hlen : (JQ (.list .str) l k).2.length = l.length:=QkZ (QJ .str) l k
 rw [ZE,QG (by rw [hlen]; exact hw.1)]
 exact Qnv l k hw.2 h0 h1
theorem QF1 (e : Qb) : X4 Qa e = (1 + (1 + (1 + 1))):=by kernel_rfl
theorem QF2 (e : Qb) (k : Int) : QJ Qa e k = ((k + 1 + 1 + 1 + 1),((IntKind.wrap .i64 k),((IntKind.wrap .i64 (k + 1)),(Qcx (k + 1 + 1),Qcx (k + 1 + 1 + 1))))):=by kernel_rfl
theorem Qsd : ∀ (l : List Qb) (k : Int),(∀ e ∈ l,wfD Qa e) → 0 ≤ k → k + ((l.map (X4 Qa)).sum : Nat) ≤ 1099511627776 → Jz (QP (QJ Qa) l k).2 k = some (QP (QJ Qa) l k).1
 | [],k,_,_,_=>rfl
 | e :: l,k,hl,h0,h1=>by
  rw [List.map_cons,List.sum_cons,QF1] at h1
  have hw:=hl e (by simp)
  have ih:=Qsd l (k + 1 + 1 + 1 + 1) (fun p hp=>hl p (by simp [hp])) (by omega) (by omega)
  rw [QP,QF2]
  simp only
  rw [Jz]
  simp (disch:=omega) only [Qwz,WK,Option.bind_some,decide_true,Bool.not_true,cond_false,WL]
  exact ih
theorem QyV {l : List Qb} (hw : wfD (.list Qa) l) (k : Int) (h0 : 0 ≤ k) (h1 : k + Xb (.list Qa) l ≤ 1099511627776) : Jk (JQ (.list Qa) l k).2 k = some (JQ (.list Qa) l k).1:=by
 have hlen : (JQ (.list Qa) l k).2.length = l.length:=QkZ (QJ Qa) l k
 rw [Jk,QG (by rw [hlen]; exact hw.1)]
 exact Qsd l k hw.2 h0 h1
theorem QE4 (e : Ql) : X4 Qf e = (1 + ((1 + (1 + (1 + 1))) + (Xb (.list Qa) e.2.2.1 + Xb (.list .str) e.2.2.2))):=by kernel_rfl
theorem QE5 (e : Ql) (k : Int) : QJ Qf e k = ((QP (QJ .str) e.2.2.2 (QP (QJ Qa) e.2.2.1 (k + 1 + 1 + 1 + 1 + 1)).1).1,((IntKind.wrap .i64 k),(((IntKind.wrap .i64 (k + 1)),((IntKind.wrap .i64 (k + 1 + 1)),(Qcx (k + 1 + 1 + 1),Qcx (k + 1 + 1 + 1 + 1)))),((QP (QJ Qa) e.2.2.1 (k + 1 + 1 + 1 + 1 + 1)).2,(QP (QJ .str) e.2.2.2 (QP (QJ Qa) e.2.2.1 (k + 1 + 1 + 1 + 1 + 1)).1).2)))):=by kernel_rfl
theorem Qqq : ∀ (l : List Ql) (k : Int),(∀ e ∈ l,wfD Qf e) → 0 ≤ k → k + ((l.map (X4 Qf)).sum : Nat) ≤ 1099511627776 → Z7 (QP (QJ Qf) l k).2 k = some (QP (QJ Qf) l k).1
 | [],k,_,_,_=>rfl
 | e :: l,k,hl,h0,h1=>by
  rw [List.map_cons,List.sum_cons,QE4] at h1
  have hw:=hl e (by simp)
  have q0:=VO (.list Qa) e.2.2.1 (k + 1 + 1 + 1 + 1 + 1)
  have q0 : (QP (QJ Qa) e.2.2.1 (k + 1 + 1 + 1 + 1 + 1)).1 = _:=q0
  have hh0 : Jk (QP (QJ Qa) e.2.2.1 (k + 1 + 1 + 1 + 1 + 1)).2 (k + 1 + 1 + 1 + 1 + 1) = some (QP (QJ Qa) e.2.2.1 (k + 1 + 1 + 1 + 1 + 1)).1:=QyV (l:=e.2.2.1) (show wfD (.list Qa) e.2.2.1 from (And.left (And.right (And.right hw)))) (k + 1 + 1 + 1 + 1 + 1) (by omega) (by omega)
  have q1:=VO (.list .str) e.2.2.2 (QP (QJ Qa) e.2.2.1 (k + 1 + 1 + 1 + 1 + 1)).1
  have q1 : (QP (QJ .str) e.2.2.2 (QP (QJ Qa) e.2.2.1 (k + 1 + 1 + 1 + 1 + 1)).1).1 = _:=q1
  have hh1 : ZE (QP (QJ .str) e.2.2.2 (QP (QJ Qa) e.2.2.1 (k + 1 + 1 + 1 + 1 + 1)).1).2 (QP (QJ Qa) e.2.2.1 (k + 1 + 1 + 1 + 1 + 1)).1 = some (QP (QJ .str) e.2.2.2 (QP (QJ Qa) e.2.2.1 (k + 1 + 1 + 1 + 1 + 1)).1).1:=Qsc (l:=e.2.2.2) (show wfD (.list .str) e.2.2.2 from (And.right (And.right (And.right hw)))) (QP (QJ Qa) e.2.2.1 (k + 1 + 1 + 1 + 1 + 1)).1 (by omega) (by omega)
  have ih:=Qqq l (QP (QJ .str) e.2.2.2 (QP (QJ Qa) e.2.2.1 (k + 1 + 1 + 1 + 1 + 1)).1).1 (fun p hp=>hl p (by simp [hp])) (by omega) (by omega)
  rw [QP,QE5]
  simp only
  rw [Z7]
  simp (disch:=omega) only [Qwz,WK,Option.bind_some,decide_true,Bool.not_true,cond_false,WL]
  rw [hh0]
  simp only [Option.bind_some]
  rw [decide_eq_false (show ¬ (QP (QJ Qa) e.2.2.1 (k + 1 + 1 + 1 + 1 + 1)).1 < 0 from (by omega))]
  try simp only [cond_false]
  try simp (disch:=omega) only [Qwz,WK,Option.bind_some,decide_true,Bool.not_true,cond_false,WL]
  rw [hh1]
  simp only [Option.bind_some]
  rw [decide_eq_false (show ¬ (QP (QJ .str) e.2.2.2 (QP (QJ Qa) e.2.2.1 (k + 1 + 1 + 1 + 1 + 1)).1).1 < 0 from (by omega))]
  try simp only [cond_false]
  try simp (disch:=omega) only [Qwz,WK,Option.bind_some,decide_true,Bool.not_true,cond_false,WL]
  exact ih
theorem QD7 {l : List Ql} (hw : wfD (.list Qf) l) (k : Int) (h0 : 0 ≤ k) (h1 : k + Xb (.list Qf) l ≤ 1099511627776) : YG (JQ (.list Qf) l k).2 k = some (JQ (.list Qf) l k).1:=by
 have hlen : (JQ (.list Qf) l k).2.length = l.length:=QkZ (QJ Qf) l k
 rw [YG,QG (by rw [hlen]; exact hw.1)]
 exact Qqq l k hw.2 h0 h1
theorem QE6 (e : Qc) : X4 Qe e = ((1 + (1 + (1 + 1))) + (Xb (.list Qa) e.2.1 + (Xb (.list .str) e.2.2.1 + Xb (.list Qf) e.2.2.2))):=by kernel_rfl
theorem QE7 (e : Qc) (k : Int) : QJ Qe e k = ((QP (QJ Qf) e.2.2.2 (QP (QJ .str) e.2.2.1 (QP (QJ Qa) e.2.1 (k + 1 + 1 + 1 + 1)).1).1).1,(((IntKind.wrap .i64 k),((IntKind.wrap .i64 (k + 1)),(Qcx (k + 1 + 1),Qcx (k + 1 + 1 + 1)))),((QP (QJ Qa) e.2.1 (k + 1 + 1 + 1 + 1)).2,((QP (QJ .str) e.2.2.1 (QP (QJ Qa) e.2.1 (k + 1 + 1 + 1 + 1)).1).2,(QP (QJ Qf) e.2.2.2 (QP (QJ .str) e.2.2.1 (QP (QJ Qa) e.2.1 (k + 1 + 1 + 1 + 1)).1).1).2)))):=by kernel_rfl
theorem Qqr : ∀ (l : List Qc) (k : Int),(∀ e ∈ l,wfD Qe e) → 0 ≤ k → k + ((l.map (X4 Qe)).sum : Nat) ≤ 1099511627776 → Z8 (QP (QJ Qe) l k).2 k = some (QP (QJ Qe) l k).1
 | [],k,_,_,_=>rfl
 | e :: l,k,hl,h0,h1=>by
  rw [List.map_cons,List.sum_cons,QE6] at h1
  have hw:=hl e (by simp)
  have q0:=VO (.list Qa) e.2.1 (k + 1 + 1 + 1 + 1)
  have q0 : (QP (QJ Qa) e.2.1 (k + 1 + 1 + 1 + 1)).1 = _:=q0
  have hh0 : Jk (QP (QJ Qa) e.2.1 (k + 1 + 1 + 1 + 1)).2 (k + 1 + 1 + 1 + 1) = some (QP (QJ Qa) e.2.1 (k + 1 + 1 + 1 + 1)).1:=QyV (l:=e.2.1) (show wfD (.list Qa) e.2.1 from (And.left (And.right hw))) (k + 1 + 1 + 1 + 1) (by omega) (by omega)
  have q1:=VO (.list .str) e.2.2.1 (QP (QJ Qa) e.2.1 (k + 1 + 1 + 1 + 1)).1
  have q1 : (QP (QJ .str) e.2.2.1 (QP (QJ Qa) e.2.1 (k + 1 + 1 + 1 + 1)).1).1 = _:=q1
  have hh1 : ZE (QP (QJ .str) e.2.2.1 (QP (QJ Qa) e.2.1 (k + 1 + 1 + 1 + 1)).1).2 (QP (QJ Qa) e.2.1 (k + 1 + 1 + 1 + 1)).1 = some (QP (QJ .str) e.2.2.1 (QP (QJ Qa) e.2.1 (k + 1 + 1 + 1 + 1)).1).1:=Qsc (l:=e.2.2.1) (show wfD (.list .str) e.2.2.1 from (And.left (And.right (And.right hw)))) (QP (QJ Qa) e.2.1 (k + 1 + 1 + 1 + 1)).1 (by omega) (by omega)
  have q2:=VO (.list Qf) e.2.2.2 (QP (QJ .str) e.2.2.1 (QP (QJ Qa) e.2.1 (k + 1 + 1 + 1 + 1)).1).1
  have q2 : (QP (QJ Qf) e.2.2.2 (QP (QJ .str) e.2.2.1 (QP (QJ Qa) e.2.1 (k + 1 + 1 + 1 + 1)).1).1).1 = _:=q2
  have hh2 : YG (QP (QJ Qf) e.2.2.2 (QP (QJ .str) e.2.2.1 (QP (QJ Qa) e.2.1 (k + 1 + 1 + 1 + 1)).1).1).2 (QP (QJ .str) e.2.2.1 (QP (QJ Qa) e.2.1 (k + 1 + 1 + 1 + 1)).1).1 = some (QP (QJ Qf) e.2.2.2 (QP (QJ .str) e.2.2.1 (QP (QJ Qa) e.2.1 (k + 1 + 1 + 1 + 1)).1).1).1:=QD7 (l:=e.2.2.2) (show wfD (.list Qf) e.2.2.2 from (And.right (And.right (And.right hw)))) (QP (QJ .str) e.2.2.1 (QP (QJ Qa) e.2.1 (k + 1 + 1 + 1 + 1)).1).1 (by omega) (by omega)
  have ih:=Qqr l (QP (QJ Qf) e.2.2.2 (QP (QJ .str) e.2.2.1 (QP (QJ Qa) e.2.1 (k + 1 + 1 + 1 + 1)).1).1).1 (fun p hp=>hl p (by simp [hp])) (by omega) (by omega)
  rw [QP,QE7]
  simp only
  rw [Z8]
  simp (disch:=omega) only [Qwz,WK,Option.bind_some,decide_true,Bool.not_true,cond_false,WL]
  rw [hh0]
  simp only [Option.bind_some]
  rw [decide_eq_false (show ¬ (QP (QJ Qa) e.2.1 (k + 1 + 1 + 1 + 1)).1 < 0 from (by omega))]
  try simp only [cond_false]
  try simp (disch:=omega) only [Qwz,WK,Option.bind_some,decide_true,Bool.not_true,cond_false,WL]
  rw [hh1]
  simp only [Option.bind_some]
  rw [decide_eq_false (show ¬ (QP (QJ .str) e.2.2.1 (QP (QJ Qa) e.2.1 (k + 1 + 1 + 1 + 1)).1).1 < 0 from (by omega))]
  try simp only [cond_false]
  try simp (disch:=omega) only [Qwz,WK,Option.bind_some,decide_true,Bool.not_true,cond_false,WL]
  rw [hh2]
  simp only [Option.bind_some]
  rw [decide_eq_false (show ¬ (QP (QJ Qf) e.2.2.2 (QP (QJ .str) e.2.2.1 (QP (QJ Qa) e.2.1 (k + 1 + 1 + 1 + 1)).1).1).1 < 0 from (by omega))]
  try simp only [cond_false]
  try simp (disch:=omega) only [Qwz,WK,Option.bind_some,decide_true,Bool.not_true,cond_false,WL]
  exact ih
theorem QD8 {l : List Qc} (hw : wfD (.list Qe) l) (k : Int) (h0 : 0 ≤ k) (h1 : k + Xb (.list Qe) l ≤ 1099511627776) : J5 (JQ (.list Qe) l k).2 k = some (JQ (.list Qe) l k).1:=by
 have hlen : (JQ (.list Qe) l k).2.length = l.length:=QkZ (QJ Qe) l k
 rw [J5,QG (by rw [hlen]; exact hw.1)]
 exact Qqr l k hw.2 h0 h1
def WM (l : List Qi) : Bool:=decide (l.length ≤ 40) && (l.all Gv && V5 (fun a b=>Z4 a.1 b.1) l)
theorem QhN (xs : List Qi) (hw : wfD (.list Qg) xs) : ∀ (r : List Qi) (k : Nat),r = xs.drop k → Zv xs r k = some (decide (xs.length ≤ 40) && ZZ (fun a b=>Z4 a.1 b.1) (J2 xs k) r)
 | [],k,h=>by rw [YQ,Zv]; congr 1; rw [Bool.and_true,decide_eq_decide]; omega
 | e :: r,k,h=>by
  obtain ⟨h1,h2,h3,h4,h5⟩:=H5 (d:=Ty.dflt Qg) hw.1 h
  have we : wfD .str e.1 ∧ _:=hw.2 e h4
  rw [Zv,QhN xs hw r (k + 1) h1,h2,Jd]
  rcases h5 with rfl | ⟨h5,h6,h7,h8⟩
  ·simp only [YC,Int.natCast_zero,Int.lt_irrefl,decide_false,cond_false,Bool.true_and]
  ·have w8 : wfD .str (rd xs (IntKind.wrap .i64 ((k : Int) - 1)) (Ty.dflt Qg)).1 ∧ _:=hw.2 _ h8
   rw [h6,h7,decide_eq_true (show (0 : Int) < (k : Int) by omega),Hl w8.1 we.1]
   simp only [Option.bind_some,Qjl,cond_true]
   cases Z4 (rd xs (IntKind.wrap .i64 ((k : Int) - 1)) (Ty.dflt Qg)).1 e.1 <;> simp
theorem QfU (xs : List Qi) (hw : wfD (.list Qg) xs) : ∀ (r : List Qi) (k : Nat),r = xs.drop k → Zm xs r k = some (ZZ (fun a b=>Z4 a.1 b.1) (J2 xs k) r)
 | [],k,h=>by rw [YQ,Zm]
 | e :: r,k,h=>by
  obtain ⟨h1,h2,h3,h4,h5⟩:=H5 (d:=Ty.dflt Qg) hw.1 h
  rw [Zm,QfU xs hw r (k + 1) h1,h2,Jd]
  rcases h5 with rfl | ⟨h5,h6,h7,h8⟩
  ·simp only [YC,Int.natCast_zero,Int.lt_irrefl,decide_false,cond_false,Bool.true_and]
  ·rw [h6,h7,decide_eq_true (show (0 : Int) < (k : Int) by omega)]
   simp only [cond_true]
   cases Z4 (rd xs (IntKind.wrap .i64 ((k : Int) - 1)) (Ty.dflt Qg)).1 e.1 <;> simp
theorem Et {xs : List Qi} (hw : wfD (.list Qg) xs) : ∀ l : List Qi,(∀ p ∈ l,wfD Qg p ∧ Qfm p.2.2.2.2.2) →
  Q7 xs l = some (l.all Gv && (decide (xs.length ≤ 40) && V5 (fun a b=>Z4 a.1 b.1) xs))
 | [],_=>by rw [Q7,GN,QG hw.1,QhN xs hw xs 0 rfl,YC]; rfl
 | e :: l,h=>by
  obtain ⟨w1,w2⟩:=h e (by simp)
  rw [Q7,Qwx w1 w2,Et hw l (fun p hp=>h p (by simp [hp])),List.all_cons]
  simp only [Option.bind_some]
  cases Gv e <;> simp
theorem Qcp {g : List (List Int)} (hg : g = QiA) : ∀ (l : List Qi) (k : Nat),(∀ p ∈ l,wfD Qg p ∧ Qfm p.2.2.2.2.2) → QR g l k = some (l.all Gv)
 | [],k,_=>rfl
 | e :: l,k,h=>by
  obtain ⟨w1,w2⟩:=h e (by simp)
  rw [QR,Qwy hg w1 w2,Qcp hg l (k + 1) (fun p hp=>h p (by simp [hp])),List.all_cons,decide_eq_true (show (0 : Int) ≤ (k : Int) by omega)]
  simp only [Option.bind_some]
  cases Gv e <;> simp
theorem Qcq {l : List Qi} (hw : wfD (.list Qg) l) (h : ∀ p ∈ l,wfD Qg p ∧ Qfm p.2.2.2.2.2) : JD l = some (WM l):=by
 rw [JD,QG hw.1,Et hw l h,WM]
 cases l.all Gv <;> simp
theorem Qeu {g : List (List Int)} (hg : g = QiA) {l : List Qi} (hw : wfD (.list Qg) l) (h : ∀ p ∈ l,wfD Qg p ∧ Qfm p.2.2.2.2.2) : Jw g l = some (WM l):=by
 rw [Jw,Gk,QG hw.1,QG hw.1,QfU l hw l 0 rfl,YC,Qcp hg l 0 h,WM]
 have : decide ((l.length : Int) ≤ 40) = decide (l.length ≤ 40):=by rw [decide_eq_decide]; omega
 rw [this]
 simp only [Option.bind_some,V5]
 cases decide (l.length ≤ 40) <;> cases ZZ (fun a b=>Z4 a.1 b.1) none l <;> simp
theorem QE8 {l : List Qi} (hw : wfD (.list Qg) l) (h : Ty.size (.list Qg) l ≤ 1048576) : ∀ p ∈ l,wfD Qg p ∧ Qfm p.2.2.2.2.2:=by
 intro p hp
 have h1 : Ty.size (.list Qg) l = l.length + (l.map (Ty.size Qg)).sum:=rfl
 have h2:=QGz (List.mem_map.2 ⟨p,hp,rfl⟩ : Ty.size Qg p ∈ l.map (Ty.size Qg))
 exact ⟨hw.2 p hp,QHe (hw.2 p hp) (by omega)⟩
def QCi (a : Qb) : Bool:=decide (a.1 = 4)
def G9 (vs : List Ql) : List Qb:=vs.flatMap fun v=>([v.2.1] ++ v.2.2.1).filter QCi
def QD9 (t : Qc) : List Qb:=t.2.1 ++ G9 t.2.2.2
noncomputable def QCM (t : Qc) : List Qb:=t.2.1 ++ t.2.2.2.flatMap Qw
inductive Reach (l : List Qc) (S0 : List Qb) : Qb → Prop
 | base {a : Qb} : a ∈ S0 → Reach l S0 a
 | step {t : Qc} {b : Qb} : t ∈ l → Reach l S0 t.1 → b ∈ QD9 t → Reach l S0 b
def Qub (vs : List Ql) : Prop:=vs.length ≤ 20 ∧ ∀ v ∈ vs,Y7 v = true
theorem QDg {n : List (List Int)} {v : List Ql} (h : GX n v = true) : Qub v:=by
 unfold GX at h
 simp only [Bool.and_eq_true,decide_eq_true_eq,List.all_eq_true] at h
 obtain ⟨⟨⟨⟨h1,h2⟩,_⟩,_⟩,h5⟩:=h
 exact ⟨by omega,fun x hx=>(h5 x hx).2⟩
theorem QaW {v : Ql} (h : Y7 v = true) : (v.1 = 1 ∧ v.2.2.1 = [] ∨ v.1 ≠ 1 ∧ v.2.1.1 ≠ 4) ∧ v.2.2.1.length ≤ 50:=by
 unfold Y7 at h
 by_cases h1 : v.1 = 1
 ·rw [decide_eq_true h1] at h
  simp only [cond_true,Bool.and_eq_true,decide_eq_true_eq] at h
  have:=List.length_eq_zero_iff.1 h.1.2
  exact ⟨.inl ⟨h1,this⟩,by rw [this]; simp⟩
 ·rw [decide_eq_false h1] at h
  simp only [cond_false] at h
  by_cases h2 : v.1 = 2
  ·rw [decide_eq_true h2] at h
   simp only [cond_true,Bool.and_eq_true,decide_eq_true_eq] at h
   refine ⟨.inr ⟨h1,?_⟩,h.1.1.2⟩
   have:=h.1.1.1
   rw [this]; decide
  ·rw [decide_eq_false h2] at h
   simp only [cond_false] at h
   by_cases h3 : v.1 = 3
   ·rw [decide_eq_true h3] at h
    simp only [cond_true,Bool.and_eq_true,decide_eq_true_eq] at h
    refine ⟨.inr ⟨h1,?_⟩,h.1.1.1.1.2⟩
    have:=h.1.1.1.1.1
    rw [this]; decide
   ·rw [decide_eq_false h3] at h
    cases h
theorem QDh {vs : List Ql} (h : Qub vs) {a : Qb} (ha : a.1 = 4) : a ∈ G9 vs ↔ a ∈ vs.flatMap Qw:=by
 unfold G9
 rw [List.mem_flatMap,List.mem_flatMap]
 have each : ∀ v ∈ vs,(a ∈ ([v.2.1] ++ v.2.2.1).filter QCi ↔ a ∈ Qw v):=by
  intro v hv
  unfold Qw
  rw [List.mem_filter]
  have hr : QCi a = true:=decide_eq_true ha
  rcases (QaW (h.2 v hv)).1 with ⟨h1,h2⟩ | ⟨h1,h2⟩
  ·rw [h2,decide_eq_true h1]; simp [hr]
  ·rw [decide_eq_false h1]
   simp only [cond_false,List.mem_append,List.mem_singleton,hr,and_true]
   constructor
   ·rintro (rfl | h3)
    ·exact absurd ha h2
    ·exact h3
   ·exact .inr
 constructor
 ·rintro ⟨v,hv,hm⟩; exact ⟨v,hv,(each v hv).1 hm⟩
 ·rintro ⟨v,hv,hm⟩; exact ⟨v,hv,(each v hv).2 hm⟩
theorem QyW {vs : List Ql} {a : Qb} (h : a ∈ G9 vs) : a.1 = 4:=by
 unfold G9 at h
 obtain ⟨v,_,hv⟩:=List.mem_flatMap.1 h
 exact of_decide_eq_true (List.mem_filter.1 hv).2
theorem Qev : ∀ {vs : List Ql},(∀ v ∈ vs,Y7 v = true) → (G9 vs).length ≤ 51 * vs.length
 | [],_=>by simp [G9]
 | v :: vs,h=>by
  have h1:=(QaW (h v (by simp))).2
  have h2:=Qev (vs:=vs) (fun u hu=>h u (by simp [hu]))
  have h3:=List.length_filter_le QCi ([v.2.1] ++ v.2.2.1)
  unfold G9 at h2 ⊢
  rw [List.flatMap_cons,List.length_append,List.length_cons]
  simp only [List.length_append,List.length_singleton] at h3
  omega
theorem QDi {v : Ql} (h : Y7 v = true) : (Qw v).length ≤ 50:=by
 have h1:=(QaW h).2
 unfold Qw
 cases decide (v.1 = 1) with
 | true=>simp
 | false=>exact h1
theorem QlY : ∀ {vs : List Ql},(∀ v ∈ vs,Y7 v = true) → (vs.flatMap Qw).length ≤ 50 * vs.length
 | [],_=>by simp
 | v :: vs,h=>by
  have h1:=QDi (h v (by simp))
  have h2:=QlY (vs:=vs) (fun u hu=>h u (by simp [hu]))
  rw [List.flatMap_cons,List.length_append,List.length_cons]; omega
structure OkTh (t : Qc) : Prop where
 ref : t.1.1 = 4
 par : ∀ a ∈ t.2.1,a.1 = 4
 plen : t.2.1.length ≤ 50
 vals : Qub t.2.2.2
theorem QGA {t : Qc} (h : H6 t = true) : OkTh t:=by
 unfold H6 at h
 simp only [Bool.and_eq_true,decide_eq_true_eq] at h
 obtain ⟨⟨⟨h1,h2⟩,h3⟩,h4⟩:=h
 unfold GF at h1
 simp only [Bool.and_eq_true,decide_eq_true_eq] at h1
 unfold QuI at h3
 simp only [Bool.and_eq_true,List.all_eq_true] at h3
 refine ⟨h1.1,fun a ha=>?_,by omega,QDg h4⟩
 have:=h3.1 a ha
 unfold GF at this
 simp only [Bool.and_eq_true,decide_eq_true_eq] at this
 exact this.1
theorem QE9 {t : Qc} (h : OkTh t) {a : Qb} (ha : a ∈ QD9 t) : a.1 = 4:=by
 unfold QD9 at ha
 rcases List.mem_append.1 ha with ha | ha
 ·exact h.par a ha
 ·exact QyW ha
theorem QFa {t : Qc} (h : OkTh t) {a : Qb} (ha : a.1 = 4) : a ∈ QD9 t ↔ a ∈ QCM t:=by
 unfold QD9 QCM
 rw [List.mem_append,List.mem_append,QDh h.vals ha]
theorem QIa {t : Qc} (h : OkTh t) : (QD9 t).length ≤ 1100:=by
 unfold QD9
 have:=Qev h.vals.2
 have h1:=h.vals.1
 have h2:=h.plen
 rw [List.length_append]; omega
theorem QFb {t : Qc} (h : OkTh t) : (QCM t).length ≤ 1100:=by
 unfold QCM
 have:=QlY h.vals.2
 have h1:=h.vals.1
 have h2:=h.plen
 rw [List.length_append]; omega
theorem Qfn {a b : Nat} (h : a + b ≤ 1000000) : (decide (((a : Int) + (b : Int)) * 48 ≤ Qv) && decide ((a : Int) + (b : Int) ≤ Qv)) = true:=by
 rw [ZP,Bool.and_eq_true,decide_eq_true_eq,decide_eq_true_eq]; omega
theorem QEa {K0 : List Qb → Option (List Qb)} : ∀ (xs acc : List Qb),acc.length + xs.length ≤ 500000 → Z1 K0 xs acc = K0 (acc ++ xs.filter QCi)
 | [],acc,_=>by rw [Z1]; simp
 | e :: xs,acc,h=>by
  rw [List.length_cons] at h
  rw [Z1,Qfn (by simp; omega)]
  cases he : decide (e.1 = 4) with
  | true =>
   have : QCi e = true:=he
   simp only [cond_true]
   rw [QEa xs _ (by simp; omega),List.filter_cons,if_pos this]; simp
  | false =>
   have : QCi e = false:=he
   simp only [cond_false]
   rw [QEa xs _ (by omega),List.filter_cons,if_neg (by simp [this])]
theorem QIb : ∀ (vs : List Ql) (acc : List Qb),(∀ v ∈ vs,Y7 v = true) → acc.length + 51 * vs.length ≤ 400000 → JE vs acc = some (acc ++ G9 vs)
 | [],acc,_,_=>by rw [JE]; simp [G9]
 | v :: vs,acc,h,hl=>by
  have h1:=(QaW (h v (by simp))).2
  rw [List.length_cons] at hl
  have h3:=List.length_filter_le QCi ([v.2.1] ++ v.2.2.1)
  simp only [List.length_append,List.length_singleton] at h3
  rw [JE,Qfn (by simp; omega)]
  simp only [cond_true]
  rw [QG (by simp; unfold maxLen; omega),QEa _ _ (by simp; omega),QIb vs _ (fun u hu=>h u (by simp [hu])) (by rw [List.length_append]; omega)]
  simp [G9]
theorem Qqs {vs : List Ql} (h : Qub vs) : Vr vs = some (G9 vs):=by
 have:=h.1
 rw [Vr,QG (by unfold maxLen; omega),QIb vs [] h.2 (by simp; omega)]
 rfl
theorem QIK {a : Nat} {k : Int} (h : (a : Int) * k ≤ 140737488355328) : decide ((a : Int) * k ≤ Qv) = true:=decide_eq_true (by rw [ZP]; exact h)
theorem QwA {l : List Qb} (h : l.length ≤ 2000000) : Yk l = some l:=by
 rw [Yk]
 have c1 : decide (((([] : List Qb).length : Int) + (l.length : Int)) * 48 ≤ Qv) = true:=decide_eq_true (by rw [ZP]; simp only [List.length_nil]; omega)
 have c2 : decide ((([] : List Qb).length : Int) + (l.length : Int) ≤ Qv) = true:=decide_eq_true (by rw [ZP]; simp only [List.length_nil]; omega)
 rw [c1,c2]
 cases l with
 | nil=>simp [Qof]
 | cons e l=>rw [decide_eq_true (show 0 < (e :: l).length by simp)]; rfl
theorem QwB {l : List (List Int)} (h : l.length ≤ 2000000) : QC l = some l:=by
 rw [QC]
 have c1 : decide (((([] : List (List Int)).length : Int) + (l.length : Int)) * 16 ≤ Qv) = true:=decide_eq_true (by rw [ZP]; simp only [List.length_nil]; omega)
 have c2 : decide ((([] : List (List Int)).length : Int) + (l.length : Int) ≤ Qv) = true:=decide_eq_true (by rw [ZP]; simp only [List.length_nil]; omega)
 rw [c1,c2]
 cases l with
 | nil=>simp [Qof]
 | cons e l=>rw [decide_eq_true (show 0 < (e :: l).length by simp)]; rfl
def QEb (v : Ql) : Prop:=v.2.2.1.length ≤ 2000000 ∧ v.2.2.2.length ≤ 2000000
theorem QyX {v : Ql} (h : QEb v) : Y2 v = some v ∧ ZX v = some v:=by
 obtain ⟨h1,h2⟩:=h
 rw [Y2,ZX,QwA h1,QwB h2,QIK (by omega),QIK (by omega),decide_eq_true (show (v.2.2.1.length : Int) ≤ Qv by rw [ZP]; omega),decide_eq_true (show (v.2.2.2.length : Int) ≤ Qv by rw [ZP]; omega)]
 exact ⟨rfl,rfl⟩
theorem QGB (t : Qc) : ∀ (vs acc : List Ql),(∀ v ∈ vs,QEb v) → acc.length + vs.length ≤ 1000000 → Zi t vs acc = some (t.1,t.2.1,t.2.2.1,acc ++ vs)
 | [],acc,_,_=>by rw [Zi]; simp
 | v :: vs,acc,h,hl=>by
  rw [List.length_cons] at hl
  rw [Zi,(QyX (h v (by simp))).1]
  simp only [Option.bind_some]
  rw [decide_eq_true (show ((acc.length : Int) + (([v] : List Ql).length : Int)) * 104 ≤ Qv by rw [ZP]; simp only [List.length_singleton]; omega),decide_eq_true (show (acc.length : Int) + (([v] : List Ql).length : Int) ≤ Qv by rw [ZP]; simp only [List.length_singleton]; omega)]
  simp only [Bool.and_self,cond_true]
  rw [QGB t vs _ (fun u hu=>h u (by simp [hu])) (by simp; omega)]
  simp
theorem QGC (a b : Int) (c d : List Int) (e : List Qb) (f : List (List Int)) : ∀ (vs acc : List Ql),(∀ v ∈ vs,QEb v) → acc.length + vs.length ≤ 1000000 → QZ a b c d e f vs acc = some ((a,b,c,d),e,f,acc ++ vs)
 | [],acc,_,_=>by rw [QZ]; simp
 | v :: vs,acc,h,hl=>by
  rw [List.length_cons] at hl
  rw [QZ,(QyX (h v (by simp))).2]
  simp only [Option.bind_some]
  rw [decide_eq_true (show ((acc.length : Int) + (([v] : List Ql).length : Int)) * 104 ≤ Qv by rw [ZP]; simp only [List.length_singleton]; omega),decide_eq_true (show (acc.length : Int) + (([v] : List Ql).length : Int) ≤ Qv by rw [ZP]; simp only [List.length_singleton]; omega)]
  simp only [Bool.and_self,cond_true]
  rw [QGC a b c d e f vs _ (fun u hu=>h u (by simp [hu])) (by simp; omega)]
  simp
structure SmallT (t : Qc) : Prop where
 p : t.2.1.length ≤ 2000000
 n : t.2.2.1.length ≤ 2000000
 v : t.2.2.2.length ≤ 1000000
 vs : ∀ v ∈ t.2.2.2,QEb v
theorem QyY {t : Qc} (h : SmallT t) : JU t = some t ∧ ZA t = some t:=by
 obtain ⟨h1,h2,h3,h4⟩:=h
 rw [JU,ZA,QwA h1,QwB h2,QIK (by omega),QIK (by omega),decide_eq_true (show (t.2.1.length : Int) ≤ Qv by rw [ZP]; omega),decide_eq_true (show (t.2.2.1.length : Int) ≤ Qv by rw [ZP]; omega),
  QGB _ _ [] h4 (by simpa using h3)]
 simp only [Option.bind_some,Bool.and_self,cond_true]
 rw [QG (by unfold maxLen; omega),QG (by unfold maxLen; omega),QGC _ _ _ _ _ _ _ [] h4 (by simpa using h3)]
 exact ⟨rfl,rfl⟩
def Qnw (acc : List Qb) : List Qb → List Qb
 | []=>acc
 | e :: r=>Qnw (if e ∈ acc then acc else acc ++ [e]) r
theorem QdU : ∀ (xs acc : List Qb) (a : Qb),a ∈ Qnw acc xs ↔ a ∈ acc ∨ a ∈ xs
 | [],acc,a=>by simp [Qnw]
 | e :: xs,acc,a=>by
  rw [Qnw,QdU xs]
  by_cases he : e ∈ acc
  ·rw [if_pos he,List.mem_cons]
   constructor
   ·rintro (h | h)
    ·exact .inl h
    ·exact .inr (.inr h)
   ·rintro (h | rfl | h)
    ·exact .inl h
    ·exact .inl he
    ·exact .inr h
  ·rw [if_neg he,List.mem_cons,List.mem_append,List.mem_singleton,or_assoc]
theorem QDj : ∀ (xs acc : List Qb),(Qnw acc xs).length ≤ acc.length + xs.length
 | [],acc=>by simp [Qnw]
 | e :: xs,acc=>by
  rw [Qnw]
  have:=QDj xs (if e ∈ acc then acc else acc ++ [e])
  rw [List.length_cons]
  split at this <;> (try simp only [List.length_append,List.length_singleton] at this) <;> split <;> simp_all <;> omega
theorem QIc {K3 : List Qb → Bool → List Bool → Option (List Qc)} {I : List Bool} : ∀ (xs R : List Qb),R.length + xs.length ≤ 900000 → Za K3 I xs R = K3 (Qnw R xs) false I
 | [],R,_=>by rw [Za,Qnw]
 | e :: xs,R,h=>by
  rw [List.length_cons] at h
  rw [Za,Qi6 (by unfold maxLen; omega),Option.bind_some,Qnw]
  by_cases he : e ∈ R
  ·rw [decide_eq_true he,if_pos he]
   exact QIc xs R (by omega)
  ·rw [decide_eq_false he,if_neg he,Qfn (by simp; omega)]
   exact QIc xs _ (by simp; omega)
def cF (I : List Bool) : Nat:=(I.filter (fun b=>!b)).length
theorem QId : ∀ (I : List Bool) (k : Nat),I[k]? = some false → cF (I.set k true) + 1 = cF I
 | [],k,h=>by simp at h
 | b :: I,0,h=>by
  simp only [List.getElem?_cons_zero,Option.some.injEq] at h
  subst h
  simp [cF]
 | b :: I,k + 1,h=>by
  rw [List.getElem?_cons_succ] at h
  have:=QId I k h
  unfold cF at this ⊢
  rw [List.set_cons_succ,List.filter_cons,List.filter_cons]
  cases b <;> simp <;> omega
structure InvS (l : List Qc) (S0 : List Qb) (R : List Qb) (I : List Bool) : Prop where
 len : I.length = l.length
 sub : ∀ a ∈ S0,a ∈ R
 reach : ∀ a ∈ R,Reach l S0 a
 done : ∀ (j : Nat) (t : Qc),l[j]? = some t → I[j]? = some true → t.1 ∈ R ∧ ∀ b ∈ QD9 t,b ∈ R
theorem QEc {l : List Qc} {S0 : List Qb} (hl : l.length ≤ 100) (hT : ∀ t ∈ l,OkTh t) : ∀ (rest : List Qc) (k : Nat) (R : List Qb) (s : Bool) (I : List Bool),rest = l.drop k → InvS l S0 R I → R.length + 1100 * cF I ≤ 800000 →
  ∃ R' s' I',(∀ K2 : List Qb → Bool → List Bool → Option (List Qc),QM K2 rest k R s I = K2 R' s' I') ∧ InvS l S0 R' I' ∧ R'.length + 1100 * cF I' ≤ R.length + 1100 * cF I ∧ cF I' ≤ cF I ∧ (s' = false → s = true → cF I' < cF I) ∧
   (s' = true → s = true ∧ R' = R ∧ I' = I ∧ ∀ (j : Nat) (t : Qc),k ≤ j → l[j]? = some t → I[j]? = some true ∨ t.1 ∉ R)
 | [],k,R,s,I,hr,hI,hB=>by
  refine ⟨R,s,I,fun K2=>by rw [QM],hI,Nat.le_refl _,Nat.le_refl _,(fun h1 h2=>by rw [h1] at h2; cases h2),fun h=>⟨h,rfl,rfl,fun j t hj ht=>?_⟩⟩
  have:=QH hr
  have:=(List.getElem?_eq_some_iff.1 ht).1
  omega
 | e :: rest,k,R,s,I,hr,hI,hB=>by
  obtain ⟨hk,hx,hr2⟩:=Qz (d:=Ty.dflt Qe) hr
  have hek : l[k]? = some e:=by rw [List.getElem?_eq_getElem hk]; rw [Qa7 (List.getElem?_eq_getElem hk)] at hx; rw [hx]
  have hmem : e ∈ l:=List.mem_of_getElem? hek
  have hkI : k < I.length:=by rw [hI.len]; exact hk
  have hin : inB (k : Int) I.length = true:=Qx hkI
  have hrd : rd I (k : Int) (Ty.dflt .bool) = I[k]:=Qa7 (List.getElem?_eq_getElem hkI)
  have later : ∀ {R' : List Qb} {I' : List Bool},(∀ (j : Nat) (t : Qc),k + 1 ≤ j → l[j]? = some t → I'[j]? = some true ∨ t.1 ∉ R') → (I'[k]? = some true ∨ e.1 ∉ R') → ∀ (j : Nat) (t : Qc),k ≤ j → l[j]? = some t → I'[j]? = some true ∨ t.1 ∉ R':=by
   intro R' I' h1 h2 j t hj ht
   rcases Nat.eq_or_lt_of_le hj with rfl | hlt
   ·rw [hek] at ht; cases ht; exact h2
   ·exact h1 j t hlt ht
  cases hb : I[k] with
  | true =>
   obtain ⟨R',s',I',h1,h2,h3,h4,h5,h6⟩:=QEc hl hT rest (k + 1) R s I hr2 hI hB
   refine ⟨R',s',I',fun K2=>?_,h2,h3,h4,h5,fun h=>?_⟩
   ·rw [QM,hin,hrd,hb]
    simp only [cond_true]
    exact h1 K2
   ·obtain ⟨q1,q2,q3,q4⟩:=h6 h
    exact ⟨q1,q2,q3,later q4 (.inl (by rw [List.getElem?_eq_getElem hkI,hb]))⟩
  | false =>
   by_cases he : e.1 ∈ R
   ·have ot:=hT e hmem
    have ol:=QIa ot
    have pl:=ot.plen
    have vl:=Qev ot.vals.2
    have v1:=ot.vals.1
    have hset : (Int.toNat (k : Int)) = k:=Int.toNat_natCast k
    have hIk : I[k]? = some false:=by rw [List.getElem?_eq_getElem hkI,hb]
    have hc:=QId I k hIk
    have hal:=QDj (e.2.1 ++ G9 e.2.2.2) R
    have hol : (e.2.1 ++ G9 e.2.2.2).length ≤ 1100:=ol
    have hI2 : InvS l S0 (Qnw R (e.2.1 ++ G9 e.2.2.2)) (I.set k true):=by
     refine ⟨by rw [List.length_set]; exact hI.len,fun a ha=>(QdU _ _ _).2 (.inl (hI.sub a ha)),fun a ha=>?_,fun j t ht hj=>?_⟩
     ·rcases (QdU _ _ _).1 ha with h | h
      ·exact hI.reach a h
      ·exact .step hmem (hI.reach _ he) h
     ·by_cases hjk : j = k
      ·subst hjk
       rw [hek] at ht; cases ht
       exact ⟨(QdU _ _ _).2 (.inl he),fun b hb=>(QdU _ _ _).2 (.inr hb)⟩
      ·rw [List.getElem?_set_ne (fun h=>hjk h.symm)] at hj
       obtain ⟨q1,q2⟩:=hI.done j t ht hj
       exact ⟨(QdU _ _ _).2 (.inl q1),fun b hb=>(QdU _ _ _).2 (.inl (q2 b hb))⟩
    obtain ⟨R',s',I',h1,h2,h3,h4,h5,h6⟩:=QEc hl hT rest (k + 1) (Qnw R (e.2.1 ++ G9 e.2.2.2)) false (I.set k true) hr2 hI2 (by omega)
    refine ⟨R',s',I',fun K2=>?_,h2,by omega,by omega,fun _ _=>by omega,fun h=>by have:=(h6 h).1; cases this⟩
    rw [QM,hin,hrd,hb]
    simp only [cond_true,cond_false]
    rw [Qi6 (by unfold maxLen; omega),Option.bind_some,decide_eq_true he]
    simp only [Bool.not_true,cond_false,Bool.and_true,Bool.and_self,cond_true]
    rw [show (decide (((([] : List Qb).length : Int) + (e.2.1.length : Int)) * 48 ≤ Qv) && decide ((([] : List Qb).length : Int) + (e.2.1.length : Int) ≤ Qv)) = true from Qfn (by simp; omega),Qqs ot.vals,Option.bind_some]
    simp only [cond_true]
    rw [Qfn (by simp; omega)]
    simp only [cond_true,List.nil_append]
    rw [QG (by rw [List.length_append]; unfold maxLen; omega),QIc _ _ (by rw [List.length_append]; omega),hset]
    exact h1 K2
   ·obtain ⟨R',s',I',h1,h2,h3,h4,h5,h6⟩:=QEc hl hT rest (k + 1) R s I hr2 hI hB
    refine ⟨R',s',I',fun K2=>?_,h2,h3,h4,h5,fun h=>?_⟩
    ·rw [QM,hin,hrd,hb]
     simp only [cond_true,cond_false]
     rw [Qi6 (by unfold maxLen; omega),Option.bind_some,decide_eq_false he]
     simp only [Bool.not_false,cond_true]
     exact h1 K2
    ·obtain ⟨q1,q2,q3,q4⟩:=h6 h
     exact ⟨q1,q2,q3,later q4 (.inr he)⟩
theorem QHf {l : List Qc} {S0 : List Qb} (hl : l.length ≤ 100) (hT : ∀ t ∈ l,OkTh t) : ∀ (n : Nat) (R : List Qb) (I : List Bool),cF I < n → InvS l S0 R I → R.length + 1100 * cF I ≤ 800000 →
  ∃ I' : List Bool,I'.length = l.length ∧ (∀ (j : Nat) (t : Qc),l[j]? = some t → (I'[j]? = some true ↔ Reach l S0 t.1)) ∧ ∀ m,n + 2 ≤ m → Zj l m R false I = Zu l (Q2 I' l 0 []):=by
 intro n
 induction n with
 | zero=>intro R I hc; omega
 | succ n ih =>
  intro R I hc hI hB
  have hll : l.length ≤ maxLen:=by unfold maxLen; omega
  obtain ⟨R',s',I',h1,h2,h3,h4,h5,h6⟩:=QEc hl hT l 0 R true I (by simp) hI hB
  cases s' with
  | false =>
   have hlt:=h5 rfl rfl
   obtain ⟨I2,q1,q2,q3⟩:=ih R' I' (by omega) h2 (by omega)
   refine ⟨I2,q1,q2,fun m hm=>?_⟩
   obtain ⟨m,rfl⟩ : ∃ m',m = m' + 1:=⟨m - 1,by omega⟩
   rw [Zj]
   simp only [Bool.not_false,cond_true]
   rw [QG hll,h1]
   exact q3 m (by omega)
  | true =>
   obtain ⟨_,rfl,rfl,q4⟩:=h6 rfl
   have cl : ∀ a,Reach l S0 a → a ∈ R':=by
    intro a ha
    induction ha with
    | base h=>exact hI.sub _ h
    | @step t b ht _ hb ih2 =>
     obtain ⟨j,hj⟩:=List.getElem?_of_mem ht
     rcases q4 j t (Nat.zero_le _) hj with h | h
     ·exact (hI.done j t hj h).2 b hb
     ·exact absurd ih2 h
   refine ⟨I',hI.len,fun j t hj=>⟨fun h=>hI.reach _ (hI.done j t hj h).1,fun h=>?_⟩,fun m hm=>?_⟩
   ·rcases q4 j t (Nat.zero_le _) hj with h' | h'
    ·exact h'
    ·exact absurd (cl _ h) h'
   ·obtain ⟨m,rfl⟩ : ∃ m',m = m' + 2:=⟨m - 2,by omega⟩
    rw [Zj]
    simp only [Bool.not_false,cond_true]
    rw [QG hll,h1,Zj]
    rfl
theorem Quc {l : List Qc} {I : List Bool} (f : Qc → Bool) (hlen : I.length = l.length) (hI : ∀ (j : Nat) (t : Qc),l[j]? = some t → I[j]? = some (f t)) (hT : ∀ t ∈ l,SmallT t) : ∀ (rest : List Qc) (k : Nat) (acc : List Qc),rest = l.drop k → acc.length + rest.length ≤ 1000000 →
  Q2 I rest k acc = some (acc ++ rest.filter f)
 | [],k,acc,_,_=>by rw [Q2]; simp
 | e :: rest,k,acc,hr,hl=>by
  obtain ⟨hk,hx,hr2⟩:=Qz (d:=Ty.dflt Qe) hr
  have hek : l[k]? = some e:=by rw [List.getElem?_eq_getElem hk]; rw [Qa7 (List.getElem?_eq_getElem hk)] at hx; rw [hx]
  have hkI : k < I.length:=by rw [hlen]; exact hk
  rw [List.length_cons] at hl
  rw [Q2,Qx hkI,Qa7 (hI k e hek)]
  simp only [cond_true]
  cases hf : f e with
  | true =>
   have hcp:=(QyY (hT e (List.mem_of_getElem? hek))).1
   simp only [cond_true]
   rw [show JU (e.1,e.2) = some e from hcp,Option.bind_some,decide_eq_true (show ((acc.length : Int) + (([e] : List Qc).length : Int)) * 120 ≤ Qv by rw [ZP]; simp only [List.length_singleton]; omega),decide_eq_true (show (acc.length : Int) + (([e] : List Qc).length : Int) ≤ Qv by rw [ZP]; simp only [List.length_singleton]; omega)]
   simp only [Bool.and_self,cond_true]
   rw [Quc f hlen hI hT rest (k + 1) _ hr2 (by simp; omega),List.filter_cons,if_pos hf]
   simp
  | false =>
   simp only [cond_false]
   rw [Quc f hlen hI hT rest (k + 1) _ hr2 (by omega),List.filter_cons,if_neg (by simp [hf])]
def QIe : Qc:=((0,0,([] : List Int),([] : List Int)),[],[],[])
theorem QIf (a : Qb) : ∀ (l : List Qc) (k : Nat),(∃ t ∈ l,t.1 = a ∧ Q8 a l k = some (t,true)) ∨ ((∀ t ∈ l,t.1 ≠ a) ∧ Q8 a l k = some (QIe,false))
 | [],k=>.inr ⟨fun t ht=>(nomatch ht),rfl⟩
 | e :: l,k=>by
  rw [Q8]
  by_cases h : e.1 = a
  ·left
   refine ⟨e,by simp,h,?_⟩
   rw [decide_eq_false (show ¬ ((k : Int) < 0) by omega),show @decide (e.1 = a) (Ty.decEq Qa e.1 a) = true from decide_eq_true h]
   rfl
  ·rw [show @decide (e.1 = a) (Ty.decEq Qa e.1 a) = false from decide_eq_false h]
   simp only [cond_false]
   rcases QIf a l (k + 1) with ⟨t,h1,h2,h3⟩ | ⟨h1,h2⟩
   ·exact .inl ⟨t,by simp [h1],h2,h3⟩
   ·exact .inr ⟨fun t ht=>by
     rcases List.mem_cons.1 ht with rfl | ht
     ·exact h
     ·exact h1 t ht,h2⟩
open Classical in
noncomputable def sG : List Qc → List Qb → Nat
 | [],_=>0
 | t :: l,V=>(if t.1 ∈ V then 0 else (QCM t).length) + sG l V
theorem QIg (V : List Qb) (a : Qb) : ∀ l : List Qc,sG l (V ++ [a]) ≤ sG l V
 | []=>Nat.le_refl _
 | t :: l=>by
  have ih:=QIg V a l
  rw [sG,sG]
  by_cases h : t.1 ∈ V
  ·rw [if_pos h,if_pos (List.mem_append.2 (.inl h))]; omega
  ·rw [if_neg h]
   split <;> omega
theorem QIQ {V : List Qb} {a : Qb} (ha : a ∉ V) : ∀ {l : List Qc} {t : Qc},t ∈ l → t.1 = a → sG l (V ++ [a]) + (QCM t).length ≤ sG l V
 | [],t,h,_=>(nomatch h)
 | u :: l,t,h,e=>by
  rw [sG,sG]
  rcases List.mem_cons.1 h with rfl | h
  ·have ih:=QIg V a l
   rw [if_pos (show t.1 ∈ V ++ [a] by rw [e]; simp),if_neg (show ¬ t.1 ∈ V by rw [e]; exact ha)]
   omega
  ·have ih:=QIQ ha h e
   by_cases h1 : u.1 ∈ V
   ·rw [if_pos h1,if_pos (List.mem_append.2 (.inl h1))]; omega
   ·rw [if_neg h1]
    split <;> omega
theorem QIh : ∀ {l : List Qc},(∀ t ∈ l,OkTh t) → sG l [] ≤ 1100 * l.length
 | [],_=>Nat.zero_le _
 | t :: l,h=>by
  have ih:=QIh (l:=l) (fun u hu=>h u (by simp [hu]))
  have:=QFb (h t (by simp))
  rw [sG,List.length_cons]
  split <;> omega
structure InvI (l : List Qc) (S0 Q V : List Qb) : Prop where
 q : ∀ a ∈ Q,a.1 = 4 → Reach l S0 a
 v : ∀ a ∈ V,Reach l S0 a
 sub : ∀ a ∈ S0,a ∈ V ∨ a ∈ Q
 done : ∀ t ∈ l,t.1 ∈ V → ∀ b ∈ QD9 t,b ∈ V ∨ b ∈ Q
theorem QF3 {g : List (List Int)} {K3 : List Qb → List (Qb × Bool) → Option (List Qc)} {M : List (Qb × Bool)} : ∀ (vs : List Ql) (Q : List Qb),1 ≤ Q.length → Q.length + (vs.flatMap Qw).length ≤ 900000 →
  QO g K3 M vs Q = K3 ((Q ++ vs.flatMap Qw).drop 1) M
 | [],Q,h1,h2=>by
  rw [QO,decide_eq_true (show (1 : Int) ≤ (Q.length : Int) by omega)]
  have : cut Q 1 (Q.length : Int) = Q.drop 1:=by unfold cut; simp
  simp [this]
 | v :: vs,Q,h1,h2=>by
  rw [List.flatMap_cons,List.length_append] at h2
  rw [QO,Qfn (by omega)]
  simp only [cond_true]
  rw [QF3 vs _ (by rw [List.length_append]; omega) (by rw [List.length_append]; omega),List.flatMap_cons,List.append_assoc]
theorem QCj {a b c : Qb} (h1 : Yu a b = true) (h2 : Yu b c = true) : Yu a c = true:=by
 have t1:=QoK a.2.2.2 b.2.2.2 c.2.2.2
 have t2:=QoK a.2.2.1 b.2.2.1 c.2.2.1
 unfold Yu at h1 h2 ⊢
 simp only [Bool.or_eq_true,Bool.and_eq_true,decide_eq_true_eq] at h1 h2 ⊢
 grind
theorem Qnx (a : Qb) : Yu a a = false:=by
 unfold Yu
 simp [Qlm]
theorem QCk : ∀ {l : List Qc} {p : Qc},ZZ (fun a b=>Yu a.1 b.1) (some p) l = true → ∀ t ∈ l,Yu p.1 t.1 = true
 | [],_,_,t,h=>(nomatch h)
 | x :: l,p,h,t,ht=>by
  rw [Jd,Bool.and_eq_true] at h
  rcases List.mem_cons.1 ht with rfl | ht
  ·exact h.1
  ·exact QCj h.1 (QCk h.2 t ht)
theorem QDk : ∀ {l : List Qc} {p : Option Qc},ZZ (fun a b=>Yu a.1 b.1) p l = true → ∀ t ∈ l,∀ u ∈ l,t.1 = u.1 → t = u
 | [],_,_,t,h,_,_,_=>(nomatch h)
 | x :: l,p,h,t,ht,u,hu,e=>by
  rw [Jd,Bool.and_eq_true] at h
  rcases List.mem_cons.1 ht with e1 | ht' <;> rcases List.mem_cons.1 hu with e2 | hu'
  ·rw [e1,e2]
  ·have:=QCk h.2 u hu'
   rw [← e1,e,Qnx] at this; cases this
  ·have:=QCk h.2 t ht'
   rw [← e2,← e,Qnx] at this; cases this
  ·exact QDk h.2 t ht' u hu' e
theorem bfs {g : List (List Int)} {l : List Qc} {S0 : List Qb} (hl : l.length ≤ 100) (hT : ∀ t ∈ l,OkTh t) (hS : ∀ a ∈ S0,a.1 = 4) (hU : ∀ t ∈ l,∀ u ∈ l,t.1 = u.1 → t = u) : ∀ (n : Nat) (Q V : List Qb),Q.length + sG l V ≤ n → n ≤ 800000 → InvI l S0 Q V →
  ∃ W : List Qb,(∀ a ∈ W,Reach l S0 a) ∧ (∀ a,Reach l S0 a → a ∈ W) ∧ ∀ m,n + 1 ≤ m → QB g l m Q (V.map fun a=>(a,true)) = Zu l (QI g (W.map fun a=>(a,true)) l []):=by
 have fin : ∀ (V : List Qb),InvI l S0 [] V → ∀ a,Reach l S0 a → a ∈ V:=by
  intro V hI a ha
  induction ha with
  | base h=>exact (hI.sub _ h).resolve_right (by simp)
  | @step t b ht _ hb ih2=>exact (hI.done t ht ih2 b hb).resolve_right (by simp)
 intro n
 induction n with
 | zero =>
  intro Q V hn hN hI
  obtain rfl : Q = []:=List.length_eq_zero_iff.1 (by omega)
  refine ⟨V,hI.v,fin V hI,fun m hm=>?_⟩
  obtain ⟨m,rfl⟩ : ∃ m',m = m' + 1:=⟨m - 1,by omega⟩
  rw [QB]
  rfl
 | succ n ih =>
  intro Q V hn hN hI
  cases Q with
  | nil =>
   refine ⟨V,hI.v,fin V hI,fun m hm=>?_⟩
   obtain ⟨m,rfl⟩ : ∃ m',m = m' + 1:=⟨m - 1,by omega⟩
   rw [QB]
   rfl
  | cons a Q =>
   rw [List.length_cons] at hn
   have hcut : ∀ X : List Qb,cut X 1 (X.length : Int) = X.drop 1:=fun X=>by unfold cut; simp
   have hpos : decide ((0 : Int) < ((a :: Q).length : Int)) = true:=decide_eq_true (by simp <;> omega)
   have hin : inB 0 (a :: Q).length = true:=Qx (k:=0) (by simp)
   have hrd : rd (a :: Q) 0 (Ty.dflt Qa) = a:=rfl
   have h1le : decide ((1 : Int) ≤ ((a :: Q).length : Int)) = true:=decide_eq_true (by simp <;> omega)
   have skip : (a ∈ V ∨ a.1 ≠ 4) → InvI l S0 Q V:=by
    intro h
    have key : ∀ b : Qb,b.1 = 4 → (b ∈ V ∨ b ∈ a :: Q) → b ∈ V ∨ b ∈ Q:=by
     intro b hb hm
     rcases hm with hm | hm
     ·exact .inl hm
     ·rcases List.mem_cons.1 hm with rfl | hm
      ·rcases h with h | h
       ·exact .inl h
       ·exact absurd hb h
      ·exact .inr hm
    exact ⟨fun b hb=>hI.q b (List.mem_cons_of_mem _ hb),hI.v,fun b hb=>key b (hS b hb) (hI.sub b hb),fun t ht hv b hb=>key b (QE9 (hT t ht) hb) (hI.done t ht hv b hb)⟩
   by_cases h4 : a.1 = 4
   case neg =>
    obtain ⟨W,w1,w2,w3⟩:=ih Q V (by omega) (by omega) (skip (.inr h4))
    refine ⟨W,w1,w2,fun m hm=>?_⟩
    obtain ⟨m,rfl⟩ : ∃ m',m = m' + 1:=⟨m - 1,by omega⟩
    rw [QB,hpos,hin,hrd,decide_eq_false h4,h1le,hcut]
    exact w3 m (by omega)
   by_cases hv : a ∈ V
   ·obtain ⟨W,w1,w2,w3⟩:=ih Q V (by omega) (by omega) (skip (.inl hv))
    refine ⟨W,w1,w2,fun m hm=>?_⟩
    obtain ⟨m,rfl⟩ : ∃ m',m = m' + 1:=⟨m - 1,by omega⟩
    rw [QB,hpos,hin,hrd,decide_eq_true h4,h1le,hcut,(QuJ Qa a V).2 hv]
    exact w3 m (by omega)
   have hra:=hI.q a (by simp) h4
   have hgm : QcJ Qa (V.map fun a=>(a,true)) a false = false:=by
    cases hg : QcJ Qa (V.map fun a=>(a,true)) a false with
    | false=>rfl
    | true=>exact absurd ((QuJ Qa a V).1 hg) hv
   have hset:=QGw Qa a V hv
   rcases QIf a l 0 with ⟨t,t1,t2,t3⟩ | ⟨t1,t2⟩
   ·have ot:=hT t t1
    have hs:=QIQ hv t1 t2
    have hol:=QFb ot
    have hoe : QCM t = t.2.1 ++ t.2.2.2.flatMap Qw:=rfl
    have hol2:=congrArg List.length hoe
    rw [List.length_append] at hol2
    have hI2 : InvI l S0 (Q ++ QCM t) (V ++ [a]):=by
     refine ⟨fun b hb hb4=>?_,fun b hb=>?_,fun b hb=>?_,fun u hu huv b hb=>?_⟩
     ·rcases List.mem_append.1 hb with hb | hb
      ·exact hI.q b (List.mem_cons_of_mem _ hb) hb4
      ·exact .step t1 (by rw [t2]; exact hra) ((QFa ot hb4).2 hb)
     ·rcases List.mem_append.1 hb with hb | hb
      ·exact hI.v b hb
      ·rw [List.mem_singleton.1 hb]; exact hra
     ·rcases hI.sub b hb with h | h
      ·exact .inl (List.mem_append.2 (.inl h))
      ·rcases List.mem_cons.1 h with rfl | h
       ·exact .inl (by simp)
       ·exact .inr (List.mem_append.2 (.inl h))
     ·rcases List.mem_append.1 huv with huv | huv
      ·rcases hI.done u hu huv b hb with h | h
       ·exact .inl (List.mem_append.2 (.inl h))
       ·rcases List.mem_cons.1 h with rfl | h
        ·exact .inl (by simp)
        ·exact .inr (List.mem_append.2 (.inl h))
      ·have:=List.mem_singleton.1 huv
       have hut:=hU u hu t t1 (this.trans t2.symm)
       subst hut
       exact .inr (List.mem_append.2 (.inr ((QFa ot (QE9 ot hb)).1 hb)))
    obtain ⟨W,w1,w2,w3⟩:=ih (Q ++ QCM t) (V ++ [a]) (by rw [List.length_append]; omega) (by omega) hI2
    refine ⟨W,w1,w2,fun m hm=>?_⟩
    obtain ⟨m,rfl⟩ : ∃ m',m = m' + 1:=⟨m - 1,by omega⟩
    have ov:=ot.vals.1
    rw [QB,hpos,hin,hrd,decide_eq_true h4,hgm,YF,QG (by unfold maxLen; omega),t3]
    simp only [cond_true,cond_false,Bool.not_true,Option.bind_some]
    rw [Qfn (by rw [List.length_cons]; omega)]
    simp only [cond_true]
    rw [QG (by unfold maxLen; omega),QF3 _ _ (by simp <;> omega) (by rw [List.length_append,List.length_cons]; omega),hset]
    have e : ((a :: Q ++ t.2.1) ++ t.2.2.2.flatMap Qw).drop 1 = Q ++ QCM t:=by rw [hoe,List.append_assoc]; rfl
    rw [e]
    exact w3 m (by omega)
   ·have hs:=QIg V a l
    have hI2 : InvI l S0 Q (V ++ [a]):=by
     refine ⟨fun b hb=>hI.q b (List.mem_cons_of_mem _ hb),fun b hb=>?_,fun b hb=>?_,fun u hu huv b hb=>?_⟩
     ·rcases List.mem_append.1 hb with hb | hb
      ·exact hI.v b hb
      ·rw [List.mem_singleton.1 hb]; exact hra
     ·rcases hI.sub b hb with h | h
      ·exact .inl (List.mem_append.2 (.inl h))
      ·rcases List.mem_cons.1 h with rfl | h
       ·exact .inl (by simp)
       ·exact .inr h
     ·rcases List.mem_append.1 huv with huv | huv
      ·rcases hI.done u hu huv b hb with h | h
       ·exact .inl (List.mem_append.2 (.inl h))
       ·rcases List.mem_cons.1 h with rfl | h
        ·exact .inl (by simp)
        ·exact .inr h
      ·exact absurd (List.mem_singleton.1 huv) (t1 u hu)
    obtain ⟨W,w1,w2,w3⟩:=ih Q (V ++ [a]) (by omega) (by omega) hI2
    refine ⟨W,w1,w2,fun m hm=>?_⟩
    obtain ⟨m,rfl⟩ : ∃ m',m = m' + 1:=⟨m - 1,by omega⟩
    rw [QB,hpos,hin,hrd,decide_eq_true h4,hgm,YF,QG (by unfold maxLen; omega),t2]
    simp only [cond_true,cond_false,Bool.not_true,Option.bind_some,QIe]
    rw [Qfn (by simp <;> omega)]
    simp only [cond_true,List.append_nil]
    rw [QG (by simp),QF3 [] _ (by simp) (by simp <;> omega),hset,show List.drop 1 (a :: Q ++ List.flatMap Qw []) = Q by simp]
    exact w3 m (by omega)
theorem Qud {g : List (List Int)} {W : List Qb} (f : Qc → Bool) : ∀ (l acc : List Qc),(∀ t ∈ l,(t.1 ∈ W ↔ f t = true)) → (∀ t ∈ l,SmallT t) → acc.length + l.length ≤ 1000000 →
  QI g (W.map fun a=>(a,true)) l acc = some (acc ++ l.filter f)
 | [],acc,_,_,_=>by rw [QI]; simp
 | e :: l,acc,hW,hT,hl=>by
  rw [List.length_cons] at hl
  have hW2 : ∀ t ∈ l,(t.1 ∈ W ↔ f t = true):=fun t ht=>hW t (by simp [ht])
  have hT2 : ∀ t ∈ l,SmallT t:=fun t ht=>hT t (by simp [ht])
  rw [QI]
  cases hf : f e with
  | true =>
   have hcp:=(QyY (hT e (by simp))).2
   rw [(QuJ Qa e.1 W).2 ((hW e (by simp)).2 hf)]
   simp only [cond_true]
   rw [show ZA (e.1,e.2) = some e from hcp,Option.bind_some,decide_eq_true (show ((acc.length : Int) + (([e] : List Qc).length : Int)) * 120 ≤ Qv by rw [ZP]; simp only [List.length_singleton]; omega),decide_eq_true (show (acc.length : Int) + (([e] : List Qc).length : Int) ≤ Qv by rw [ZP]; simp only [List.length_singleton]; omega)]
   simp only [Bool.and_self,cond_true]
   rw [Qud f l _ hW2 hT2 (by simp <;> omega),List.filter_cons,if_pos hf]
   simp
  | false =>
   have : QcJ Qa (W.map fun a=>(a,true)) e.1 false = false:=by
    cases hg : QcJ Qa (W.map fun a=>(a,true)) e.1 false with
    | false=>rfl
    | true=>rw [(hW e (by simp)).1 ((QuJ Qa e.1 W).1 hg)] at hf; cases hf
   rw [this]
   simp only [cond_false]
   rw [Qud f l _ hW2 hT2 (by omega),List.filter_cons,if_neg (by simp [hf])]
def X1 (e : List Qr) : List Qb:=(e.filter fun n=>decide (n.1 = 1) && QCi n.2.2.1).map fun n=>n.2.2.1
def GS (e : List Qr) : List Qb:=e.map fun n=>n.2.2.1
def Ub (r : QD) (ps : List Qi) : List Qb:=[r.1,r.2.1,r.2.2.1] ++ G9 r.2.2.2.2 ++ ps.flatMap fun p=>X1 p.2.2.2.2.2
noncomputable def Que (r : QD) (ps : List Qi) : List Qb:=[r.1,r.2.1,r.2.2.1] ++ r.2.2.2.2.flatMap Qw ++ ps.flatMap fun p=>GS p.2.2.2.2.2
structure OkPol (p : Qi) : Prop where
 len : p.2.2.2.2.2.length ≤ 60
 nodes : ∀ n ∈ p.2.2.2.2.2,n.1 ≠ 1 → n.2.2.1.1 ≠ 4
theorem QIi {p : Qi} (h : Gv p = true) : OkPol p:=by
 unfold Gv at h
 simp only [Bool.and_eq_true,Bool.or_eq_true,decide_eq_true_eq] at h
 rcases h.2 with h | h
 ·have : p.2.2.2.2.2 = []:=List.length_eq_zero_iff.1 (by omega)
  exact ⟨by omega,fun n hn=>by rw [this] at hn; cases hn⟩
 ·rw [QyU] at h
  simp only [Bool.and_eq_true,decide_eq_true_eq,List.all_eq_true] at h
  refine ⟨by omega,fun n hn h1=>?_⟩
  have hn:=h.2.1 n hn
  unfold Wc at hn
  simp only [Bool.and_eq_true,Bool.or_eq_true,decide_eq_true_eq] at hn
  rcases hn.1.2 with hn | hn
  ·exact absurd hn h1
  ·unfold QDe at hn
   have:=of_decide_eq_true hn
   rw [this]; decide
theorem QyZ {p : Qi} (h : OkPol p) {a : Qb} (ha : a.1 = 4) : a ∈ X1 p.2.2.2.2.2 ↔ a ∈ GS p.2.2.2.2.2:=by
 unfold X1 GS
 rw [List.mem_map,List.mem_map]
 constructor
 ·rintro ⟨n,hn,rfl⟩
  exact ⟨n,(List.mem_filter.1 hn).1,rfl⟩
 ·rintro ⟨n,hn,rfl⟩
  refine ⟨n,List.mem_filter.2 ⟨hn,?_⟩,rfl⟩
  by_cases h1 : n.1 = 1
  ·rw [decide_eq_true h1,Bool.true_and]; exact decide_eq_true ha
  ·exact absurd ha (h.nodes n hn h1)
theorem QCl {r : QD} {ps : List Qi} (hr : Qub r.2.2.2.2) (hp : ∀ p ∈ ps,OkPol p) {a : Qb} (ha : a.1 = 4) : a ∈ Ub r ps ↔ a ∈ Que r ps:=by
 unfold Ub Que
 simp only [List.mem_append,QDh hr ha,List.mem_flatMap]
 have : (∃ p,p ∈ ps ∧ a ∈ X1 p.2.2.2.2.2) ↔ (∃ p,p ∈ ps ∧ a ∈ GS p.2.2.2.2.2):=by
  constructor
  ·rintro ⟨p,h1,h2⟩; exact ⟨p,h1,(QyZ (hp p h1) ha).1 h2⟩
  ·rintro ⟨p,h1,h2⟩; exact ⟨p,h1,(QyZ (hp p h1) ha).2 h2⟩
 rw [this]
theorem QFc {e : List Qr} {a : Qb} (h : a ∈ X1 e) : a.1 = 4:=by
 unfold X1 at h
 obtain ⟨n,hn,rfl⟩:=List.mem_map.1 h
 have:=(List.mem_filter.1 hn).2
 rw [Bool.and_eq_true] at this
 exact of_decide_eq_true this.2
theorem Qy0 (e : List Qr) : (X1 e).length ≤ e.length:=by
 unfold X1; rw [List.length_map]; exact List.length_filter_le _ _
theorem QEd {K0 : List Qb → Option (List Qc)} : ∀ (e : List Qr) (acc : List Qb),acc.length + e.length ≤ 500000 → Q1 K0 e acc = K0 (acc ++ X1 e)
 | [],acc,_=>by rw [Q1]; simp [X1]
 | n :: e,acc,h=>by
  rw [List.length_cons] at h
  have hc : X1 (n :: e) = (if decide (n.1 = 1) && QCi n.2.2.1 then [n.2.2.1] else []) ++ X1 e:=by
   unfold X1; rw [List.filter_cons]; split <;> simp
  rw [Q1,hc]
  have hr : QCi n.2.2.1 = decide (n.2.2.1.1 = 4):=rfl
  rw [hr,Qfn (by simp <;> omega)]
  cases decide (n.1 = 1) with
  | false=>simp only [cond_false,Bool.false_and,Bool.false_eq_true,if_false,List.nil_append]; exact QEd e acc (by omega)
  | true =>
   cases decide (n.2.2.1.1 = 4) with
   | false=>simp only [cond_false,cond_true,Bool.and_false,Bool.false_eq_true,if_false,List.nil_append]; exact QEd e acc (by omega)
   | true=>simp only [cond_true,Bool.and_self,if_true]; rw [QEd e _ (by simp <;> omega),List.append_assoc]
theorem QGD {g : List (List Int)} {K0 : List Qb → Option (List Qc)} : ∀ (e : List Qr) (acc : List Qb),acc.length + e.length ≤ 500000 → QN g K0 e acc = K0 (acc ++ GS e)
 | [],acc,_=>by rw [QN]; simp [GS]
 | n :: e,acc,h=>by
  rw [List.length_cons] at h
  rw [QN,Qfn (by simp <;> omega)]
  simp only [cond_true]
  rw [QGD e _ (by simp <;> omega)]
  simp [GS]
theorem QIj {m : Nat} {l : List Qc} : ∀ (ps : List Qi) (acc : List Qb),(∀ p ∈ ps,OkPol p) → acc.length + 60 * ps.length ≤ 400000 → QT m l ps acc = QT m l [] (acc ++ ps.flatMap fun p=>X1 p.2.2.2.2.2)
 | [],acc,_,_=>by simp
 | p :: ps,acc,h,hl=>by
  have hp:=(h p (by simp)).len
  have:=Qy0 p.2.2.2.2.2
  rw [List.length_cons] at hl
  have e : QT m l (p :: ps) acc = Zu p.2.2.2.2.2 (Q1 (fun s0=>QT m l ps s0) p.2.2.2.2.2 acc):=by rw [QT]
  rw [e,QG (by unfold maxLen; omega),QEd _ _ (by omega),QIj ps _ (fun q hq=>h q (by simp [hq])) (by rw [List.length_append]; omega),List.flatMap_cons,List.append_assoc]
theorem QIk {g : List (List Int)} {m : Nat} {l : List Qc} {M : List (Qb × Bool)} : ∀ (ps : List Qi) (acc : List Qb),(∀ p ∈ ps,OkPol p) → acc.length + 60 * ps.length ≤ 400000 → QK g m l M ps acc = QB g l m (acc ++ ps.flatMap fun p=>GS p.2.2.2.2.2) M
 | [],acc,_,_=>by rw [QK]; simp
 | p :: ps,acc,h,hl=>by
  have hp:=(h p (by simp)).len
  have hn : (GS p.2.2.2.2.2).length = p.2.2.2.2.2.length:=by unfold GS; rw [List.length_map]
  rw [List.length_cons] at hl
  rw [QK,QG (by unfold maxLen; omega),QGD _ _ (by omega),QIk ps _ (fun q hq=>h q (by simp [hq])) (by rw [List.length_append]; omega),List.flatMap_cons,List.append_assoc]
theorem QIl {g : List (List Int)} {m : Nat} {l : List Qc} {ps : List Qi} (hps : ps.length ≤ maxLen) {M : List (Qb × Bool)} : ∀ (vs : List Ql) (acc : List Qb),(∀ v ∈ vs,Y7 v = true) → acc.length + 50 * vs.length ≤ 400000 → QV g m l ps M vs acc = QK g m l M ps (acc ++ vs.flatMap Qw)
 | [],acc,_,_=>by rw [QV,QG hps]; simp
 | v :: vs,acc,h,hl=>by
  have:=QDi (h v (by simp))
  rw [List.length_cons] at hl
  rw [QV,Qfn (by omega)]
  simp only [cond_true]
  rw [QIl hps vs _ (fun u hu=>h u (by simp [hu])) (by rw [List.length_append]; omega),List.flatMap_cons,List.append_assoc]
theorem QFd {v : Ql} (h : Y7 v = true) : v.2.2.2.length ≤ 50:=by
 have h0:=(QaW h).2
 unfold Y7 at h
 by_cases h1 : v.1 = 1
 ·rw [decide_eq_true h1] at h
  simp only [cond_true,Bool.and_eq_true,decide_eq_true_eq] at h
  omega
 ·rw [decide_eq_false h1] at h
  simp only [cond_false] at h
  by_cases h2 : v.1 = 2
  ·rw [decide_eq_true h2] at h
   simp only [cond_true,Bool.and_eq_true,decide_eq_true_eq] at h
   omega
  ·rw [decide_eq_false h2] at h
   simp only [cond_false] at h
   by_cases h3 : v.1 = 3
   ·rw [decide_eq_true h3] at h
    simp only [cond_true,Bool.and_eq_true,decide_eq_true_eq] at h
    omega
   ·rw [decide_eq_false h3] at h
    cases h
theorem QIm {t : Qc} (h : H6 t = true) : SmallT t:=by
 have ot:=QGA h
 have h1:=ot.plen
 have h2:=ot.vals.1
 unfold H6 GX at h
 simp only [Bool.and_eq_true,decide_eq_true_eq] at h
 have h3:=h.2.1.1.1.1
 refine ⟨by omega,by omega,by omega,fun v hv=>?_⟩
 have g:=ot.vals.2 v hv
 have:=(QaW g).2
 have:=QFd g
 exact ⟨by omega,by omega⟩
theorem QF4 {r : QD} {ps : List Qi} (hr : Qub r.2.2.2.2) (hp : ∀ p ∈ ps,OkPol p) (hl : ps.length ≤ 40) : (Ub r ps).length ≤ 3500:=by
 have h1:=Qev hr.2
 have h2:=hr.1
 have h3 : (ps.flatMap fun p=>X1 p.2.2.2.2.2).length ≤ 60 * ps.length:=by
  clear hl
  induction ps with
  | nil=>simp
  | cons p ps ih =>
   have:=ih (fun q hq=>hp q (by simp [hq]))
   have:=Qy0 p.2.2.2.2.2
   have:=(hp p (by simp)).len
   rw [List.flatMap_cons,List.length_append,List.length_cons]; omega
 unfold Ub
 rw [List.length_append,List.length_append]
 simp only [List.length_cons,List.length_nil]
 omega
theorem QF5 {r : QD} {ps : List Qi} (hr : Qub r.2.2.2.2) (hp : ∀ p ∈ ps,OkPol p) (hl : ps.length ≤ 40) : (Que r ps).length ≤ 3500:=by
 have h1:=QlY hr.2
 have h2:=hr.1
 have h3 : (ps.flatMap fun p=>GS p.2.2.2.2.2).length ≤ 60 * ps.length:=by
  clear hl
  induction ps with
  | nil=>simp
  | cons p ps ih =>
   have:=ih (fun q hq=>hp q (by simp [hq]))
   have hn : (GS p.2.2.2.2.2).length = p.2.2.2.2.2.length:=by unfold GS; rw [List.length_map]
   have:=(hp p (by simp)).len
   rw [List.flatMap_cons,List.length_append,List.length_cons]; omega
 unfold Que
 rw [List.length_append,List.length_append]
 simp only [List.length_cons,List.length_nil]
 omega
theorem QF6 {r : QD} {ps : List Qi} (h : Ho r = true) {a : Qb} (ha : a ∈ Ub r ps) : a.1 = 4:=by
 unfold Ho GF at h
 simp only [Bool.and_eq_true,decide_eq_true_eq] at h
 unfold Ub at ha
 rcases List.mem_append.1 ha with ha | ha
 ·rcases List.mem_append.1 ha with ha | ha
  ·simp only [List.mem_cons,List.not_mem_nil,or_false] at ha
   rcases ha with rfl | rfl | rfl
   ·exact h.1.1.1.1
   ·exact h.1.1.2.1
   ·exact h.1.2.1
  ·exact QyW ha
 ·obtain ⟨p,_,hp⟩:=List.mem_flatMap.1 ha
  exact QFc hp
theorem QHg {r : QD} {ps : List Qi} (hr : wfD Qu r) (hp : wfD (.list Qg) ps) : ∀ a ∈ Ub r ps,wfD Qa a:=by
 intro a ha
 have wr : wfD Qa r.1 ∧ wfD Qa r.2.1 ∧ wfD Qa r.2.2.1 ∧ wfD (.list .str) r.2.2.2.1 ∧ wfD (.list Qf) r.2.2.2.2:=hr
 unfold Ub at ha
 rcases List.mem_append.1 ha with ha | ha
 ·rcases List.mem_append.1 ha with ha | ha
  ·simp only [List.mem_cons,List.not_mem_nil,or_false] at ha
   rcases ha with rfl | rfl | rfl
   ·exact wr.1
   ·exact wr.2.1
   ·exact wr.2.2.1
  ·unfold G9 at ha
   obtain ⟨v,hv,hm⟩:=List.mem_flatMap.1 ha
   have wv : wfD I64 v.1 ∧ wfD Qa v.2.1 ∧ wfD (.list Qa) v.2.2.1 ∧ wfD (.list .str) v.2.2.2:=wr.2.2.2.2.2 v hv
   rcases List.mem_append.1 (List.mem_filter.1 hm).1 with h | h
   ·rw [List.mem_singleton.1 h]; exact wv.2.1
   ·exact wv.2.2.1.2 a h
 ·obtain ⟨p,hpm,hm⟩:=List.mem_flatMap.1 ha
  have w : wfD .str p.1 ∧ wfD .bool p.2.1 ∧ wfD Qs p.2.2.1 ∧ wfD Qs p.2.2.2.1 ∧ wfD Qs p.2.2.2.2.1 ∧ wfD (.list Qo) p.2.2.2.2.2:=hp.2 p hpm
  unfold X1 at hm
  obtain ⟨n,hn,rfl⟩:=List.mem_map.1 hm
  have wn : wfD I64 n.1 ∧ wfD .str n.2.1 ∧ wfD Qa n.2.2.1 ∧ wfD I64 n.2.2.2:=w.2.2.2.2.2.2 n (List.mem_filter.1 hn).1
  exact wn.2.2.1
theorem QEe (f : Qc → Bool) : ∀ l : List Qc,Ty.size (.list Qe) (l.filter f) ≤ Ty.size (.list Qe) l:=by
 have h1 : ∀ l : List Qc,Ty.size (.list Qe) l = l.length + (l.map (Ty.size Qe)).sum:=fun _=>rfl
 intro l
 rw [h1,h1]
 induction l with
 | nil=>simp
 | cons e l ih =>
  rw [List.filter_cons,List.map_cons,List.sum_cons,List.length_cons]
  split
  ·rw [List.map_cons,List.sum_cons,List.length_cons]; omega
  ·omega
theorem QF7 (f : Qc → Bool) {l : List Qc} (h : wfD (.list Qe) l) : wfD (.list Qe) (l.filter f) :=
 ⟨Nat.le_trans (List.length_filter_le _ _) h.1,fun p hp=>h.2 p (List.mem_filter.1 hp).1⟩
theorem QF8 : ∀ n : Nat,cF (List.replicate n false) = n
 | 0=>rfl
 | n + 1=>by have:=QF8 n; unfold cF at this ⊢; rw [List.replicate_succ,List.filter_cons]; simp [this]
open Classical in
theorem Qyx {g : List (List Int)} (hg : g = QiA) {a0 : List Qc} {a1 : QD} {a2 : List Qi} (h0 : wfD (.list Qe) a0) (h1 : wfD Qu a1) (h2 : wfD (.list Qg) a2) (hs0 : Ty.size (.list Qe) a0 ≤ 1048576) (hs : Ty.size (.list Qg) a2 ≤ 1048576) :
  ∃ r,HK a0 a1 a2 = some r ∧ Y4 g a0 a1 a2 = some r ∧ wfD (.list Qe) r ∧ Ty.size (.list Qe) r ≤ 1048576:=by
 have hp:=QE8 h2 hs
 have nowf : wfD (.list Qe) [] ∧ Ty.size (.list Qe) [] ≤ 1048576:=⟨⟨Nat.zero_le _,fun x hx=>(nomatch hx)⟩,by decide⟩
 cases hg0 : QcV a0 with
 | false =>
  refine ⟨[],VH ⟨0,fun m _=>?_⟩,VH ⟨0,fun m _=>?_⟩,nowf.1,nowf.2⟩
  ·show ZB m a0 a1 a2 = _
   rw [ZB,Vq,Ux h0,hg0]; rfl
  ·show Zd g m a0 a1 a2 = _
   rw [Zd,Uw h0,hg0]; rfl
 | true =>
 cases hg1 : Ho a1 with
 | false =>
  refine ⟨[],VH ⟨0,fun m _=>?_⟩,VH ⟨0,fun m _=>?_⟩,nowf.1,nowf.2⟩
  ·show ZB m a0 a1 a2 = _
   rw [ZB,Vq,Ux h0,hg0,QaH h1,hg1]; rfl
  ·show Zd g m a0 a1 a2 = _
   rw [Zd,Uw h0,hg0,QaG h1,hg1]; rfl
 | true =>
 cases hg2 : WM a2 with
 | false =>
  refine ⟨[],VH ⟨0,fun m _=>?_⟩,VH ⟨0,fun m _=>?_⟩,nowf.1,nowf.2⟩
  ·show ZB m a0 a1 a2 = _
   rw [ZB,Vq,Ux h0,hg0,QaH h1,hg1,Qcq h2 hp,hg2]; rfl
  ·show Zd g m a0 a1 a2 = _
   rw [Zd,Uw h0,hg0,QaG h1,hg1,Qeu hg h2 hp,hg2]; rfl
 | true =>
 have hgt:=hg0
 unfold QcV at hgt
 simp only [Bool.and_eq_true,decide_eq_true_eq,List.all_eq_true] at hgt
 obtain ⟨hl,hgood,hrise⟩:=hgt
 have hT : ∀ t ∈ a0,OkTh t:=fun t ht=>QGA (hgood t ht)
 have hSm : ∀ t ∈ a0,SmallT t:=fun t ht=>QIm (hgood t ht)
 have hU : ∀ t ∈ a0,∀ u ∈ a0,t.1 = u.1 → t = u:=QDk hrise
 have hgr:=hg1
 unfold Ho at hgr
 simp only [Bool.and_eq_true] at hgr
 have hv:=QDg hgr.2
 have hgp:=hg2
 unfold WM at hgp
 simp only [Bool.and_eq_true,decide_eq_true_eq,List.all_eq_true] at hgp
 have hpl:=hgp.1
 have hP : ∀ p ∈ a2,OkPol p:=fun p hp=>QIi (hgp.2.1 p hp)
 have hS4 : ∀ a ∈ Ub a1 a2,a.1 = 4:=fun a ha=>QF6 hg1 ha
 have hSl:=QF4 hv hP hpl
 have hIl:=QF5 hv hP hpl
 have hvl:=Qev hv.2
 have hv1:=hv.1
 have hal:=QlY hv.2
 have hll : a0.length ≤ maxLen:=by unfold maxLen; omega
 have hlp : a2.length ≤ maxLen:=by unfold maxLen; omega
 obtain ⟨zs,z1,z2,z3⟩:=QAe (fun a b=>QFY) (xs:=Ub a1 a2) (by omega) (QHg h1 h2)
 have hInv : InvS a0 (Ub a1 a2) zs (List.replicate a0.length false):=by
  refine ⟨List.length_replicate,fun a ha=>(z1 a).2 ha,fun a ha=>.base ((z1 a).1 ha),fun j t _ hj=>?_⟩
  rw [List.getElem?_replicate] at hj
  split at hj <;> cases hj
 obtain ⟨I',i1,i2,i3⟩:=QHf hl hT 101 zs (List.replicate a0.length false) (by rw [QF8]; omega) hInv (by rw [QF8]; omega)
 have hInvI : InvI a0 (Ub a1 a2) (Que a1 a2) []:=by
  refine ⟨fun a ha h4=>.base ((QCl hv hP h4).2 ha),fun a ha=>(nomatch ha),fun a ha=>.inr ((QCl hv hP (hS4 a ha)).1 ha),fun t _ hv=>(nomatch hv)⟩
 have hsg:=QIh hT
 obtain ⟨W,w1,w2,w3⟩:=bfs (g:=g) hl hT hS4 hU 200000 (Que a1 a2) [] (by omega) (by omega) hInvI
 have fI : ∀ (j : Nat) (t : Qc),a0[j]? = some t → I'[j]? = some (decide (Reach a0 (Ub a1 a2) t.1)):=by
  intro j t hj
  have hlt : j < I'.length:=by rw [i1]; exact (List.getElem?_eq_some_iff.1 hj).1
  have:=i2 j t hj
  rw [List.getElem?_eq_getElem hlt] at this ⊢
  by_cases hr : Reach a0 (Ub a1 a2) t.1
  ·rw [decide_eq_true hr]; exact this.2 hr
  ·rw [decide_eq_false hr]
   cases hb : I'[j] with
   | false=>rfl
   | true=>rw [hb] at this; exact absurd (this.1 rfl) hr
 refine ⟨a0.filter fun t=>decide (Reach a0 (Ub a1 a2) t.1),VH ⟨103,fun m hm=>?_⟩,VH ⟨200001,fun m hm=>?_⟩,QF7 _ h0,Nat.le_trans (QEe _ _) hs0⟩
 ·show ZB m a0 a1 a2 = _
  rw [ZB,Vq,Ux h0,hg0,QaH h1,hg1,Qcq h2 hp,hg2]
  simp only [Option.bind_some,cond_true,Bool.not_true,cond_false]
  rw [Qqs hv]
  simp only [Option.bind_some]
  rw [Qfn (by simp only [List.length_cons,List.length_nil]; omega)]
  simp only [cond_true]
  rw [QG hlp,QIj a2 _ hP (by rw [List.length_append]; simp only [List.length_cons,List.length_nil]; omega)]
  show QT m a0 [] (Ub a1 a2) = _
  rw [QT,z3]
  simp only [Option.bind_some]
  rw [decide_eq_true (show (0 : Int) ≤ (a0.length : Int) by omega),decide_eq_true (show (a0.length : Int) * 1 ≤ Qv by rw [ZP]; omega)]
  simp only [decide_true,Bool.and_self,cond_true]
  rw [show Int.toNat (a0.length : Int) = a0.length from Int.toNat_natCast _,i3 m (by omega),QG hll,Quc (fun t=>decide (Reach a0 (Ub a1 a2) t.1)) i1 fI hSm a0 0 [] rfl (by simp; omega)]
  rfl
 ·show Zd g m a0 a1 a2 = _
  rw [Zd,Uw h0,hg0,QaG h1,hg1,Qeu hg h2 hp,hg2]
  simp only [Option.bind_some,cond_true,Bool.not_true,cond_false]
  rw [QG (by unfold maxLen; omega),QIl hlp _ _ hv.2 (by simp only [List.length_cons,List.length_nil]; omega),QIk a2 _ hP (by rw [List.length_append]; simp only [List.length_cons,List.length_nil]; omega)]
  show QB g a0 m (Que a1 a2) (([] : List Qb).map fun a=>(a,true)) = _
  rw [w3 m (by omega),QG hll,Qud (fun t=>decide (Reach a0 (Ub a1 a2) t.1)) a0 [] (fun t _=>by rw [decide_eq_true_eq]; exact ⟨w1 t.1,w2 t.1⟩) hSm (by simp; omega)]
  rfl
theorem QAn (g0 : List (List Int)) (hg0 : g0 = QiA) (a0 : List Qc) (a1 : QD) (a2 : List Qi) (h0 : wfD (.list Qe) a0) (h1 : wfD Qu a1) (h2 : wfD (.list Qg) a2) : VE g0 a0 a1 a2 = some true:=by
 rw [VE,Yt h0 (by omega) (by omega)]
 simp only [Option.bind_some]
 cases d0 : decide (QE 1048576 (Ty.size (.list Qe) a0) < 0) with
 | true=>rfl
 | false =>
 obtain ⟨b1,b2,b3⟩:=QFX d0
 rw [Yt h1 b2 (by omega)]
 simp only [Option.bind_some,cond_false]
 cases d1 : decide (QE (QE 1048576 (Ty.size (.list Qe) a0)) (Ty.size Qu a1) < 0) with
 | true=>rfl
 | false =>
 obtain ⟨c1,c2,c3⟩:=QFX d1
 rw [Yt h2 c2 (by omega)]
 simp only [Option.bind_some,cond_false]
 cases d2 : decide (QE (QE (QE 1048576 (Ty.size (.list Qe) a0)) (Ty.size Qu a1)) (Ty.size (.list Qg) a2) < 0) with
 | true=>rfl
 | false =>
 obtain ⟨e1,e2,e3⟩:=QFX d2
 obtain ⟨r,s1,s2,hr,hrs⟩:=Qyx hg0 h0 h1 h2 (by omega) (by omega)
 have m0:=Qlk (t:=.list Qe) (x:=a0) (n:=1048576) (by omega) (by decide)
 have m1:=Qlk (t:=Qu) (x:=a1) (n:=1048576) (by omega) (by decide)
 have m2:=Qlk (t:=.list Qg) (x:=a2) (n:=1048576) (by omega) (by decide)
 have m3:=Qlk (t:=.list Qe) (x:=r) (n:=1048576) hrs (by decide)
 have k0:=VO (.list Qe) a0 1
 have k1:=VO Qu a1 (JQ (.list Qe) a0 1).1
 have k2:=VO (.list Qg) a2 (JQ Qu a1 (JQ (.list Qe) a0 1).1).1
 have k3:=VO (.list Qe) r 1
 have hk2 : ¬ (JQ (.list Qg) a2 (JQ Qu a1 (JQ (.list Qe) a0 1).1).1).1 < 0:=by omega
 have hk3 : ¬ (JQ (.list Qe) r 1).1 < 0:=by omega
 have hh:=QD8 hr 1 (by omega) (by omega)
 simp only [cond_false,QL h0 (by omega),QL h1 (by omega),QL h2 (by omega),Option.bind_some,s1,s2,Z5 h0,Z5 h1,Z5 h2,Z5 hr,Bool.not_true,
  Qlj (t:=.list Qe) (x:=a0) (k:=1) (by omega) (by unfold Zz; omega),Qlj (t:=Qu) (x:=a1) (k:=(JQ (.list Qe) a0 1).1) (by omega) (by unfold Zz; omega),
  Qlj (t:=.list Qg) (x:=a2) (k:=(JQ Qu a1 (JQ (.list Qe) a0 1).1).1) (by omega) (by unfold Zz; omega),decide_eq_false hk2]
 rw [Ys]
 simp only [Qlj (t:=.list Qe) (x:=r) (k:=1) (by omega) (by unfold Zz; omega),Option.bind_some,hh,decide_eq_false hk3,cond_false,decide_true,Bool.not_true,QL h0 (by omega),QL h1 (by omega),QL h2 (by omega),s2,Z5 hr]
end
end Go.Ab
