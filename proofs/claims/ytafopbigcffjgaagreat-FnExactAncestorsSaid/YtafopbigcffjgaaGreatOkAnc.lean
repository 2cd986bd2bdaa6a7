import Derived.Test.YtafopbigcffjgaaGreatGenAnc
import Derived.Test.YtafopbigcffjgaaGreatPlain1
namespace Go.Ab
open Go.Proofs
noncomputable section
theorem Qho (s : List Int) : Zk s = some (Qb7 s):=by
 induction s with
 | nil=>rfl
 | cons e r ih =>
  simp only [Zk,ih,Qb7,List.all_cons,Ql6]
  grind
theorem QkF {s : List Int} (h : s.length ≤ maxLen) : ZM s = some (Qb7 s):=by
 rw [ZM,QU h,Qho]
theorem Qi3 (s : List Int) : ZA s = some (Qb7 s):=by
 induction s with
 | nil=>rfl
 | cons e r ih =>
  simp only [ZA,ih,Qb7,List.all_cons,Ql6]
  grind
theorem QlQ {s : List Int} (lo hi : Int) (h : s.length ≤ maxLen) : Ja s lo hi = some (QaR s lo hi):=by
 rw [Ja,QU h,Qi3,QaR,Qb7]
 grind
theorem QeZ (x : Int) : JM x = Qfd x:=by unfold JM Qfd; grind
theorem Qgd (x : Int) : J5 x = Qfd x:=by unfold J5 Qfd; grind
theorem QlR (x : Int) : Ys x = Qd8 x:=by unfold Ys Qd8; grind
theorem Qnl (x : Int) : Y4 x = Qd8 x:=by unfold Y4 Qd8; grind
theorem QkG (x : Int) : Yc x = QjL x:=by unfold Yc QjL; rw [Qnl,Qgd]; grind
theorem Qi4 (s : List Int) : QS s = some (s.all QjL):=by
 induction s with
 | nil=>rfl
 | cons e r ih =>
  simp only [QS,ih,List.all_cons,QjL,QlR,QeZ]
  grind
theorem Ww {s : List Int} (h : s.length ≤ maxLen) : Zr s = some (Vs s):=by
 rw [Zr,QU h,Qi4,Vs]
 simp only [QeZ,inB]
 grind
theorem Qi5 (s : List Int) : ZB s = some (s.all QjL):=by
 induction s with
 | nil=>rfl
 | cons e r ih =>
  simp only [ZB,ih,List.all_cons,QkG]
  grind
theorem Qdk {s : List Int} (h : s.length ≤ maxLen) : Jb s = some (Vs s):=by
 rw [Jb,QU h,Qi5,Vs]
 simp only [Qgd,inB]
 cases s with
 | nil=>rfl
 | cons x s=>grind
theorem QlS (x : Int) (hx : x ≤ 62) : ∀ (m : Nat) (k : Int),0 ≤ k → k ≤ x → x - k < m → Js x m (2 ^ k.toNat) k = some (2 ^ x.toNat):=by
 intro m
 induction m with
 | zero=>intro k _ _ h; omega
 | succ m ih =>
  intro k h0 hk hm
  rw [Js]
  by_cases h : k < x
  ·have e : (2 : Int) ^ k.toNat * 2 = 2 ^ (k + 1).toNat:=by
    rw [show (k + 1).toNat = k.toNat + 1 by omega,Int.pow_succ]
   have hb : (2 : Int) ^ (k + 1).toNat ≤ 2 ^ 62:=by
    have:=Nat.pow_le_pow_right (n:=2) (by omega) (show (k + 1).toNat ≤ 62 by omega)
    exact_mod_cast this
   have hp : (0 : Int) < 2 ^ (k + 1).toNat:=Int.pow_pos (by omega)
   rw [decide_eq_true h,e,Qd9 (by omega),Qd9 (by omega)]
   exact ih _ (by omega) (by omega) (by omega)
  ·have : k = x:=by omega
   subst this
   rw [decide_eq_false h]; rfl
theorem Qge {x : Int} (h0 : 0 ≤ x) (hx : x ≤ 62) : YI x = some (QrA x):=by
 refine Qd3 ⟨x.toNat + 1,fun m hm=>?_⟩
 have:=QlS x hx m 0 (by omega) h0 (by omega)
 exact this
theorem Qnm {a : Atm} (h0 : 0 ≤ a.2.1) (h1 : a.2.1 ≤ 9223372036854775807) (h : a.2.1.tmod 64 ≤ 32) : Yh a = some (a.2.1.tdiv 64,QrA (32 - a.2.1.tmod 64)):=by
 have hm:=Int.tmod_nonneg 64 h0
 have hd : a.2.1.tdiv 64 = a.2.1 / 64:=Int.tdiv_eq_ediv_of_nonneg h0
 rw [Yh,Qd9 (by omega),Qge (by omega) (by omega),Qd9 (by omega)]
 rfl
theorem Wx {a : Atm} (hw : wfD Qa a) : Zs a = some (Yz a):=by
 have hw2 : inK .i64 a.1 = true ∧ inK .i64 a.2.1 = true ∧ wfD .str a.2.2.1 ∧ wfD .str a.2.2.2:=hw
 have h1:=E0 hw2.2.2.1
 have h2:=E0 hw2.2.2.2
 have hn:=hw2.2.1
 rw [Jz,GI,VB] at hn
 have hp : YI 32 = some 4294967296:=Qge (x:=32) (by omega) (by omega)
 have hb:=Qnm (a:=a)
 have hd : 0 ≤ a.2.1 → a.2.1.tdiv 64 = a.2.1 / 64:=fun h=>Int.tdiv_eq_ediv_of_nonneg h
 have hw1 : IntKind.wrap .i64 (4294967296 - 1) = 4294967295:=Qd9 (by omega)
 have hpos : QrA (32 - a.2.1.tmod 64) ≠ 0:=by unfold QrA; exact Int.ne_of_gt (Int.pow_pos (by omega))
 have hwr : 0 ≤ a.2.1 → IntKind.wrap .i64 (a.2.1.tdiv 64) = a.2.1.tdiv 64:=fun h=>Qd9 (by have:=hd h; omega)
 simp only [Zs,Q4,JX,QkF h1,Ww h2,hp,Option.bind_some,hw1]
 unfold Yz QaR Qb7
 by_cases k6 : a.1 = 6
 ·simp only [k6]
  by_cases h0 : a.2.1 < 0
  ·have : ¬ 0 ≤ a.2.1:=by omega
   grind
  ·have h0' : 0 ≤ a.2.1:=by omega
   rw [hwr h0']
   by_cases h32 : a.2.1.tmod 64 ≤ 32
   ·rw [hb h0' hn.2 h32]
    simp only [Option.bind_some]
    grind
   ·grind
 ·clear hb hd hpos hwr hp hw hw2
  simp only [k6,decide_false,cond_false,XJ,Qb8,Ji,JJ]
  grind (splits:=30)
theorem G1 {a : Atm} (hw : wfD Qa a) : QV a = some (Yz a):=by
 have hw2 : inK .i64 a.1 = true ∧ inK .i64 a.2.1 = true ∧ wfD .str a.2.2.1 ∧ wfD .str a.2.2.2:=hw
 have h1:=E0 hw2.2.2.1
 have h2:=E0 hw2.2.2.2
 have hn:=hw2.2.1
 rw [Jz,GI,VB] at hn
 have hd : 0 ≤ a.2.1 → a.2.1.tdiv 64 = a.2.1 / 64:=fun h=>Int.tdiv_eq_ediv_of_nonneg h
 have hwr : 0 ≤ a.2.1 → IntKind.wrap .i64 (a.2.1.tdiv 64) = a.2.1.tdiv 64:=fun h=>Qd9 (by have:=hd h; omega)
 have hmm : 0 ≤ a.2.1 → 0 ≤ a.2.1.tmod 64:=fun h=>Int.tmod_nonneg 64 h
 simp only [QV,J2,J1,QlQ _ _ h1,Qdk h2,Option.bind_some]
 unfold Yz
 by_cases k6 : a.1 = 6
 ·simp only [k6]
  by_cases h0 : a.2.1 < 0
  ·have : ¬ 0 ≤ a.2.1:=by omega
   grind
  ·have h0' : 0 ≤ a.2.1:=by omega
   have hm0:=hmm h0'
   rw [hwr h0']
   by_cases h32 : a.2.1.tmod 64 ≤ 32
   ·have hws : IntKind.wrap .i64 (32 - a.2.1.tmod 64) = 32 - a.2.1.tmod 64:=Qd9 (by omega)
    have hmn : min (32 - a.2.1.tmod 64).toNat 64 = (32 - a.2.1.tmod 64).toNat:=by omega
    have hb : (2 : Int) ^ (32 - a.2.1.tmod 64).toNat ≤ 2 ^ 32:=by
     have:=Nat.pow_le_pow_right (n:=2) (by omega) (show (32 - a.2.1.tmod 64).toNat ≤ 32 by omega)
     exact_mod_cast this
    have hp : (0 : Int) < 2 ^ (32 - a.2.1.tmod 64).toNat:=Int.pow_pos (by omega)
    rw [hws,hmn,Int.one_mul,Qd9 (by omega)]
    unfold QrA
    have hp2 : (2 : Int) ^ (32 - a.2.1.tmod 64).toNat ≠ 0:=by omega
    generalize (2 : Int) ^ (32 - a.2.1.tmod 64).toNat = q at *
    grind
   ·grind
 ·grind
theorem G2 (a b : Int) : Qw a b = Yq a b:=by unfold Qw Yq; rfl
theorem Qhp (a b : List Int) (ha : bytesL a) (hb : bytesL b) : ∀ (r : List Int) (k : Nat),r = a.drop k → k ≤ a.length → k ≤ b.length → QW a b r k = some (WV r (b.drop k)):=by
 intro r
 induction r with
 | nil =>
  intro k hr hk hkb
  have h1:=Za hr
  rw [QW,G2,QpL,List.length_drop]
  unfold Yq
  grind
 | cons e r ih =>
  intro k hr hk hkb
  obtain ⟨h1,_,h2⟩:=QK (d:=0) hr
  have h3 : (e :: r).length = a.length - k:=by rw [hr,List.length_drop]
  rw [QW]
  by_cases h : k < b.length
  ·have hg:=List.getElem?_eq_getElem h
   have he:=ha e (List.mem_of_mem_drop (hr ▸ List.mem_cons_self))
   have hbk:=hb b[k] (List.getElem_mem h)
   rw [Eh hg,QD h,decide_eq_true (by omega),List.drop_eq_getElem_cons h,Qd9 (by omega),Qd9 (by omega),G2,ih (k + 1) h2 (by omega) (by omega)]
   simp only [WV,cond_true]
   by_cases hc : e = b[k]
   ·simp [hc]
   ·simp [hc]
  ·rw [decide_eq_false (by omega),List.drop_eq_nil_of_le (by omega),QoX,h3]
   simp only [cond_false,G2,Yq]
   grind
theorem Gm {a b : List Int} (ha : wfD .str a) (hb : wfD .str b) : QL a b = some (VA a b):=by
 rw [QL,QU (E0 ha),Qhp a b (Qoa ha) (Qoa hb) a 0 rfl (by omega) (by omega),List.drop_zero,Qk2]
theorem Hy {a b : Atm} (ha : wfD Qa a) (hb : wfD Qa b) : Zm a b = some (Jr a b):=by
 have ha2 : inK .i64 a.1 = true ∧ inK .i64 a.2.1 = true ∧ wfD .str a.2.2.1 ∧ wfD .str a.2.2.2:=ha
 have hb2 : inK .i64 b.1 = true ∧ inK .i64 b.2.1 = true ∧ wfD .str b.2.2.1 ∧ wfD .str b.2.2.2:=hb
 rw [Zm,Gm ha2.2.2.1 hb2.2.2.1,Gm ha2.2.2.2 hb2.2.2.2]
 simp only [G2,Jr,Option.bind_some]
 grind
theorem Qi6 (a b : Int) : Zi a b = Yq a b:=by
 unfold Zi ZL Yq
 simp
theorem Qe0 (a b : List Int) : QJ a b = VA a b:=by
 unfold QJ Q0 VA
 simp
theorem Qdl (a b : Atm) : Q8 a b = some (Jr a b):=by
 rw [Q8,Vm,QU (by simp [maxLen])]
 simp only [Jk,Qi6,Qe0,Jr]
 have h:=UP a.2.2.1 b.2.2.1
 grind
theorem Qdm {a : Atm} (hw : wfD Qa a) : Jc a = some (XK a):=by
 rw [Jc,G1 hw,XK]; grind
theorem QaB {a : Atm} (hw : wfD Qa a) : Z7 a = some (XK a):=by
 rw [Z7,Wx hw,XK]; grind
theorem EK : ∀ (l : List (List Int)) (k : Nat),(∀ s ∈ l,s.length ≤ maxLen) → Qu l k = some (l.all Vs)
 | [],k,_=>rfl
 | s :: l,k,h=>by
  rw [Qu,Qdk (h s (by simp)),EK l (k + 1) (fun x hx=>h x (by simp [hx])),List.all_cons]
  simp only [Option.bind_some,Qs8]
  grind
theorem QbI {l : List (List Int)} (h : wfD (.list .str) l) : ZR l = some (l.all Vs):=by
 rw [ZR,QU h.1,EK l 0 fun s hs=>E0 (h.2 s hs)]
theorem QbJ (xs : List (List Int)) (hl : xs.length ≤ maxLen) : ∀ (r : List (List Int)) (k : Nat),r = xs.drop k → Zn xs r k = some (ZU ZG (Zj xs k) r)
 | [],k,_=>by rw [JK]; rfl
 | e :: r,k,h=>by
  obtain ⟨h1,h2,h3,h4,h5⟩:=Xr (d:=Ty.dflt .str) hl h
  rw [Zn,QbJ xs hl r (k + 1) h1,h2,Jy]
  rcases h5 with rfl | ⟨h5,h6,h7,_⟩
  ·simp [Zj]
  ·rw [h6,h7]; grind
theorem Qe1 {l : List (List Int)} (h : l.length ≤ maxLen) : Ju l = some (Yy ZG l):=by
 rw [Ju,QU h,QbJ l h l 0 rfl]; rfl
theorem QkH (a : Atm) : Jl a = decide (a = (0,0,[],[])):=by unfold Jl; exact decide_eq_decide.2 Iff.rfl
theorem HE (xs : List Atm) (hw : wfD (.list Qa) xs) : ∀ (r : List Atm) (k : Nat),r = xs.drop k → QE xs r k = some (r.all Yz && ZU Qs (Zj xs k) r)
 | [],k,_=>by rw [JK]; rfl
 | e :: r,k,h=>by
  obtain ⟨h1,h2,h3,h4,h5⟩:=Xr (d:=Ty.dflt Qa) hw.1 h
  rw [QE,G1 (hw.2 e h4),HE xs hw r (k + 1) h1,h2,Jy]
  simp only [Option.bind_some,Qdl,VS,List.all_cons]
  rcases h5 with rfl | ⟨h5,h6,h7,_⟩
  ·simp [Zj]; grind
  ·rw [h6,h7]; grind
theorem WK {l : List Atm} (h : wfD (.list Qa) l) : Q7 l = some (l.all Yz && Yy Qs l):=by
 rw [Q7,QU h.1,HE l h l 0 rfl]; rfl
theorem EL : ∀ (l : List Atm) (k : Nat),(∀ a ∈ l,wfD Qa a) → Qv l k = some (l.all Yz)
 | [],k,_=>rfl
 | s :: l,k,h=>by
  rw [Qv,G1 (h s (by simp)),EL l (k + 1) (fun x hx=>h x (by simp [hx])),List.all_cons]
  simp only [Option.bind_some,Qs8]
  grind
theorem QkI {v : Val} (hw : wfD Qg v) : JF v = some (HO v):=by
 have hw2 : inK .i64 v.1 = true ∧ wfD Qa v.2.1 ∧ wfD (.list Qa) v.2.2.1 ∧ wfD (.list .str) v.2.2.2:=hw
 rw [JF,G1 hw2.2.1,WK hw2.2.2.1,QbI hw2.2.2.2,Qe1 hw2.2.2.2.1,QU hw2.2.2.1.1,EL _ _ hw2.2.2.1.2]
 simp only [QkH,Option.bind_some,HO,XJ,Qb8,Ji,JJ]
 clear hw hw2
 grind (splits:=30)
theorem EM (v : Val) (hw : wfD (.list .str) v.2.2.2) : ∀ (r : List (List Int)) (k : Nat),r = v.2.2.2.drop k → QN v r k = some (r.all Vs && ZU ZG (Zj v.2.2.2 k) r)
 | [],k,_=>by rw [JK]; rfl
 | e :: r,k,h=>by
  obtain ⟨h1,h2,h3,h4,h5⟩:=Xr (d:=Ty.dflt .str) hw.1 h
  rw [QN,Ww (E0 (hw.2 e h4)),EM v hw r (k + 1) h1,h2,Jy]
  simp only [Option.bind_some,List.all_cons]
  rcases h5 with rfl | ⟨h5,h6,h7,h8⟩
  ·simp [Zj]; grind
  ·rw [h6,h7,Gm (hw.2 _ h8) (hw.2 _ h4)]
   simp only [Option.bind_some,Qfe]
   grind
theorem EN (v : Val) (hw : wfD (.list Qa) v.2.2.1) (hn : wfD (.list .str) v.2.2.2) : ∀ (r : List Atm) (k : Nat),r = v.2.2.1.drop k → QA v r k =
  some (r.all Yz && (bif decide (v.1 = 2) then ZU Qs (Zj v.2.2.1 k) r && decide (v.2.2.2.length = 0) else decide (v.2.2.2.length = v.2.2.1.length) && v.2.2.2.all Vs && Yy ZG v.2.2.2))
 | [],k,_=>by
  rw [QA,JK,QU hn.1,EM v hn v.2.2.2 0 rfl,Yy,J4]
  simp only [List.all_nil,XJ,Qb8,Ji,JJ]
  grind (splits:=30)
 | e :: r,k,h=>by
  obtain ⟨h1,h2,h3,h4,h5⟩:=Xr (d:=Ty.dflt Qa) hw.1 h
  rw [QA,Wx (hw.2 e h4),EN v hw hn r (k + 1) h1,h2,Jy]
  simp only [Option.bind_some,List.all_cons]
  rcases h5 with rfl | ⟨h5,h6,h7,h8⟩
  ·simp [Zj]; grind
  ·rw [h6,h7,Hy (hw.2 _ h8) (hw.2 _ h4)]
   simp only [Option.bind_some,VS]
   grind
theorem QkJ {v : Val} (hw : wfD Qg v) : ZN v = some (HO v):=by
 have hw2 : inK .i64 v.1 = true ∧ wfD Qa v.2.1 ∧ wfD (.list Qa) v.2.2.1 ∧ wfD (.list .str) v.2.2.2:=hw
 rw [ZN]
 simp only [JO]
 rw [Wx hw2.2.1,QU hw2.2.2.1.1,EN v hw2.2.2.1 hw2.2.2.2 v.2.2.1 0 rfl,J4]
 have e : (@decide (v.2.1 = (0,0,([] : List Int),([] : List Int))) (Ty.decEq Qa v.2.1 (0,0,([] : List Int),([] : List Int)))) = decide (v.2.1 = (0,0,[],[])):=decide_eq_decide.2 Iff.rfl
 simp only [e,Option.bind_some,HO,Yy,XJ,Qb8,Ji,JJ]
 clear hw hw2 e
 grind (splits:=30)
theorem UY : ∀ (l : List Val) (k : Nat),(∀ v ∈ l,wfD Qg v) → Qr l k = some (l.all fun v=>!decide (v.1 = 3) && HO v)
 | [],k,_=>rfl
 | v :: l,k,h=>by
  rw [Qr,QkI (h v (by simp)),UY l (k + 1) (fun x hx=>h x (by simp [hx])),List.all_cons]
  simp only [Option.bind_some,Qs8,XJ,Qb8,Ji,JJ]
  grind
theorem Qhq {n : List (List Int)} {v : List Val} (hn : wfD (.list .str) n) (hv : wfD (.list Qg) v) : Zo n v = some (G7 n v):=by
 rw [Zo,QbI hn,Qe1 hn.1,QU hv.1,UY v 0 hv.2]
 simp only [Option.bind_some,G7,XJ,Qb8,Ji,JJ]
 grind (splits:=30)
theorem EO (xs : List (List Int)) (vs : List Val) (hx : wfD (.list .str) xs) (hv : wfD (.list Qg) vs) (hlen : vs.length = xs.length) : ∀ (r : List (List Int)) (k : Nat),r = xs.drop k →
  QX xs vs r k = some (r.all Vs && ZU ZG (Zj xs k) r && (vs.drop k).all fun v=>!decide (v.1 = 3) && HO v)
 | [],k,h=>by
  have:=Za h
  rw [JK,List.drop_eq_nil_of_le (by omega)]; rfl
 | e :: r,k,h=>by
  obtain ⟨h1,h2,h3,h4,h5⟩:=Xr (d:=Ty.dflt .str) hx.1 h
  have hk : k < vs.length:=by omega
  have hg:=List.getElem?_eq_getElem hk
  rw [QX,Ww (E0 (hx.2 e h4)),EO xs vs hx hv hlen r (k + 1) h1,h2,Jy,QD hk,Eh hg,QkJ (hv.2 _ (List.getElem_mem hk)),List.drop_eq_getElem_cons hk]
  simp only [Option.bind_some,List.all_cons,cond_true]
  rcases h5 with rfl | ⟨h5,h6,h7,h8⟩
  ·simp only [J4,Int.natCast_zero,Int.lt_irrefl,decide_false,cond_false,XJ,Qb8,Ji,JJ]
   grind
  ·rw [h6,h7,Gm (hx.2 _ h8) (hx.2 _ h4)]
   simp only [Option.bind_some,Qfe,cond_true,XJ,Qb8,Ji,JJ]
   have : decide ((0 : Int) < (k : Int)) = true:=decide_eq_true (by omega)
   rw [this]
   clear hx hv h h1 h2 h7 h8
   grind
theorem QkK {n : List (List Int)} {v : List Val} (hn : wfD (.list .str) n) (hv : wfD (.list Qg) v) : ZO n v = some (G7 n v):=by
 rw [ZO,QU hn.1]
 by_cases hl : v.length = n.length
 ·rw [EO n v hn hv hl n 0 rfl,List.drop_zero,J4]
  simp only [Option.bind_some,G7,Yy,hl,XJ,Qb8,Ji,JJ]
  clear hn hv
  grind (splits:=30)
 ·simp only [G7,XJ,Qb8,Ji,JJ]
  clear hn hv
  grind (splits:=30)
theorem EP : ∀ (l : List Atm) (k : Nat),Qt l k = some (l.all fun a=>decide (a.1 = 4))
 | [],k=>rfl
 | a :: l,k=>by
  rw [Qt,EP l (k + 1),List.all_cons]
  simp only [Qs8,XJ,Qb8,Ji,JJ]
  grind
theorem QkL {l : List Atm} {m : Int} (h : wfD (.list Qa) l) : ZQ l m = some (decide ((l.length : Int) ≤ m) && Qm3 l):=by
 rw [ZQ,WK h,QU h.1,EP]
 rw [Qm3,show l.all XK = ((l.all fun a=>decide (a.1 = 4)) && l.all Yz) from (Qq4 _ _ l).symm]
 simp only [Option.bind_some]
 cases l.all Yz <;> cases Yy Qs l <;> cases (l.all fun a=>decide (a.1 = 4)) <;> cases decide ((l.length : Int) ≤ m) <;> rfl
theorem WL (xs : List Thg) (hw : wfD (.list Qc) xs) : ∀ (r : List Thg) (k : Nat),r = xs.drop k →
  QP xs r k = some (r.all HP && ZU (fun a b=>Qs a.1 b.1) (Zj xs k) r)
 | [],k,h=>by rw [JK]; rfl
 | e :: r,k,h=>by
  obtain ⟨h1,h2,h3,h4,h5⟩:=Xr (d:=Ty.dflt Qc) hw.1 h
  have we : wfD Qa e.1 ∧ wfD (.list Qa) e.2.1 ∧ wfD (.list .str) e.2.2.1 ∧ wfD (.list Qg) e.2.2.2:=hw.2 e h4
  rw [QP,Qdm we.1,QkL we.2.1,Qhq we.2.2.1 we.2.2.2,WL xs hw r (k + 1) h1,h2,Jy]
  simp only [Option.bind_some,List.all_cons,Qdl,VS]
  rcases h5 with rfl | ⟨h5,h6,h7,h8⟩
  ·simp only [J4,HP,Int.natCast_zero,Int.lt_irrefl,decide_false,cond_false,XJ,Qb8,Ji,JJ]
   clear hw we h h1 h2
   grind (splits:=30)
  ·rw [h6,h7,decide_eq_true (show (0 : Int) < (k : Int) by omega)]
   simp only [HP,cond_true,XJ,Qb8,Ji,JJ]
   clear hw we h h1 h2 h7 h8
   grind (splits:=30)
theorem Qi7 {l : List Thg} (hw : wfD (.list Qc) l) : Jv l = some (HQ l):=by
 rw [Jv,QU hw.1,WL l hw l 0 rfl,J4]
 simp only [HQ,Yy,XJ,Qb8,Ji,JJ]
 clear hw
 grind
theorem WM (K : Option Bool) (x : Thg) (hw : wfD (.list Qa) x.2.1) : ∀ (r : List Atm) (k : Nat),r = x.2.1.drop k →
  QF K x r k = bif r.all XK && ZU Qs (Zj x.2.1 k) r then K else some false
 | [],k,_=>by rw [JK]; rfl
 | e :: r,k,h=>by
  obtain ⟨h1,h2,h3,h4,h5⟩:=Xr (d:=Ty.dflt Qa) hw.1 h
  rw [QF,QaB (hw.2 e h4),WM K x hw r (k + 1) h1,h2,Jy]
  simp only [Option.bind_some,List.all_cons]
  rcases h5 with rfl | ⟨h5,h6,h7,h8⟩
  ·simp only [J4,Int.natCast_zero,Int.lt_irrefl,decide_false,cond_false,XJ,Qb8]
   clear hw h h1 h2
   grind (splits:=30)
  ·rw [h6,h7,decide_eq_true (show (0 : Int) < (k : Int) by omega),Hy (hw.2 _ h8) (hw.2 _ h4)]
   simp only [Option.bind_some,VS,cond_true,XJ,Qb8]
   clear hw h h1 h2 h7 h8
   grind (splits:=30)
theorem WN (xs : List Thg) (hw : wfD (.list Qc) xs) : ∀ (r : List Thg) (k : Nat),r = xs.drop k →
  QO xs r k = some (r.all HP && ZU (fun a b=>Qs a.1 b.1) (Zj xs k) r)
 | [],k,h=>by rw [JK]; rfl
 | e :: r,k,h=>by
  obtain ⟨h1,h2,h3,h4,h5⟩:=Xr (d:=Ty.dflt Qc) hw.1 h
  have we : wfD Qa e.1 ∧ wfD (.list Qa) e.2.1 ∧ wfD (.list .str) e.2.2.1 ∧ wfD (.list Qg) e.2.2.2:=hw.2 e h4
  rw [QO,QaB we.1,QkK we.2.2.1 we.2.2.2,QU we.2.1.1,WM _ e we.2.1 e.2.1 0 rfl,WN xs hw r (k + 1) h1,h2,Jy]
  simp only [Option.bind_some,List.all_cons,J4]
  have hg : HP e = (XK e.1 && decide (e.2.1.length ≤ 50) && (e.2.1.all XK && ZU Qs none e.2.1) && G7 e.2.2.1 e.2.2.2):=rfl
  rcases h5 with rfl | ⟨h5,h6,h7,h8⟩
  ·simp only [hg,J4,Int.natCast_zero,Int.lt_irrefl,decide_false,cond_false,XJ,Qb8,Ji,JJ]
   clear hw we h h1 h2 hg
   grind (splits:=30)
  ·have wp : wfD Qa _ ∧ _:=hw.2 _ h8
   rw [h6,h7,decide_eq_true (show (0 : Int) < (k : Int) by omega),Hy wp.1 we.1]
   simp only [Option.bind_some,hg,VS,cond_true,XJ,Qb8,Ji,JJ]
   clear hw we h h1 h2 h7 h8 wp hg
   grind (splits:=30)
theorem Qi8 {l : List Thg} (hw : wfD (.list Qc) l) : Jt l = some (HQ l):=by
 rw [Jt,QU hw.1,WN l hw l 0 rfl,J4]
 simp only [HQ,Yy,XJ,Qb8,Ji,JJ]
 clear hw
 grind
theorem QlT (a : Qb) (xs : List Qb) : ZF a xs = some (decide (a ∈ xs)):=by
 induction xs with
 | nil=>simp [ZF]
 | cons e r ih =>
  rw [ZF,ih]
  by_cases h : e = a
  ·subst h; simp
  ·have h' : ¬ a = e:=fun q=>h q.symm
   simp [h,h']
theorem QnK {xs : List Qb} (h : xs.length ≤ maxLen) (a : Qb) : YJ xs a = some (decide (a ∈ xs)):=by
 rw [YJ,QU h,QlT]
theorem Qi9 (a : Qb) (xs : List Qf) : ∃ y,QT a xs = some y ∧ (y.1 ∈ xs ∨ y.1.2.1 = []):=by
 induction xs with
 | nil=>exact ⟨_,rfl,.inr rfl⟩
 | cons e r ih =>
  rw [QT]
  by_cases h : e.1 = a
  ·subst h
   exact ⟨(e,true),by simp,.inl (by simp)⟩
  ·obtain ⟨y,h1,h2⟩:=ih
   refine ⟨y,by simp [h,h1],?_⟩
   rcases h2 with h2 | h2
   ·exact .inl (by simp [h2])
   ·exact .inr h2
theorem QlU {xs : List Qf} (h : xs.length ≤ maxLen) (a : Qb) : ∃ y,Z9 xs a = some y ∧ (y.1 ∈ xs ∨ y.1.2.1 = []):=by
 rw [Z9,QU h]
 exact Qi9 a xs
theorem QfS (a : Qb) (xs : List Qf) : ∀ k,QB a xs k = QT a xs:=by
 induction xs with
 | nil=>intro k; rfl
 | cons e r ih =>
  intro k
  rw [QB,QT,ih]
  have : decide ((k : Int) < 0) = false:=decide_eq_false (by omega)
  rw [this]
  rfl
theorem Qja (xs : List Qf) (a : Qb) : Jw xs a = Z9 xs a:=by
 rw [Jw,Z9,QfS]
def Wy (acc : List Qb) : List Qb → List Qb
 | []=>acc
 | e :: r=>Wy (if e ∈ acc then acc else acc ++ [e]) r
theorem Qoe (e : Qb) : ∀ (xs : List Qb),QbK Qa (xs.map fun a=>(a,true)) e false = decide (e ∈ xs)
 | []=>by simp [QbK]
 | x :: xs=>by
  rw [List.map_cons,QbK,Qoe e xs]
  by_cases h : e = x
  ·subst h; simp
  ·simp [h]
theorem Qof (e : Qb) : ∀ (xs : List Qb),e ∉ xs → EQ Qa (xs.map fun a=>(a,true)) e true = (xs ++ [e]).map fun a=>(a,true)
 | [],_=>rfl
 | x :: xs,h=>by
  have h1 : ¬ e = x:=fun q=>h (by simp [q])
  rw [List.map_cons,EQ,Qof e xs (fun q=>h (by simp [q]))]
  simp [h1]
theorem Wz {K0 : List Qb → Int → Option (List Qb)} {x3 : Int} : ∀ (ups x2 : List Qb),x2.length + ups.length ≤ 1000000 → ZP K0 x3 ups x2 = K0 (Wy x2 ups) (IntKind.wrap .i64 (x3 + 1))
 | [],x2,_=>rfl
 | e :: r,x2,hl=>by
  rw [List.length_cons] at hl
  rw [ZP,QnK (by unfold maxLen; omega),Option.bind_some,Wy]
  by_cases h : e ∈ x2
  ·simp only [h,decide_true,Bool.not_true,cond_false,if_true]
   exact Wz r x2 (by omega)
  ·have hroom : (decide (((x2.length : Int) + (([(e)] : List Qb).length : Int)) * 48 ≤ JA) && decide ((x2.length : Int) + (([(e)] : List Qb).length : Int) ≤ JA)) = true:=by
    rw [Yv]; simp; omega
   simp only [h,decide_false,Bool.not_false,cond_true,hroom,if_false]
   exact Wz r _ (by rw [List.length_append]; simp; omega)
theorem V2 {K0 : List Qb → List (Qb × Bool) → Option (List (Qb × Bool))} (k : Nat) : ∀ (ups x2 : List Qb),k < x2.length → x2.length + ups.length ≤ 1000000 →
  QG K0 ups (x2.drop k) (x2.map fun a=>(a,true)) = K0 ((Wy x2 ups).drop (k + 1)) ((Wy x2 ups).map fun a=>(a,true))
 | [],x2,hk,hl=>by
  have h1 : (1 : Int) ≤ (((x2.drop k).length : Nat) : Int):=by rw [List.length_drop]; omega
  rw [QG,Wy]
  simp only [h1,decide_true,Bool.and_self,cond_true]
  congr 1
  unfold cut
  rw [Int.toNat_natCast,List.take_length,show Int.toNat 1 = 1 from rfl,List.drop_drop]
 | e :: r,x2,hk,hl=>by
  rw [List.length_cons] at hl
  rw [QG,Qoe,Wy]
  by_cases h : e ∈ x2
  ·simp only [h,decide_true,Bool.not_true,cond_false,if_true]
   exact V2 k r x2 hk (by omega)
  ·have hroom : (decide ((((x2.drop k).length : Int) + (([(e)] : List Qb).length : Int)) * 48 ≤ JA) && decide (((x2.drop k).length : Int) + (([(e)] : List Qb).length : Int) ≤ JA)) = true:=by
    rw [Yv]; simp; omega
   have hd : x2.drop k ++ [e] = (x2 ++ [e]).drop k:=by rw [List.drop_append_of_le_length (by omega)]
   simp only [h,decide_false,Bool.not_false,cond_true,hroom,if_false,Qof e x2 h,hd]
   exact V2 k r _ (by rw [List.length_append]; omega) (by rw [List.length_append]; simp; omega)
theorem Qhr {U : List Qb} : ∀ (ups x2 : List Qb),(∀ a ∈ ups,a ∈ U) → (∀ a ∈ x2,a ∈ U) → x2.Nodup → (∀ a ∈ Wy x2 ups,a ∈ U) ∧ (Wy x2 ups).Nodup ∧ x2.length ≤ (Wy x2 ups).length
 | [],x2,_,h2,h3=>⟨h2,h3,Nat.le_refl _⟩
 | e :: r,x2,h1,h2,h3=>by
  rw [Wy]
  by_cases h : e ∈ x2
  ·rw [if_pos h]
   exact Qhr r x2 (fun a ha=>h1 a (by simp [ha])) h2 h3
  ·rw [if_neg h]
   obtain ⟨q1,q2,q3⟩:=Qhr (U:=U) r (x2 ++ [e]) (fun a ha=>h1 a (by simp [ha])) (fun a ha=>by
    rcases List.mem_append.1 ha with ha | ha
    ·exact h2 a ha
    ·rw [List.mem_singleton.1 ha]; exact h1 e (by simp)) (by
    rw [List.nodup_append]
    exact ⟨h3,by simp,fun a ha b hb=>by rw [List.mem_singleton.1 hb]; exact fun q=>h (q ▸ ha)⟩)
   refine ⟨q1,q2,?_⟩
   rw [List.length_append] at q3
   exact Nat.le_trans (Nat.le_add_right _ _) q3
theorem Qtg {a0 : List Qf} (h0 : a0.length ≤ maxLen) {U : List Qb} (hU : ∀ t ∈ a0,∀ a ∈ t.2.1,a ∈ U) (hUl : U.length ≤ 400000) (hups : ∀ t ∈ a0,t.2.1.length ≤ 400000) : ∀ (d k : Nat) (x2 : List Qb),U.length ≤ k + d → k ≤ x2.length → (∀ a ∈ x2,a ∈ U) → x2.Nodup →
  ∃ L,(∀ a ∈ L,a ∈ U) ∧ L.Nodup ∧ ∀ m,d + 1 ≤ m → QQ a0 m (x2.drop k) (x2.map fun a=>(a,true)) = some (L.map fun a=>(a,true)) ∧ Zv a0 m x2 k = Option.bind (Vv L) some:=by
 intro d
 induction d with
 | zero =>
  intro k x2 hd hk hx hn
  have hlen:=Qff hn hx
  have hkk : k = x2.length:=by omega
  subst hkk
  refine ⟨x2,hx,hn,fun m hm=>?_⟩
  obtain ⟨m,rfl⟩ : ∃ m',m = m' + 1:=⟨m - 1,by omega⟩
  rw [QQ,Zv]
  simp
 | succ d ih =>
  intro k x2 hd hk hx hn
  have hlen:=Qff hn hx
  by_cases hkk : k = x2.length
  ·subst hkk
   refine ⟨x2,hx,hn,fun m hm=>?_⟩
   obtain ⟨m,rfl⟩ : ∃ m',m = m' + 1:=⟨m - 1,by omega⟩
   rw [QQ,Zv]
   simp
  ·have hlt : k < x2.length:=by omega
   obtain ⟨y,hy,hy2⟩:=QlU h0 x2[k]
   have hin : ∀ a ∈ y.1.2.1,a ∈ U:=by
    rcases hy2 with h | h
    ·exact hU _ h
    ·rw [h]; intro a ha; cases ha
   have hul : y.1.2.1.length ≤ 400000:=by
    rcases hy2 with h | h
    ·exact hups _ h
    ·rw [h]; simp
   obtain ⟨q1,q2,q3⟩:=Qhr (U:=U) y.1.2.1 x2 hin hx hn
   obtain ⟨L,l1,l2,l3⟩:=ih (k + 1) (Wy x2 y.1.2.1) (by omega) (by omega) q1 q2
   refine ⟨L,l1,l2,fun m hm=>?_⟩
   obtain ⟨m,rfl⟩ : ∃ m',m = m' + 1:=⟨m - 1,by omega⟩
   obtain ⟨r1,r2⟩:=l3 m (by omega)
   have hrd : rd x2 (k : Int) (Ty.dflt Qa) = x2[k]:=Eh (List.getElem?_eq_getElem hlt)
   have hrd2 : rd (x2.drop k) (0 : Int) (Ty.dflt Qa) = x2[k]:=Eh (k:=0) (by rw [List.getElem?_drop,Nat.add_zero]; exact List.getElem?_eq_getElem hlt)
   have b1 : decide ((0 : Int) < ((x2.drop k).length : Int)) = true:=decide_eq_true (by rw [List.length_drop]; omega)
   have b2 : inB 0 (x2.drop k).length = true:=Jn.2 (by rw [List.length_drop]; omega)
   have b3 : decide ((k : Int) < (x2.length : Int)) = true:=decide_eq_true (by omega)
   constructor
   ·rw [QQ]
    simp only [b1,b2,cond_true,hrd2,Qja,hy,Option.bind_some]
    rw [QU (by unfold maxLen; omega),V2 k _ _ hlt (by omega)]
    exact r1
   ·rw [Zv]
    simp only [b3,QD hlt,cond_true,hrd,hy,Option.bind_some]
    rw [QU (by unfold maxLen; omega),Wz _ _ (by omega),QR (len:=maxLen) (Nat.le_refl _) (by unfold maxLen; omega)]
    exact r2
theorem QtQ {k : Int} (h0 : 0 ≤ k) (h1 : k ≤ 2199023255552) : IntKind.wrap .i64 k = k:=Qd1 (by omega)
theorem QrG {k : Int} (h0 : 0 ≤ k) (h1 : k ≤ 1099511627776) : JV k = some (QaP k):=Qni k h0 (by unfold Q2; omega)
theorem QrH (b : Bool) : (b != b) = false:=by cases b <;> rfl
theorem Qog {α : Type} (f : α → Int → Int × α) : ∀ (l : List α) (k : Int),(XG f l k).2.length = l.length
 | [],_=>rfl
 | x :: l,k=>by rw [XG]; simp [Qog f l]
theorem QqD (e : Qb) : VQ Qa e = (1 + (1 + (1 + 1))):=by kernel_rfl
theorem QqE (e : Qb) (k : Int) : Yg Qa e k = ((k + 1 + 1 + 1 + 1),((IntKind.wrap .i64 k),((IntKind.wrap .i64 (k + 1)),(QaP (k + 1 + 1),QaP (k + 1 + 1 + 1))))):=by kernel_rfl
theorem Qgf : ∀ (l : List Qb) (k : Int),(∀ e ∈ l,wfD Qa e) → 0 ≤ k → k + ((l.map (VQ Qa)).sum : Nat) ≤ 1099511627776 → Zl (XG (Yg Qa) l k).2 k = some (XG (Yg Qa) l k).1
 | [],k,_,_,_=>rfl
 | e :: l,k,hl,h0,h1=>by
  rw [List.map_cons,List.sum_cons,QqD] at h1
  have hw:=hl e (by simp)
  have ih:=Qgf l (k + 1 + 1 + 1 + 1) (fun p hp=>hl p (by simp [hp])) (by omega) (by omega)
  rw [XG,QqE]
  simp only
  rw [Zl]
  simp (disch:=omega) only [QtQ,QrG,Option.bind_some,decide_true,Bool.not_true,cond_false,QrH]
  exact ih
theorem QpS {l : List Qb} (hw : wfD (.list Qa) l) (k : Int) (h0 : 0 ≤ k) (h1 : k + VC (.list Qa) l ≤ 1099511627776) : ZS (YN (.list Qa) l k).2 k = some (YN (.list Qa) l k).1:=by
 have hlen : (YN (.list Qa) l k).2.length = l.length:=Qog (Yg Qa) l k
 rw [ZS,QU (by rw [hlen]; exact hw.1)]
 exact Qgf l k hw.2 h0 h1
theorem Qo8 (a : Qb) : Jr a a = 0:=by
 unfold Jr Yq VA
 simp [WW]
theorem QtB {a b : Qb} (h : Jr a b < 0) : Qs a b = true:=by
 have:=VS a b
 rw [decide_eq_false (by omega)] at this
 cases hl : Qs a b with
 | true=>rfl
 | false=>rw [hl] at this; cases this
theorem QtC {a b : Qb} (h : 0 < Jr a b) : Qs b a = true:=by
 have:=VS a b
 rw [decide_eq_true (by omega)] at this
 have hl : Qs a b = false:=by simpa using this.symm
 cases h2 : Qs b a with
 | true=>rfl
 | false=>rw [XM hl h2,Qo8] at h; omega
def Qe2 (l : List Qb) : Prop:=l.Pairwise fun a b=>Qs a b = true
theorem sh2 {p : Nat} {x : Qb} : ∀ (d : Nat) (ys : List Qb),p + d < ys.length → ys.length ≤ maxLen → ∀ (K : List Qb → Option (List Qb)) m,d + 1 ≤ m →
  QY K p x m ys ((p + d : Nat) : Int) = K (ys.take p ++ x :: ((ys.drop p).take d ++ ys.drop (p + d + 1)))
 | 0,ys,hj,hl,K,m,hm=>by
  obtain ⟨m,rfl⟩ : ∃ m',m = m' + 1:=⟨m - 1,by omega⟩
  rw [QY]
  have d1 : decide ((p : Int) < ((p + 0 : Nat) : Int)) = false:=decide_eq_false (by omega)
  have d3 : inB (p : Int) ys.length = true:=QD (by omega)
  simp only [d1,d3,cond_true,cond_false,Bool.and_self,Int.toNat_natCast]
  rw [List.set_eq_take_append_cons_drop,if_pos (by omega)]
  simp
 | d + 1,ys,hj,hl,K,m,hm=>by
  obtain ⟨m,rfl⟩ : ∃ m',m = m' + 1:=⟨m - 1,by omega⟩
  have hw : IntKind.wrap .i64 (((p + (d + 1) : Nat) : Int) - 1) = ((p + d : Nat) : Int):=by
   rw [show p + (d + 1) = (p + d) + 1 from rfl]
   exact QaN hl (by omega)
  have hrd : rd ys ((p + d : Nat) : Int) (Ty.dflt Qa) = ys[p + d]:=Eh (List.getElem?_eq_getElem (by omega))
  rw [QY]
  have d1 : decide ((p : Int) < ((p + (d + 1) : Nat) : Int)) = true:=decide_eq_true (by omega)
  have d2 : inB ((p + d : Nat) : Int) ys.length = true:=QD (by omega)
  have d3 : inB ((p + (d + 1) : Nat) : Int) ys.length = true:=QD hj
  simp only [d1,hw,d2,d3,cond_true,Bool.and_self,Int.toNat_natCast,hrd]
  rw [sh2 d (ys.set (p + (d + 1)) ys[p + d]) (by rw [List.length_set]; omega) (by rw [List.length_set]; exact hl) K m (by omega)]
  congr 1
  have e1 : (ys.set (p + (d + 1)) ys[p + d]).take p = ys.take p:=by rw [List.take_set_of_le (by omega)]
  have e2 : ((ys.set (p + (d + 1)) ys[p + d]).drop p).take d = (ys.drop p).take d:=by
   rw [List.drop_set,if_neg (by omega),List.take_set_of_le (by omega)]
  have e3 : (ys.set (p + (d + 1)) ys[p + d]).drop (p + d + 1) = ys[p + d] :: ys.drop (p + (d + 1) + 1):=by
   rw [List.drop_eq_getElem_cons (by rw [List.length_set]; omega)]
   congr 1
   ·rw [List.getElem_set]; simp [Nat.add_assoc]
   ·rw [List.drop_set,if_pos (by omega)]
    rfl
  have e4 : (ys.drop p).take (d + 1) = (ys.drop p).take d ++ [ys[p + d]]:=by
   rw [List.take_add_one,List.getElem?_drop,List.getElem?_eq_getElem (by omega)]
   rfl
  rw [e1,e2,e3,e4]
  simp
theorem in2 {x1 : List Qb} {x : Qb} {k : Nat} (hk : k ≤ x1.length) (hl : x1.length ≤ 1000000) (hx : wfD Qa x) (h1 : ∀ a ∈ x1,wfD Qa a) (hr : Qe2 x1) (hgt : ∀ (i : Nat) (hi : i < x1.length),k ≤ i → Qs x x1[i] = true) (hle : ∀ hk : 0 < k,¬ 0 < Jr (x1[k - 1]'(by omega)) x) :
  ∃ zs,zs.length ≤ x1.length + 1 ∧ (∀ a,a ∈ zs ↔ a = x ∨ a ∈ x1) ∧ Qe2 zs ∧ ∀ (K : List Qb → Option (List Qb)) m,x1.length + 2 ≤ m → Zy K m x1 k x = K zs:=by
 have hmax : x1.length + 1 ≤ maxLen:=by unfold maxLen; omega
 have hz:=fun K m hm=>sh2 (p:=k) (x:=x) (x1.length - k) (x1 ++ [x]) (by simp; omega) (by simpa using hmax) K m hm
 have hzs : (x1 ++ [x]).take k ++ x :: (((x1 ++ [x]).drop k).take (x1.length - k) ++ (x1 ++ [x]).drop (k + (x1.length - k) + 1)) = x1.take k ++ x :: x1.drop k:=by
  have a1 : (x1 ++ [x]).take k = x1.take k:=List.take_append_of_le_length hk
  have a2 : (x1 ++ [x]).drop k = x1.drop k ++ [x]:=List.drop_append_of_le_length hk
  have a3 : (x1.drop k ++ [x]).take (x1.length - k) = x1.drop k:=List.take_left' (by rw [List.length_drop])
  have a4 : (x1 ++ [x]).drop (k + (x1.length - k) + 1) = []:=List.drop_eq_nil_of_le (by simp; omega)
  rw [a1,a2,a3,a4,List.append_nil]
 rw [hzs,show k + (x1.length - k) = x1.length by omega] at hz
 have hmem : ∀ a,a ∈ x1.take k ++ x :: x1.drop k ↔ a = x ∨ a ∈ x1:=by
  intro a
  conv=>rhs; rw [← List.take_append_drop k x1]
  rw [List.mem_append,List.mem_cons,List.mem_append]
  constructor
  ·rintro (h | h | h)
   ·exact .inr (.inl h)
   ·exact .inl h
   ·exact .inr (.inr h)
  ·rintro (h | h | h)
   ·exact .inr (.inl h)
   ·exact .inl h
   ·exact .inr (.inr h)
 have hroom : (decide (((x1.length : Int) + (([x] : List Qb).length : Int)) * 48 ≤ JA) && decide ((x1.length : Int) + (([x] : List Qb).length : Int) ≤ JA)) = true:=by
  rw [Yv]; simp; omega
 have hpos : IntKind.wrap .i64 (((x1 ++ ([x] : List Qb)).length : Int) - 1) = ((x1.length : Nat) : Int):=by
  rw [List.length_append]
  exact QaN hmax (by omega)
 have hlen : (x1.take k ++ x :: x1.drop k).length ≤ x1.length + 1:=by simp; omega
 have hris : (0 < k → ∀ hk0 : k - 1 < x1.length,Qs x1[k - 1] x = true) → Qe2 (x1.take k ++ x :: x1.drop k):=by
  intro hpre
  have hr2 : (x1.take k ++ x1.drop k).Pairwise fun a b=>Qs a b = true:=by rw [List.take_append_drop]; exact hr
  rw [List.pairwise_append] at hr2
  obtain ⟨r1,r2,r3⟩:=hr2
  have hafter : ∀ b ∈ x1.drop k,Qs x b = true:=by
   intro b hb
   obtain ⟨i,hi⟩:=List.getElem?_of_mem hb
   rw [List.getElem?_drop] at hi
   obtain ⟨h3,h4⟩:=List.getElem?_eq_some_iff.1 hi
   rw [← h4]
   exact hgt (k + i) h3 (by omega)
  have hbefore : ∀ a ∈ x1.take k,Qs a x = true:=by
   intro a ha
   obtain ⟨i,hi⟩:=List.getElem?_of_mem ha
   rw [List.getElem?_take] at hi
   split at hi
   case isFalse=>cases hi
   rename_i hik
   obtain ⟨h3,h4⟩:=List.getElem?_eq_some_iff.1 hi
   have hp:=hpre (by omega) (by omega)
   by_cases he : i = k - 1
   ·subst he; rw [← h4]; exact hp
   ·have:=List.pairwise_iff_getElem.1 hr i (k - 1) h3 (by omega) (by omega)
    rw [← h4]
    exact XL this hp
  show List.Pairwise _ _
  rw [List.pairwise_append]
  refine ⟨r1,List.pairwise_cons.2 ⟨hafter,r2⟩,fun a ha b hb=>?_⟩
  rcases List.mem_cons.1 hb with rfl | hb
  ·exact hbefore a ha
  ·exact r3 a ha b hb
 by_cases h0 : k = 0
 ·subst h0
  refine ⟨_,hlen,hmem,hris (fun h=>by omega),fun K m hm=>?_⟩
  rw [Zy]
  simp only [Int.natCast_zero,hroom,hpos,cond_true]
  exact hz K m (by omega)
 ·obtain ⟨k',rfl⟩ : ∃ k',k = k' + 1:=⟨k - 1,by omega⟩
  have hw : IntKind.wrap .i64 (((k' + 1 : Nat) : Int) - 1) = (k' : Int):=QaN (by unfold maxLen; omega) hk
  have hin : inB (k' : Int) x1.length = true:=QD (by omega)
  have hrd : rd x1 (k' : Int) (Ty.dflt Qa) = x1[k']:=Eh (List.getElem?_eq_getElem (by omega))
  have hcm:=Hy (h1 x1[k'] (List.getElem_mem _)) hx
  have d1 : decide ((0 : Int) < ((k' + 1 : Nat) : Int)) = true:=decide_eq_true (by omega)
  have hle2 : ¬ 0 < Jr x1[k'] x:=hle (by omega)
  by_cases he : Jr x1[k'] x = 0
  ·refine ⟨x1,by omega,fun a=>⟨.inr,?_⟩,hr,fun K m hm=>?_⟩
   ·rintro (h | h)
    ·rw [h,← QqA he]; exact List.getElem_mem _
    ·exact h
   ·rw [Zy]
    simp only [d1,hw,hin,hrd,hcm,Option.bind_some,he,decide_true,cond_true]
  ·refine ⟨_,hlen,hmem,hris (fun _ _=>QtB (by show Jr x1[k'] x < 0; omega)),fun K m hm=>?_⟩
   rw [Zy]
   simp only [d1,hw,hin,hrd,hcm,Option.bind_some,he,decide_false,cond_true,cond_false,hroom,hpos]
   exact hz K m (by omega)
theorem QtU {x1 : List Qb} {x : Qb} (hl : x1.length ≤ 1000000) (hx : wfD Qa x) (h1 : ∀ a ∈ x1,wfD Qa a) (hr : Qe2 x1) : ∀ (k : Nat),k ≤ x1.length → (∀ (i : Nat) (hi : i < x1.length),k ≤ i → Qs x x1[i] = true) →
  ∃ zs,zs.length ≤ x1.length + 1 ∧ (∀ a,a ∈ zs ↔ a = x ∨ a ∈ x1) ∧ Qe2 zs ∧ ∀ (K : List Qb → Option (List Qb)) m,x1.length + k + 4 ≤ m → Q5 K x1 x m k = K zs:=by
 intro k
 induction k with
 | zero =>
  intro hk hgt
  obtain ⟨zs,z1,z2,z3,z4⟩:=in2 hk hl hx h1 hr hgt (fun h=>by omega)
  refine ⟨zs,z1,z2,z3,fun K m hm=>?_⟩
  obtain ⟨m,rfl⟩ : ∃ m',m = m' + 1:=⟨m - 1,by omega⟩
  rw [Q5]
  have d1 : decide ((0 : Int) < ((0 : Nat) : Int)) = false:=decide_eq_false (by omega)
  simp only [d1,cond_false]
  exact z4 K m (by omega)
 | succ k ih =>
  intro hk hgt
  have hw : IntKind.wrap .i64 (((k + 1 : Nat) : Int) - 1) = (k : Int):=QaN (by unfold maxLen; omega) hk
  have hin : inB (k : Int) x1.length = true:=QD (by omega)
  have hrd : rd x1 (k : Int) (Ty.dflt Qa) = x1[k]:=Eh (List.getElem?_eq_getElem (by omega))
  have hcm:=Hy (h1 x1[k] (List.getElem_mem _)) hx
  have d1 : decide ((0 : Int) < ((k + 1 : Nat) : Int)) = true:=decide_eq_true (by omega)
  by_cases hg : 0 < Jr x1[k] x
  ·obtain ⟨zs,z1,z2,z3,z4⟩:=ih (by omega) (fun i hi hki=>by
    by_cases e : i = k
    ·subst e; exact QtC hg
    ·exact hgt i hi (by omega))
   refine ⟨zs,z1,z2,z3,fun K m hm=>?_⟩
   obtain ⟨m,rfl⟩ : ∃ m',m = m' + 1:=⟨m - 1,by omega⟩
   rw [Q5]
   simp only [d1,hw,hin,hrd,hcm,Option.bind_some,hg,decide_true,cond_true]
   exact z4 K m (by omega)
  ·obtain ⟨zs,z1,z2,z3,z4⟩:=in2 hk hl hx h1 hr hgt (fun _=>hg)
   refine ⟨zs,z1,z2,z3,fun K m hm=>?_⟩
   obtain ⟨m,rfl⟩ : ∃ m',m = m' + 1:=⟨m - 1,by omega⟩
   rw [Q5]
   simp only [d1,hw,hin,hrd,hcm,Option.bind_some,hg,decide_false,cond_true,cond_false]
   exact z4 K m (by omega)
theorem QrI : ∀ (rest x1 : List Qb),x1.length + rest.length ≤ 1000000 → (∀ a ∈ rest,wfD Qa a) → (∀ a ∈ x1,wfD Qa a) → Qe2 x1 →
  ∃ zs,(∀ a,a ∈ zs ↔ a ∈ x1 ∨ a ∈ rest) ∧ zs.length ≤ x1.length + rest.length ∧ Qe2 zs ∧ ∀ m,2 * (x1.length + rest.length) + 8 ≤ m → Zz m rest x1 = some zs:=by
 intro rest
 induction rest with
 | nil=>intro x1 _ _ _ hr; exact ⟨x1,fun a=>by simp,by simp,hr,fun m _=>rfl⟩
 | cons e rest ih =>
  intro x1 hl hw h1 hr
  rw [List.length_cons] at hl
  obtain ⟨zs,z1,z2,z3,z4⟩:=QtU (x1:=x1) (x:=e) (by omega) (hw e (by simp)) h1 hr x1.length (Nat.le_refl _) (fun i hi h=>by omega)
  obtain ⟨ys,y1,y2,y3,y4⟩:=ih zs (by omega) (fun a ha=>hw a (by simp [ha])) (fun a ha=>by
   rcases (z2 a).1 ha with rfl | h
   ·exact hw a (by simp)
   ·exact h1 a h) z3
  refine ⟨ys,fun a=>?_,by rw [List.length_cons]; omega,y3,fun m hm=>?_⟩
  ·rw [y1,z2,List.mem_cons]
   constructor
   ·rintro ((h | h) | h)
    ·exact .inr (.inl h)
    ·exact .inl h
    ·exact .inr (.inr h)
   ·rintro (h | h | h)
    ·exact .inl (.inr h)
    ·exact .inl (.inl h)
    ·exact .inr h
  ·rw [List.length_cons] at hm
   rw [Zz,z4 _ m (by omega)]
   exact y4 m (by omega)
theorem QrJ {xs : List Qb} (hl : xs.length ≤ 1000000) (hw : ∀ a ∈ xs,wfD Qa a) : ∃ zs,(∀ a,a ∈ zs ↔ a ∈ xs) ∧ Qe2 zs ∧ zs.length ≤ xs.length ∧ Vv xs = some zs:=by
 obtain ⟨zs,z1,z2,z3,z4⟩:=QrI xs [] (by simpa using hl) hw (fun a ha=>by simp at ha) List.Pairwise.nil
 refine ⟨zs,fun a=>by rw [z1]; simp,z3,by simpa using z2,Qd3 ⟨2 * xs.length + 8,fun m hm=>?_⟩⟩
 show Vu m xs = some zs
 rw [Vu,QU (by unfold maxLen; omega)]
 exact z4 m (by simpa using hm)
theorem QrK {a : Qb} (h : wfD Qa a) : Qo4 a:=by
 have h2 : inK .i64 a.1 = true ∧ inK .i64 a.2.1 = true ∧ wfD .str a.2.2.1 ∧ wfD .str a.2.2.2:=h
 exact ⟨⟨h2.1,h2.2.1⟩,⟨Nat.le_trans h2.2.2.1.1 (by omega),h2.2.2.1.2⟩,Nat.le_trans h2.2.2.2.1 (by omega),h2.2.2.2.2⟩
theorem QtR {a0 : List Qf} (h0 : a0.length ≤ maxLen) {U : List Qb} (hU : ∀ t ∈ a0,∀ a ∈ t.2.1,a ∈ U) (hUl : U.length ≤ 400000) (hups : ∀ t ∈ a0,t.2.1.length ≤ 400000) (x : Qb) (hx : x ∈ U) (hw : ∀ a ∈ U,wfD Qa a) :
  ∃ es zs,VF a0 x = some es ∧ WX a0 x = some zs ∧ Qca (es.map (·.1)) = some zs ∧ (∀ a ∈ zs,a ∈ U) ∧ zs.length ≤ 400000:=by
 obtain ⟨L,l1,l2,l3⟩:=Qtg h0 hU hUl hups U.length 0 [x] (by omega) (by simp) (fun a ha=>by rw [List.mem_singleton.1 ha]; exact hx) (by simp)
 have hLl:=Qff l2 l1
 obtain ⟨zs,z1,z2,z2l,z3⟩:=QrJ (xs:=L) (by omega) (fun a ha=>hw a (l1 a ha))
 refine ⟨L.map fun a=>(a,true),zs,Qd3 ⟨U.length + 1,fun m hm=>(l3 m hm).1⟩,Qd3 ⟨U.length + 1,fun m hm=>?_⟩,?_,fun a ha=>l1 a ((z1 a).1 ha),by omega⟩
 ·show Zv a0 m [x] 0 = some zs
  have:=(l3 m hm).2
  rw [z3] at this
  exact this
 ·have e : (L.map fun a=>(a,true)).map (·.1) = L:=by rw [List.map_map]; exact List.map_id L
  rw [e]
  exact QrF (by omega) (fun a ha=>QrK (hw a (l1 a ha))) l2 z2 z1
theorem Qnn {l : List Qf} {x : Qb} (hl : wfD (.list Qc) l) (hx : wfD Qa x) : ∃ zs,JD l x = some zs ∧ Ze l x = some zs ∧ wfD (.list Qa) zs ∧ zs.length ≤ 400000:=by
 rw [JD,Ze,Qi8 hl,Qi7 hl,QaB hx,Qdm hx]
 simp only [Option.bind_some]
 have hnil : wfD (.list Qa) ([] : List Qb):=⟨Nat.zero_le _,fun x hx=>by cases hx⟩
 cases hg : HQ l with
 | false=>exact ⟨[],rfl,rfl,hnil,Nat.zero_le _⟩
 | true =>
 cases XK x with
 | false=>exact ⟨[],rfl,rfl,hnil,Nat.zero_le _⟩
 | true =>
  simp only [Bool.not_true,cond_false]
  unfold HQ at hg
  rw [Bool.and_eq_true,Bool.and_eq_true,decide_eq_true_eq,List.all_eq_true] at hg
  obtain ⟨hg1,hg2,_⟩:=hg
  have hups : ∀ t ∈ l,t.2.1.length ≤ 50:=fun t ht=>by
   have:=hg2 t ht
   unfold HP at this
   simp only [Bool.and_eq_true,decide_eq_true_eq] at this
   exact this.1.1.2
  have hfl : ∀ l : List Qf,(∀ t ∈ l,t.2.1.length ≤ 50) → (l.flatMap fun t=>t.2.1).length ≤ 50 * l.length:=by
   intro l
   induction l with
   | nil=>intro _; simp
   | cons t l ih =>
    intro h
    have h1:=h t (by simp)
    have h2:=ih (fun u hu=>h u (by simp [hu]))
    rw [List.flatMap_cons,List.length_append,List.length_cons]
    omega
  have hU:=hfl l hups
  have hwU : ∀ a ∈ x :: l.flatMap (fun t=>t.2.1),wfD Qa a:=by
   intro a ha
   rcases List.mem_cons.1 ha with rfl | ha
   ·exact hx
   ·obtain ⟨t,ht,ha⟩:=List.mem_flatMap.1 ha
    have wt : wfD Qc t:=hl.2 t ht
    exact wt.2.1.2 a ha
  obtain ⟨es,zs,q1,q2,q3,q4,q5⟩:=QtR (a0:=l) (by unfold maxLen; omega) (U:=x :: l.flatMap fun t=>t.2.1) (fun t ht a ha=>List.mem_cons_of_mem _ (List.mem_flatMap.2 ⟨t,ht,ha⟩)) (by rw [List.length_cons]; omega) (fun t ht=>by have:=hups t ht; omega) x (by simp) hwU
  rw [q1,q2]
  simp only [Option.bind_some,q3]
  exact ⟨zs,rfl,rfl,⟨by unfold maxLen; omega,fun a ha=>hwU a (q4 a ha)⟩,q5⟩
theorem Qk4 : ∀ l : List Qb,VC (.list Qa) l = 4 * l.length
 | []=>rfl
 | x :: l=>by
  have ih:=Qk4 l
  have e : VC (.list Qa) (x :: l) = VQ Qa x + VC (.list Qa) l:=by unfold VC; rw [List.map_cons,List.sum_cons]
  rw [e,ih,List.length_cons]
  have : VQ Qa x = 4:=rfl
  omega
theorem QnL (l : List Qf) (x : Qb) (hl : wfD (.list Qc) l) (hx : wfD Qa x) : JT l x = some true:=by
 rw [JT,GA hl (by omega) (by omega)]
 simp only [Option.bind_some]
 cases d1 : decide (Qz 1048576 (Ty.size (.list Qc) l) < 0) with
 | true=>rfl
 | false =>
 obtain ⟨b1,b2,b3⟩:=Qsy d1
 rw [GA hx b2 (by omega)]
 simp only [Option.bind_some,cond_false]
 cases d2 : decide (Qz (Qz 1048576 (Ty.size (.list Qc) l)) (Ty.size Qa x) < 0) with
 | true=>rfl
 | false =>
 obtain ⟨c1,c2,c3⟩:=Qsy d2
 obtain ⟨zs,s1,s2,s3,s4⟩:=Qnn hl hx
 have m1:=Qqw (t:=.list Qc) (x:=l) (n:=1048576) (by omega) (by decide)
 have m2:=Qk4 zs
 have hk1 : ¬ (YN (.list Qc) l 1).1 < 0:=by rw [W1]; omega
 have hk2 : ¬ (YN (.list Qa) zs 1).1 < 0:=by rw [W1]; omega
 have hh:=QpS s3 1 (by omega) (by omega)
 simp only [cond_false,ZE hl (by omega),ZE hx (by omega),Option.bind_some,s1,s2,YZ hl,YZ s3,decide_true,Bool.not_true,
  Qm2 (t:=.list Qc) (x:=l) (k:=1) (by omega) (by unfold Q2; omega),decide_eq_false hk1]
 rw [Jd]
 simp only [Qm2 (t:=.list Qa) (x:=zs) (k:=1) (by omega) (by unfold Q2; omega),Option.bind_some,hh,decide_eq_false hk2,cond_false,decide_true,Bool.not_true,ZE hl (by omega),ZE hx (by omega),s2,YZ s3]
end
end Go.Ab
