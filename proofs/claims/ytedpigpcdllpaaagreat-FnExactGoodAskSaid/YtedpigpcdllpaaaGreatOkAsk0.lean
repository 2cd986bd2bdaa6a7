import Derived.Test.YtedpigpcdllpaaaGreatGenAsk
import Derived.Test.YtedpigpcdllpaaaGreatAb16w
namespace Go.Ab
open Go.Proofs
noncomputable section
theorem Qst (s : List Int) : JM s = some (QkE s):=by
 induction s with
 | nil=>rfl
 | cons e r ih =>
  simp only [JM,ih,QkE,List.all_cons,Qx3]
  grind
theorem Qwa {s : List Int} (h : s.length ≤ maxLen) : YD s = some (QkE s):=by
 rw [YD,QL h,Qst]
theorem Qum (s : List Int) : Yg s = some (QkE s):=by
 induction s with
 | nil=>rfl
 | cons e r ih =>
  simp only [Yg,ih,QkE,List.all_cons,Qx3]
  grind
theorem QxI {s : List Int} (lo hi : Int) (h : s.length ≤ maxLen) : Vb s lo hi = some (Qjc s lo hi):=by
 rw [Vb,QL h,Qum,Qjc,QkE]
 grind
theorem QgV (x : Int) : Y3 x = QkC x:=by unfold Y3 QkC; grind
theorem QqG (x : Int) : GU x = QkC x:=by unfold GU QkC; grind
theorem Qmf (x : Int) : VO x = Qjb x:=by unfold VO Qjb; grind
theorem Qzx (x : Int) : HC x = Qjb x:=by unfold HC Qjb; grind
theorem Qkd (x : Int) : Vk x = QkD x:=by unfold Vk QkD; rw [Qzx,QqG]; grind
theorem Qun (s : List Int) : Z5 s = some (s.all QkD):=by
 induction s with
 | nil=>rfl
 | cons e r ih =>
  simp only [Z5,ih,List.all_cons,QkD,Qmf,QgV]
  grind
theorem XJ {s : List Int} (h : s.length ≤ maxLen) : Zv s = some (YK s):=by
 rw [Zv,QL h,Qun,YK]
 simp only [QgV,inB]
 grind
theorem Quo (s : List Int) : Yf s = some (s.all QkD):=by
 induction s with
 | nil=>rfl
 | cons e r ih =>
  simp only [Yf,ih,List.all_cons,Qkd]
  grind
theorem XK {s : List Int} (h : s.length ≤ maxLen) : Zw s = some (YK s):=by
 rw [Zw,QL h,Quo,YK]
 simp only [QqG,inB]
 cases s with
 | nil=>rfl
 | cons x s=>grind
theorem QxJ (x : Int) (hx : x ≤ 62) : ∀ (m : Nat) (k : Int),0 ≤ k → k ≤ x → x - k < m → Vw x m (2 ^ k.toNat) k = some (2 ^ x.toNat):=by
 intro m
 induction m with
 | zero=>intro k _ _ h; omega
 | succ m ih =>
  intro k h0 hk hm
  rw [Vw]
  by_cases h : k < x
  ·have e : (2 : Int) ^ k.toNat * 2 = 2 ^ (k + 1).toNat:=by
    rw [show (k + 1).toNat = k.toNat + 1 by omega,Int.pow_succ]
   have hb : (2 : Int) ^ (k + 1).toNat ≤ 2 ^ 62:=by
    have:=Nat.pow_le_pow_right (n:=2) (by omega) (show (k + 1).toNat ≤ 62 by omega)
    exact_mod_cast this
   have hp : (0 : Int) < 2 ^ (k + 1).toNat:=Int.pow_pos (by omega)
   rw [decide_eq_true h,e,Qnk (by omega),Qnk (by omega)]
   exact ih _ (by omega) (by omega) (by omega)
  ·have : k = x:=by omega
   subst this
   rw [decide_eq_false h]; rfl
theorem QqH {x : Int} (h0 : 0 ≤ x) (hx : x ≤ 62) : X7 x = some (QEP x):=by
 refine Qbn ⟨x.toNat + 1,fun m hm=>?_⟩
 have:=QxJ x hx m 0 (by omega) h0 (by omega)
 exact this
theorem Qzy {a : Atm} (h0 : 0 ≤ a.2.1) (h1 : a.2.1 ≤ 9223372036854775807) (h : a.2.1.tmod 64 ≤ 32) : G9 a = some (a.2.1.tdiv 64,QEP (32 - a.2.1.tmod 64)):=by
 have hm:=Int.tmod_nonneg 64 h0
 have hd : a.2.1.tdiv 64 = a.2.1 / 64:=Int.tdiv_eq_ediv_of_nonneg h0
 rw [G9,Qnk (by omega),QqH (by omega) (by omega),Qnk (by omega)]
 rfl
theorem QxK {a : Atm} (hw : wfD Zz a) : Gu a = some (Qf4 a):=by
 have hw2 : inK .i64 a.1 = true ∧ inK .i64 a.2.1 = true ∧ wfD .str a.2.2.1 ∧ wfD .str a.2.2.2:=hw
 have h1:=QkF hw2.2.2.1
 have h2:=QkF hw2.2.2.2
 have hn:=hw2.2.1
 rw [Wa,Qo2,Qhp] at hn
 have hp : X7 32 = some 4294967296:=QqH (x:=32) (by omega) (by omega)
 have hb:=Qzy (a:=a)
 have hd : 0 ≤ a.2.1 → a.2.1.tdiv 64 = a.2.1 / 64:=fun h=>Int.tdiv_eq_ediv_of_nonneg h
 have hw1 : IntKind.wrap .i64 (4294967296 - 1) = 4294967295:=Qnk (by omega)
 have hpos : QEP (32 - a.2.1.tmod 64) ≠ 0:=by unfold QEP; exact Int.ne_of_gt (Int.pow_pos (by omega))
 have hwr : 0 ≤ a.2.1 → IntKind.wrap .i64 (a.2.1.tdiv 64) = a.2.1.tdiv 64:=fun h=>Qnk (by have:=hd h; omega)
 simp only [Gu,JD,Gz,Qwa h1,XJ h2,hp,Option.bind_some,hw1]
 unfold Qf4 Qjc QkE
 by_cases k6 : a.1 = 6
 ·simp only [k6]
  by_cases h0 : a.2.1 < 0
  ·have : ¬ 0 ≤ a.2.1:=by omega
   grind
  ·have h0' : 0 ≤ a.2.1:=by omega
   rw [hwr h0']
   by_cases h32 : a.2.1.tmod 64 ≤ 32
   ·rw [hb h0' hn.2 h32]
    simp only [Option.bind_some]
    grind
   ·grind
 ·clear hb hd hpos hwr hp hw hw2
  simp only [k6,decide_false,cond_false,QA4,QEO,QfQ,Qje]
  grind (splits:=30)
theorem QxL {a : Atm} (hw : wfD Zz a) : Gw a = some (Qf4 a):=by
 have hw2 : inK .i64 a.1 = true ∧ inK .i64 a.2.1 = true ∧ wfD .str a.2.2.1 ∧ wfD .str a.2.2.2:=hw
 have h1:=QkF hw2.2.2.1
 have h2:=QkF hw2.2.2.2
 have hn:=hw2.2.1
 rw [Wa,Qo2,Qhp] at hn
 have hd : 0 ≤ a.2.1 → a.2.1.tdiv 64 = a.2.1 / 64:=fun h=>Int.tdiv_eq_ediv_of_nonneg h
 have hwr : 0 ≤ a.2.1 → IntKind.wrap .i64 (a.2.1.tdiv 64) = a.2.1.tdiv 64:=fun h=>Qnk (by have:=hd h; omega)
 have hmm : 0 ≤ a.2.1 → 0 ≤ a.2.1.tmod 64:=fun h=>Int.tmod_nonneg 64 h
 simp only [Gw,GF,GE,QxI _ _ h1,XK h2,Option.bind_some]
 unfold Qf4
 by_cases k6 : a.1 = 6
 ·simp only [k6]
  by_cases h0 : a.2.1 < 0
  ·have : ¬ 0 ≤ a.2.1:=by omega
   grind
  ·have h0' : 0 ≤ a.2.1:=by omega
   have hm0:=hmm h0'
   rw [hwr h0']
   by_cases h32 : a.2.1.tmod 64 ≤ 32
   ·have hws : IntKind.wrap .i64 (32 - a.2.1.tmod 64) = 32 - a.2.1.tmod 64:=Qnk (by omega)
    have hmn : min (32 - a.2.1.tmod 64).toNat 64 = (32 - a.2.1.tmod 64).toNat:=by omega
    have hb : (2 : Int) ^ (32 - a.2.1.tmod 64).toNat ≤ 2 ^ 32:=by
     have:=Nat.pow_le_pow_right (n:=2) (by omega) (show (32 - a.2.1.tmod 64).toNat ≤ 32 by omega)
     exact_mod_cast this
    have hp : (0 : Int) < 2 ^ (32 - a.2.1.tmod 64).toNat:=Int.pow_pos (by omega)
    rw [hws,hmn,Int.one_mul,Qnk (by omega)]
    unfold QEP
    have hp2 : (2 : Int) ^ (32 - a.2.1.tmod 64).toNat ≠ 0:=by omega
    generalize (2 : Int) ^ (32 - a.2.1.tmod 64).toNat = q at *
    grind
   ·grind
 ·grind
theorem Qe0 (a b : Int) : YA a b = Qbo a b:=by unfold YA Qbo; rfl
theorem Qsu (a b : List Int) (ha : bytesL a) (hb : bytesL b) : ∀ (r : List Int) (k : Nat),r = a.drop k → k ≤ a.length → k ≤ b.length → Ji a b r k = some (Qfw r (b.drop k)):=by
 intro r
 induction r with
 | nil =>
  intro k hr hk hkb
  have h1:=QR hr
  rw [Ji,Qe0,QCL,List.length_drop]
  unfold Qbo
  grind
 | cons e r ih =>
  intro k hr hk hkb
  obtain ⟨h1,_,h2⟩:=QJ (d:=0) hr
  have h3 : (e :: r).length = a.length - k:=by rw [hr,List.length_drop]
  rw [Ji]
  by_cases h : k < b.length
  ·have hg:=List.getElem?_eq_getElem h
   have he:=ha e (List.mem_of_mem_drop (hr ▸ List.mem_cons_self))
   have hbk:=hb b[k] (List.getElem_mem h)
   rw [Qy4 hg,QM h,decide_eq_true (by omega),List.drop_eq_getElem_cons h,Qnk (by omega),Qnk (by omega),Qe0,ih (k + 1) h2 (by omega) (by omega)]
   simp only [Qfw,cond_true]
   by_cases hc : e = b[k]
   ·simp [hc]
   ·simp [hc]
  ·rw [decide_eq_false (by omega),List.drop_eq_nil_of_le (by omega),QBW,h3]
   simp only [cond_false,Qe0,Qbo]
   grind
theorem Vn {a b : List Int} (ha : wfD .str a) (hb : wfD .str b) : QX a b = some (Hw a b):=by
 rw [QX,QL (QkF ha),Qsu a b (Qo8 ha) (Qo8 hb) a 0 rfl (by omega) (by omega),List.drop_zero,QwF]
theorem Qwb (a : Atm) : G3 a = decide (a = (0,0,[],[])):=by unfold G3; exact decide_eq_decide.2 Iff.rfl
end
end Go.Ab
