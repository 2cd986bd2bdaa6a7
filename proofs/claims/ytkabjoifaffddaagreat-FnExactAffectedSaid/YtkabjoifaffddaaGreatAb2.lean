import Derived.Test.YtkabjoifaffddaaGreatAb1
import Derived.IntWalk
import Derived.Laws.Strings
import Derived.Laws.Strings2
import Derived.Laws.Strings3
import Derived.Laws.Concat
import Derived.Laws.Small
import Derived.Laws.Slices
import Derived.Laws.StructEq
import Derived.Deep.MidRow
import Derived.Below
namespace Go.Ab
variable {R:Type}
structure BelowN (B:Nat) (w w':World):Prop where
 os:w'.os=w.os
 tape:w'.tape=w.tape
 output:w'.output=w.output
 size:w.heap.size≤w'.heap.size
 block:∀ k,k<B→w'.heap[k]? = w.heap[k]?
 drawn:w.drawn≤w'.drawn
theorem BelowN.toB {B:Nat} {w w':World} (h:BelowN B w w'):RowKit.Below B w w':=⟨h.os,h.tape,h.output,h.size,h.block⟩
theorem BelowN.of {B:Nat} {w w':World} (h:RowKit.Below B w w') (hd:w.drawn≤w'.drawn):BelowN B w w':=⟨h.os,h.tape,h.output,h.size,h.block,hd⟩
theorem BelowN.refl (B:Nat) (w:World):BelowN B w w:=.of (.refl B w) (Nat.le_refl _)
theorem BelowN.trans {B:Nat} {a b c:World} (h:BelowN B a b) (k:BelowN B b c):BelowN B a c:=.of (h.toB.trans k.toB) (Nat.le_trans h.drawn k.drawn)
theorem BelowN.cell {B:Nat} {w w':World} (h:BelowN B w w') {p:Addr} (hp:p.block<B):w'.cell? p=w.cell? p:=h.toB.cell hp
theorem BelowN.mono {B B':Nat} {w w':World} (h:BelowN B w w') (hB:B'≤B):BelowN B' w w':=.of (h.toB.mono hB) h.drawn
theorem BelowN.drew {B:Nat} {a w:World} (h:BelowN B a w):BelowN B a w.drew:=.of h.toB.drew (Nat.le_succ_of_le h.drawn)
theorem BelowN.alloc {B:Nat} {a w:World} (h:BelowN B a w) (hB:B≤w.heap.size) (o:Obj):BelowN B a (w.alloc o):=.of (h.toB.alloc hB o) h.drawn
theorem BelowN.setCell {B:Nat} {a w:World} (h:BelowN B a w) {p:Addr} (hp:B≤p.block) (u:Value):BelowN B a (w.setCell p u):=.of (h.toB.setCell hp u) h.drawn
structure Base where
 n:Nat
 ex:List Nat
def Own (base:Base) (b:Nat):Prop:=base.n≤b∨b∈base.ex
structure BelowB (base:Base) (w w':World):Prop where
 os:w'.os=w.os
 tape:w'.tape=w.tape
 output:w'.output=w.output
 size:w.heap.size≤w'.heap.size
 block:∀ k,¬ Own base k→w'.heap[k]? = w.heap[k]?
 drawn:w.drawn≤w'.drawn
theorem BelowB.refl (base:Base) (w:World):BelowB base w w:=⟨rfl,rfl,rfl,Nat.le_refl _,fun _ _=>rfl,Nat.le_refl _⟩
theorem BelowB.trans {base:Base} {a b c:World} (h:BelowB base a b) (k:BelowB base b c):BelowB base a c:=⟨k.os.trans h.os,k.tape.trans h.tape,k.output.trans h.output,Nat.le_trans h.size k.size,fun i hi=>(k.block i hi).trans (h.block i hi),Nat.le_trans h.drawn k.drawn⟩
theorem BelowB.drew {base:Base} {a w:World} (h:BelowB base a w):BelowB base a w.drew:=⟨h.os,h.tape,h.output,h.size,h.block,Nat.le_succ_of_le h.drawn⟩
theorem BelowN.toBase {w w':World} {n:Nat} (h:BelowN n w w') {base:Base} (hb:base.n≤n):BelowB base w w':=⟨h.os,h.tape,h.output,h.size,fun k hk=>h.block k (Nat.lt_of_not_le fun e=>hk (.inl (Nat.le_trans hb e))),h.drawn⟩
theorem BelowB.alloc {base:Base} {a w:World} (h:BelowB base a w) (hB:base.n≤w.heap.size) (o:Obj):BelowB base a (w.alloc o):=h.trans (((BelowN.refl _ _).alloc (Nat.le_refl _) o).toBase hB)
theorem BelowB.toN {n:Nat} {w w':World} (h:BelowB ⟨n,[]⟩ w w'):BelowN n w w':=⟨h.os,h.tape,h.output,h.size,fun k hk=>h.block k (fun e=>e.elim (fun e=>absurd hk (Nat.not_lt.2 e)) (fun e=>(List.not_mem_nil e).elim)),h.drawn⟩
theorem Own.nil {n b:Nat} (h:Own ⟨n,[]⟩ b):n≤b:=h.elim id (fun e=>(List.not_mem_nil e).elim)
theorem VZ {k:IntKind} {x:Int}:inK k x=true↔k.min≤x∧x≤k.max:=by simp [inK]
theorem QzM:IntKind.i8.min=-128:=by decide
theorem QzN:IntKind.i8.max=127:=by decide
theorem Qyg:IntKind.i16.min=-32768:=by decide
theorem Qyh:IntKind.i16.max=32767:=by decide
theorem Qyi:IntKind.i32.min=-2147483648:=by decide
theorem Qyj:IntKind.i32.max=2147483647:=by decide
theorem WS:IntKind.i64.min=-9223372036854775808:=by decide
theorem Ui:IntKind.i64.max=9223372036854775807:=by decide
theorem Qmr:IntKind.u8.min=0:=by decide
theorem Qms:IntKind.u8.max=255:=by decide
theorem Qyk:IntKind.u16.min=0:=by decide
theorem Qyl:IntKind.u16.max=65535:=by decide
theorem Qym:IntKind.u32.min=0:=by decide
theorem Qyn:IntKind.u32.max=4294967295:=by decide
theorem Qyo:IntKind.u64.min=0:=by decide
theorem Qyp:IntKind.u64.max=18446744073709551615:=by decide
theorem Wk (k:IntKind) (n:Int):inK k (k.wrap n)=true:=by
 rw [VZ]
 cases k<;>simp only [QzM,QzN,Qyg,Qyh,Qyi,Qyj,WS,Ui,Qmr,Qms,Qyk,Qyl,Qym,Qyn,Qyo,Qyp,IntKind.wrap,IntKind.bits,IntKind.signed]<;>simp<;>(try split)<;>omega
theorem Qr8 {k:IntKind} {n:Int} (h:inK k n=true):k.wrap n=n:=by
 rw [VZ] at h
 cases k
 ·exact IntWalk.i8_in n (by rw [QzM,QzN] at h;exact h)
 ·exact IntWalk.i16_in n (by rw [Qyg,Qyh] at h;exact h)
 ·exact IntWalk.i32_in n (by rw [Qyi,Qyj] at h;exact h)
 ·exact IntWalk.i64_in n (by rw [WS,Ui] at h;exact h)
 ·exact IntWalk.u8_in n (by rw [Qmr,Qms] at h;exact h)
 ·exact IntWalk.u16_in n (by rw [Qyk,Qyl] at h;exact h)
 ·exact IntWalk.u32_in n (by rw [Qym,Qyn] at h;exact h)
 ·exact IntWalk.u64_in n (by rw [Qyo,Qyp] at h;exact h)
theorem Qr9 (k:IntKind):k.min≤0:=by cases k<;>decide
theorem Qsa (k:IntKind):0≤k.max:=by cases k<;>decide
theorem QzO (a b:Int):(0≤a→0≤a.tmod b∧a.tmod b≤a)∧(a≤0→a≤a.tmod b∧a.tmod b≤0):=by
 have key:∀ c:Int,0≤c→0≤c.tmod b∧c.tmod b≤c:=by
  intro c hc
  have h1:=Int.tmod_nonneg b hc
  have h2:(c.tmod b).natAbs=c.natAbs % b.natAbs:=Int.natAbs_tmod c b
  have h3:=Nat.mod_le c.natAbs b.natAbs
  omega
 refine ⟨key a,fun h=>?_⟩
 have e:a.tmod b=-((-a).tmod b):=by rw [Int.neg_tmod];simp
 have:=key (-a) (by omega)
 omega
theorem Qwd {k:IntKind} {a b:Int} (h:inK k a=true):inK k (a.tmod b)=true:=by
 rw [VZ] at h ⊢
 have h1:=Qr9 k
 have h2:=Qsa k
 have:=QzO a b
 rcases Int.le_total 0 a with h0 | h0
 ·have:=this.1 h0;omega
 ·have:=this.2 h0;omega
theorem QzP (a:Int) (n:Nat):(0≤a→0≤a.fdiv (2 ^ n)∧a.fdiv (2 ^ n)≤a)∧(a≤0→a≤a.fdiv (2 ^ n)∧a.fdiv (2 ^ n)≤0):=by
 have hp:(0:Int)<2 ^ n:=Int.pow_pos (by decide)
 rw [Int.fdiv_eq_ediv_of_nonneg a (Int.le_of_lt hp)]
 constructor
 ·intro h
  exact ⟨Int.ediv_nonneg h (Int.le_of_lt hp),Int.ediv_le_self _ h⟩
 ·intro h
  have h1:a / 2 ^ n≤0:=by
   have:=Int.ediv_le_ediv hp h
   simpa using this
  refine ⟨?_,h1⟩
  rw [Int.le_ediv_iff_mul_le hp]
  have:(1:Int)≤2 ^ n:=hp
  have h3:a*2 ^ n≤a*1:=Int.mul_le_mul_of_nonpos_left h this
  omega
theorem QzQ {k:IntKind} {a:Int} {n:Nat} (h:inK k a=true):inK k (a.fdiv (2 ^ n))=true:=by
 rw [VZ] at h ⊢
 have h1:=Qr9 k
 have h2:=Qsa k
 have:=QzP a n
 rcases Int.le_total 0 a with h0 | h0
 ·have:=this.1 h0;omega
 ·have:=this.2 h0;omega
theorem Uj (s:ByteArray):(ZE s).length=s.size:=by simp [ZE]
theorem Qui {a b:UInt8} (h:(a.toNat:Int)=(b.toNat:Int)):a=b:=by
 apply UInt8.toNat_inj.1;omega
theorem QhI:∀ {x y:List UInt8},(x.map fun b=>(b.toNat:Int))=(y.map fun b=>(b.toNat:Int))→x=y
 | [],[],_=>rfl
 | [],_::_,h=>by simp at h
 | _::_,[],h=>by simp at h
 | a::x,b::y,h=>by
  simp only [List.map_cons,List.cons.injEq] at h
  rw [Qui h.1,QhI h.2]
theorem Qsb {s t:ByteArray} (h:ZE s=ZE t):s=t:=by
 have:=QhI h
 cases s;cases t
 simp at this
 simp [this]
theorem QtJ (s t:ByteArray):ZE (s++t)=ZE s++ZE t:=by
 simp [ZE,ByteArray.data_append]
theorem eqB (s t:ByteArray):(s.toList == t.toList)=decide (ZE s=ZE t):=by
 rw [ByteArray.toList_eq,ByteArray.toList_eq,Bool.eq_iff_iff]
 simp only [beq_iff_eq,decide_eq_true_eq]
 constructor
 ·intro h;simp [ZE,h]
 ·intro h;exact QhI h
theorem Qqv:∀ (x y:List UInt8),Op.bytesLess x y=Zn (x.map fun b=>(b.toNat:Int)) (y.map fun b=>(b.toNat:Int))
 | [],[]=>rfl
 | _::_,[]=>rfl
 | [],_::_=>rfl
 | a::x,b::y=>by
  simp only [Op.bytesLess,List.map_cons,Zn,Qqv x y]
  have h1:decide (a<b)=decide ((a.toNat:Int)<(b.toNat:Int)):=by
   rw [decide_eq_decide];rw [UInt8.lt_iff_toNat_lt];omega
  have h2:(a == b)=decide ((a.toNat:Int)=(b.toNat:Int)):=by
   rw [Bool.eq_iff_iff];simp only [beq_iff_eq,decide_eq_true_eq]
   exact ⟨fun h=>by rw [h],Qui⟩
  rw [h1,h2]
theorem QBj (s t:ByteArray):Op.bytesLess s.toList t.toList=Zn (ZE s) (ZE t):=by
 rw [ByteArray.toList_eq,ByteArray.toList_eq];exact Qqv _ _
theorem Qwe:∀ (x y:List Int),(Zn x y||decide (x=y))=!Zn y x
 | [],[]=>by decide
 | [],_::_=>by simp [Zn]
 | _::_,[]=>by simp [Zn]
 | a::x,b::y=>by
  simp only [Zn]
  have ih:=Qwe x y
  by_cases h1:a<b
  ·have h2:¬ b<a:=by omega
   have h3:¬ b=a:=by omega
   simp [h1,h2,h3]
  ·by_cases h2:b<a
   ·have h3:¬ a=b:=by omega
    simp [h1,h2,h3]
   ·have h3:a=b:=by omega
    subst h3
    simpa using ih
theorem Qwf (b:UInt8):inK .u8 (b.toNat:Int)=true:=by
 rw [VZ,Qmr,Qms]
 have:=b.toNat_lt
 omega
def GlobOk (gl:Nat→Option (List V)) (F:Snap):Prop:=∀ g cs,gl g=some cs→(∀ n,V.le.leL n cs=true)∧∃ us,RelL ⟨F,fun _ _=>none,fun _=>none,0,.no⟩ cs us∧∀ (j:Nat) (u:Value),us[j]? = some u→F ⟨g,j,none⟩=some u
theorem GlobOk.mono {gl:Nat→Option (List V)} {F F':Snap} (hF:F.le F') (h:GlobOk gl F):GlobOk gl F':=by
 intro g cs hg
 obtain ⟨h1,us,h2,h3⟩:=h g cs hg
 exact ⟨h1,us,RelL.mono (M:=⟨F,fun _ _=>none,fun _=>none,0,.no⟩) (M':=⟨F',fun _ _=>none,fun _=>none,0,.no⟩) (n:=0) ⟨hF,fun _ _ _ _ h=>h,Nat.le_refl _,fun _ _ _ h=>h,.refl _⟩ h2 (h1 0),fun j u hu=>hF _ _ (h3 j u hu)⟩
theorem GlobOk.none (F:Snap):GlobOk noG F:=fun g cs h=>by cases h
structure Orig where
 w:World
 F:Snap
 gl:Nat→Option (List V)
 ok:GlobOk gl F
structure DpInv (base:Base) (dr:Nat→Option RBox) (nd:Nat) (M:Me) (w:World):Prop where
 N:M.D.N=nd
 far:∀ k,nd≤k→dr k=none
 has:∀ k b,dr k=some b→∃ u bs,M.D.δ k=some (u,bs)∧DeepD w (.list b.ty) b.xs [u] bs
 nodup:∀ k u bs,M.D.δ k=some (u,bs)→bs.Nodup
 blk:∀ k u bs c,M.D.δ k=some (u,bs)→c∈bs→Own base c∧c<w.heap.size∧(∀ a,a.block=c→M.F a=none)∧(∀ d s n,M.μ d s≠some (c,n))∧∀ k' reg,M.τ k'=some (some reg)→reg.g≠c
 sep:∀ k k' u u' bs bs' c,M.D.δ k=some (u,bs)→M.D.δ k'=some (u',bs')→c∈bs→c∈bs'→k=k'
theorem DpInv.no {base:Base} {M:Me} {w:World} (h:M.D=.no):DpInv base (fun _=>none) 0 M w :=
 ⟨by rw [h];rfl,fun _ _=>rfl,fun _ _ h=>(by cases h),fun k u bs hk=>(by rw [h] at hk;cases hk),fun k u bs c hk=>(by rw [h] at hk;cases hk),fun k k' u u' bs bs' c hk=>(by rw [h] at hk;cases hk)⟩
def Me.mine (M:Me) (c:Nat):Prop:=∃ k u bs,M.D.δ k=some (u,bs)∧c∈bs
theorem DpInv.step {base:Base} {dr:Nat→Option RBox} {nd:Nat} {M M':Me} {w w':World} (h:DpInv base dr nd M w) (hD:M'.D=M.D) (hsz:w.heap.size≤w'.heap.size) (hblk:∀ c,M.mine c→w'.heap[c]? = w.heap[c]?)
  (hF:∀ c a,M.mine c→a.block=c→M.F a=none→M'.F a=none) (hμ:∀ c d s n,M.mine c→M'.μ d s=some (c,n)→M.μ d s=some (c,n)) (hτ:∀ c k reg,M.mine c→M'.τ k=some (some reg)→reg.g=c→∃ k',M.τ k'=some (some reg)):DpInv base dr nd M' w':=by
 refine ⟨by rw [hD];exact h.N,h.far,fun k b hk=>?_,by rw [hD];exact h.nodup,fun k u bs c hk hc=>?_,by rw [hD];exact h.sep⟩
 ·obtain ⟨u,bs,h1,h2⟩:=h.has k b hk
  exact ⟨u,bs,by rw [hD];exact h1,h2.stays fun c hc=>hblk c ⟨k,u,bs,h1,hc⟩⟩
 ·rw [hD] at hk
  have hm:M.mine c:=⟨k,u,bs,hk,hc⟩
  obtain ⟨h1,h2,h3,h4,h5⟩:=h.blk k u bs c hk hc
  refine ⟨h1,Nat.lt_of_lt_of_le h2 hsz,fun a ha=>hF c a hm ha (h3 a ha),fun d s n hs=>h4 d s n (hμ c d s n hm hs),fun k' reg hr e=>?_⟩
  obtain ⟨k2,hk2⟩:=hτ c k' reg hm hr e
  exact h5 k2 reg hk2 e
theorem DpInv.lt {base:Base} {dr:Nat→Option RBox} {nd:Nat} {M:Me} {w:World} (h:DpInv base dr nd M w) {c:Nat} (hc:M.mine c):c<w.heap.size:=by
 obtain ⟨k,u,bs,h1,h2⟩:=hc
 exact (h.blk k u bs c h1 h2).2.1
theorem DpInv.le {base:Base} {dr:Nat→Option RBox} {nd:Nat} {M:Me} {w:World} (h:DpInv base dr nd M w) {c:Nat} (hc:M.mine c):Own base c:=by
 obtain ⟨k,u,bs,h1,h2⟩:=hc
 exact (h.blk k u bs c h1 h2).1
theorem DpInv.F {base:Base} {dr:Nat→Option RBox} {nd:Nat} {M:Me} {w:World} (h:DpInv base dr nd M w) {c:Nat} (hc:M.mine c) {a:Addr} (ha:a.block=c):M.F a=none:=by
 obtain ⟨k,u,bs,h1,h2⟩:=hc
 exact (h.blk k u bs c h1 h2).2.2.1 a ha
theorem DpInv.box {base:Base} {dr:Nat→Option RBox} {nd:Nat} {M:Me} {w:World} (h:DpInv base dr nd M w) {c:Nat} (hc:M.mine c) {d s b n:Nat} (hm:M.μ d s=some (b,n)):b≠c:=by
 obtain ⟨k,u,bs,h1,h2⟩:=hc
 intro e
 subst e
 exact (h.blk k u bs b h1 h2).2.2.2.1 d s n hm
theorem DpInv.reg {base:Base} {dr:Nat→Option RBox} {nd:Nat} {M:Me} {w:World} (h:DpInv base dr nd M w) {c:Nat} (hc:M.mine c) {k:Nat} {reg:Reg} (hk:M.τ k=some (some reg)):reg.g≠c:=by
 obtain ⟨k',u,bs,h1,h2⟩:=hc
 exact (h.blk k' u bs c h1 h2).2.2.2.2 k reg hk
structure Rel (P:Program) (base:Base) (w0:Orig) (dp:Nat) (st:St) (θ:Nat→Nat→Value) (M:Me) (w:World):Prop where
 F:∀ a u,M.F a=some u→Sees w a u
 tm:∀ d t,d≤dp→RelV M (st.tm d t) (θ d t)
 le:∀ d t,d≤dp→(st.tm d t).le d=true
 bx:∀ d s,d≤dp→match st.bx d s with
  | .none=>M.μ d s=none
  | .cells cs=>∃ b T arr,M.μ d s=some (b,0)∧Own base b∧w.heap[b]? = some (.cells arr T (0,0))∧RelL M cs arr.toList∧V.le.leL d cs=true
  | .rows ty xs=>∃ b T arr,M.μ d s=some (b,xs.length)∧Own base b∧w.heap[b]? = some (.cells arr T (0,0))∧arr.size=xs.length*ty.cells∧xs.length≤maxLen ∧
    ∀ i x,xs[i]? = some x→RelD M.F ty x ((arr.toList.drop (i*ty.cells)).take ty.cells)
  | .map k v es=>∃ b ms c,M.μ d s=some (b,0)∧Own base b∧w.heap[b]? = some (.map ms c)∧MapRel M.F k v es ms c
 deep:∀ d s,dp<d→M.μ d s=none
 sep:∀ d s d' s' b n n',M.μ d s=some (b,n)→M.μ d' s'=some (b,n')→d=d'∧s=s'
 Fbox:∀ d s b n a,M.μ d s=some (b,n)→a.block=b→M.F a=none
 tok:∀ k o,M.τ k=some o→k<M.N∧st.lv k=true∧∀ reg,o=some reg→Own base reg.g∧reg.n≤reg.cap∧reg.cap≤maxLen ∧
   ∃ cur e,w.heap[reg.g]? = some (.cells cur e (0,0))∧cur.size=reg.cap*reg.sz∧∀ a,a.block=reg.g→reg.n*reg.sz≤a.off→M.F a=none
 live:∀ k,st.lv k=true→∃ o,M.τ k=some o
 tsep:∀ k k' reg reg',M.τ k=some (some reg)→M.τ k'=some (some reg')→reg.g=reg'.g→k=k'
 tbox:∀ k reg d s b n,M.τ k=some (some reg)→M.μ d s=some (b,n)→reg.g≠b
 N:M.N=st.nt
 lv:∀ k,st.nt≤k→st.lv k=false
 hb:base.n≤w.heap.size
 below:BelowB base w0.w w
 F0:w0.F.le M.F
 Fnew:∀ a u,M.F a=some u→w0.F a=some u∨Own base a.block
 gl:st.gl=w0.gl
 rw:∀ k b,st.rw k=some b→st.lv k=true∧(M.τ k=some none→b.xs=[])∧∀ reg,M.τ k=some (some reg)→reg.n=b.xs.length∧reg.sz=b.ty.cells∧(∀ a,a.block=reg.g→M.F a=none) ∧
  ∃ cur e,w.heap[reg.g]? = some (.cells cur e (0,0))∧∀ (i:Nat) x,b.xs[i]? = some x→RelD M.F b.ty x ((cur.toList.drop (i*b.ty.cells)).take b.ty.cells)
 dpi:DpInv base st.dr st.nd M w
end Go.Ab
