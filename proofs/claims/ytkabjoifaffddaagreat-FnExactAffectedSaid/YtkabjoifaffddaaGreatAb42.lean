import Derived.Test.YtkabjoifaffddaaGreatAb19b
import Derived.Test.YtkabjoifaffddaaGreatPlain1
import Derived.Shelf.Slices.CompactS
namespace Go.Ab
open Go.Proofs (encStr)
open Go Go.Sort
def bsI (l:List Int):List UInt8:=l.map fun b=>UInt8.ofNat b.toNat
def isB (l:List UInt8):List Int:=l.map fun b=>(b.toNat:Int)
theorem QA9 (l:List UInt8):bsI (isB l)=l:=by
 unfold bsI isB
 rw [List.map_map]
 conv=>rhs;rw [← List.map_id l]
 apply List.map_congr_left
 intro b _
 simp
def V7 (xs:List (List Int)):List (List Int):=(Go.Lib.compact (xs.map bsI)).map isB
theorem QqP {α:Type} [DecidableEq α] [Inhabited α] {zs:List α} {x:α}:x∈Go.Lib.compact zs↔x∈zs:=by
 unfold Go.Lib.compact Go.Lib.compactUpTo
 simp only [List.mem_map,List.mem_filter,List.mem_range]
 constructor
 ·rintro ⟨j,⟨hj,_⟩,rfl⟩
  rw [getElem!_pos zs.toArray j (by simpa using hj)]
  simp
 ·intro h
  obtain ⟨j,hj⟩:=List.getElem?_of_mem h
  have key:∀ j,j<zs.length→∃ i,(i<zs.length∧Go.Lib.keeps zs.toArray i=true)∧zs.toArray[i]! = zs.toArray[j]!:=by
   intro j
   induction j with
   | zero=>intro h;exact ⟨0,⟨h,by simp [Go.Lib.keeps]⟩,rfl⟩
   | succ j ih =>
    intro h
    by_cases e:zs.toArray[j+1]! = zs.toArray[j]!
    ·obtain ⟨i,h1,h2⟩:=ih (by omega)
     exact ⟨i,h1,h2.trans e.symm⟩
    ·exact ⟨j+1,⟨h,by simp only [Go.Lib.keeps,Nat.add_sub_cancel];exact decide_eq_true (.inr e)⟩,rfl⟩
  obtain ⟨hlt,e⟩:=List.getElem?_eq_some_iff.1 hj
  obtain ⟨i,h1,h2⟩:=key j hlt
  refine ⟨i,h1,h2.trans ?_⟩
  rw [getElem!_pos zs.toArray j (by simpa using hlt)]
  simpa using e
theorem QqQ {α:Type} [DecidableEq α] [Inhabited α] (zs:List α):(Go.Lib.compact zs).length≤zs.length:=by
 unfold Go.Lib.compact Go.Lib.compactUpTo
 rw [List.length_map]
 exact Nat.le_trans (List.length_filter_le _ _) (by simp)
def QwV (g:Nat) (tys:List Ty) (t:Ty) (f:HJ tys→Option (List t.den)):Ctr:=⟨Vg+g,tys,[.list t],f⟩
theorem QBa {P:Program} {gl:Nat→Option (List V)} {g:Nat} {tys:List Ty} {t:Ty} {f:HJ tys→Option (List t.den)} (hlt:Nat.blt g Q2=true) (h:∀ xs y,f xs=some y→QBO P gl g (Jh tys xs) (.d (.list t) y)):CtrOkG P gl (QwV g tys t f):=by
 intro xs y hy
 have hge:Vg≤(QwV g tys t f).g:=by show Vg≤Vg+g;omega
 refine ⟨fun h1=>(Nat.lt_irrefl _ (Nat.lt_of_lt_of_le h1 (Nat.le_trans Qeq.1 hge))).elim,fun _ h1=>(Nat.lt_irrefl _ (Nat.lt_of_lt_of_le h1 (Nat.le_trans Qeq.2.1 hge))).elim,fun _ h1=>(Nat.lt_irrefl _ (Nat.lt_of_lt_of_le h1 (Nat.le_trans Qeq.2.2.1 hge))).elim,
  fun _ h1=>(Nat.lt_irrefl _ (Nat.lt_of_lt_of_le h1 (Nat.le_trans Qeq.2.2.2.1 hge))).elim,fun _ h1=>(Nat.lt_irrefl _ (Nat.lt_of_lt_of_le h1 (Nat.le_trans Qeq.2.2.2.2 hge))).elim,fun _ h1=>(Nat.lt_irrefl _ (Nat.lt_of_lt_of_le h1 hge)).elim,fun _=>?_⟩
 rw [show (QwV g tys t f).g - Vg=g from Nat.add_sub_cancel_left _ _]
 exact h xs y hy
def CompactS (P:Program) (g:Nat):Prop:=JG P g=true∧(∀ (blk off cap:Nat) (zs:List (List UInt8)) (w:World),Holds encStr w blk off zs.toArray→zs.length≤9223372036854775807→zs.length≤cap→Calls P g #[.slice (some ⟨blk,off,none⟩) zs.length cap] w fun e w'=>e=.returned (.slice (some ⟨blk,off,none⟩) (Go.Lib.compact zs).length cap)∧∃ q,w'=putRow encStr (Sort.ahead w q) blk off (Go.Lib.compact zs++List.replicate (zs.length - (Go.Lib.compact zs).length) []).toArray)∧∀ (a:Option Addr) (cap:Nat) (w:World),Calls P g #[.slice a 0 cap] w fun e w'=>e=.returned (.slice a 0 cap)∧w'=w
theorem Qx2 {P:Program} {gl:Nat→Option (List V)} {g:Nat} (hlt:Nat.blt g Q2=true) (hc:CompactS P g):CtrOkG P gl (QwV g [.list .str] .str fun x=>some (V7 x.1)):=by
 refine QBa hlt fun xs y hy=>?_
 obtain ⟨xs,⟨⟩⟩:=xs
 have hy:some (V7 xs)=some y:=hy
 cases hy
 obtain ⟨he,h1,h2⟩:=hc
 intro t zs ys rest ha hv
 have ha:[V.d (.list .str) xs]=.d (.list t) zs::rest:=ha
 simp only [List.cons.injEq] at ha
 obtain ⟨ha,hrest⟩:=ha
 subst hrest
 cases ha
 cases hv
 refine ⟨he,fun M w u vals o hG hF hl hr hraw his=>?_⟩
 have hvals:vals=[]:=List.length_eq_zero_iff.1 (by simpa using hl.symm)
 subst hvals
 cases o with
 | none =>
  obtain rfl:=show u=_ from hraw
  obtain rfl:=his.1 rfl
  refine (h2 none 0 w).mono fun e w'=>?_
  rintro ⟨rfl,rfl⟩
  exact ⟨_,none,rfl,.refl _ _,rfl,fun _ h=>(nomatch h),fun _=>rfl,fun _ h=>(nomatch h)⟩
 | some reg =>
  obtain rfl:=show u=_ from hraw
  obtain ⟨n1,n2,n3,n4,n5,cur,e,n6,n7,n8⟩:=his.2 reg rfl
  have n2:reg.sz=1:=n2
  rw [n2,Nat.mul_one] at n7
  have hcell:∀ (j:Nat) (x:List Int),(show List (List Int) from xs)[j]? = some x→cur[j]? = some (encStr (bsI x))∧isB (bsI x)=x∧(bsI x).length≤140737488355328:=by
   intro j x hx
   obtain ⟨s,p1,p2,p3⟩:=n8 j x hx
   have p1:(cur.toList.drop (j*1)).take 1=[.string s]:=p1
   have e1:bsI x=s.data.toList:=by rw [← p2];exact QA9 _
   have e2:cur.toList[j]? = some (.string s):=by
    have:((cur.toList.drop (j*1)).take 1)[0]? = some (.string s):=by rw [p1];rfl
    rw [List.getElem?_take_of_lt (by decide),List.getElem?_drop] at this
    simpa using this
   refine ⟨by rw [e1];rw [Array.getElem?_toList] at e2;rw [e2],by rw [e1];exact p2,by rw [e1,Array.length_toList];exact p3⟩
  have hH:Holds encStr w reg.g 0 (xs.map bsI).toArray:=by
   intro j hj
   have hj':j<List.length (α:=List Int) xs:=by simpa using hj
   obtain ⟨q1,_⟩:=hcell j _ (List.getElem?_eq_getElem hj')
   refine ⟨?_,by simp [World.frozen?,n6]⟩
   rw [V6 n6,Nat.zero_add,q1,getElem!_pos _ j hj]
   simp
  have hlen:(xs.map bsI).length=reg.n:=by simp [n1]
  have hcall:=h1 reg.g 0 reg.cap (xs.map bsI) w hH (by rw [hlen];unfold maxLen at n4;omega) (by rw [hlen];exact n3)
  rw [hlen] at hcall
  refine hcall.mono fun e' w'=>?_
  rintro ⟨rfl,q,rfl⟩
  have hcl:(Go.Lib.compact (xs.map bsI)).length≤reg.n:=by rw [← hlen];exact QqQ _
  generalize hz:Go.Lib.compact (xs.map bsI)=zs at *
  have hyl:(V7 xs).length=zs.length:=by unfold V7;rw [hz,List.length_map]
  have hheap:∀ d:Array (List UInt8),(putRow encStr (Sort.ahead w q) reg.g 0 d).heap[reg.g]? = some (.cells (Sort.putCells encStr 0 d cur) e (0,0)):=by
   intro d
   simp [Sort.putRow,Sort.mapBlock,Sort.ahead,Array.getElem?_modify,n6,Sort.onCells]
  refine ⟨_,some ⟨reg.g,reg.cap,zs.length,reg.sz⟩,rfl,⟨rfl,rfl,rfl,by simp [Sort.putRow,Sort.mapBlock,Sort.ahead],fun c hc=>?_,Nat.le_add_right _ _⟩,rfl,fun reg' h=>?_,fun h=>(nomatch h),fun reg' h=>?_⟩
  ·have hne:reg.g≠c:=fun e=>hc (.inr (List.mem_singleton.2 e.symm))
   simp [Sort.putRow,Sort.mapBlock,Sort.ahead,Array.getElem?_modify,hne]
  ·cases h;exact ⟨reg,rfl,rfl⟩
  ·cases h
   refine ⟨hyl.symm,n2,Nat.le_trans hcl n3,n4,n5,_,e,hheap _,?_,fun i x hx=>?_⟩
   ·rw [n2,Nat.mul_one];simp [Sort.putCells];exact n7
   ·have hi:i<zs.length:=by rw [← hyl];exact (List.getElem?_eq_some_iff.1 hx).1
    have hx:(zs.map isB)[i]? = some x:=by unfold V7 at hx;rw [hz] at hx;exact hx
    rw [List.getElem?_map,List.getElem?_eq_getElem hi] at hx
    cases hx
    have hlong:zs[i].length≤140737488355328:=by
     have hm:zs[i]∈Go.Lib.compact (xs.map bsI):=by rw [hz];exact List.getElem_mem hi
     rw [QqP] at hm
     obtain ⟨x0,hx0,e0⟩:=List.mem_map.1 hm
     obtain ⟨j0,hj0⟩:=List.getElem?_of_mem hx0
     rw [← e0]
     exact (hcell j0 x0 hj0).2.2
    have hci:i<cur.size:=by omega
    have e1:(Sort.putCells encStr 0 (zs++List.replicate (reg.n - zs.length) []).toArray cur).toList[i]? = some (encStr zs[i]):=by
     rw [Array.getElem?_toList]
     unfold Sort.putCells
     rw [Array.getElem?_mapIdx,Array.getElem?_eq_getElem hci]
     simp only [Option.map_some,Nat.zero_le,true_and,Nat.zero_add,Nat.sub_zero]
     rw [if_pos (by simp;omega),getElem!_pos _ i (by simp;omega)]
     simp [List.getElem_append_left hi]
    have e2:((Sort.putCells encStr 0 (zs++List.replicate (reg.n - zs.length) []).toArray cur).toList.drop (i*1)).take 1=[encStr zs[i]]:=by
     rw [Nat.mul_one]
     obtain ⟨hlt',e3⟩:=List.getElem?_eq_some_iff.1 e1
     rw [List.drop_eq_getElem_cons hlt',e3]
     rfl
    show RelD M.F .str (isB zs[i]) _
    have e3:((Sort.putCells encStr 0 (zs++List.replicate (reg.n - zs.length) []).toArray cur).toList.drop (i*Ty.str.cells)).take Ty.str.cells=[encStr zs[i]]:=e2
    rw [e3]
    exact ⟨⟨zs[i].toArray⟩,by simp [encStr],by simp [ZE,isB],by simpa [ByteArray.size] using hlong⟩
end Go.Ab
