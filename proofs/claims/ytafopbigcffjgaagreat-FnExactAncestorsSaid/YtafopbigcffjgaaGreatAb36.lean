import Derived.Test.YtafopbigcffjgaaGreatAb31r
import Derived.Shelf.GgSortFunc.InsertionK
namespace Go.Ab
section
variable {P : Program} {w : World}
theorem Qsz {t e : TypeId} {i : TypeInfo} {z : Value} {k : Nat} (ht : P.underlying t = some (.slice e)) (hi : P.info? e = some i) (hz : i.zero = some z) (hs : i.size = k) (hk : 0 < k) (hk2 : k ≤ 1000) (u : Array Value) (hu : u.size = k) :
  (Instr.buildSlice t 1 #[(0,.agg u)]).run P w = .ok (.slice (some ⟨w.heap.size,0,none⟩) 1 1) (w.alloc (.cells u e)):=by
 have hrow : ∀ cs,(newRow e cs).run P w = .ok ⟨w.heap.size,0,none⟩ (w.alloc (.cells cs e)):=fun cs=>by simp [newRow,newObj,Sem.run]
 unfold Instr.buildSlice
 simp only [Sem.run_bind,run_underlying ht,Result.andThen_ok,Qy hi,hs]
 rw [if_neg (by omega),if_neg (by omega)]
 simp only [Sem.run_bind,XC hi hz,Result.andThen_ok,Sem.run_pure]
 have hc : ∀ cs : Array Value,cs.size = k → Instr.fill (fun j=>if j < 1 then some (j * k,k) else none) cs [(0,.agg u)] = some u ∧ Instr.fill (fun j=>some (j * k,k)) cs [(0,.agg u)] = some u:=by
  intro cs hcs
  have hcell : (Value.agg u).cells = u:=rfl
  have hfold : u.zipIdx.foldl (fun cs (x : Value × Nat)=>cs.setIfInBounds (0 + x.2) x.1) cs = u:=by
   apply Array.toList_inj.1
   rw [Gz u 0 cs (by omega),List.take_zero,List.nil_append,List.drop_of_length_le (by rw [Array.length_toList]; omega),List.append_nil]
  have hn : ¬ (u.size ≠ k ∨ 0 + u.size > cs.size):=by omega
  have hn2 : (decide (u.size ≠ k) || decide (0 + u.size > cs.size)) = false:=by simp; omega
  constructor <;> simp only [Instr.fill,hcell,Nat.zero_mul,Nat.zero_lt_one,if_true,hn2] <;> simpa using hfold
 have hmk : ((Array.range (1 * k)).map (fun j=>z.cells[j % z.cells.size]!)).size = k:=by simp
 have h2:=(hc _ hmk).2
 have h1:=(hc _ hmk).1
 first
  | rw [h2]
  | rw [h1]
  | simp only [h2,h1]
 simp only [Sem.run_bind,hrow,Result.andThen_ok,Sem.run_pure]
def QgB (k : Nat) (w0 w : World) (bad : List Nat) (v : Value) (ss : List (List Value)) : Prop :=
 (v = .slice none 0 0 ∧ ss = []) ∨ ∃ (g cap : Nat) (cur : Array Value) (e : TypeId),v = .slice (some ⟨g,0,none⟩) ss.length cap ∧ w.heap[g]? = some (.cells cur e (0,0)) ∧ cur.toList.take (ss.length * k) = ss.flatten ∧ cur.size = cap * k ∧ ss.length ≤ cap ∧ cap ≤ maxLen ∧ w0.heap.size ≤ g ∧ g ∉ bad
theorem Qeb {k : Nat} : ∀ {ss : List (List Value)},(∀ x ∈ ss,x.length = k) → ss.flatten.length = ss.length * k
 | [],_=>by simp
 | x :: ss,h=>by
  rw [List.flatten_cons,List.length_append,Qeb (fun y hy=>h y (by simp [hy])),h x (by simp),List.length_cons,Nat.add_mul,Nat.one_mul,Nat.add_comm]
theorem QpM {k : Nat} (hk0 : 0 < k) {w0 : World} {bad : List Nat} {v : Value} {ss : List (List Value)} {x : List Value} {t ty e : TypeId} {i : TypeInfo} {z : Value} (ht : P.underlying t = some (.slice e)) (hi : P.info? e = some i) (hz : i.zero = some z) (hzs : z.cells.size = k) (hs : i.size = k) (hby : i.bytes ≤ 64)
  (hx : x.length = k) (hx1 : ∀ v ∈ x,v.oneCell' = true) (hss : ∀ y ∈ ss,y.length = k)
  (hG : QgB k w0 w bad v ss) (hB : BelowN w0.heap.size w0 w) (hbad : ∀ b ∈ bad,b < w.heap.size) (hn : (ss.length + 1) * 64 ≤ 140737488355328) :
  ∃ v' w',(Builtin.append_ #[t,t] ty #[v,.slice (some ⟨w.heap.size,0,none⟩) 1 1]).run P (w.alloc (.cells x.toArray e)) = .ok v' w' ∧ QgB k w0 w' bad v' (ss ++ [x]) ∧ BelowN w0.heap.size w0 w' ∧ w.heap.size ≤ w'.heap.size ∧ ∀ b ∈ bad,w'.heap[b]? = w.heap[b]?:=by
 have hw1 : (w.alloc (.cells x.toArray e)).heap.size = w.heap.size + 1:=Qb6
 have hnew : (w.alloc (.cells x.toArray e)).heap[w.heap.size]? = some (.cells x.toArray e (0,0)):=(MapKept.heap_alloc w _).1
 have hB1 : BelowN w0.heap.size w0 (w.alloc (.cells x.toArray e)):=hB.alloc hB.size _
 have hcell : ∀ j u,x[j]? = some u → (w.alloc (.cells x.toArray e)).cell? ((⟨w.heap.size,0,none⟩ : Addr).add j) = some u:=by
  intro j u hu
  rw [Addr.add_lit,ZT hnew]
  simpa using hu
 have hold1 : ∀ b,b < w.heap.size → (w.alloc (.cells x.toArray e)).heap[b]? = w.heap[b]?:=fun b hb=>RowKit.Below.heap_alloc w _ b hb
 have hd : ∀ (o : Obj) (b : Nat),b < w.heap.size → ((w.alloc (.cells x.toArray e)).drew.alloc o).heap[b]? = w.heap[b]?:=fun o b hb=>by
  rw [RowKit.Below.heap_alloc _ o b (by show b < (w.alloc (.cells x.toArray e)).heap.size; omega)]
  exact hold1 b hb
 have hdB : ∀ o : Obj,BelowN w0.heap.size w0 ((w.alloc (.cells x.toArray e)).drew.alloc o):=fun o=>hB1.drew.alloc hB1.drew.size o
 have hds : ∀ o : Obj,((w.alloc (.cells x.toArray e)).drew.alloc o).heap.size = w.heap.size + 2:=fun o=>by
  rw [Qb6]; show (w.alloc (.cells x.toArray e)).heap.size + 1 = _; rw [hw1]
 have hdn : ∀ o : Obj,((w.alloc (.cells x.toArray e)).drew.alloc o).heap[w.heap.size + 1]? = some o:=fun o=>by
  have:=(MapKept.heap_alloc (w.alloc (.cells x.toArray e)).drew o).1
  rw [show (w.alloc (.cells x.toArray e)).drew.heap.size = w.heap.size + 1 from hw1] at this
  exact this
 have hmul : (ss.length + 1) * i.bytes ≤ 140737488355328:=Nat.le_trans (Nat.mul_le_mul_left _ hby) hn
 have hfl:=Qeb hss
 have hfl2 : (ss ++ [x]).flatten = ss.flatten ++ x:=by simp
 have hlm : (ss ++ [x]).length * k = ss.length * k + k:=by rw [List.length_append,List.length_singleton,Nat.add_mul,Nat.one_mul]
 rcases hG with ⟨rfl,rfl⟩ | ⟨g,cap,cur,e',rfl,h1,h2,h3,h4,h5,h6,h7⟩
 ·have hrun:=run_append_nil (P:=P) (w.alloc (.cells x.toArray e)) t ty e i z ht hi hz ⟨w.heap.size,0,none⟩ 1 1 x (by rw [hs,hx,Nat.one_mul]) hcell (by decide) (by decide) (by omega)
  rw [hw1] at hrun
  have hge:=grownCap_ge (w.alloc (.cells x.toArray e)) 1 0 e
  refine ⟨_,_,hrun,.inr ⟨_,_,_,_,rfl,hdn _,?_,?_,?_,?_,?_,?_⟩,hdB _,by rw [hds]; omega,fun b hb=>hd _ b (hbad b hb)⟩
  ·simp only [Array.toList_append,List.nil_append,List.length_singleton,Nat.one_mul,List.flatten_cons,List.flatten_nil,List.append_nil]
   rw [List.take_left' (by simpa using hx)]
  ·simp only [Array.size_append,List.size_toArray,size_zeroCells,hzs,hx]
   rw [Nat.sub_mul,Nat.one_mul]
   have : 1 * k ≤ grownCap (w.alloc (.cells x.toArray e)) 1 0 e * k:=Nat.mul_le_mul_right _ hge
   omega
  ·exact hge
  ·exact grownCap_le_maxLen _ 1 0 e (by decide)
  ·have:=hB.size; omega
  ·intro hm; have:=hbad _ hm; omega
 ·have hg : g < w.heap.size:=(Array.getElem?_eq_some_iff.1 h1).1
  have h1' : (w.alloc (.cells x.toArray e)).heap[g]? = some (.cells cur e' (0,0)):=by rw [hold1 g hg]; exact h1
  have hlk : ss.length * k ≤ cap * k:=Nat.mul_le_mul_right _ h4
  by_cases hroom : ss.length + 1 ≤ cap
  ·have hlk2 : (ss.length + 1) * k ≤ cap * k:=Nat.mul_le_mul_right _ hroom
   rw [Nat.add_mul,Nat.one_mul] at hlk2
   have hrun:=QfV (P:=P) (w:=w.alloc (.cells x.toArray e)) (t:=t) (ty:=ty) (u:=.slice (some ⟨w.heap.size,0,none⟩) 1 1) (ds:=x) (m:=1) (sLen:=ss.length) (sCap:=cap) ht hi h1' rfl
    (run_firstCells_some (P:=P) _ i.size 1 _ 1 1 x (by rw [hs,hx,Nat.one_mul]) hcell) hx1 hroom (by rw [hs,hx,h3]; omega)
   rw [hs] at hrun
   have hblk:=Yw (w:=w.alloc (.cells x.toArray e)) (cs:=(cur.toList.take (ss.length * k) ++ x ++ cur.toList.drop (ss.length * k + x.length)).toArray) h1'
   have hcl : cur.toList.length = cap * k:=by rw [Array.length_toList,h3]
   refine ⟨_,_,hrun,.inr ⟨g,cap,_,e',by rw [List.length_append]; rfl,by rw [hblk,if_pos rfl],?_,?_,by simpa using hroom,h5,h6,h7⟩,?_,?_,fun b hb=>?_⟩
   ·rw [hlm,hfl2]
    simp only
    rw [h2,List.take_left' (by rw [List.length_append,hfl,hx])]
   ·simp only [List.size_toArray,List.length_append,List.length_take,List.length_drop,hcl,hx]
    omega
   ·exact BelowN.setRow hB1 h6 _
   ·rw [size_setRow,hw1]; omega
   ·rw [hblk,if_neg (fun e=>h7 (by rw [← e]; exact hb))]
    exact hold1 b (hbad b hb)
  ·have holds : ∀ j u,(ss.flatten)[j]? = some u → (w.alloc (.cells x.toArray e)).cell? ((⟨g,0,none⟩ : Addr).add j) = some u:=by
    intro j u hu
    have hj : j < ss.length * k:=by have:=(List.getElem?_eq_some_iff.1 hu).1; rw [hfl] at this; exact this
    rw [← h2,List.getElem?_take_of_lt hj] at hu
    rw [Addr.add_lit,ZT h1',Nat.zero_add]; simpa using hu
   have hrun:=run_append_grow (P:=P) (w.alloc (.cells x.toArray e)) t ty e i z ht hi hz ⟨g,0,none⟩ ss.length cap ss.flatten (by rw [hs,hfl]) holds ⟨w.heap.size,0,none⟩ 1 1 x (by rw [hs,hx,Nat.one_mul]) hcell (by omega) (by omega) (growslice_fits (by omega) hmul)
   rw [hw1] at hrun
   have hge:=grownCap_ge (w.alloc (.cells x.toArray e)) (ss.length + 1) cap e
   refine ⟨_,_,hrun,.inr ⟨_,_,_,_,by rw [List.length_append]; rfl,hdn _,?_,?_,?_,?_,?_,?_⟩,hdB _,by rw [hds]; omega,fun b hb=>hd _ b (hbad b hb)⟩
   ·rw [hlm,hfl2]
    simp only [Array.toList_append]
    rw [List.take_left' (by simp only [List.length_append,hfl,hx])]
   ·have : (ss.length + 1) * k ≤ grownCap (w.alloc (.cells x.toArray e)) (ss.length + 1) cap e * k:=Nat.mul_le_mul_right _ hge
    simp only [Array.size_append,List.size_toArray,size_zeroCells,hzs,hfl,hx]
    rw [Nat.sub_mul]
    rw [Nat.add_mul,Nat.one_mul] at this ⊢
    omega
   ·simpa using hge
   ·exact grownCap_le_maxLen _ _ cap e (by unfold maxLen; omega)
   ·have:=hB.size; omega
   ·intro hm; have:=hbad _ hm; omega
end
end Go.Ab
