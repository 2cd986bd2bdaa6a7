import Derived.Test.YtkabjoifaffddaaGreatAb0
import Derived.Laws.Rows
import Derived.Laws.Append
import Derived.Laws.World
import GoSem.ClaimData
import Derived.Laws.AppendOwn
namespace Go.Ab
noncomputable section
abbrev Snap:=Addr→Option Value
def Snap.le (F F':Snap):Prop:=∀ a u,F a=some u→F' a=some u
theorem Snap.le.refl (F:Snap):F.le F:=fun _ _ h=>h
theorem Snap.le.trans {F F' F'':Snap} (h:F.le F') (h':F'.le F''):F.le F'':=fun a u x=>h' a u (h a u x)
def Qmq (t:Ty) (v:Value):Prop:=(t.scalar=true→v.oneCell'=true)∧(t.scalar=false→∃ arr,v=.agg arr)
def Qxm (ms:Array MapEntry) (c:Nat):Value:=.tuple (#[Value.int .i64 c]++ms.map fun m=>.tuple #[m.key,m.val,.int .i64 m.born])
def Sees (w:World) (a:Addr) (u:Value):Prop:=(a.spot=none∧w.cell? a=some u)∨(a.spot=some 0∧∃ ms c,w.heap[a.block]? = some (.map ms c)∧u=Qxm ms c)
theorem Sees.cell {w:World} {b o:Nat} {u:Value} (h:Sees w ⟨b,o,none⟩ u):w.cell? ⟨b,o,none⟩=some u:=by
 rcases h with h | ⟨h,_⟩
 ·exact h.2
 ·cases h
theorem Sees.lt {w:World} {a:Addr} {u:Value} (h:Sees w a u):a.block<w.heap.size:=by
 rcases h with h | ⟨_,ms,c,h,_⟩
 ·exact World.block_lt_of_cell? w a h.2
 ·exact (Array.getElem?_eq_some_iff.1 h).1
theorem Sees.block {w w':World} {a:Addr} {u:Value} (hb:w'.heap[a.block]? = w.heap[a.block]?) (h:Sees w a u):Sees w' a u:=by
 rcases h with h | ⟨h1,ms,c,h2,h3⟩
 ·exact .inl ⟨h.1,by rw [World.cell?_of_block hb];exact h.2⟩
 ·exact .inr ⟨h1,ms,c,by rw [hb];exact h2,h3⟩
theorem Sees.uniq {w:World} {a:Addr} {u u':Value} (h:Sees w a u) (h':Sees w a u'):u=u':=by
 rcases h with ⟨h1,h2⟩ | ⟨h1,ms,c,h2,h3⟩<;>rcases h' with ⟨k1,k2⟩ | ⟨k1,ms',c',k2,k3⟩
 ·rw [h2] at k2;exact Option.some.inj k2
 ·rw [h1] at k1;cases k1
 ·rw [h1] at k1;cases k1
 ·rw [h2] at k2;cases k2;rw [h3,k3]
open Classical in
def see? (w:World) (a:Addr):Option Value:=if h:∃ u,Sees w a u then some h.choose else none
theorem see?_iff {w:World} {a:Addr} {u:Value}:see? w a=some u↔Sees w a u:=by
 unfold see?
 constructor
 ·intro h
  split at h
  ·rename_i h1
   cases h
   exact h1.choose_spec
  ·cases h
 ·intro h
  have h1:∃ u,Sees w a u:=⟨u,h⟩
  rw [dif_pos h1,h1.choose_spec.uniq h]
theorem Sees.of {w:World} {a:Addr} {u:Value} (h1:a.spot=none) (h2:w.cell? a=some u):Sees w a u:=.inl ⟨h1,h2⟩
theorem Sees.in_cells {w:World} {a:Addr} {u:Value} (h:Sees w a u) {arr:Array Value} {T:TypeId} {f:Nat × Nat} (hb:w.heap[a.block]? = some (.cells arr T f)):a.spot=none∧w.cell? a=some u:=by
 rcases h with h | ⟨_,ms,c,h2,_⟩
 ·exact h
 ·rw [hb] at h2;cases h2
def RelT {α:Type} (R:α→List Value→Prop) (sz:Nat) (F:Snap):Nat→Tree α→List Value→Prop | 0,_,_=>False | n+1,x,cs=>∃ c1 a cap,cs=c1++[.slice a x.kids.length cap]∧R x.val c1∧x.kids.length≤cap∧cap≤maxLen∧(a=none→cap=0)∧∀ b,a=some b→∀ (i:Nat) (y:Tree α),x.kids[i]? = some y→b.spot=none∧∃ es,RelT R sz F n y es∧∀ (j:Nat) (u:Value),es[j]? = some u→F ⟨b.block,b.off+i*sz+j,none⟩=some u
theorem RelT.up {α:Type} {R:α→List Value→Prop} {sz:Nat} {F:Snap}:∀ {n:Nat} {x:Tree α} {cs:List Value},RelT R sz F n x cs→∀ m,n≤m→RelT R sz F m x cs
 | 0,_,_,h,_,_=>h.elim
 | n+1,x,cs,⟨c1,a,cap,h1,h2,h3,h4,h5,h6⟩,m,hm=>by
  obtain ⟨m,rfl⟩:∃ m',m=m'+1:=⟨m - 1,by omega⟩
  exact ⟨c1,a,cap,h1,h2,h3,h4,h5,fun b hb i y hy=>let ⟨k1,es,k2,k3⟩:=h6 b hb i y hy;⟨k1,es,RelT.up k2 m (by omega),k3⟩⟩
theorem RelT.mono {α:Type} {R R':α→List Value→Prop} {sz:Nat} {F F':Snap} (hR:∀ x cs,R x cs→R' x cs) (hF:F.le F'):∀ {n:Nat} {x:Tree α} {cs:List Value},RelT R sz F n x cs→RelT R' sz F' n x cs
 | 0,_,_,h=>h.elim
 | n+1,x,cs,⟨c1,a,cap,h1,h2,h3,h4,h5,h6⟩ =>
  ⟨c1,a,cap,h1,hR _ _ h2,h3,h4,h5,fun b hb i y hy=>let ⟨k1,es,k2,k3⟩:=h6 b hb i y hy;⟨k1,es,RelT.mono hR hF k2,fun j u hu=>hF _ _ (k3 j u hu)⟩⟩
def RelD (F:Snap):(t:Ty)→t.den→List Value→Prop
 | .int k,x,cs=>cs=[.int k x]∧inK k x=true
 | .bool,x,cs=>cs=[.bool x]
 | .str,x,cs=>∃ s:ByteArray,cs=[.string s]∧ZE s=x∧s.size≤140737488355328
 | .unit,_,cs=>cs=[]
 | .pair a b,x,cs=>∃ c1 c2,cs=c1++c2∧RelD F a x.1 c1∧RelD F b x.2 c2
 | .list t,xs,cs=>∃ a cap,cs=[.slice a (List.length (α:=t.den) xs) cap]∧List.length (α:=t.den) xs≤cap∧cap≤maxLen∧(a=none→cap=0) ∧
   ∀ b,a=some b→∀ i (x:t.den),(show List t.den from xs)[i]? = some x→b.spot=none∧∃ es,RelD F t x es∧∀ j u,es[j]? = some u→F ⟨b.block,b.off+i*t.cells+j,none⟩=some u
 | .map k v,es,cs=>∃ r:Option Nat,cs=[.map r]∧(r=none→(show List (k.den × v.den) from es)=[])∧∀ b,r=some b→∃ (ms:Array MapEntry) (c:Nat),F ⟨b,0,some 0⟩=some (Qxm ms c)∧ms.size=List.length (α:=k.den × v.den) es ∧
   (∀ m∈ms,m.born<c)∧(ms.toList.map (·.born)).Nodup ∧
   ∀ (i:Nat) (x:k.den × v.den) (m:MapEntry),(show List (k.den × v.den) from es)[i]? = some x→ms[i]? = some m →
    RelD F k x.1 m.key.cells.toList∧Qmq k m.key∧RelD F v x.2 m.val.cells.toList∧Qmq v m.val
 | .tree a,x,cs=>∃ n,RelT (RelD F a) (a.cells+1) F n x cs
theorem RelD.len {F:Snap}:∀ {t:Ty} {x:t.den} {cs:List Value},RelD F t x cs→cs.length=t.cells
 | .int _,_,_,h=>by rw [h.1];rfl
 | .bool,_,_,h=>by rw [show _=_ from h];rfl
 | .str,_,_,⟨_,h,_⟩=>by rw [h];rfl
 | .unit,_,_,h=>by rw [show _=_ from h];rfl
 | .pair a b,_,_,⟨c1,c2,h,h1,h2⟩=>by rw [h,List.length_append,h1.len,h2.len];rfl
 | .list _,_,_,⟨_,_,h,_⟩=>by rw [h];rfl
 | .map _ _,_,_,⟨_,h,_⟩=>by rw [h];rfl
 | .tree a,_,_,⟨0,h⟩=>h.elim
 | .tree a,_,_,⟨n+1,c1,ad,cap,h,h2,_⟩=>by rw [h,List.length_append,h2.len];rfl
theorem RelD.mono {F F':Snap} (hF:F.le F'):∀ {t:Ty} {x:t.den} {cs:List Value},RelD F t x cs→RelD F' t x cs
 | .int _,_,_,h=>h
 | .bool,_,_,h=>h
 | .str,_,_,h=>h
 | .unit,_,_,h=>h
 | .pair a b,_,_,⟨c1,c2,h,h1,h2⟩=>⟨c1,c2,h,h1.mono hF,h2.mono hF⟩
 | .list t,_,_,⟨a,cap,h,h1,h2,h3,h4⟩=>⟨a,cap,h,h1,h2,h3,fun b hb i x hx=>by
   obtain ⟨hs,es,he,hc⟩:=h4 b hb i x hx
   exact ⟨hs,es,he.mono hF,fun j u hu=>hF _ _ (hc j u hu)⟩⟩
 | .map k v,_,_,⟨r,h,h1,h2⟩=>⟨r,h,h1,fun b hb=>by
   obtain ⟨ms,c,k1,k2,k3,k4,k5⟩:=h2 b hb
   refine ⟨ms,c,hF _ _ k1,k2,k3,k4,fun i x m hx hm=>?_⟩
   obtain ⟨q1,q2,q3,q4⟩:=k5 i x m hx hm
   exact ⟨q1.mono hF,q2,q3.mono hF,q4⟩⟩
 | .tree a,_,_,⟨n,h⟩=>⟨n,h.mono (fun _ _ q=>q.mono hF) hF⟩
theorem RelD.one {F:Snap}:∀ {t:Ty} {x:t.den} {cs:List Value},RelD F t x cs→∀ u∈cs,u.oneCell'=true
 | .int _,_,_,h,u,hu=>by rw [h.1] at hu;simp at hu;subst hu;rfl
 | .bool,_,_,h,u,hu=>by rw [show _=_ from h] at hu;simp at hu;subst hu;rfl
 | .str,_,_,⟨_,h,_⟩,u,hu=>by rw [h] at hu;simp at hu;subst hu;rfl
 | .unit,_,_,h,u,hu=>by rw [show _=_ from h] at hu;simp at hu
 | .pair a b,_,_,⟨c1,c2,h,h1,h2⟩,u,hu=>by
  rw [h] at hu
  rcases List.mem_append.1 hu with hu | hu
  ·exact h1.one u hu
  ·exact h2.one u hu
 | .list _,_,_,⟨_,_,h,_⟩,u,hu=>by rw [h] at hu;simp at hu;subst hu;rfl
 | .map _ _,_,_,⟨_,h,_⟩,u,hu=>by rw [h] at hu;simp at hu;subst hu;rfl
 | .tree a,_,_,⟨0,h⟩,_,_=>h.elim
 | .tree a,_,_,⟨n+1,c1,ad,cap,h,h2,_⟩,u,hu=>by
  rw [h] at hu
  rcases List.mem_append.1 hu with hu | hu
  ·exact h2.one u hu
  ·rw [List.mem_singleton.1 hu];rfl
theorem Quh {F:Snap} {a:Ty} {x:Tree a.den} {cs:List Value}:RelD F (.tree a) x cs↔∃ c1 u,cs=c1++[u]∧RelD F a x.val c1∧RelD F (.list (.tree a)) x.kids [u]:=by
 constructor
 ·rintro ⟨n,h⟩
  cases n with
  | zero=>exact h.elim
  | succ n =>
   obtain ⟨c1,ad,cap,h1,h2,h3,h4,h5,h6⟩:=h
   refine ⟨c1,_,h1,h2,ad,cap,rfl,h3,h4,h5,fun b hb i y hy=>?_⟩
   obtain ⟨k1,es,k2,k3⟩:=h6 b hb i y hy
   exact ⟨k1,es,⟨n,k2⟩,k3⟩
 ·rintro ⟨c1,u,rfl,h2,ad,cap,hu,h3,h4,h5,h6⟩
  simp only [List.cons.injEq,and_true] at hu
  subst hu
  cases ad with
  | none=>exact ⟨1,c1,none,cap,rfl,h2,h3,h4,h5,fun b hb=>by cases hb⟩
  | some b =>
   have h7:∀ (i:Nat) (y:Tree a.den),x.kids[i]? = some y→b.spot=none∧∃ es,(∃ n,RelT (RelD F a) (a.cells+1) F n y es)∧∀ (j:Nat) (u:Value),es[j]? = some u→F ⟨b.block,b.off+i*(a.cells+1)+j,none⟩=some u:=fun i y hy=>h6 b rfl i y hy
   have fin:∀ (l:List (Tree a.den)) (k:Nat),(∀ (i:Nat) (y:Tree a.den),l[i]? = some y→b.spot=none∧∃ es,(∃ n,RelT (RelD F a) (a.cells+1) F n y es)∧∀ (j:Nat) (u:Value),es[j]? = some u→F ⟨b.block,b.off+(k+i)*(a.cells+1)+j,none⟩=some u) →
     ∃ N,∀ (i:Nat) (y:Tree a.den),l[i]? = some y→b.spot=none∧∃ es,RelT (RelD F a) (a.cells+1) F N y es∧∀ (j:Nat) (u:Value),es[j]? = some u→F ⟨b.block,b.off+(k+i)*(a.cells+1)+j,none⟩=some u:=by
    intro l
    induction l with
    | nil=>intro k _;exact ⟨0,fun i y h=>by simp at h⟩
    | cons z l ih =>
     intro k h1
     obtain ⟨k1,es,⟨n,k2⟩,k3⟩:=h1 0 z rfl
     obtain ⟨N,hN⟩:=ih (k+1) (fun i y hy=>by
      have:=h1 (i+1) y (by simpa using hy)
      rw [show k+1+i=k+(i+1) by omega];exact this)
     refine ⟨max n N,fun i y hy=>?_⟩
     cases i with
     | zero=>simp at hy;subst hy;exact ⟨k1,es,k2.up _ (by omega),k3⟩
     | succ i =>
      obtain ⟨q1,es',q2,q3⟩:=hN i y (by simpa using hy)
      rw [show k+1+i=k+(i+1) by omega] at q3
      exact ⟨q1,es',q2.up _ (by omega),q3⟩
   obtain ⟨N,hN⟩:=fin x.kids 0 (fun i y hy=>by rw [Nat.zero_add];exact h7 i y hy)
   refine ⟨N+1,c1,some b,cap,rfl,h2,h3,h4,h5,fun b' hb i y hy=>?_⟩
   cases hb
   have:=hN i y hy
   rw [Nat.zero_add] at this
   exact this
structure MapRel (F:Snap) (k v:Ty) (es:List (k.den × v.den)) (ms:Array MapEntry) (c:Nat):Prop where
 size:ms.size=es.length
 born:∀ m∈ms,m.born<c
 nodup:(ms.toList.map (·.born)).Nodup
 at_:∀ (i:Nat) (x:k.den × v.den) (m:MapEntry),es[i]? = some x→ms[i]? = some m→RelD F k x.1 m.key.cells.toList∧Qmq k m.key∧RelD F v x.2 m.val.cells.toList∧Qmq v m.val
theorem MapRel.mono {F F':Snap} (hF:F.le F') {k v:Ty} {es:List (k.den × v.den)} {ms:Array MapEntry} {c:Nat} (h:MapRel F k v es ms c):MapRel F' k v es ms c :=
 ⟨h.size,h.born,h.nodup,fun i x m hx hm=>let ⟨q1,q2,q3,q4⟩:=h.at_ i x m hx hm;⟨q1.mono hF,q2,q3.mono hF,q4⟩⟩
theorem QzL {F:Snap} {k v:Ty} {es:List (k.den × v.den)} {u:Value} (h:RelD F (.map k v) es [u]):∃ r:Option Nat,u=.map r∧(r=none→es=[])∧∀ b,r=some b→∃ ms c,F ⟨b,0,some 0⟩=some (Qxm ms c)∧MapRel F k v es ms c:=by
 obtain ⟨r,h1,h2,h3⟩:=h
 simp only [List.cons.injEq,and_true] at h1
 refine ⟨r,h1,h2,fun b hb=>?_⟩
 obtain ⟨ms,c,k1,k2,k3,k4,k5⟩:=h3 b hb
 exact ⟨ms,c,k1,k2,k3,k4,k5⟩
theorem Qwc {F:Snap} {k v:Ty} {es:List (k.den × v.den)} {ms:Array MapEntry} {c b:Nat} (hF:F ⟨b,0,some 0⟩=some (Qxm ms c)) (h:MapRel F k v es ms c):RelD F (.map k v) es [.map (some b)] :=
 ⟨some b,rfl,fun e=>(by cases e),fun b' hb=>by cases hb;exact ⟨ms,c,hF,h.size,h.born,h.nodup,h.at_⟩⟩
theorem MapRel.nil (F:Snap) (k v:Ty):MapRel F k v [] #[] 0:=⟨rfl,by simp,by simp,fun i x m h=>by simp at h⟩
def DeepD (w:World):(t:Ty)→t.den→List Value→List Nat→Prop
 | .int k,x,cs,bs=>(cs=[.int k x]∧inK k x=true)∧bs=[]
 | .bool,x,cs,bs=>cs=[.bool x]∧bs=[]
 | .str,x,cs,bs=>(∃ s:ByteArray,cs=[.string s]∧ZE s=x∧s.size≤140737488355328)∧bs=[]
 | .unit,_,cs,bs=>cs=[]∧bs=[]
 | .pair a b,x,cs,bs=>∃ c1 c2 b1 b2,cs=c1++c2∧bs=b1++b2∧DeepD w a x.1 c1 b1∧DeepD w b x.2 c2 b2
 | .list t,xs,cs,bs=>∃ a cap,cs=[.slice a (List.length (α:=t.den) xs) cap]∧List.length (α:=t.den) xs≤cap∧cap≤maxLen∧(a=none→cap=0) ∧
   ((cap=0∧bs=[])∨∃ (b o:Nat) (arr:Array Value) (T:TypeId) (bss:List (List Nat)),a=some ⟨b,o,none⟩∧w.heap[b]? = some (.cells arr T (0,0))∧bs=b::bss.flatten∧bss.length=List.length (α:=t.den) xs∧o+cap*t.cells≤arr.size ∧
    ∀ (i:Nat) (x:t.den) (bi:List Nat),(show List t.den from xs)[i]? = some x→bss[i]? = some bi→DeepD w t x ((arr.toList.drop (o+i*t.cells)).take t.cells) bi)
 | .map _ _,_,_,_=>False
 | .tree _,_,_,_=>False
theorem DeepD.len {w:World}:∀ {t:Ty} {x:t.den} {cs:List Value} {bs:List Nat},DeepD w t x cs bs→cs.length=t.cells
 | .int _,_,_,_,h=>by rw [h.1.1];rfl
 | .bool,_,_,_,h=>by rw [h.1];rfl
 | .str,_,_,_,⟨⟨_,h,_⟩,_⟩=>by rw [h];rfl
 | .unit,_,_,_,h=>by rw [h.1];rfl
 | .pair a b,_,_,_,⟨c1,c2,_,_,h,_,h1,h2⟩=>by rw [h,List.length_append,h1.len,h2.len];rfl
 | .list _,_,_,_,⟨_,_,h,_⟩=>by rw [h];rfl
theorem DeepD.one {w:World}:∀ {t:Ty} {x:t.den} {cs:List Value} {bs:List Nat},DeepD w t x cs bs→∀ u∈cs,u.oneCell'=true
 | .int _,_,_,_,h,u,hu=>by rw [h.1.1] at hu;simp at hu;subst hu;rfl
 | .bool,_,_,_,h,u,hu=>by rw [h.1] at hu;simp at hu;subst hu;rfl
 | .str,_,_,_,⟨⟨_,h,_⟩,_⟩,u,hu=>by rw [h] at hu;simp at hu;subst hu;rfl
 | .unit,_,_,_,h,u,hu=>by rw [h.1] at hu;simp at hu
 | .pair a b,_,_,_,⟨c1,c2,_,_,h,_,h1,h2⟩,u,hu=>by
  rw [h] at hu
  rcases List.mem_append.1 hu with hu | hu
  ·exact h1.one u hu
  ·exact h2.one u hu
 | .list _,_,_,_,⟨_,_,h,_⟩,u,hu=>by rw [h] at hu;simp at hu;subst hu;rfl
theorem WQ {w:World} {F:Snap}:∀ {t:Ty} {x:t.den} {cs:List Value} {bs:List Nat},t.keyFlat=true→DeepD w t x cs bs→RelD F t x cs∧bs=[]
 | .int _,_,_,_,_,h=>⟨h.1,h.2⟩
 | .bool,_,_,_,_,h=>⟨h.1,h.2⟩
 | .str,_,_,_,_,h=>⟨h.1,h.2⟩
 | .unit,_,_,_,_,h=>⟨h.1,h.2⟩
 | .pair a b,_,_,_,hk,⟨c1,c2,b1,b2,h,h',h1,h2⟩=>by
  simp only [Ty.keyFlat,Bool.and_eq_true] at hk
  obtain ⟨k1,k2⟩:=WQ (F:=F) hk.1 h1
  obtain ⟨k3,k4⟩:=WQ (F:=F) hk.2 h2
  exact ⟨⟨c1,c2,h,k1,k3⟩,by rw [h',k2,k4];rfl⟩
 | .list _,_,_,_,hk,_=>by cases hk
 | .map _ _,_,_,_,hk,_=>by cases hk
 | .tree _,_,_,_,hk,_=>by cases hk
theorem QdS {w:World} {F:Snap}:∀ {t:Ty} {x:t.den} {cs:List Value},t.keyFlat=true→RelD F t x cs→DeepD w t x cs []
 | .int _,_,_,_,h=>⟨h,rfl⟩
 | .bool,_,_,_,h=>⟨h,rfl⟩
 | .str,_,_,_,h=>⟨h,rfl⟩
 | .unit,_,_,_,h=>⟨h,rfl⟩
 | .pair a b,_,_,hk,⟨c1,c2,h,h1,h2⟩=>by
  simp only [Ty.keyFlat,Bool.and_eq_true] at hk
  exact ⟨c1,c2,[],[],h,rfl,QdS hk.1 h1,QdS hk.2 h2⟩
 | .list _,_,_,hk,_=>by cases hk
 | .map _ _,_,_,hk,_=>by cases hk
 | .tree _,_,_,hk,_=>by cases hk
theorem DeepD.lt {w:World}:∀ {t:Ty} {x:t.den} {cs:List Value} {bs:List Nat},DeepD w t x cs bs→∀ c∈bs,c<w.heap.size
 | .int _,_,_,_,h,c,hc=>by rw [h.2] at hc;cases hc
 | .bool,_,_,_,h,c,hc=>by rw [h.2] at hc;cases hc
 | .str,_,_,_,h,c,hc=>by rw [h.2] at hc;cases hc
 | .unit,_,_,_,h,c,hc=>by rw [h.2] at hc;cases hc
 | .pair a b,_,_,_,⟨_,_,b1,b2,_,h,h1,h2⟩,c,hc=>by
  rw [h] at hc
  rcases List.mem_append.1 hc with hc | hc
  ·exact h1.lt c hc
  ·exact h2.lt c hc
 | .list t,xs,_,_,⟨_,_,_,_,_,_,h⟩,c,hc=>by
  rcases h with ⟨_,h⟩ | ⟨b,o,arr,T,bss,_,hb,h,hl,_,hx⟩
  ·rw [h] at hc;cases hc
  ·rw [h] at hc
   rcases List.mem_cons.1 hc with rfl | hc
   ·exact (Array.getElem?_eq_some_iff.1 hb).1
   ·obtain ⟨bi,hbi,hc⟩:=List.mem_flatten.1 hc
    obtain ⟨i,hi⟩:=List.getElem?_of_mem hbi
    have hil:i<List.length (α:=t.den) xs:=by rw [← hl];exact (List.getElem?_eq_some_iff.1 hi).1
    exact (hx i _ bi (List.getElem?_eq_getElem hil) hi).lt c hc
theorem DeepD.stays {w w':World}:∀ {t:Ty} {x:t.den} {cs:List Value} {bs:List Nat},DeepD w t x cs bs→(∀ c∈bs,w'.heap[c]? = w.heap[c]?)→DeepD w' t x cs bs
 | .int _,_,_,_,h,_=>h
 | .bool,_,_,_,h,_=>h
 | .str,_,_,_,h,_=>h
 | .unit,_,_,_,h,_=>h
 | .pair a b,_,_,_,⟨c1,c2,b1,b2,h,h',h1,h2⟩,hb=>⟨c1,c2,b1,b2,h,h',h1.stays (fun c hc=>hb c (by rw [h'];exact List.mem_append_left _ hc)),h2.stays (fun c hc=>hb c (by rw [h'];exact List.mem_append_right _ hc))⟩
 | .list t,xs,_,_,⟨a,cap,h1,h2,h3,h4,h⟩,hb=>by
  refine ⟨a,cap,h1,h2,h3,h4,?_⟩
  rcases h with h | ⟨b,o,arr,T,bss,q1,q2,q3,q4,q5,q6⟩
  ·exact .inl h
  ·refine .inr ⟨b,o,arr,T,bss,q1,by rw [hb b (by rw [q3];simp)];exact q2,q3,q4,q5,fun i x bi hx hi=>?_⟩
   exact (q6 i x bi hx hi).stays (fun c hc=>hb c (by rw [q3];exact List.mem_cons_of_mem _ (List.mem_flatten.2 ⟨bi,List.mem_of_getElem? hi,hc⟩)))
theorem DeepD.data {w:World} {F:Snap}:∀ {t:Ty} {x:t.den} {cs:List Value} {bs:List Nat},DeepD w t x cs bs→(∀ c∈bs,∀ o u,w.cell? ⟨c,o,none⟩=some u→F ⟨c,o,none⟩=some u)→RelD F t x cs
 | .int _,_,_,_,h,_=>h.1
 | .bool,_,_,_,h,_=>h.1
 | .str,_,_,_,h,_=>h.1
 | .unit,_,_,_,h,_=>h.1
 | .pair a b,_,_,_,⟨c1,c2,b1,b2,h,h',h1,h2⟩,hb=>⟨c1,c2,h,h1.data (fun c hc=>hb c (by rw [h'];exact List.mem_append_left _ hc)),h2.data (fun c hc=>hb c (by rw [h'];exact List.mem_append_right _ hc))⟩
 | .list t,xs,_,_,⟨a,cap,h1,h2,h3,h4,h⟩,hb=>by
  refine ⟨a,cap,h1,h2,h3,h4,fun b' hb' i x hx=>?_⟩
  have hil:i<List.length (α:=t.den) xs:=(List.getElem?_eq_some_iff.1 hx).1
  rcases h with ⟨h,_⟩ | ⟨b,o,arr,T,bss,q1,q2,q3,q4,q5,q6⟩
  ·omega
  ·rw [q1] at hb'
   cases hb'
   have hi:bss[i]? = some (bss[i]'(by omega)):=List.getElem?_eq_getElem (by omega)
   have hd:=q6 i x _ hx hi
   refine ⟨rfl,_,hd.data (fun c hc=>hb c (by rw [q3];exact List.mem_cons_of_mem _ (List.mem_flatten.2 ⟨_,List.mem_of_getElem? hi,hc⟩))),fun j u hu=>?_⟩
   refine hb b (by rw [q3];simp) _ _ ?_
   rw [World.cell?]
   simp only [q2]
   rw [List.getElem?_take] at hu
   split at hu
   ·rw [List.getElem?_drop] at hu
    rw [← Array.getElem?_toList]
    exact hu
   ·cases hu
structure Reg where
 g:Nat
 cap:Nat
 n:Nat
 sz:Nat
structure Dp where
 δ:Nat→Option (Value × List Nat)
 N:Nat
def Dp.no:Dp:=⟨fun _=>none,0⟩
structure Dp.le (D D':Dp):Prop where
 N:D.N≤D'.N
 δ:∀ k u bs,k<D.N→D'.δ k=some (u,bs)→∃ bs',D.δ k=some (u,bs')
theorem Dp.le.refl (D:Dp):D.le D:=⟨Nat.le_refl _,fun _ _ bs _ h=>⟨bs,h⟩⟩
theorem Dp.le.trans {D D' D'':Dp} (h:D.le D') (h':D'.le D''):D.le D'' :=
 ⟨Nat.le_trans h.N h'.N,fun k u bs hk x=>let ⟨bs',y⟩:=h'.δ k u bs (Nat.lt_of_lt_of_le hk h.N) x;h.δ k u bs' hk y⟩
structure Me where
 F:Snap
 μ:Nat→Nat→Option (Nat × Nat)
 τ:Nat→Option (Option Reg)
 N:Nat
 D:Dp
def Eg (o:Option Reg) (v:Value) (n sz:Nat):Prop :=
 match o with
 | none=>v=.slice none 0 0∧n=0
 | some reg=>∃ k ad,v=.slice (some ad) n (reg.cap - k)∧(k<reg.cap→ad=⟨reg.g,k*sz,none⟩)∧reg.n=k+n∧k≤reg.cap∧reg.sz=sz
def Qr7 (o:Option Reg) (v:Value):Prop :=
 match o with
 | none=>v=.slice none 0 0
 | some reg=>v=.slice (some ⟨reg.g,0,none⟩) reg.n reg.cap
inductive RelV (M:Me):V→Value→Prop
 | any (v:Value):RelV M .any v
 | un:RelV M .un undef
 | d (t:Ty) (x:t.den) (v:Value):RelD M.F t x [v]→RelV M (.d t x) v
 | agg (cs:List V) (arr:Array Value):cs.length=arr.size →
   (∀ (i:Nat) (c:V) (u:Value),cs[i]? = some c→arr[i]? = some u→RelV M c u)→(∀ u∈arr,u.oneCell'=true)→RelV M (.agg cs) (.agg arr)
 | eptr (cs:List V) (b o:Nat) (us:List Value):cs.length=us.length→(∀ (j:Nat) (c:V) (u:Value),cs[j]? = some c→us[j]? = some u→RelV M c u) →
   (∀ (j:Nat) (u:Value),us[j]? = some u→M.F ⟨b,o+j,none⟩=some u)→(∀ u∈us,u.oneCell'=true)→RelV M (.eptr cs) (.pointer (some ⟨b,o,none⟩))
 | ptr (d s off b n:Nat):M.μ d s=some (b,n)→RelV M (.ptr d s off) (.pointer (some ⟨b,off,none⟩))
 | rptr (d s sz:Nat) (i:Int) (off b n:Nat):M.μ d s=some (b,n)→RelV M (.rptr d s sz i off) (.pointer (some ⟨b,i.toNat*sz+off,none⟩))
 | own (tok:Nat) (t:Ty) (xs:List t.den) (v:Value):RelD M.F (.list t) xs [v]→tok<M.N →
   (∀ reg,M.τ tok=some reg→Eg reg v xs.length t.cells)→RelV M (.own tok t xs) v
 | nils:RelV M .nils (.slice none 0 0)
 | msl (d s b n:Nat):M.μ d s=some (b,n)→n≤maxLen→RelV M (.msl d s) (.slice (some ⟨b,0,none⟩) n n)
 | fn (f:Nat) (cs:List V) (arr:Array Value):cs.length=arr.size→(∀ (i:Nat) (c:V) (u:Value),cs[i]? = some c→arr[i]? = some u→RelV M c u) →
   RelV M (.fn f cs) (.func (.func f) #[] arr)
 | tup (cs:List V) (arr:Array Value):cs.length=arr.size→(∀ (i:Nat) (c:V) (u:Value),cs[i]? = some c→arr[i]? = some u→RelV M c u) →
   RelV M (.tup cs) (.tuple arr)
 | raw (k:Nat) (v:Value):k<M.N→(∀ o,M.τ k=some o→Qr7 o v)→RelV M (.raw k) v
 | mp (d s b n:Nat):M.μ d s=some (b,n)→RelV M (.mp d s) (.map (some b))
 | qptr (k sz:Nat) (i:Int) (off:Nat) (v:Value):k<M.N→(∀ reg,M.τ k=some (some reg)→v=.pointer (some ⟨reg.g,i.toNat*sz+off,none⟩))→RelV M (.qptr k sz i off) v
 | dr (k:Nat) (v:Value):k<M.D.N→v.oneCell'=true→(∀ u bs,M.D.δ k=some (u,bs)→v=u)→RelV M (.dr k) v
 | dq (k sz:Nat) (i:Int) (off:Nat) (v:Value):k<M.D.N→(∃ b' o',v=.pointer (some ⟨b',o',none⟩))→(∀ b o n c bs,M.D.δ k=some (.slice (some ⟨b,o,none⟩) n c,bs)→v=.pointer (some ⟨b,o+i.toNat*sz+off,none⟩))→RelV M (.dq k sz i off) v
 | dvw (k sz:Nat) (lo:Int) (hi:Option Int) (v:Value):k<M.D.N→v.oneCell'=true→(∀ ad n c bs,M.D.δ k=some (.slice ad n c,bs)→lo.toNat≤n∧(∀ h,hi=some h→lo.toNat≤h.toNat∧h.toNat≤n) ∧
   v=.slice (if c=lo.toNat then ad else ad.map (·.add (lo.toNat*sz))) (hi.elim n Int.toNat - lo.toNat) (c - lo.toNat))→RelV M (.dvw k sz lo hi) v
structure RelL (M:Me) (cs:List V) (us:List Value):Prop where
 len:cs.length=us.length
 at_:∀ (i:Nat) (c:V) (u:Value),cs[i]? = some c→us[i]? = some u→RelV M c u
 one:∀ u∈us,u.oneCell'=true
structure Me.le (n:Nat) (M M':Me):Prop where
 F:M.F.le M'.F
 μ:∀ d s b,d≤n→M.μ d s=some b→M'.μ d s=some b
 N:M.N≤M'.N
 τ:∀ k reg,k<M.N→M'.τ k=some reg→M.τ k=some reg
 D:M.D.le M'.D
theorem Me.le.refl (n:Nat) (M:Me):M.le n M:=⟨.refl _,fun _ _ _ _ h=>h,Nat.le_refl _,fun _ _ _ h=>h,.refl _⟩
theorem Me.le.trans {n:Nat} {M M' M'':Me} (h:M.le n M') (h':M'.le n M''):M.le n M'':=⟨h.F.trans h'.F,fun d s b hd x=>h'.μ d s b hd (h.μ d s b hd x),Nat.le_trans h.N h'.N,fun k reg hk x=>h.τ k reg hk (h'.τ k reg (Nat.lt_of_lt_of_le hk h.N) x),h.D.trans h'.D⟩
theorem Me.le.down {n m:Nat} {M M':Me} (h:M.le n M') (hm:m≤n):M.le m M':=⟨h.F,fun d s b hd x=>h.μ d s b (Nat.le_trans hd hm) x,h.N,h.τ,h.D⟩
theorem VT {n:Nat}:∀ {cs:List V},V.le.leL n cs=true→∀ {i:Nat} {c:V},cs[i]? = some c→c.le n=true
 | c::cs,h,0,c',hc=>by
  simp only [List.getElem?_cons_zero,Option.some.injEq] at hc
  subst hc
  simp only [V.le.leL,Bool.and_eq_true] at h
  exact h.1
 | c::cs,h,i+1,c',hc=>by
  simp only [List.getElem?_cons_succ] at hc
  simp only [V.le.leL,Bool.and_eq_true] at h
  exact VT h.2 hc
 | [],_,_,_,hc=>by simp at hc
theorem Ug {n:Nat}:∀ {cs:List V},(∀ c∈cs,c.le n=true)→V.le.leL n cs=true
 | [],_=>rfl
 | c::cs,h=>by
  simp only [V.le.leL,Bool.and_eq_true]
  exact ⟨h c (by simp),Ug fun x hx=>h x (by simp [hx])⟩
theorem RelV.mono {n:Nat} {M M':Me} (hM:M.le n M') {v:V} {u:Value} (h:RelV M v u) (hv:v.le n=true):RelV M' v u:=by
 induction h with
 | any v=>exact .any v
 | un=>exact .un
 | d t x v hd=>exact .d t x v (hd.mono hM.F)
 | agg cs arr hl _ h1 ih=>exact .agg cs arr hl (fun i c u hc hu=>ih i c u hc hu (VT hv hc)) h1
 | eptr cs b o us hl _ hF h1 ih=>exact .eptr cs b o us hl (fun i c u hc hu=>ih i c u hc hu (VT hv hc)) (fun j u hu=>hM.F _ _ (hF j u hu)) h1
 | ptr d s off b n' h=>exact .ptr d s off b n' (hM.μ d s _ (by simpa [V.le] using hv) h)
 | rptr d s sz i off b n' h=>exact .rptr d s sz i off b n' (hM.μ d s _ (by simpa [V.le] using hv) h)
 | own tok t xs v hd hN hg=>exact .own tok t xs v (hd.mono hM.F) (Nat.lt_of_lt_of_le hN hM.N) (fun reg hr=>hg reg (hM.τ tok reg hN hr))
 | nils=>exact .nils
 | msl d s b n' h hm=>exact .msl d s b n' (hM.μ d s _ (by simpa [V.le] using hv) h) hm
 | fn f cs arr hl _ ih=>exact .fn f cs arr hl (fun i c u hc hu=>ih i c u hc hu (VT hv hc))
 | tup cs arr hl _ ih=>exact .tup cs arr hl (fun i c u hc hu=>ih i c u hc hu (VT hv hc))
 | raw k v hN hr=>exact .raw k v (Nat.lt_of_lt_of_le hN hM.N) (fun o ho=>hr o (hM.τ k o hN ho))
 | mp d s b n' h=>exact .mp d s b n' (hM.μ d s _ (by simpa [V.le] using hv) h)
 | qptr k sz i off v hN hr=>exact .qptr k sz i off v (Nat.lt_of_lt_of_le hN hM.N) (fun reg ho=>hr reg (hM.τ k _ hN ho))
 | dr k v hN h1 hr=>exact .dr k v (Nat.lt_of_lt_of_le hN hM.D.N) h1 (fun u bs h=>let ⟨bs',h'⟩:=hM.D.δ k u bs hN h;hr u bs' h')
 | dq k sz i off v hN hp hr=>exact .dq k sz i off v (Nat.lt_of_lt_of_le hN hM.D.N) hp (fun b o n c bs h=>let ⟨bs',h'⟩:=hM.D.δ k _ bs hN h;hr b o n c bs' h')
 | dvw k sz lo hi v hN h1 hr=>exact .dvw k sz lo hi v (Nat.lt_of_lt_of_le hN hM.D.N) h1 (fun ad n c bs h=>let ⟨bs',h'⟩:=hM.D.δ k _ bs hN h;hr ad n c bs' h')
theorem RelL.mono {n:Nat} {M M':Me} (hM:M.le n M') {cs:List V} {us:List Value} (h:RelL M cs us) (hv:V.le.leL n cs=true):RelL M' cs us:=⟨h.len,fun i c u hc hu=>(h.at_ i c u hc hu).mono hM (VT hv hc),h.one⟩
theorem RelL.nil (M:Me):RelL M [] []:=⟨rfl,fun _ _ _ h=>by simp at h,fun _ h=>by simp at h⟩
theorem RelL.cons {M:Me} {c:V} {u:Value} {cs:List V} {us:List Value} (h:RelV M c u) (h1:u.oneCell'=true) (ht:RelL M cs us):RelL M (c::cs) (u::us):=by
 refine ⟨by simp [ht.len],?_,?_⟩
 ·intro i c' u' hc hu
  cases i with
  | zero=>simp at hc hu;subst hc;subst hu;exact h
  | succ i=>simp at hc hu;exact ht.at_ i c' u' hc hu
 ·intro x hx
  rcases List.mem_cons.1 hx with rfl | hx
  ·exact h1
  ·exact ht.one x hx
theorem RelL.append {M:Me} {cs cs':List V} {us us':List Value} (h:RelL M cs us) (h':RelL M cs' us'):RelL M (cs++cs') (us++us'):=by
 refine ⟨by simp [h.len,h'.len],?_,?_⟩
 ·intro i c u hc hu
  by_cases hi:i<cs.length
  ·rw [List.getElem?_append_left hi] at hc
   rw [List.getElem?_append_left (by rw [← h.len];exact hi)] at hu
   exact h.at_ i c u hc hu
  ·rw [List.getElem?_append_right (by omega)] at hc
   rw [List.getElem?_append_right (by rw [← h.len];omega),← h.len] at hu
   exact h'.at_ _ c u hc hu
 ·intro x hx
  rcases List.mem_append.1 hx with hx | hx
  ·exact h.one x hx
  ·exact h'.one x hx
theorem RelL.take {M:Me} {cs:List V} {us:List Value} (h:RelL M cs us) (n:Nat):RelL M (cs.take n) (us.take n):=by
 refine ⟨by simp [h.len],?_,fun x hx=>h.one x (List.mem_of_mem_take hx)⟩
 intro i c u hc hu
 rw [List.getElem?_take] at hc hu
 split at hc
 ·rename_i hi;rw [if_pos hi] at hu;exact h.at_ i c u hc hu
 ·cases hc
theorem RelL.drop {M:Me} {cs:List V} {us:List Value} (h:RelL M cs us) (n:Nat):RelL M (cs.drop n) (us.drop n):=by
 refine ⟨by simp [h.len],?_,fun x hx=>h.one x (List.mem_of_mem_drop hx)⟩
 intro i c u hc hu
 rw [List.getElem?_drop] at hc hu
 exact h.at_ _ c u hc hu
theorem Yf {M:Me}:∀ {t:Ty} {x:t.den} {us:List Value},RelD M.F t x us→RelL M (Qm t x) us
 | .int k,x,us,h=>by
  obtain rfl:=h.1
  exact .cons (.d (.int k) x _ h) rfl (.nil M)
 | .bool,x,us,h=>by
  obtain rfl:=show us=[.bool x] from h
  exact .cons (.d .bool x _ h) rfl (.nil M)
 | .str,x,us,h=>by
  obtain ⟨s,rfl,h1⟩:=h
  exact .cons (.d .str x _ ⟨s,rfl,h1⟩) rfl (.nil M)
 | .unit,x,us,h=>by
  obtain rfl:=show us=[] from h
  exact .nil M
 | .pair a b,x,us,⟨c1,c2,h,h1,h2⟩=>by
  subst h
  exact .append (Yf h1) (Yf h2)
 | .list t,x,us,h=>by
  obtain ⟨a,cap,rfl,h1⟩:=h
  exact .cons (.d (.list t) x _ ⟨a,cap,rfl,h1⟩) rfl (.nil M)
 | .map k v,x,us,h=>by
  obtain ⟨r,rfl,h1⟩:=h
  exact .cons (.d (.map k v) x _ ⟨r,rfl,h1⟩) rfl (.nil M)
 | .tree a,x,us,h=>by
  obtain ⟨c1,u,rfl,h1,h2⟩:=Quh.1 h
  exact .append (Yf h1) (.cons (.d (.list (.tree a)) x.kids u h2) (h2.one u (by simp)) (.nil M))
theorem Jx:∀ (t:Ty) (x:t.den),(Qm t x).length=t.cells
 | .int _,_ | .bool,_ | .str,_ | .unit,_ | .list _,_ | .map _ _,_=>rfl
 | .pair a b,x=>by simp [Qm,Ty.cells,Jx a,Jx b]
 | .tree a,x=>by simp [Qm,Ty.cells,Jx a]
theorem GP (n:Nat):∀ (t:Ty) (x:t.den),V.le.leL n (Qm t x)=true
 | .int _,_ | .bool,_ | .str,_ | .unit,_ | .list _,_ | .map _ _,_=>rfl
 | .pair a b,x=>by
  refine Ug fun c hc=>?_
  rcases List.mem_append.1 hc with hc | hc
  ·obtain ⟨i,hi⟩:=List.getElem?_of_mem hc
   exact VT (GP n a x.1) hi
  ·obtain ⟨i,hi⟩:=List.getElem?_of_mem hc
   exact VT (GP n b x.2) hi
 | .tree a,x=>by
  refine Ug fun c hc=>?_
  rcases List.mem_append.1 hc with hc | hc
  ·obtain ⟨i,hi⟩:=List.getElem?_of_mem hc
   exact VT (GP n a x.val) hi
  ·rw [List.mem_singleton.1 hc];rfl
theorem WR (n:Nat):∀ (t:Ty) (x:t.den),(JO t x).le n=true | .int _,_ | .bool,_ | .str,_ | .unit,_ | .list _,_ | .map _ _,_=>rfl | .pair a b,x=>GP n (.pair a b) x | .tree a,x=>GP n (.tree a) x
def RelU (F:Snap) (t:Ty) (x:t.den) (v:Value):Prop :=
 match t.scalar with
 | true=>RelD F t x [v]
 | false=>∃ arr,v=.agg arr∧RelD F t x arr.toList
theorem RelU.mono {F F':Snap} (hF:F.le F') {t:Ty} {x:t.den} {v:Value} (h:RelU F t x v):RelU F' t x v:=by
 unfold RelU at h ⊢
 split at h
 ·exact RelD.mono hF h
 ·obtain ⟨arr,rfl,h⟩:=h;exact ⟨arr,rfl,h.mono hF⟩
theorem RelU.cells {F:Snap} {t:Ty} {x:t.den} {v:Value} (h:RelU F t x v):RelD F t x v.cells.toList:=by
 unfold RelU at h
 split at h
 ·have:=h.one v (by simp)
  cases v<;>first | exact h | (simp [Value.oneCell'] at this)
 ·obtain ⟨arr,rfl,h⟩:=h;exact h
theorem Uh {M:Me}:∀ {t:Ty} {x:t.den} {v:Value},RelU M.F t x v→RelV M (JO t x) v
 | .int k,x,v,h=>.d _ _ _ h
 | .bool,x,v,h=>.d _ _ _ h
 | .str,x,v,h=>.d _ _ _ h
 | .list t,x,v,h=>.d _ _ _ h
 | .map k e,x,v,h=>.d _ _ _ h
 | .unit,x,v,h=>by
  obtain ⟨arr,rfl,h⟩:=h
  have h0:arr=#[]:=by have:=show arr.toList=[] from h;simpa using this
  subst h0
  exact .agg [] #[] rfl (fun i c u hc=>by simp at hc) (by simp)
 | .pair a b,x,v,h=>by
  obtain ⟨arr,rfl,h⟩:=h
  have:=Yf h
  exact .agg _ arr (by simpa using this.len) (fun i c u hc hu=>this.at_ i c u hc (by simpa using hu)) (fun u hu=>this.one u (by simpa using hu))
 | .tree a,x,v,h=>by
  obtain ⟨arr,rfl,h⟩:=h
  have:=Yf h
  exact .agg _ arr (by simpa using this.len) (fun i c u hc hu=>this.at_ i c u hc (by simpa using hu)) (fun u hu=>this.one u (by simpa using hu))
theorem cast?_rel {F:Snap} {t t':Ty} {x:t.den} {y:t'.den} (h:cast? t t' x=some y) {cs:List Value} (hr:RelD F t x cs):RelD F t' y cs:=by
 unfold cast? at h
 split at h
 ·rename_i e _
  subst e
  simp only [Option.some.injEq] at h
  subst h
  exact hr
 ·cases h
theorem castL?_rel {F:Snap} {t t':Ty} {x:List t.den} {y:List t'.den} (h:castL? t t' x=some y) {cs:List Value} (hr:RelD F (.list t) x cs):RelD F (.list t') y cs:=by
 unfold castL? at h
 split at h
 ·rename_i e _
  subst e
  simp only [Option.some.injEq] at h
  subst h
  exact hr
 ·cases h
theorem castL?_eq {t t':Ty} {x:List t.den} {y:List t'.den} (h:castL? t t' x=some y):∃ e:t=t',y=e ▸ x:=by
 unfold castL? at h
 split at h
 ·rename_i e _
  simp only [Option.some.injEq] at h
  exact ⟨e,h.symm⟩
 ·cases h
theorem castL?_len {t t':Ty} {x:List t.den} {y:List t'.den} (h:castL? t t' x=some y):y.length=x.length:=by
 obtain ⟨e,rfl⟩:=castL?_eq h
 subst e
 rfl
theorem QcE (F:Snap) (t:Ty):RelD F (.list t) [] [.slice none 0 0] :=
 ⟨none,0,rfl,Nat.le_refl _,Nat.zero_le _,fun _=>rfl,fun b hb=>by cases hb⟩
theorem X9 {M:Me} {t:Ty} {x:t.den} {v:V} {u:Value} (h:Gs t v=some x) (hr:RelV M v u):RelD M.F t x [u]:=by
 unfold Gs at h
 split at h
 ·rename_i t tok t' xs
  cases hr with
  | own _ _ _ _ hd _ _=>exact castL?_rel h hd
 ·cases hr with
  | nils =>
   simp only [Option.some.injEq] at h
   subst h
   exact QcE M.F _
 ·cases hr with
  | d _ _ _ hd=>exact cast?_rel h hd
 ·cases h
theorem V5 {M:Me}:∀ {t:Ty} {x:t.den} {vs:List V} {us:List Value},YN t vs=some x→RelL M vs us→RelD M.F t x us
 | .pair a b,x,vs,us,h,hr=>by
  simp only [YN] at h
  split at h
  ·rename_i y z hy hz
   simp only [Option.some.injEq] at h
   subst h
   exact ⟨us.take a.cells,us.drop a.cells,(List.take_append_drop _ _).symm,V5 hy (hr.take _),V5 hz (hr.drop _)⟩
  ·cases h
 | .unit,x,[],us,h,hr=>by
  have:=hr.len
  have:us=[]:=List.eq_nil_of_length_eq_zero this.symm
  subst this
  rfl
 | .unit,x,_::_,us,h,hr=>by simp [YN] at h
 | .int k,x,[],us,h,hr=>by simp [YN] at h
 | .int k,x,[v],us,h,hr=>by
  obtain ⟨u,rfl⟩:∃ u,us=[u]:=List.length_eq_one_iff.1 hr.len.symm
  exact X9 (by simpa [YN] using h) (hr.at_ 0 v u rfl rfl)
 | .int k,x,_::_::_,us,h,hr=>by simp [YN] at h
 | .bool,x,[],us,h,hr=>by simp [YN] at h
 | .bool,x,[v],us,h,hr=>by
  obtain ⟨u,rfl⟩:∃ u,us=[u]:=List.length_eq_one_iff.1 hr.len.symm
  exact X9 (by simpa [YN] using h) (hr.at_ 0 v u rfl rfl)
 | .bool,x,_::_::_,us,h,hr=>by simp [YN] at h
 | .str,x,[],us,h,hr=>by simp [YN] at h
 | .str,x,[v],us,h,hr=>by
  obtain ⟨u,rfl⟩:∃ u,us=[u]:=List.length_eq_one_iff.1 hr.len.symm
  exact X9 (by simpa [YN] using h) (hr.at_ 0 v u rfl rfl)
 | .str,x,_::_::_,us,h,hr=>by simp [YN] at h
 | .list t,x,[],us,h,hr=>by simp [YN] at h
 | .list t,x,[v],us,h,hr=>by
  obtain ⟨u,rfl⟩:∃ u,us=[u]:=List.length_eq_one_iff.1 hr.len.symm
  exact X9 (by simpa [YN] using h) (hr.at_ 0 v u rfl rfl)
 | .list t,x,_::_::_,us,h,hr=>by simp [YN] at h
 | .map k e,x,[],us,h,hr=>by simp [YN] at h
 | .map k e,x,[v],us,h,hr=>by
  obtain ⟨u,rfl⟩:∃ u,us=[u]:=List.length_eq_one_iff.1 hr.len.symm
  exact X9 (by simpa [YN] using h) (hr.at_ 0 v u rfl rfl)
 | .map k e,x,_::_::_,us,h,hr=>by simp [YN] at h
 | .tree a,x,vs,us,h,hr=>by
  simp only [YN] at h
  split at h
  ·rename_i v k hv hk
   rw [Option.map_eq_some_iff] at h
   obtain ⟨ks,hks,rfl⟩:=h
   have hd:=hr.drop a.cells
   rw [hk] at hd
   obtain ⟨u,hu⟩:∃ u,us.drop a.cells=[u]:=List.length_eq_one_iff.1 hd.len.symm
   rw [hu] at hd
   exact Quh.2 ⟨us.take a.cells,u,by rw [← hu,List.take_append_drop],V5 hv (hr.take _),X9 hks (hd.at_ 0 k u rfl rfl)⟩
  ·cases h
theorem RelV.aggL {M:Me} {cs:List V} {v:Value} (h:RelV M (.agg cs) v):∃ arr,v=.agg arr∧RelL M cs arr.toList:=by
 cases h with
 | agg cs arr hl ha h1=>exact ⟨arr,rfl,by simpa using hl,fun i c u hc hu=>ha i c u hc (by simpa using hu),fun u hu=>h1 u (by simpa using hu)⟩
theorem UJ {M : Me} {t : Ty} {x : t.den} {v : V} {u : Value} (h : Y1 t v = some x) (hr : RelV M v u) : RelU M.F t x u := by
  cases t with
  | pair a b =>
    cases v <;> first
      | (simp [Y1] at h; done)
      | (obtain ⟨arr, rfl, hl⟩ := hr.aggL
         exact ⟨arr, rfl, V5 h hl⟩)
  | unit =>
    cases v <;> first
      | (simp [Y1] at h; done)
      | (obtain ⟨arr, rfl, hl⟩ := hr.aggL
         exact ⟨arr, rfl, V5 h hl⟩)
  | tree a =>
    cases v <;> first
      | (simp [Y1] at h; done)
      | (obtain ⟨arr, rfl, hl⟩ := hr.aggL
         exact ⟨arr, rfl, V5 h hl⟩)
  | int k => exact X9 (t := .int k) h hr
  | bool => exact X9 (t := .bool) h hr
  | str => exact X9 (t := .str) h hr
  | list t => exact X9 (t := .list t) h hr
  | map k e => exact X9 (t := .map k e) h hr
end
end Go.Ab
