import Derived.Test.YtkabjoifaffddaaGreatAb12
namespace Go.Ab
variable {R:Type}
theorem ZS {st st':St} {d:Nat} {x:Operand} (h:∀ t∈YP x,st.tm d t=st'.tm d t):st.ev d x=st'.ev d x:=by
 cases x with
 | tmp t=>exact h t (by simp [YP])
 | _=>rfl
theorem QnM {st st':St} {d:Nat}:∀ {xs:List Operand},(∀ t∈xs.flatMap YP,st.tm d t=st'.tm d t)→xs.map (st.ev d)=xs.map (st'.ev d)
 | [],_=>rfl
 | x::xs,h=>by
  rw [List.map_cons,List.map_cons,ZS (fun t ht=>h t (by simp [ht])),QnM (xs:=xs) (fun t ht=>h t (by rw [List.flatMap_cons];exact List.mem_append_right _ ht))]
def Nat1 (F:(V→Option R)→Option R):Prop:=∀ K r,F K=some r→∃ v,K v=some r∧∀ (K':V→Option R) r',K' v=some r'→F K'=some r'
theorem Nat1.out (v:V):Nat1 (R:=R) (fun K=>K v):=fun _ _ h=>⟨v,h,fun _ _ h'=>h'⟩
theorem Nat1.none:Nat1 (R:=R) (fun _=>Option.none):=fun _ _ h=>nomatch h
theorem Nat1.bif {c:Bool} {F G:(V→Option R)→Option R} (h1:Nat1 F) (h2:Nat1 G):Nat1 (fun K=>bif c then F K else G K):=by
 cases c
 ·exact h2
 ·exact h1
theorem QgF {n:Nat} {lo hi:Option V} {f:Int→Int→V}:Nat1 (R:=R) (fun K=>Qgz n lo hi fun l h=>K (f l h)):=by
 intro K r h
 unfold Qgz at h ⊢
 split at h
 ·exact ⟨_,h,fun _ _ h'=>h'⟩
 ·obtain ⟨h0,h⟩:=Qn h
  exact ⟨_,h,fun _ _ h'=>by rw [h0];exact h'⟩
 ·obtain ⟨h0,h⟩:=Qn h
  exact ⟨_,h,fun _ _ h'=>by rw [h0];exact h'⟩
 ·obtain ⟨h0,h⟩:=Qn h
  obtain ⟨h1,h⟩:=Qn h
  exact ⟨_,h,fun _ _ h'=>by rw [h0,h1];exact h'⟩
 ·cases h
theorem QbP {P:Program} {t:TypeId} {cs:List V} {off:Nat}:Nat1 (R:=R) (EX P t cs off):=by
 intro K r h
 unfold EX at h ⊢
 split at h
 case h_2=>cases h
 split at h
 ·obtain ⟨h0,h⟩:=Qn h
  exact ⟨_,h,fun _ _ h'=>by simp only [h0,cond_true];exact h'⟩
 ·split at h
  ·exact ⟨_,h,fun _ _ h'=>h'⟩
  ·cases h
theorem QAW {op:UnOp} {x:V}:Nat1 (R:=R) (unC op x):=by
 intro K r h
 unfold unC at h ⊢
 split at h
 ·exact ⟨_,h,fun _ _ h'=>h'⟩
 ·exact ⟨_,h,fun _ _ h'=>h'⟩
 ·cases h
theorem Qz2 {P:Program} {op:BinOp} {t:TypeId} {x y:V}:Nat1 (R:=R) (Qeg P op t x y):=by
 intro K r h
 unfold Qeg at h ⊢
 split at h
 ·split at h
  ·obtain ⟨h0,h⟩:=Qn h;exact ⟨_,h,fun _ _ h'=>by simp only [h0,cond_true];exact h'⟩
  ·obtain ⟨h0,h⟩:=Qn h;exact ⟨_,h,fun _ _ h'=>by simp only [h0,cond_true];exact h'⟩
  ·split at h
   case isFalse=>cases h
   rename_i hk
   (try simp only [if_pos hk])
   split at h
   case h_4 =>
    revert h
    cases decide (_=(0:Int)) with
    | true=>intro h;cases h
    | false=>intro h;exact ⟨_,h,fun _ _ h'=>h'⟩
   case h_5 =>
    revert h
    cases decide (_=(0:Int)) with
    | true=>intro h;cases h
    | false=>intro h;exact ⟨_,h,fun _ _ h'=>h'⟩
   all_goals first | (cases h;done) | exact ⟨_,h,fun _ _ h'=>h'⟩
 ·split at h
  case h_1=>obtain ⟨h0,h⟩:=Qn h;exact ⟨_,h,fun _ _ h'=>by simp only [h0,cond_true];exact h'⟩
  all_goals first | (cases h;done) | exact ⟨_,h,fun _ _ h'=>h'⟩
 ·split at h
  ·rename_i hu
   (try simp only [hu])
   split at h
   all_goals first | (cases h;done) | exact ⟨_,h,fun _ _ h'=>h'⟩
  ·cases h
 ·split at h
  case h_2=>cases h
  rename_i ty hty
  obtain ⟨h0,h⟩:=Qn h
  (try simp only [hty,h0,cond_true])
  split at h
  case h_2=>cases h
  rename_i u v hu hv
  (try simp only [hu,hv])
  split at h
  all_goals first | (cases h;done) | exact ⟨_,h,fun _ _ h'=>h'⟩
 ·cases h
theorem Qy1 {P:Program} {st:St} {t:TypeId} {a:V}:Nat1 (R:=R) (QfC P st t a):=by
 intro K r h
 unfold QfC at h ⊢
 split at h
 ·exact QbP K r h
 ·split at h
  ·rename_i hb
   (try simp only [hb])
   exact QbP K r h
  ·cases h
 ·split at h
  ·rename_i hb
   (try simp only [hb])
   obtain ⟨h0,h⟩:=Qn h
   obtain ⟨v,h1,h2⟩:=QbP K r h
   exact ⟨v,h1,fun K' r' h'=>by rw [h0];exact h2 K' r' h'⟩
  ·rename_i hb
   (try simp only [hb])
   split at h
   case h_2=>cases h
   rename_i hc
   (try simp only [hc])
   split at h
   case h_2=>cases h
   rename_i hc
   (try simp only [hc])
   obtain ⟨h0,h⟩:=Qn h
   obtain ⟨h1,h⟩:=Qn h
   exact ⟨_,h,fun _ _ h'=>by rw [h0,h1];exact h'⟩
  ·cases h
 ·split at h
  ·rename_i hb
   (try simp only [hb])
   obtain ⟨h0,h⟩:=Qn h
   obtain ⟨v,h1,h2⟩:=QbP K r h
   exact ⟨v,h1,fun K' r' h'=>by rw [h0];exact h2 K' r' h'⟩
  ·cases h
 ·split at h
  ·rename_i hb
   (try simp only [hb])
   obtain ⟨h0,h⟩:=Qn h
   obtain ⟨v,h1,h2⟩:=QbP K r h
   exact ⟨v,h1,fun K' r' h'=>by rw [h0];exact h2 K' r' h'⟩
  ·cases h
 ·cases h
theorem Qz3 {P:Program} {st st':St} {k:Nat→Nat→Bool} {q:Bool} (hb:∀ x y,k x y=true→st.bx x y=st'.bx x y) (hq:q=true→st.rw=st'.rw) (hd:st.dr=st'.dr) {t:TypeId} {a:V} (ha:a.kept k q=true) {K:V→Option R}:QfC P st t a K=QfC P st' t a K:=by
 unfold QfC
 cases a<;>first | rfl | (rw [hd];done) | (simp only [V.kept] at ha;rw [hq ha];done) | (simp only [V.kept] at ha;simp only [hb _ _ ha])
theorem Qst {P:Program} {t:TypeId} {x:V} {f:Nat}:Nat1 (R:=R) (EY P t x f):=by
 intro K r h
 unfold EY at h ⊢
 split at h
 case h_2=>cases h
 revert h
 cases Nat.beq _ 0 with
 | true=>intro h;cases h
 | false =>
  intro h
  simp only [cond_false] at h ⊢
  split at h
  all_goals first | (cases h;done) | exact ⟨_,h,fun _ _ h'=>h'⟩
theorem Qxy {P:Program} {t:TypeId} {x:V} {f:Nat}:Nat1 (R:=R) (Qo8 P t x f):=by
 intro K r h
 unfold Qo8 at h ⊢
 split at h
 ·rename_i he
  (try simp only [he])
  exact QbP K r h
 ·cases h
theorem Qsu {P:Program} {st:St} {t:TypeId} {x i:V}:Nat1 (R:=R) (Ue P st t x i):=by
 intro K r h
 unfold Ue at h ⊢
 split at h
 ·rename_i he
  (try simp only [he])
  split at h
  case h_2=>cases h
  rename_i hc
  (try simp only [hc])
  obtain ⟨h0,h⟩:=Qn h
  exact ⟨_,h,fun _ _ h'=>by rw [h0];exact h'⟩
 ·rename_i he
  (try simp only [he])
  split at h
  case h_2=>cases h
  rename_i hc
  (try simp only [hc])
  obtain ⟨h0,h⟩:=Qn h
  exact ⟨_,h,fun _ _ h'=>by rw [h0];exact h'⟩
 ·rename_i he
  (try simp only [he])
  split at h
  case h_2=>cases h
  rename_i hb
  (try simp only [hb])
  split at h
  case h_2=>cases h
  rename_i hc
  (try simp only [hc])
  obtain ⟨h0,h⟩:=Qn h
  exact ⟨_,h,fun _ _ h'=>by rw [h0];exact h'⟩
 ·rename_i he
  (try simp only [he])
  split at h
  case h_2=>cases h
  rename_i hb
  (try simp only [hb])
  split at h
  case h_2=>cases h
  rename_i hc
  (try simp only [hc])
  obtain ⟨h0,h⟩:=Qn h
  exact ⟨_,h,fun _ _ h'=>by rw [h0];exact h'⟩
 ·rename_i he
  (try simp only [he])
  split at h
  case h_2=>cases h
  rename_i hb
  (try simp only [hb])
  split at h
  case h_2=>cases h
  rename_i hc
  (try simp only [hc])
  obtain ⟨h0,h⟩:=Qn h
  exact ⟨_,h,fun _ _ h'=>by rw [h0];exact h'⟩
 ·rename_i he
  (try simp only [he])
  split at h
  case h_2=>cases h
  rename_i hb
  (try simp only [hb])
  obtain ⟨h0,h⟩:=Qn h
  obtain ⟨h1,h⟩:=Qn h
  exact ⟨_,h,fun _ _ h'=>by rw [h0,h1];exact h'⟩
 ·cases h
theorem QtW {P:Program} {st st':St} {k:Nat→Nat→Bool} {q:Bool} (hb:∀ x y,k x y=true→st.bx x y=st'.bx x y) (hq:q=true→st.rw=st'.rw) (hd:st.dr=st'.dr) {t:TypeId} {x i:V} (hx:x.kept k q=true) {K:V→Option R}:Ue P st t x i K=Ue P st' t x i K:=by
 unfold Ue
 split
 ·rfl
 ·rfl
 ·simp only [V.kept] at hx;simp only [hb _ _ hx]
 ·simp only [V.kept] at hx;rw [hq hx]
 ·rw [hd]
 ·rfl
 ·rfl
theorem QvB {st st':St} {kk:Nat→Nat→Bool} {q:Bool} (hb:∀ x y,kk x y=true→st.bx x y=st'.bx x y) {k v:Ty} {m:V} (hx:m.kept kk q=true):Qd9 st k v m=Qd9 st' k v m:=by
 unfold Qd9
 split
 ·rfl
 ·simp only [V.kept] at hx;rw [hb _ _ hx]
 ·rfl
theorem Qxz {P:Program} {st st':St} {kk:Nat→Nat→Bool} {q:Bool} (hb:∀ x y,kk x y=true→st.bx x y=st'.bx x y) {t:TypeId} {m x:V} {ok:Bool} (hx:m.kept kk q=true) {K:V→Option R}:QdP P st t m x ok K=QdP P st' t m x ok K:=by
 unfold QdP
 split
 ·rw [QvB hb hx]
 ·rfl
theorem Qwu {P:Program} {st:St} {t:TypeId} {m x:V} {ok:Bool}:Nat1 (R:=R) (QdP P st t m x ok):=by
 intro K r h
 unfold QdP at h ⊢
 split at h
 case h_2=>cases h
 rename_i h1
 (try simp only [h1])
 split at h
 case h_2=>cases h
 rename_i h2 h3 h4
 (try simp only [h2,h3,h4])
 revert h
 cases (ok||!(Qny P _ _)) with
 | true=>intro h;cases h
 | false=>intro h;exact ⟨_,h,fun _ _ h'=>h'⟩
theorem QxA {P:Program} {t:TypeId} {x i:V}:Nat1 (R:=R) (Qo9 P t x i):=by
 intro K r h
 unfold Qo9 at h ⊢
 split at h
 ·rename_i he
  (try simp only [he])
  obtain ⟨h0,h⟩:=Qn h
  exact ⟨_,h,fun _ _ h'=>by rw [h0];exact h'⟩
 ·rename_i he
  (try simp only [he])
  split at h
  case h_2=>cases h
  rename_i hb
  (try simp only [hb])
  split at h
  case h_2=>cases h
  rename_i hc
  (try simp only [hc])
  obtain ⟨h0,h⟩:=Qn h
  obtain ⟨h1,h⟩:=Qn h
  exact ⟨_,h,fun _ _ h'=>by rw [h0,h1];exact h'⟩
 ·cases h
theorem Qwv {P:Program} {t:TypeId} {x:V} {lo hi mx:Option V}:Nat1 (R:=R) (QkU P t x lo hi mx):=by
 intro K r h
 unfold QkU at h ⊢
 split at h
 ·rename_i he
  (try simp only [he])
  obtain ⟨h0,h⟩:=Qn h
  obtain ⟨v,h1,h2⟩:=QgF K r h
  exact ⟨v,h1,fun K' r' h'=>by rw [h0];exact h2 K' r' h'⟩
 ·cases h
theorem QxB {P:Program} {t:TypeId} {x:V} {lo hi:Option V}:Nat1 (R:=R) (QrY P t x lo hi):=by
 intro K r h
 unfold QrY at h ⊢
 split at h
 ·rename_i he
  (try simp only [he])
  exact QgF K r h
 ·rename_i he
  (try simp only [he])
  obtain ⟨h0,h⟩:=Qn h
  obtain ⟨v,h1,h2⟩:=QgF K r h
  exact ⟨v,h1,fun K' r' h'=>by rw [h0];exact h2 K' r' h'⟩
 ·rename_i he
  (try simp only [he])
  obtain ⟨h0,h⟩:=Qn h
  split at h
  ·obtain ⟨v,h1,h2⟩:=QgF K r h
   exact ⟨v,h1,fun K' r' h'=>by rw [h0];exact h2 K' r' h'⟩
  ·obtain ⟨v,h1,h2⟩:=QgF K r h
   exact ⟨v,h1,fun K' r' h'=>by rw [h0];exact h2 K' r' h'⟩
 ·cases h
theorem Qww {P:Program} {st:St} {t:TypeId} {k:Nat} {lo hi:Option V}:Nat1 (R:=R) (QkT P st t k lo hi):=by
 intro K r h
 unfold QkT at h ⊢
 split at h
 ·rename_i he
  (try simp only [he])
  split at h
  ·rename_i hk
   (try simp only [hk])
   obtain ⟨h0,h⟩:=Qn h
   obtain ⟨v,h1,h2⟩:=QgF K r h
   exact ⟨v,h1,fun K' r' h'=>by rw [h0];exact h2 K' r' h'⟩
  ·cases h
 ·cases h
theorem QxC {P:Program} {st:St} {t:TypeId} {x:V} {lo hi:Option V}:Nat1 (R:=R) (QhC P st t x lo hi):=by
 unfold QhC
 split
 ·exact Qww
 ·exact QxB
theorem Qy2 {P:Program} {st st':St} (hd:st.dr=st'.dr) {t:TypeId} {x:V} {lo hi:Option V} {K:V→Option R}:QhC P st t x lo hi K=QhC P st' t x lo hi K:=by
 unfold QhC
 split
 ·unfold QkT;rw [hd]
 ·rfl
theorem Qut {P:Program} {s t:TypeId} {x:V}:Nat1 (R:=R) (QrZ P s t x):=by
 intro K r h
 unfold QrZ at h ⊢
 split at h
 ·rename_i he he2;(try simp only [he,he2]);exact ⟨_,h,fun _ _ h'=>h'⟩
 ·rename_i he he2;(try simp only [he,he2]);exact ⟨_,h,fun _ _ h'=>h'⟩
 ·rename_i he he2
  (try simp only [he,he2])
  split at h
  ·rename_i h3;(try simp only [h3]);exact ⟨_,h,fun _ _ h'=>h'⟩
  ·cases h
 ·rename_i he he2
  (try simp only [he,he2])
  split at h
  ·rename_i h3;(try simp only [h3])
   obtain ⟨h0,h⟩:=Qn h
   exact ⟨_,h,fun _ _ h'=>by rw [h0];exact h'⟩
  ·cases h
 ·rename_i he he2
  (try simp only [he,he2])
  split at h
  ·rename_i h3;(try simp only [h3])
   obtain ⟨h0,h⟩:=Qn h
   exact ⟨_,h,fun _ _ h'=>by rw [h0];exact h'⟩
  ·cases h
 ·rename_i he he2
  (try simp only [he,he2])
  split at h
  ·rename_i h3;(try simp only [h3]);exact ⟨_,h,fun _ _ h'=>h'⟩
  ·cases h
 ·cases h
theorem QxD {P:Program} {t:TypeId} {ps:List (Nat × V)}:Nat1 (R:=R) (Qpa P t ps):=by
 intro K r h
 unfold Qpa at h ⊢
 split at h
 ·rename_i he he2
  (try simp only [he,he2])
  obtain ⟨h0,h⟩:=Qn h
  rw [h0]
  simp only [cond_true]
  split at h
  ·rename_i h3;(try simp only [h3]);exact ⟨_,h,fun _ _ h'=>h'⟩
  ·cases h
 ·rename_i he he2
  (try simp only [he,he2])
  obtain ⟨h0,h⟩:=Qn h
  rw [h0]
  simp only [cond_true]
  split at h
  ·rename_i h3;(try simp only [h3]);exact ⟨_,h,fun _ _ h'=>h'⟩
  ·cases h
 ·cases h
theorem Qz4 {P:Program} {st:St} {t:TypeId} {x:V}:Nat1 (R:=R) (Qu6 P st t x):=by
 intro K r h
 unfold Qu6 at h ⊢
 split at h
 ·split at h
  ·rename_i h3;(try simp only [h3]);exact ⟨_,h,fun _ _ h'=>h'⟩
  ·cases h
 ·split at h
  ·rename_i h3;(try simp only [h3]);exact ⟨_,h,fun _ _ h'=>h'⟩
  ·cases h
 ·split at h
  ·rename_i h3;(try simp only [h3]);exact ⟨_,h,fun _ _ h'=>h'⟩
  ·cases h
 ·split at h
  ·rename_i h3;(try simp only [h3]);exact ⟨_,h,fun _ _ h'=>h'⟩
  ·cases h
 ·split at h
  ·rename_i h3 h4;(try simp only [h3,h4]);exact ⟨_,h,fun _ _ h'=>h'⟩
  ·cases h
 ·split at h
  ·rename_i h3 h4;(try simp only [h3,h4]);exact ⟨_,h,fun _ _ h'=>h'⟩
  ·cases h
 ·split at h
  ·rename_i h3 h4;(try simp only [h3,h4]);exact ⟨_,h,fun _ _ h'=>h'⟩
  ·cases h
 ·cases h
theorem QAX {P:Program} {st st':St} {k:Nat→Nat→Bool} {q:Bool} (hb:∀ x y,k x y=true→st.bx x y=st'.bx x y) (hq:q=true→st.rw=st'.rw) (hd:st.dr=st'.dr) {t:TypeId} {x:V} (hx:x.kept k q=true) {K:V→Option R}:Qu6 P st t x K=Qu6 P st' t x K:=by
 unfold Qu6
 split
 ·rfl
 ·rfl
 ·rfl
 ·rfl
 ·simp only [V.kept] at hx;simp only [hb _ _ hx]
 ·simp only [V.kept] at hx;rw [hq hx]
 ·rw [hd]
 ·rfl
theorem Qz5 {x y:V}:Nat1 (R:=R) (QyP x y):=by
 intro K r h
 unfold QyP at h ⊢
 split at h
 ·split at h
  ·rename_i hk;(try simp only [if_pos hk]);exact ⟨_,h,fun _ _ h'=>h'⟩
  ·cases h
 ·cases h
theorem Qz6 {x y:V}:Nat1 (R:=R) (QyQ x y):=by
 intro K r h
 unfold QyQ at h ⊢
 split at h
 ·split at h
  ·rename_i hk;(try simp only [if_pos hk]);exact ⟨_,h,fun _ _ h'=>h'⟩
  ·cases h
 ·cases h
theorem QmF {st st':St} {d:Nat}:∀ {ps:List (Nat × Operand)},(∀ t∈ps.flatMap (fun p=>YP p.2),st.tm d t=st'.tm d t)→ps.map (fun p=>(p.1,st.ev d p.2))=ps.map (fun p=>(p.1,st'.ev d p.2))
 | [],_=>rfl
 | x::xs,h=>by
  rw [List.map_cons,List.map_cons,ZS (fun t ht=>h t (by simp [ht])),QmF (ps:=xs) (fun t ht=>h t (by rw [List.flatMap_cons];exact List.mem_append_right _ ht))]
theorem Qem {st st':St} {d:Nat} {x:Option Operand} (h:∀ t∈x.toList.flatMap YP,st.tm d t=st'.tm d t):x.map (st.ev d)=x.map (st'.ev d):=by
 cases x with
 | none=>rfl
 | some x=>simp only [Option.map_some];rw [ZS (fun t ht=>h t (by simpa using ht))]
def Qz7 (c x y:V) (K:V→Option R):Option R :=
 match c with
 | .d .bool t=>bif t then K x else K y
 | _=>none
theorem Qy3 {c x y:V}:Nat1 (R:=R) (Qz7 c x y):=by
 intro K r h
 unfold Qz7 at h ⊢
 split at h
 ·rename_i t
  cases t
  ·exact ⟨_,h,fun _ _ h'=>h'⟩
  ·exact ⟨_,h,fun _ _ h'=>h'⟩
 ·cases h
def Qpv (x:V) (K:V→Option R):Option R :=
 match x with
 | .ptr a b c=>K (.ptr a b c)
 | .eptr cs=>K (.eptr cs)
 | .rptr a b c e f=>K (.rptr a b c e f)
 | _=>none
theorem QtX {x:V}:Nat1 (R:=R) (Qpv x):=by
 intro K r h
 unfold Qpv at h ⊢
 split at h
 all_goals first | (cases h;done) | exact ⟨_,h,fun _ _ h'=>h'⟩
def Qsv (x:V) (i:Nat) (K:V→Option R):Option R :=
 match x with
 | .tup vs=>match vs[i]? with
  | some v=>K v
  | none=>none
 | _=>none
theorem QvC {x:V} {i:Nat}:Nat1 (R:=R) (Qsv x i):=by
 intro K r h
 unfold Qsv at h ⊢
 split at h
 ·split at h
  ·rename_i hv;(try simp only [hv]);exact ⟨_,h,fun _ _ h'=>h'⟩
  ·cases h
 ·cases h
theorem ml {P:Nat→Prop} {a b:List Nat} (h:∀ t∈a++b,P t):(∀ t∈a,P t)∧(∀ t∈b,P t):=⟨fun t ht=>h t (List.mem_append_left _ ht),fun t ht=>h t (List.mem_append_right _ ht)⟩
theorem QvD (k:Nat→Nat→Bool) (q:Bool) (v:Value):(WP v).kept k q=true:=by
 unfold WP
 split
 ·rfl
 ·cases inK _ _<;>rfl
 ·cases Nat.ble _ _<;>rfl
 ·rfl
 ·rfl
theorem QnN {k:Nat→Nat→Bool} {q:Bool} {st:St} {d:Nat} {x:Operand} (h:∀ t∈YP x,(st.tm d t).kept k q=true):(st.ev d x).kept k q=true:=by
 cases x with
 | tmp t=>exact h t (by simp [YP])
 | const v=>exact QvD k q v
 | func f=>rfl
 | global g=>rfl
def Eff.boxed?:Eff→Bool | .boxed ..=>true | _=>false
def Eff.grown?:Eff→Bool | .grown ..=>true | _=>false
def Eff.deep?:Eff→Bool | .deep ..=>true | _=>false
theorem Qy4 (C C':Ctx R) (hP:C.P=C'.P) {st:St} {d:Nat} {path path':List Nat} {here here':Nat} {o:Oper} (hl:Vh C.P o=true) {k:Nat→Nat→Bool} {q:Bool} (hkp:∀ t∈Uf o,(st.tm d t).kept k q=true) {K:Z9 R} {r:R}
  (hs:Jw C d path here o st K=some r):∃ v,K (st.put d o.dst v)=some r∧∀ st':St,(∀ t∈Uf o,st'.tm d t=st.tm d t)→(∀ x y,k x y=true→st'.bx x y=st.bx x y)→((q=true→st'.rw=st.rw)∧(QtH o=true→st'.dr=st.dr))→∀ (K':Z9 R) r',K' (st'.put d o.dst v)=some r'→Jw C' d path' here' o st' K'=some r':=by
 have fin:∀ {F:(V→Option R)→Option R},Nat1 F→F (fun v=>K (st.put d o.dst v))=some r→(∀ st':St,(∀ t∈Uf o,st'.tm d t=st.tm d t)→(∀ x y,k x y=true→st'.bx x y=st.bx x y)→((q=true→st'.rw=st.rw)∧(QtH o=true→st'.dr=st.dr))→∀ K':Z9 R,Jw C' d path' here' o st' K'=F (fun v=>K' (st'.put d o.dst v))) →
   ∃ v,K (st.put d o.dst v)=some r∧∀ st':St,(∀ t∈Uf o,st'.tm d t=st.tm d t)→(∀ x y,k x y=true→st'.bx x y=st.bx x y)→((q=true→st'.rw=st.rw)∧(QtH o=true→st'.dr=st.dr))→∀ (K':Z9 R) r',K' (st'.put d o.dst v)=some r'→Jw C' d path' here' o st' K'=some r':=by
  intro F hF h he
  obtain ⟨v,h1,h2⟩:=hF _ _ h
  exact ⟨v,h1,fun st' hag hbx hq K' r' h'=>(he st' hag hbx hq K').trans (h2 (fun v=>K' (st'.put d o.dst v)) r' h')⟩
 cases hop:o.op<;>simp only [Jw,hop] at hs<;>(try (cases hs;done))<;>(try (simp [Vh,hop] at hl;done))<;>simp only [Uf,hop] at fin hkp ⊢
 case move x=>exact fin (.out _) hs fun st' hag _ _ K'=>by simp only [Jw,hop];rw [ZS hag]
 case assign x=>exact fin (.out _) hs fun st' hag _ _ K'=>by simp only [Jw,hop];rw [ZS hag,hP]
 case pick c x y =>
  refine fin (F:=Qz7 (st.ev d c) (st.ev d x) (st.ev d y)) Qy3 hs fun st' hag _ _ K'=>?_
  obtain ⟨h1,h3⟩:=ml hag
  obtain ⟨h1,h2⟩:=ml h1
  simp only [Jw,hop]
  rw [ZS h1,ZS h2,ZS h3]
  rfl
 case binOp op t x y t' =>
  have hn:Qqs y=false:=by simpa [Vh,hop] using hl
  rw [hn] at hs
  refine fin (F:=Qeg C.P op t (st.ev d x) (st.ev d y)) Qz2 hs fun st' hag _ _ K'=>?_
  obtain ⟨h1,h2⟩:=ml hag
  simp only [Jw,hop,hn,cond_false]
  rw [ZS h1,ZS h2,hP]
 case unOp op t x=>exact fin QAW hs fun st' hag _ _ K'=>by simp only [Jw,hop];rw [ZS hag]
 case load t x =>
  have hn:Qpd x=none:=by simpa [Vh,hop] using hl
  rw [hn] at hs
  exact fin (F:=QfC C.P st t (st.ev d x)) Qy1 hs fun st' hag hbx hq K'=>by simp only [Jw,hop,hn];rw [ZS hag,Qz3 hbx hq.1 (hq.2 (by simp [QtH,hop])) (QnN hkp),hP]
 case nilCheck x =>
  refine fin (F:=Qpv (st.ev d x)) QtX hs fun st' hag _ _ K'=>?_
  simp only [Jw,hop];rw [ZS hag];rfl
 case fieldAddr t x f=>exact fin (F:=EY C.P t (st.ev d x) f) Qst hs fun st' hag _ _ K'=>by simp only [Jw,hop];rw [ZS hag,hP]
 case field t x f=>exact fin (F:=Qo8 C.P t (st.ev d x) f) Qxy hs fun st' hag _ _ K'=>by simp only [Jw,hop];rw [ZS hag,hP]
 case indexAddr t x i =>
  refine fin (F:=Ue C.P st t (st.ev d x) (st.ev d i)) Qsu hs fun st' hag hbx hq K'=>?_
  obtain ⟨h1,h2⟩:=ml hag
  simp only [Jw,hop]
  rw [ZS h1,ZS h2,QtW hbx hq.1 (hq.2 (by simp [QtH,hop])) (QnN (ml hkp).1),hP]
 case lookup t x i ok =>
  refine fin (F:=QdP C.P st t (st.ev d x) (st.ev d i) ok) Qwu hs fun st' hag hbx _ K'=>?_
  obtain ⟨h1,h2⟩:=ml hag
  simp only [Jw,hop]
  rw [ZS h1,ZS h2,Qxz hbx (QnN (ml hkp).1),hP]
 case index t x i =>
  refine fin (F:=Qo9 C.P t (st.ev d x) (st.ev d i)) QxA hs fun st' hag _ _ K'=>?_
  obtain ⟨h1,h2⟩:=ml hag
  simp only [Jw,hop]
  rw [ZS h1,ZS h2,hP]
 case slice t x lo hi mx =>
  cases mx with
  | some m =>
   refine fin (F:=QkU C.P t (st.ev d x) (lo.map (st.ev d)) (hi.map (st.ev d)) (some (st.ev d m))) Qwv hs fun st' hag _ _ K'=>?_
   obtain ⟨h1,h4⟩:=ml hag
   obtain ⟨h1,h3⟩:=ml h1
   obtain ⟨h1,h2⟩:=ml h1
   have h5:=Qem h4
   simp only [Option.map_some,Option.some.injEq] at h5
   simp only [Jw,hop]
   rw [ZS h1,Qem h2,Qem h3,h5,hP]
  | none =>
   refine fin (F:=QhC C.P st t (st.ev d x) (lo.map (st.ev d)) (hi.map (st.ev d))) QxC hs fun st' hag _ hq K'=>?_
   obtain ⟨h1,_⟩:=ml hag
   obtain ⟨h1,h3⟩:=ml h1
   obtain ⟨h1,h2⟩:=ml h1
   simp only [Jw,hop]
   rw [ZS h1,Qem h2,Qem h3,hP,Qy2 (hq.2 (by simp [QtH,hop]))]
 case convert s t x=>exact fin (F:=QrZ C.P s t (st.ev d x)) Qut hs fun st' hag _ _ K'=>by simp only [Jw,hop];rw [ZS hag,hP]
 case extract x i =>
  refine fin (F:=Qsv (st.ev d x) i) QvC hs fun st' hag _ _ K'=>?_
  simp only [Jw,hop];rw [ZS hag];rfl
 case build t ps=>exact fin (F:=Qpa C.P t (ps.toList.map fun p=>(p.1,st.ev d p.2))) QxD hs fun st' hag _ _ K'=>by simp only [Jw,hop];rw [QmF hag,hP]
 case makeFunc f first caps =>
  cases f with
  | func g =>
   simp only at hs
   split at hs
   case h_2=>cases hs
   rename_i hfirst
   refine fin (F:=fun K=>K (.fn g (caps.toList.map (st.ev d)))) (.out _) hs fun st' hag _ _ K'=>?_
   simp only [Jw,hop,hfirst]
   rw [QnM hag]
  | _=>simp only at hs;cases hs
 case call c =>
  obtain ⟨callee,args,argTypes⟩:=c
  cases callee with
  | value f=>simp [Vh,hop] at hl
  | invoke r m=>simp only at hs;cases hs
  | builtin b =>
   cases b<;>simp only at hs<;>(try (cases hs;done))<;>(try (simp [Vh,hop] at hl;done))
   case len =>
    split at hs
    case h_2=>cases hs
    rename_i x t hargs htypes
    simp only [hargs] at fin hkp ⊢
    refine fin (F:=Qu6 C.P st t (st.ev d x)) Qz4 hs fun st' hag hbx hq K'=>?_
    simp only [Jw,hop,hargs,htypes]
    rw [ZS (x:=x) (fun t ht=>hag t (by simpa using ht)),QAX hbx hq.1 (hq.2 (by simp [QtH,hop])) (QnN (x:=x) (fun t ht=>hkp t (by simpa using ht))),hP]
   case min =>
    split at hs
    case h_2=>cases hs
    rename_i x y hargs
    simp only [hargs] at fin ⊢
    refine fin (F:=QyP (st.ev d x) (st.ev d y)) Qz5 hs fun st' hag hbx hq K'=>?_
    simp only [Jw,hop,hargs]
    rw [ZS (x:=x) (fun t ht=>hag t (by simp [ht])),ZS (x:=y) (fun t ht=>hag t (by simp [ht]))]
   case max =>
    split at hs
    case h_2=>cases hs
    rename_i x y hargs
    simp only [hargs] at fin ⊢
    refine fin (F:=QyQ (st.ev d x) (st.ev d y)) Qz6 hs fun st' hag hbx hq K'=>?_
    simp only [Jw,hop,hargs]
    rw [ZS (x:=x) (fun t ht=>hag t (by simp [ht])),ZS (x:=y) (fun t ht=>hag t (by simp [ht]))]
theorem Qy5 (C C':Ctx R) (hP:C.P=C'.P) {st:St} {d:Nat} {path path':List Nat} {here here':Nat} {o:Oper} (hl:QdR o=true) {k:Nat→Nat→Bool} {q:Bool} (hkp:∀ t∈Uf o,(st.tm d t).kept k q=true) (hqg:QhE o=true→q=false) (hI:Vq C.I (here::path)=none) (hI':Vq C'.I (here'::path')=none) {K:Z9 R} {r:R}
  (hs:Jw C d path here o st K=some r):∃ e:Eff,K (e.app d o.dst st)=some r∧(e.boxed? = true→Qug o=true∧∀ t,o.dst=some t→st.bx d t=.none)∧(e.grown? = true→QhE o=true)∧e.deep? = false ∧
   ∀ st':St,(∀ t∈Uf o,st'.tm d t=st.tm d t)→(e.boxed? = true→∀ t,o.dst=some t→st'.bx d t=.none)→(e.grown? = true→st'.nt=st.nt∧st'.lv=st.lv)→∀ (K':Z9 R) r',K' (e.app d o.dst st')=some r'→Jw C' d path' here' o st' K'=some r':=by
 cases hop:o.op<;>simp only [Jw,hop] at hs<;>(try (cases hs;done))<;>(try (simp [QdR,hop] at hl;done))<;>simp only [Uf,hop] at hkp ⊢
 case alloc e =>
  split at hs
  case h_2=>cases hs
  rename_i s z hdst hz
  split at hs
  case h_2=>cases hs
  rename_i hb
  refine ⟨.boxed (.ptr d s 0) (.cells z),by unfold Eff.app;simp only [hdst];exact hs,fun _=>⟨by simp [Qug,hop],fun t ht=>by rw [hdst] at ht;cases ht;exact hb⟩,(fun h=>by cases h),rfl,fun st' _ hb' _ K' r' h'=>?_⟩
  have hb2:=hb' rfl s hdst
  simp only [Jw,hop,hdst,← hP,hz,hb2]
  unfold Eff.app at h'
  simp only [hdst] at h'
  exact h'
 case box e x =>
  split at hs
  case h_2=>cases hs
  rename_i s hdst
  split at hs
  case h_2=>cases hs
  rename_i hb
  obtain ⟨hp,hs⟩:=Qn hs
  refine ⟨.boxed (.ptr d s 0) (.cells (st.ev d x).cellsOf),by unfold Eff.app;simp only [hdst];exact hs,fun _=>⟨by simp [Qug,hop],fun t ht=>by rw [hdst] at ht;cases ht;exact hb⟩,(fun h=>by cases h),rfl,fun st' hag hb' _ K' r' h'=>?_⟩
  have hb2:=hb' rfl s hdst
  simp only [Jw,hop,hdst,hb2]
  rw [ZS hag,hp]
  unfold Eff.app at h'
  simp only [hdst] at h'
  exact h'
 case convert s t x =>
  obtain ⟨v,h1,h2⟩:=Qut _ _ hs
  refine ⟨.val v,h1,(fun h=>by cases h),(fun h=>by cases h),rfl,fun st' hag _ _ K' r' h'=>?_⟩
  simp only [Jw,hop]
  rw [ZS hag,← hP]
  exact h2 (fun v=>K' (st'.put d o.dst v)) r' h'
 case buildSlice t n ps =>
  rw [hI] at hs
  simp only at hs
  unfold QcC at hs
  split at hs
  case h_2=>cases hs
  rename_i e he
  split at hs
  case h_2=>cases hs
  rename_i ty hty
  split at hs
  case h_2=>cases hs
  rename_i z hz
  obtain ⟨h0,hs⟩:=Qn hs
  split at hs
  case h_2=>cases hs
  rename_i xs hxs
  refine ⟨.grown none (.own st.nt ty xs),hs,(fun h=>by cases h),fun _=>by simp [QhE,hop],rfl,fun st' hag _ hg K' r' h'=>?_⟩
  obtain ⟨g1,g2⟩:=hg rfl
  simp only [Jw,hop,hI']
  unfold QcC
  rw [QmF hag,← hP]
  simp only [he,hty,hz,h0,cond_true,hxs,g1]
  exact h'
 case makeSlice t l c =>
  rw [hI] at hs
  simp only at hs
  unfold QbJ at hs
  split at hs
  case h_2=>cases hs
  rename_i e s he hdst
  split at hs
  case h_2=>cases hs
  rename_i ty hty
  split at hs
  case h_2=>cases hs
  rename_i z hz
  split at hs
  case h_2=>cases hs
  rename_i n m hl1 hc1
  split at hs
  case h_2=>cases hs
  rename_i hb
  obtain ⟨h0,hs⟩:=Qn hs
  refine ⟨.boxed (.msl d s) (.rows ty (List.replicate (Int.toNat n) z)),by unfold Eff.app;simp only [hdst];rw [hdst] at hs;exact hs,fun _=>⟨by simp [Qug,hop],fun t ht=>by rw [hdst] at ht;cases ht;exact hb⟩,(fun h=>by cases h),rfl,fun st' hag hb' _ K' r' h'=>?_⟩
  have hb2:=hb' rfl s hdst
  obtain ⟨a1,a2⟩:=ml hag
  simp only [Jw,hop,hI']
  unfold QbJ
  rw [ZS a1,ZS a2,← hP]
  simp only [he,hdst,hty,hz,hl1,hc1,hb2,h0,cond_true]
  unfold Eff.app at h'
  simp only [hdst] at h'
  exact h'
 case call c =>
  obtain ⟨callee,args,argTypes⟩:=c
  cases callee with
  | value f=>simp [QdR,hop] at hl
  | invoke r m=>simp only at hs;cases hs
  | builtin b =>
   cases b<;>simp only at hs<;>(try (cases hs;done))<;>(try (simp [QdR,hop] at hl;done))
   case append =>
    split at hs
    case h_2=>cases hs
    rename_i s x t t' hargs htypes
    obtain ⟨ht,hs⟩:=Qn hs
    simp only [hargs] at hkp ⊢
    rw [hI] at hs
    simp only at hs
    unfold QkV at hs
    split at hs
    case h_2=>cases hs
    rename_i e he
    split at hs
    case h_2=>cases hs
    rename_i ty hty
    split at hs
    case h_2=>cases hs
    rename_i z hz
    revert hs
    cases hcz:Nat.beq ty.cells 0 with
    | true=>intro hs;cases hs
    | false =>
     intro hs
     simp only [cond_false] at hs
     split at hs
     case h_2=>cases hs
     rename_i ys hys
     have es:∀ {st':St},(∀ t∈[s,x].flatMap YP,st'.tm d t=st.tm d t)→st'.ev d s=st.ev d s∧st'.ev d x=st.ev d x:=fun hag =>
      ⟨ZS (fun t ht=>hag t (by simp [ht])),ZS (fun t ht=>hag t (by simp [ht]))⟩
     split at hs
     ·rename_i hv
      obtain ⟨h0,hs⟩:=Qn hs
      refine ⟨.grown none (.own st.nt ty ys),hs,(fun h=>by cases h),fun _=>by simp [QhE,hop],rfl,fun st' hag _ hg K' r' h'=>?_⟩
      obtain ⟨g1,g2⟩:=hg rfl
      obtain ⟨e1,e2⟩:=es hag
      simp only [Jw,hop,hargs,htypes,ht,cond_true,hI']
      unfold QkV
      rw [e1,e2,← hP]
      simp only [he,hty,hz,hcz,cond_false,hys,hv,h0,cond_true,g1]
      exact h'
     ·rename_i tok ty' xs hv
      split at hs
      case h_2=>cases hs
      rename_i xs' hc
      obtain ⟨hlv,hs⟩:=Qn hs
      obtain ⟨h0,hs⟩:=Qn hs
      refine ⟨.grown (some tok) (.own st.nt ty (xs'++ys)),hs,(fun h=>by cases h),fun _=>by simp [QhE,hop],rfl,fun st' hag _ hg K' r' h'=>?_⟩
      obtain ⟨g1,g2⟩:=hg rfl
      obtain ⟨e1,e2⟩:=es hag
      simp only [Jw,hop,hargs,htypes,ht,cond_true,hI']
      unfold QkV
      rw [e1,e2,← hP]
      simp only [he,hty,hz,hcz,cond_false,hys,hv,hc,g2,hlv,h0,cond_true,g1]
      exact h'
     ·rename_i tok hv
      have:=QnN (k:=k) (q:=q) (st:=st) (d:=d) (x:=s) (fun t ht=>hkp t (by simp [ht]))
      rw [hv,hqg (by simp [QhE,hop])] at this
      cases this
     ·cases hs
section
variable {P:Program} {base:Base} {w0:Orig} {dp nn:Nat} {st:St} {θ:Nat→Nat→Value} {M:Me} {a:Act} {w:World}
theorem QxE (C:Ctx R) (hP:C.P=P) (h:RelA P base w0 dp nn st θ M a w) {path:List Nat} {here:Nat} {o:Oper} (hl:Qei o=true) {K:Z9 R} {r:R} (hs:Jw C dp path here o st K=some r) :
  ∃ v u,K (st.put dp o.dst v)=some r∧RelV M v u∧v.le dp=true∧∀ w',(execOp a.eval o).run P w'=.ok (.value u) w':=by
 subst hP
 have flat:∀ {s:Sem Value},GivesFlat C.P M w (fun v=>K (st.put dp o.dst v)) r s→(execOp a.eval o=(do pure (.value (← s))))→∃ v u,K (st.put dp o.dst v)=some r∧RelV M v u∧v.le dp=true∧∀ w',(execOp a.eval o).run C.P w'=.ok (.value u) w':=by
  intro s hg hrun
  obtain ⟨v,u,h1,h2,h3,h4⟩:=hg
  refine ⟨v,u,h1,h3,h4 dp,fun w'=>?_⟩
  rw [hrun,Sem.run_bind,h2 w']
  rfl
 cases hop:o.op<;>simp only [Jw,hop] at hs<;>(try (simp [Qei,hop] at hl;done))
 case move x=>exact ⟨_,_,hs,(h.ev x).1,(h.ev x).2,fun w'=>by simp [execOp,hop]⟩
 case assign x=>exact ⟨_,_,hs,(h.evA _ x _).1,(h.evA _ x _).2,fun w'=>by simp [execOp,hop]⟩
 case pick c x y =>
  split at hs
  case h_2=>cases hs
  rename_i t hc0
  have hcv:=(h.ev c).1
  rw [hc0] at hcv
  have hcv:=hcv.bool_inv
  cases t with
  | true=>exact ⟨_,_,hs,(h.ev x).1,(h.ev x).2,fun w'=>by simp [execOp,hop,hcv,asBool]⟩
  | false=>exact ⟨_,_,hs,(h.ev y).1,(h.ev y).2,fun w'=>by simp [execOp,hop,hcv,asBool]⟩
 case binOp op t x y t' =>
  have hn:Qqs y=false:=by simpa [Qei,hop] using hl
  rw [hn] at hs
  exact flat (Qmt (X:=x) (Y:=y) (w:=w) hs (h.ev x).1 (h.ev y).1) (by simp [execOp,hop])
 case fieldAddr t x f =>
  obtain ⟨v,u,h1,h2,h3,h4⟩:=Qio (P:=C.P) hs (h.ev x).1 (h.ev x).2
  refine ⟨v,u,h1,h3,h4,fun w'=>?_⟩
  have:execOp a.eval o=(do pure (.value (← Instr.fieldAt t (a.eval x) f))):=by simp [execOp,hop]
  rw [this,Sem.run_bind,h2 w']
  rfl
 case unOp op t x=>exact flat (Quj (P:=C.P) (w:=w) hs (h.ev x).1) (by simp [execOp,hop])
 case extract x i =>
  split at hs
  case h_2=>cases hs
  rename_i vs he
  split at hs
  case h_2=>cases hs
  rename_i v hv
  have hx:=h.ev x
  rw [he] at hx
  obtain ⟨u,k1,k2,k3⟩:=QlQ (P:=C.P) hx.1 hx.2 hv
  refine ⟨v,u,hs,k2,k3,fun w'=>?_⟩
  have:execOp a.eval o=(do pure (.value (← Instr.extract (a.eval x) i))):=by simp [execOp,hop]
  rw [this,Sem.run_bind,k1 w']
  rfl
end
end Go.Ab
