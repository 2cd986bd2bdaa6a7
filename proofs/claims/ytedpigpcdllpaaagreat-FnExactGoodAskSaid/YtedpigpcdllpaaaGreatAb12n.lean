import Derived.Test.YtedpigpcdllpaaaGreatAb12
namespace Go.Ab
variable {R : Type}
theorem Z0 {st st' : St} {d : Nat} {x : Operand} (h : ∀ t ∈ Y1 x,st.tm d t = st'.tm d t) : st.ev d x = st'.ev d x:=by
 cases x with
 | tmp t=>exact h t (by simp [Y1])
 | _=>rfl
theorem QsV {st st' : St} {d : Nat} : ∀ {xs : List Operand},(∀ t ∈ xs.flatMap Y1,st.tm d t = st'.tm d t) → xs.map (st.ev d) = xs.map (st'.ev d)
 | [],_=>rfl
 | x :: xs,h=>by
  rw [List.map_cons,List.map_cons,Z0 (fun t ht=>h t (by simp [ht])),QsV (xs:=xs) (fun t ht=>h t (by rw [List.flatMap_cons]; exact List.mem_append_right _ ht))]
def Nat1 (F : (V → Option R) → Option R) : Prop:=∀ K r,F K = some r → ∃ v,K v = some r ∧ ∀ (K' : V → Option R) r',K' v = some r' → F K' = some r'
theorem Nat1.out (v : V) : Nat1 (R:=R) (fun K=>K v):=fun _ _ h=>⟨v,h,fun _ _ h'=>h'⟩
theorem Nat1.none : Nat1 (R:=R) (fun _=>Option.none):=fun _ _ h=>nomatch h
theorem Nat1.bif {c : Bool} {F G : (V → Option R) → Option R} (h1 : Nat1 F) (h2 : Nat1 G) : Nat1 (fun K=>bif c then F K else G K):=by
 cases c
 ·exact h2
 ·exact h1
theorem Qnd {n : Nat} {lo hi : Option V} {f : Int → Int → V} : Nat1 (R:=R) (fun K=>QqY n lo hi fun l h=>K (f l h)):=by
 intro K r h
 unfold QqY at h ⊢
 split at h
 ·exact ⟨_,h,fun _ _ h'=>h'⟩
 ·obtain ⟨h0,h⟩:=Qs h
  exact ⟨_,h,fun _ _ h'=>by rw [h0]; exact h'⟩
 ·obtain ⟨h0,h⟩:=Qs h
  exact ⟨_,h,fun _ _ h'=>by rw [h0]; exact h'⟩
 ·obtain ⟨h0,h⟩:=Qs h
  obtain ⟨h1,h⟩:=Qs h
  exact ⟨_,h,fun _ _ h'=>by rw [h0,h1]; exact h'⟩
 ·cases h
theorem QcT {P : Program} {t : TypeId} {cs : List V} {off : Nat} : Nat1 (R:=R) (QaB P t cs off):=by
 intro K r h
 unfold QaB at h ⊢
 split at h
 case h_2=>cases h
 split at h
 ·obtain ⟨h0,h⟩:=Qs h
  exact ⟨_,h,fun _ _ h'=>by simp only [h0,cond_true]; exact h'⟩
 ·split at h
  ·exact ⟨_,h,fun _ _ h'=>h'⟩
  ·cases h
theorem QGd {op : UnOp} {x : V} : Nat1 (R:=R) (unC op x):=by
 intro K r h
 unfold unC at h ⊢
 split at h
 ·exact ⟨_,h,fun _ _ h'=>h'⟩
 ·exact ⟨_,h,fun _ _ h'=>h'⟩
 ·cases h
theorem QFs {P : Program} {op : BinOp} {t : TypeId} {x y : V} : Nat1 (R:=R) (QsB P op t x y):=by
 intro K r h
 unfold QsB at h ⊢
 split at h
 ·split at h
  ·obtain ⟨h0,h⟩:=Qs h; exact ⟨_,h,fun _ _ h'=>by simp only [h0,cond_true]; exact h'⟩
  ·obtain ⟨h0,h⟩:=Qs h; exact ⟨_,h,fun _ _ h'=>by simp only [h0,cond_true]; exact h'⟩
  ·split at h
   case isFalse=>cases h
   rename_i hk
   (try simp only [if_pos hk])
   split at h
   case h_4 =>
    revert h
    cases decide (_ = (0 : Int)) with
    | true=>intro h; cases h
    | false=>intro h; exact ⟨_,h,fun _ _ h'=>h'⟩
   case h_5 =>
    revert h
    cases decide (_ = (0 : Int)) with
    | true=>intro h; cases h
    | false=>intro h; exact ⟨_,h,fun _ _ h'=>h'⟩
   all_goals first | (cases h; done) | exact ⟨_,h,fun _ _ h'=>h'⟩
 ·split at h
  case h_1=>obtain ⟨h0,h⟩:=Qs h; exact ⟨_,h,fun _ _ h'=>by simp only [h0,cond_true]; exact h'⟩
  all_goals first | (cases h; done) | exact ⟨_,h,fun _ _ h'=>h'⟩
 ·split at h
  ·rename_i hu
   (try simp only [hu])
   split at h
   all_goals first | (cases h; done) | exact ⟨_,h,fun _ _ h'=>h'⟩
  ·cases h
 ·split at h
  case h_2=>cases h
  rename_i ty hty
  obtain ⟨h0,h⟩:=Qs h
  (try simp only [hty,h0,cond_true])
  split at h
  case h_2=>cases h
  rename_i u v hu hv
  (try simp only [hu,hv])
  split at h
  all_goals first | (cases h; done) | exact ⟨_,h,fun _ _ h'=>h'⟩
 ·cases h
theorem QEu {P : Program} {st : St} {t : TypeId} {a : V} : Nat1 (R:=R) (Qhm P st t a):=by
 intro K r h
 unfold Qhm at h ⊢
 split at h
 ·exact QcT K r h
 ·split at h
  ·rename_i hb
   (try simp only [hb])
   exact QcT K r h
  ·cases h
 ·split at h
  ·rename_i hb
   (try simp only [hb])
   obtain ⟨h0,h⟩:=Qs h
   obtain ⟨v,h1,h2⟩:=QcT K r h
   exact ⟨v,h1,fun K' r' h'=>by rw [h0]; exact h2 K' r' h'⟩
  ·rename_i hb
   (try simp only [hb])
   split at h
   case h_2=>cases h
   rename_i hc
   (try simp only [hc])
   split at h
   case h_2=>cases h
   rename_i hc
   (try simp only [hc])
   obtain ⟨h0,h⟩:=Qs h
   obtain ⟨h1,h⟩:=Qs h
   exact ⟨_,h,fun _ _ h'=>by rw [h0,h1]; exact h'⟩
  ·cases h
 ·split at h
  ·rename_i hb
   (try simp only [hb])
   obtain ⟨h0,h⟩:=Qs h
   obtain ⟨v,h1,h2⟩:=QcT K r h
   exact ⟨v,h1,fun K' r' h'=>by rw [h0]; exact h2 K' r' h'⟩
  ·cases h
 ·split at h
  ·rename_i hb
   (try simp only [hb])
   obtain ⟨h0,h⟩:=Qs h
   obtain ⟨v,h1,h2⟩:=QcT K r h
   exact ⟨v,h1,fun K' r' h'=>by rw [h0]; exact h2 K' r' h'⟩
  ·cases h
 ·cases h
theorem QFt {P : Program} {st st' : St} {k : Nat → Nat → Bool} {q : Bool} (hb : ∀ x y,k x y = true → st.bx x y = st'.bx x y) (hq : q = true → st.rw = st'.rw) (hd : st.dr = st'.dr) {t : TypeId} {a : V} (ha : a.kept k q = true) {K : V → Option R} : Qhm P st t a K = Qhm P st' t a K:=by
 unfold Qhm
 cases a <;> first | rfl | (rw [hd]; done) | (simp only [V.kept] at ha; rw [hq ha]; done) | (simp only [V.kept] at ha; simp only [hb _ _ ha])
theorem QyD {P : Program} {t : TypeId} {x : V} {f : Nat} : Nat1 (R:=R) (QaC P t x f):=by
 intro K r h
 unfold QaC at h ⊢
 split at h
 case h_2=>cases h
 revert h
 cases Nat.beq _ 0 with
 | true=>intro h; cases h
 | false =>
  intro h
  simp only [cond_false] at h ⊢
  split at h
  all_goals first | (cases h; done) | exact ⟨_,h,fun _ _ h'=>h'⟩
theorem QDk {P : Program} {t : TypeId} {x : V} {f : Nat} : Nat1 (R:=R) (QuJ P t x f):=by
 intro K r h
 unfold QuJ at h ⊢
 split at h
 ·rename_i he
  (try simp only [he])
  exact QcT K r h
 ·cases h
theorem QyE {P : Program} {st : St} {t : TypeId} {x i : V} : Nat1 (R:=R) (HU P st t x i):=by
 intro K r h
 unfold HU at h ⊢
 split at h
 ·rename_i he
  (try simp only [he])
  split at h
  case h_2=>cases h
  rename_i hc
  (try simp only [hc])
  obtain ⟨h0,h⟩:=Qs h
  exact ⟨_,h,fun _ _ h'=>by rw [h0]; exact h'⟩
 ·rename_i he
  (try simp only [he])
  split at h
  case h_2=>cases h
  rename_i hc
  (try simp only [hc])
  obtain ⟨h0,h⟩:=Qs h
  exact ⟨_,h,fun _ _ h'=>by rw [h0]; exact h'⟩
 ·rename_i he
  (try simp only [he])
  split at h
  case h_2=>cases h
  rename_i hb
  (try simp only [hb])
  split at h
  case h_2=>cases h
  rename_i hc
  (try simp only [hc])
  obtain ⟨h0,h⟩:=Qs h
  exact ⟨_,h,fun _ _ h'=>by rw [h0]; exact h'⟩
 ·rename_i he
  (try simp only [he])
  split at h
  case h_2=>cases h
  rename_i hb
  (try simp only [hb])
  split at h
  case h_2=>cases h
  rename_i hc
  (try simp only [hc])
  obtain ⟨h0,h⟩:=Qs h
  exact ⟨_,h,fun _ _ h'=>by rw [h0]; exact h'⟩
 ·rename_i he
  (try simp only [he])
  split at h
  case h_2=>cases h
  rename_i hb
  (try simp only [hb])
  split at h
  case h_2=>cases h
  rename_i hc
  (try simp only [hc])
  obtain ⟨h0,h⟩:=Qs h
  exact ⟨_,h,fun _ _ h'=>by rw [h0]; exact h'⟩
 ·rename_i he
  (try simp only [he])
  split at h
  case h_2=>cases h
  rename_i hb
  (try simp only [hb])
  obtain ⟨h0,h⟩:=Qs h
  obtain ⟨h1,h⟩:=Qs h
  exact ⟨_,h,fun _ _ h'=>by rw [h0,h1]; exact h'⟩
 ·cases h
theorem QAb {P : Program} {st st' : St} {k : Nat → Nat → Bool} {q : Bool} (hb : ∀ x y,k x y = true → st.bx x y = st'.bx x y) (hq : q = true → st.rw = st'.rw) (hd : st.dr = st'.dr) {t : TypeId} {x i : V} (hx : x.kept k q = true) {K : V → Option R} : HU P st t x i K = HU P st' t x i K:=by
 unfold HU
 split
 ·rfl
 ·rfl
 ·simp only [V.kept] at hx; simp only [hb _ _ hx]
 ·simp only [V.kept] at hx; rw [hq hx]
 ·rw [hd]
 ·rfl
 ·rfl
theorem QBO {st st' : St} {kk : Nat → Nat → Bool} {q : Bool} (hb : ∀ x y,kk x y = true → st.bx x y = st'.bx x y) {k v : Ty} {m : V} (hx : m.kept kk q = true) : QfM st k v m = QfM st' k v m:=by
 unfold QfM
 split
 ·rfl
 ·simp only [V.kept] at hx; rw [hb _ _ hx]
 ·rfl
theorem QDl {P : Program} {st st' : St} {kk : Nat → Nat → Bool} {q : Bool} (hb : ∀ x y,kk x y = true → st.bx x y = st'.bx x y) {t : TypeId} {m x : V} {ok : Bool} (hx : m.kept kk q = true) {K : V → Option R} : Qfs P st t m x ok K = Qfs P st' t m x ok K:=by
 unfold Qfs
 split
 ·rw [QBO hb hx]
 ·rfl
theorem QCw {P : Program} {st : St} {t : TypeId} {m x : V} {ok : Bool} : Nat1 (R:=R) (Qfs P st t m x ok):=by
 intro K r h
 unfold Qfs at h ⊢
 split at h
 case h_2=>cases h
 rename_i h1
 (try simp only [h1])
 split at h
 case h_2=>cases h
 rename_i h2 h3 h4
 (try simp only [h2,h3,h4])
 revert h
 cases (ok || !(QsE P _ _)) with
 | true=>intro h; cases h
 | false=>intro h; exact ⟨_,h,fun _ _ h'=>h'⟩
theorem QDm {P : Program} {t : TypeId} {x i : V} : Nat1 (R:=R) (QuK P t x i):=by
 intro K r h
 unfold QuK at h ⊢
 split at h
 ·rename_i he
  (try simp only [he])
  obtain ⟨h0,h⟩:=Qs h
  exact ⟨_,h,fun _ _ h'=>by rw [h0]; exact h'⟩
 ·rename_i he
  (try simp only [he])
  split at h
  case h_2=>cases h
  rename_i hb
  (try simp only [hb])
  split at h
  case h_2=>cases h
  rename_i hc
  (try simp only [hc])
  obtain ⟨h0,h⟩:=Qs h
  obtain ⟨h1,h⟩:=Qs h
  exact ⟨_,h,fun _ _ h'=>by rw [h0,h1]; exact h'⟩
 ·cases h
theorem QCx {P : Program} {t : TypeId} {x : V} {lo hi mx : Option V} : Nat1 (R:=R) (QoY P t x lo hi mx):=by
 intro K r h
 unfold QoY at h ⊢
 split at h
 ·rename_i he
  (try simp only [he])
  obtain ⟨h0,h⟩:=Qs h
  obtain ⟨v,h1,h2⟩:=Qnd K r h
  exact ⟨v,h1,fun K' r' h'=>by rw [h0]; exact h2 K' r' h'⟩
 ·cases h
theorem QDn {P : Program} {t : TypeId} {x : V} {lo hi : Option V} : Nat1 (R:=R) (QuL P t x lo hi):=by
 intro K r h
 unfold QuL at h ⊢
 split at h
 ·rename_i he
  (try simp only [he])
  exact Qnd K r h
 ·rename_i he
  (try simp only [he])
  obtain ⟨h0,h⟩:=Qs h
  obtain ⟨v,h1,h2⟩:=Qnd K r h
  exact ⟨v,h1,fun K' r' h'=>by rw [h0]; exact h2 K' r' h'⟩
 ·rename_i he
  (try simp only [he])
  obtain ⟨h0,h⟩:=Qs h
  split at h
  ·obtain ⟨v,h1,h2⟩:=Qnd K r h
   exact ⟨v,h1,fun K' r' h'=>by rw [h0]; exact h2 K' r' h'⟩
  ·obtain ⟨v,h1,h2⟩:=Qnd K r h
   exact ⟨v,h1,fun K' r' h'=>by rw [h0]; exact h2 K' r' h'⟩
 ·cases h
theorem QAS {P : Program} {s t : TypeId} {x : V} : Nat1 (R:=R) (Qx7 P s t x):=by
 intro K r h
 unfold Qx7 at h ⊢
 split at h
 ·rename_i he he2; (try simp only [he,he2]); exact ⟨_,h,fun _ _ h'=>h'⟩
 ·rename_i he he2; (try simp only [he,he2]); exact ⟨_,h,fun _ _ h'=>h'⟩
 ·rename_i he he2
  (try simp only [he,he2])
  split at h
  ·rename_i h3; (try simp only [h3]); exact ⟨_,h,fun _ _ h'=>h'⟩
  ·cases h
 ·rename_i he he2
  (try simp only [he,he2])
  split at h
  ·rename_i h3; (try simp only [h3])
   obtain ⟨h0,h⟩:=Qs h
   exact ⟨_,h,fun _ _ h'=>by rw [h0]; exact h'⟩
  ·cases h
 ·rename_i he he2
  (try simp only [he,he2])
  split at h
  ·rename_i h3; (try simp only [h3])
   obtain ⟨h0,h⟩:=Qs h
   exact ⟨_,h,fun _ _ h'=>by rw [h0]; exact h'⟩
  ·cases h
 ·rename_i he he2
  (try simp only [he,he2])
  split at h
  ·rename_i h3; (try simp only [h3]); exact ⟨_,h,fun _ _ h'=>h'⟩
  ·cases h
 ·cases h
theorem QDo {P : Program} {t : TypeId} {ps : List (Nat × V)} : Nat1 (R:=R) (QuM P t ps):=by
 intro K r h
 unfold QuM at h ⊢
 split at h
 ·rename_i he he2
  (try simp only [he,he2])
  obtain ⟨h0,h⟩:=Qs h
  rw [h0]
  simp only [cond_true]
  split at h
  ·rename_i h3; (try simp only [h3]); exact ⟨_,h,fun _ _ h'=>h'⟩
  ·cases h
 ·rename_i he he2
  (try simp only [he,he2])
  obtain ⟨h0,h⟩:=Qs h
  rw [h0]
  simp only [cond_true]
  split at h
  ·rename_i h3; (try simp only [h3]); exact ⟨_,h,fun _ _ h'=>h'⟩
  ·cases h
 ·cases h
theorem QFu {P : Program} {st : St} {t : TypeId} {x : V} : Nat1 (R:=R) (QBl P st t x):=by
 intro K r h
 unfold QBl at h ⊢
 split at h
 ·split at h
  ·rename_i h3; (try simp only [h3]); exact ⟨_,h,fun _ _ h'=>h'⟩
  ·cases h
 ·split at h
  ·rename_i h3; (try simp only [h3]); exact ⟨_,h,fun _ _ h'=>h'⟩
  ·cases h
 ·split at h
  ·rename_i h3; (try simp only [h3]); exact ⟨_,h,fun _ _ h'=>h'⟩
  ·cases h
 ·split at h
  ·rename_i h3; (try simp only [h3]); exact ⟨_,h,fun _ _ h'=>h'⟩
  ·cases h
 ·split at h
  ·rename_i h3 h4; (try simp only [h3,h4]); exact ⟨_,h,fun _ _ h'=>h'⟩
  ·cases h
 ·split at h
  ·rename_i h3 h4; (try simp only [h3,h4]); exact ⟨_,h,fun _ _ h'=>h'⟩
  ·cases h
 ·split at h
  ·rename_i h3 h4; (try simp only [h3,h4]); exact ⟨_,h,fun _ _ h'=>h'⟩
  ·cases h
 ·cases h
theorem QGe {P : Program} {st st' : St} {k : Nat → Nat → Bool} {q : Bool} (hb : ∀ x y,k x y = true → st.bx x y = st'.bx x y) (hq : q = true → st.rw = st'.rw) (hd : st.dr = st'.dr) {t : TypeId} {x : V} (hx : x.kept k q = true) {K : V → Option R} : QBl P st t x K = QBl P st' t x K:=by
 unfold QBl
 split
 ·rfl
 ·rfl
 ·rfl
 ·rfl
 ·simp only [V.kept] at hx; simp only [hb _ _ hx]
 ·simp only [V.kept] at hx; rw [hq hx]
 ·rw [hd]
 ·rfl
theorem QFv {x y : V} : Nat1 (R:=R) (QEj x y):=by
 intro K r h
 unfold QEj at h ⊢
 split at h
 ·split at h
  ·rename_i hk; (try simp only [if_pos hk]); exact ⟨_,h,fun _ _ h'=>h'⟩
  ·cases h
 ·cases h
theorem QFw {x y : V} : Nat1 (R:=R) (QEk x y):=by
 intro K r h
 unfold QEk at h ⊢
 split at h
 ·split at h
  ·rename_i hk; (try simp only [if_pos hk]); exact ⟨_,h,fun _ _ h'=>h'⟩
  ·cases h
 ·cases h
theorem Qrd {st st' : St} {d : Nat} : ∀ {ps : List (Nat × Operand)},(∀ t ∈ ps.flatMap (fun p=>Y1 p.2),st.tm d t = st'.tm d t) → ps.map (fun p=>(p.1,st.ev d p.2)) = ps.map (fun p=>(p.1,st'.ev d p.2))
 | [],_=>rfl
 | x :: xs,h=>by
  rw [List.map_cons,List.map_cons,Z0 (fun t ht=>h t (by simp [ht])),Qrd (ps:=xs) (fun t ht=>h t (by rw [List.flatMap_cons]; exact List.mem_append_right _ ht))]
theorem QfZ {st st' : St} {d : Nat} {x : Option Operand} (h : ∀ t ∈ x.toList.flatMap Y1,st.tm d t = st'.tm d t) : x.map (st.ev d) = x.map (st'.ev d):=by
 cases x with
 | none=>rfl
 | some x=>simp only [Option.map_some]; rw [Z0 (fun t ht=>h t (by simpa using ht))]
def QFx (c x y : V) (K : V → Option R) : Option R :=
 match c with
 | .d .bool t=>bif t then K x else K y
 | _=>none
theorem QEv {c x y : V} : Nat1 (R:=R) (QFx c x y):=by
 intro K r h
 unfold QFx at h ⊢
 split at h
 ·rename_i t
  cases t
  ·exact ⟨_,h,fun _ _ h'=>h'⟩
  ·exact ⟨_,h,fun _ _ h'=>h'⟩
 ·cases h
def Qu8 (x : V) (K : V → Option R) : Option R :=
 match x with
 | .ptr a b c=>K (.ptr a b c)
 | .eptr cs=>K (.eptr cs)
 | .rptr a b c e f=>K (.rptr a b c e f)
 | _=>none
theorem QAc {x : V} : Nat1 (R:=R) (Qu8 x):=by
 intro K r h
 unfold Qu8 at h ⊢
 split at h
 all_goals first | (cases h; done) | exact ⟨_,h,fun _ _ h'=>h'⟩
def QyF (x : V) (i : Nat) (K : V → Option R) : Option R :=
 match x with
 | .tup vs=>match vs[i]? with
  | some v=>K v
  | none=>none
 | _=>none
theorem QBP {x : V} {i : Nat} : Nat1 (R:=R) (QyF x i):=by
 intro K r h
 unfold QyF at h ⊢
 split at h
 ·split at h
  ·rename_i hv; (try simp only [hv]); exact ⟨_,h,fun _ _ h'=>h'⟩
  ·cases h
 ·cases h
theorem ml {P : Nat → Prop} {a b : List Nat} (h : ∀ t ∈ a ++ b,P t) : (∀ t ∈ a,P t) ∧ (∀ t ∈ b,P t):=⟨fun t ht=>h t (List.mem_append_left _ ht),fun t ht=>h t (List.mem_append_right _ ht)⟩
theorem QBQ (k : Nat → Nat → Bool) (q : Bool) (v : Value) : (Qaj v).kept k q = true:=by
 unfold Qaj
 split
 ·rfl
 ·cases inK _ _ <;> rfl
 ·cases Nat.ble _ _ <;> rfl
 ·rfl
 ·rfl
theorem QsW {k : Nat → Nat → Bool} {q : Bool} {st : St} {d : Nat} {x : Operand} (h : ∀ t ∈ Y1 x,(st.tm d t).kept k q = true) : (st.ev d x).kept k q = true:=by
 cases x with
 | tmp t=>exact h t (by simp [Y1])
 | const v=>exact QBQ k q v
 | func f=>rfl
 | global g=>rfl
def Eff.boxed? : Eff → Bool
 | .boxed ..=>true
 | _=>false
def Eff.grown? : Eff → Bool
 | .grown ..=>true
 | _=>false
def Eff.deep? : Eff → Bool
 | .deep ..=>true
 | _=>false
theorem QEw (C C' : Ctx R) (hP : C.P = C'.P) {st : St} {d : Nat} {path path' : List Nat} {here here' : Nat} {o : Oper} (hl : Vp C.P o = true) {k : Nat → Nat → Bool} {q : Bool} (hkp : ∀ t ∈ HV o,(st.tm d t).kept k q = true) {K : JC R} {r : R}
  (hs : JL C d path here o st K = some r) : ∃ v,K (st.put d o.dst v) = some r ∧ ∀ st' : St,(∀ t ∈ HV o,st'.tm d t = st.tm d t) → (∀ x y,k x y = true → st'.bx x y = st.bx x y) → ((q = true → st'.rw = st.rw) ∧ (QBs o = true → st'.dr = st.dr)) → ∀ (K' : JC R) r',K' (st'.put d o.dst v) = some r' → JL C' d path' here' o st' K' = some r':=by
 have fin : ∀ {F : (V → Option R) → Option R},Nat1 F → F (fun v=>K (st.put d o.dst v)) = some r → (∀ st' : St,(∀ t ∈ HV o,st'.tm d t = st.tm d t) → (∀ x y,k x y = true → st'.bx x y = st.bx x y) → ((q = true → st'.rw = st.rw) ∧ (QBs o = true → st'.dr = st.dr)) → ∀ K' : JC R,JL C' d path' here' o st' K' = F (fun v=>K' (st'.put d o.dst v))) →
   ∃ v,K (st.put d o.dst v) = some r ∧ ∀ st' : St,(∀ t ∈ HV o,st'.tm d t = st.tm d t) → (∀ x y,k x y = true → st'.bx x y = st.bx x y) → ((q = true → st'.rw = st.rw) ∧ (QBs o = true → st'.dr = st.dr)) → ∀ (K' : JC R) r',K' (st'.put d o.dst v) = some r' → JL C' d path' here' o st' K' = some r':=by
  intro F hF h he
  obtain ⟨v,h1,h2⟩:=hF _ _ h
  exact ⟨v,h1,fun st' hag hbx hq K' r' h'=>(he st' hag hbx hq K').trans (h2 (fun v=>K' (st'.put d o.dst v)) r' h')⟩
 cases hop : o.op <;> simp only [JL,hop] at hs <;> (try (cases hs; done)) <;> (try (simp [Vp,hop] at hl; done)) <;> simp only [HV,hop] at fin hkp ⊢
 case move x=>exact fin (.out _) hs fun st' hag _ _ K'=>by simp only [JL,hop]; rw [Z0 hag]
 case assign x=>exact fin (.out _) hs fun st' hag _ _ K'=>by simp only [JL,hop]; rw [Z0 hag,hP]
 case pick c x y =>
  refine fin (F:=QFx (st.ev d c) (st.ev d x) (st.ev d y)) QEv hs fun st' hag _ _ K'=>?_
  obtain ⟨h1,h3⟩:=ml hag
  obtain ⟨h1,h2⟩:=ml h1
  simp only [JL,hop]
  rw [Z0 h1,Z0 h2,Z0 h3]
  rfl
 case binOp op t x y t' =>
  have hn : Qwo y = false:=by simpa [Vp,hop] using hl
  rw [hn] at hs
  refine fin (F:=QsB C.P op t (st.ev d x) (st.ev d y)) QFs hs fun st' hag _ _ K'=>?_
  obtain ⟨h1,h2⟩:=ml hag
  simp only [JL,hop,hn,cond_false]
  rw [Z0 h1,Z0 h2,hP]
 case unOp op t x=>exact fin QGd hs fun st' hag _ _ K'=>by simp only [JL,hop]; rw [Z0 hag]
 case load t x =>
  have hn : QuP x = none:=by simpa [Vp,hop] using hl
  rw [hn] at hs
  exact fin (F:=Qhm C.P st t (st.ev d x)) QEu hs fun st' hag hbx hq K'=>by simp only [JL,hop,hn]; rw [Z0 hag,QFt hbx hq.1 (hq.2 (by simp [QBs,hop])) (QsW hkp),hP]
 case nilCheck x =>
  refine fin (F:=Qu8 (st.ev d x)) QAc hs fun st' hag _ _ K'=>?_
  simp only [JL,hop]; rw [Z0 hag]; rfl
 case fieldAddr t x f=>exact fin (F:=QaC C.P t (st.ev d x) f) QyD hs fun st' hag _ _ K'=>by simp only [JL,hop]; rw [Z0 hag,hP]
 case field t x f=>exact fin (F:=QuJ C.P t (st.ev d x) f) QDk hs fun st' hag _ _ K'=>by simp only [JL,hop]; rw [Z0 hag,hP]
 case indexAddr t x i =>
  refine fin (F:=HU C.P st t (st.ev d x) (st.ev d i)) QyE hs fun st' hag hbx hq K'=>?_
  obtain ⟨h1,h2⟩:=ml hag
  simp only [JL,hop]
  rw [Z0 h1,Z0 h2,QAb hbx hq.1 (hq.2 (by simp [QBs,hop])) (QsW (ml hkp).1),hP]
 case lookup t x i ok =>
  refine fin (F:=Qfs C.P st t (st.ev d x) (st.ev d i) ok) QCw hs fun st' hag hbx _ K'=>?_
  obtain ⟨h1,h2⟩:=ml hag
  simp only [JL,hop]
  rw [Z0 h1,Z0 h2,QDl hbx (QsW (ml hkp).1),hP]
 case index t x i =>
  refine fin (F:=QuK C.P t (st.ev d x) (st.ev d i)) QDm hs fun st' hag _ _ K'=>?_
  obtain ⟨h1,h2⟩:=ml hag
  simp only [JL,hop]
  rw [Z0 h1,Z0 h2,hP]
 case slice t x lo hi mx =>
  cases mx with
  | some m =>
   refine fin (F:=QoY C.P t (st.ev d x) (lo.map (st.ev d)) (hi.map (st.ev d)) (some (st.ev d m))) QCx hs fun st' hag _ _ K'=>?_
   obtain ⟨h1,h4⟩:=ml hag
   obtain ⟨h1,h3⟩:=ml h1
   obtain ⟨h1,h2⟩:=ml h1
   have h5:=QfZ h4
   simp only [Option.map_some,Option.some.injEq] at h5
   simp only [JL,hop]
   rw [Z0 h1,QfZ h2,QfZ h3,h5,hP]
  | none =>
   refine fin (F:=QuL C.P t (st.ev d x) (lo.map (st.ev d)) (hi.map (st.ev d))) QDn hs fun st' hag _ _ K'=>?_
   obtain ⟨h1,_⟩:=ml hag
   obtain ⟨h1,h3⟩:=ml h1
   obtain ⟨h1,h2⟩:=ml h1
   simp only [JL,hop]
   rw [Z0 h1,QfZ h2,QfZ h3,hP]
 case convert s t x=>exact fin (F:=Qx7 C.P s t (st.ev d x)) QAS hs fun st' hag _ _ K'=>by simp only [JL,hop]; rw [Z0 hag,hP]
 case extract x i =>
  refine fin (F:=QyF (st.ev d x) i) QBP hs fun st' hag _ _ K'=>?_
  simp only [JL,hop]; rw [Z0 hag]; rfl
 case build t ps=>exact fin (F:=QuM C.P t (ps.toList.map fun p=>(p.1,st.ev d p.2))) QDo hs fun st' hag _ _ K'=>by simp only [JL,hop]; rw [Qrd hag,hP]
 case makeFunc f first caps =>
  cases f with
  | func g =>
   simp only at hs
   split at hs
   case h_2=>cases hs
   rename_i hfirst
   refine fin (F:=fun K=>K (.fn g (caps.toList.map (st.ev d)))) (.out _) hs fun st' hag _ _ K'=>?_
   simp only [JL,hop,hfirst]
   rw [QsV hag]
  | _=>simp only at hs; cases hs
 case call c =>
  obtain ⟨callee,args,argTypes⟩:=c
  cases callee with
  | value f=>simp [Vp,hop] at hl
  | invoke r m=>simp only at hs; cases hs
  | builtin b =>
   cases b <;> simp only at hs <;> (try (cases hs; done)) <;> (try (simp [Vp,hop] at hl; done))
   case len =>
    split at hs
    case h_2=>cases hs
    rename_i x t hargs htypes
    simp only [hargs] at fin hkp ⊢
    refine fin (F:=QBl C.P st t (st.ev d x)) QFu hs fun st' hag hbx hq K'=>?_
    simp only [JL,hop,hargs,htypes]
    rw [Z0 (x:=x) (fun t ht=>hag t (by simpa using ht)),QGe hbx hq.1 (hq.2 (by simp [QBs,hop])) (QsW (x:=x) (fun t ht=>hkp t (by simpa using ht))),hP]
   case min =>
    split at hs
    case h_2=>cases hs
    rename_i x y hargs
    simp only [hargs] at fin ⊢
    refine fin (F:=QEj (st.ev d x) (st.ev d y)) QFv hs fun st' hag hbx hq K'=>?_
    simp only [JL,hop,hargs]
    rw [Z0 (x:=x) (fun t ht=>hag t (by simp [ht])),Z0 (x:=y) (fun t ht=>hag t (by simp [ht]))]
   case max =>
    split at hs
    case h_2=>cases hs
    rename_i x y hargs
    simp only [hargs] at fin ⊢
    refine fin (F:=QEk (st.ev d x) (st.ev d y)) QFw hs fun st' hag hbx hq K'=>?_
    simp only [JL,hop,hargs]
    rw [Z0 (x:=x) (fun t ht=>hag t (by simp [ht])),Z0 (x:=y) (fun t ht=>hag t (by simp [ht]))]
theorem QEx (C C' : Ctx R) (hP : C.P = C'.P) {st : St} {d : Nat} {path path' : List Nat} {here here' : Nat} {o : Oper} (hl : Qft o = true) {k : Nat → Nat → Bool} {q : Bool} (hkp : ∀ t ∈ HV o,(st.tm d t).kept k q = true) (hqg : Qkn o = true → q = false) (hI : Vt C.I (here :: path) = none) (hI' : Vt C'.I (here' :: path') = none) {K : JC R} {r : R}
  (hs : JL C d path here o st K = some r) : ∃ e : Eff,K (e.app d o.dst st) = some r ∧ (e.boxed? = true → QAE o = true ∧ ∀ t,o.dst = some t → st.bx d t = .none) ∧ (e.grown? = true → Qkn o = true) ∧ e.deep? = false ∧
   ∀ st' : St,(∀ t ∈ HV o,st'.tm d t = st.tm d t) → (e.boxed? = true → ∀ t,o.dst = some t → st'.bx d t = .none) → (e.grown? = true → st'.nt = st.nt ∧ st'.lv = st.lv) → ∀ (K' : JC R) r',K' (e.app d o.dst st') = some r' → JL C' d path' here' o st' K' = some r':=by
 cases hop : o.op <;> simp only [JL,hop] at hs <;> (try (cases hs; done)) <;> (try (simp [Qft,hop] at hl; done)) <;> simp only [HV,hop] at hkp ⊢
 case alloc e =>
  split at hs
  case h_2=>cases hs
  rename_i s z hdst hz
  split at hs
  case h_2=>cases hs
  rename_i hb
  refine ⟨.boxed (.ptr d s 0) (.cells z),by unfold Eff.app; simp only [hdst]; exact hs,fun _=>⟨by simp [QAE,hop],fun t ht=>by rw [hdst] at ht; cases ht; exact hb⟩,(fun h=>by cases h),rfl,fun st' _ hb' _ K' r' h'=>?_⟩
  have hb2:=hb' rfl s hdst
  simp only [JL,hop,hdst,← hP,hz,hb2]
  unfold Eff.app at h'
  simp only [hdst] at h'
  exact h'
 case box e x =>
  split at hs
  case h_2=>cases hs
  rename_i s hdst
  split at hs
  case h_2=>cases hs
  rename_i hb
  obtain ⟨hp,hs⟩:=Qs hs
  refine ⟨.boxed (.ptr d s 0) (.cells (st.ev d x).cellsOf),by unfold Eff.app; simp only [hdst]; exact hs,fun _=>⟨by simp [QAE,hop],fun t ht=>by rw [hdst] at ht; cases ht; exact hb⟩,(fun h=>by cases h),rfl,fun st' hag hb' _ K' r' h'=>?_⟩
  have hb2:=hb' rfl s hdst
  simp only [JL,hop,hdst,hb2]
  rw [Z0 hag,hp]
  unfold Eff.app at h'
  simp only [hdst] at h'
  exact h'
 case convert s t x =>
  obtain ⟨v,h1,h2⟩:=QAS _ _ hs
  refine ⟨.val v,h1,(fun h=>by cases h),(fun h=>by cases h),rfl,fun st' hag _ _ K' r' h'=>?_⟩
  simp only [JL,hop]
  rw [Z0 hag,← hP]
  exact h2 (fun v=>K' (st'.put d o.dst v)) r' h'
 case buildSlice t n ps =>
  rw [hI] at hs
  simp only at hs
  unfold QdI at hs
  split at hs
  case h_2=>cases hs
  rename_i e he
  split at hs
  case h_2=>cases hs
  rename_i ty hty
  split at hs
  case h_2=>cases hs
  rename_i z hz
  obtain ⟨h0,hs⟩:=Qs hs
  split at hs
  case h_2=>cases hs
  rename_i xs hxs
  refine ⟨.grown none (.own st.nt ty xs),hs,(fun h=>by cases h),fun _=>by simp [Qkn,hop],rfl,fun st' hag _ hg K' r' h'=>?_⟩
  obtain ⟨g1,g2⟩:=hg rfl
  simp only [JL,hop,hI']
  unfold QdI
  rw [Qrd hag,← hP]
  simp only [he,hty,hz,h0,cond_true,hxs,g1]
  exact h'
 case makeSlice t l c =>
  rw [hI] at hs
  simp only at hs
  unfold QcN at hs
  split at hs
  case h_2=>cases hs
  rename_i e s he hdst
  split at hs
  case h_2=>cases hs
  rename_i ty hty
  split at hs
  case h_2=>cases hs
  rename_i z hz
  split at hs
  case h_2=>cases hs
  rename_i n m hl1 hc1
  split at hs
  case h_2=>cases hs
  rename_i hb
  obtain ⟨h0,hs⟩:=Qs hs
  refine ⟨.boxed (.msl d s) (.rows ty (List.replicate (Int.toNat n) z)),by unfold Eff.app; simp only [hdst]; rw [hdst] at hs; exact hs,fun _=>⟨by simp [QAE,hop],fun t ht=>by rw [hdst] at ht; cases ht; exact hb⟩,(fun h=>by cases h),rfl,fun st' hag hb' _ K' r' h'=>?_⟩
  have hb2:=hb' rfl s hdst
  obtain ⟨a1,a2⟩:=ml hag
  simp only [JL,hop,hI']
  unfold QcN
  rw [Z0 a1,Z0 a2,← hP]
  simp only [he,hdst,hty,hz,hl1,hc1,hb2,h0,cond_true]
  unfold Eff.app at h'
  simp only [hdst] at h'
  exact h'
 case call c =>
  obtain ⟨callee,args,argTypes⟩:=c
  cases callee with
  | value f=>simp [Qft,hop] at hl
  | invoke r m=>simp only at hs; cases hs
  | builtin b =>
   cases b <;> simp only at hs <;> (try (cases hs; done)) <;> (try (simp [Qft,hop] at hl; done))
   case append =>
    split at hs
    case h_2=>cases hs
    rename_i s x t t' hargs htypes
    obtain ⟨ht,hs⟩:=Qs hs
    simp only [hargs] at hkp ⊢
    rw [hI] at hs
    simp only at hs
    unfold QoZ at hs
    split at hs
    case h_2=>cases hs
    rename_i e he
    split at hs
    case h_2=>cases hs
    rename_i ty hty
    split at hs
    case h_2=>cases hs
    rename_i z hz
    revert hs
    cases hcz : Nat.beq ty.cells 0 with
    | true=>intro hs; cases hs
    | false =>
     intro hs
     simp only [cond_false] at hs
     split at hs
     case h_2=>cases hs
     rename_i ys hys
     have es : ∀ {st' : St},(∀ t ∈ [s,x].flatMap Y1,st'.tm d t = st.tm d t) → st'.ev d s = st.ev d s ∧ st'.ev d x = st.ev d x:=fun hag =>
      ⟨Z0 (fun t ht=>hag t (by simp [ht])),Z0 (fun t ht=>hag t (by simp [ht]))⟩
     split at hs
     ·rename_i hv
      obtain ⟨h0,hs⟩:=Qs hs
      refine ⟨.grown none (.own st.nt ty ys),hs,(fun h=>by cases h),fun _=>by simp [Qkn,hop],rfl,fun st' hag _ hg K' r' h'=>?_⟩
      obtain ⟨g1,g2⟩:=hg rfl
      obtain ⟨e1,e2⟩:=es hag
      simp only [JL,hop,hargs,htypes,ht,cond_true,hI']
      unfold QoZ
      rw [e1,e2,← hP]
      simp only [he,hty,hz,hcz,cond_false,hys,hv,h0,cond_true,g1]
      exact h'
     ·rename_i tok ty' xs hv
      split at hs
      case h_2=>cases hs
      rename_i xs' hc
      obtain ⟨hlv,hs⟩:=Qs hs
      obtain ⟨h0,hs⟩:=Qs hs
      refine ⟨.grown (some tok) (.own st.nt ty (xs' ++ ys)),hs,(fun h=>by cases h),fun _=>by simp [Qkn,hop],rfl,fun st' hag _ hg K' r' h'=>?_⟩
      obtain ⟨g1,g2⟩:=hg rfl
      obtain ⟨e1,e2⟩:=es hag
      simp only [JL,hop,hargs,htypes,ht,cond_true,hI']
      unfold QoZ
      rw [e1,e2,← hP]
      simp only [he,hty,hz,hcz,cond_false,hys,hv,hc,g2,hlv,h0,cond_true,g1]
      exact h'
     ·rename_i tok hv
      have:=QsW (k:=k) (q:=q) (st:=st) (d:=d) (x:=s) (fun t ht=>hkp t (by simp [ht]))
      rw [hv,hqg (by simp [Qkn,hop])] at this
      cases this
     ·cases hs
section
variable {P : Program} {base : Base} {w0 : Orig} {dp nn : Nat} {st : St} {θ : Nat → Nat → Value} {M : Me} {a : Act} {w : World}
theorem QDp (C : Ctx R) (hP : C.P = P) (h : RelA P base w0 dp nn st θ M a w) {path : List Nat} {here : Nat} {o : Oper} (hl : QfT o = true) {K : JC R} {r : R} (hs : JL C dp path here o st K = some r) :
  ∃ v u,K (st.put dp o.dst v) = some r ∧ RelV M v u ∧ v.le dp = true ∧ ∀ w',(execOp a.eval o).run P w' = .ok (.value u) w':=by
 subst hP
 have flat : ∀ {s : Sem Value},GivesFlat C.P M w (fun v=>K (st.put dp o.dst v)) r s → (execOp a.eval o = (do pure (.value (← s)))) → ∃ v u,K (st.put dp o.dst v) = some r ∧ RelV M v u ∧ v.le dp = true ∧ ∀ w',(execOp a.eval o).run C.P w' = .ok (.value u) w':=by
  intro s hg hrun
  obtain ⟨v,u,h1,h2,h3,h4⟩:=hg
  refine ⟨v,u,h1,h3,h4 dp,fun w'=>?_⟩
  rw [hrun,Sem.run_bind,h2 w']
  rfl
 cases hop : o.op <;> simp only [JL,hop] at hs <;> (try (simp [QfT,hop] at hl; done))
 case move x=>exact ⟨_,_,hs,(h.ev x).1,(h.ev x).2,fun w'=>by simp [execOp,hop]⟩
 case assign x=>exact ⟨_,_,hs,(h.evA _ x _).1,(h.evA _ x _).2,fun w'=>by simp [execOp,hop]⟩
 case pick c x y =>
  split at hs
  case h_2=>cases hs
  rename_i t hc0
  have hcv:=(h.ev c).1
  rw [hc0] at hcv
  have hcv:=hcv.bool_inv
  cases t with
  | true=>exact ⟨_,_,hs,(h.ev x).1,(h.ev x).2,fun w'=>by simp [execOp,hop,hcv,asBool]⟩
  | false=>exact ⟨_,_,hs,(h.ev y).1,(h.ev y).2,fun w'=>by simp [execOp,hop,hcv,asBool]⟩
 case binOp op t x y t' =>
  have hn : Qwo y = false:=by simpa [QfT,hop] using hl
  rw [hn] at hs
  exact flat (Qyj (X:=x) (Y:=y) (w:=w) hs (h.ev x).1 (h.ev y).1) (by simp [execOp,hop])
 case fieldAddr t x f =>
  obtain ⟨v,u,h1,h2,h3,h4⟩:=Qlx (P:=C.P) hs (h.ev x).1 (h.ev x).2
  refine ⟨v,u,h1,h3,h4,fun w'=>?_⟩
  have : execOp a.eval o = (do pure (.value (← Instr.fieldAt t (a.eval x) f))):=by simp [execOp,hop]
  rw [this,Sem.run_bind,h2 w']
  rfl
 case unOp op t x=>exact flat (QAI (P:=C.P) (w:=w) hs (h.ev x).1) (by simp [execOp,hop])
 case extract x i =>
  split at hs
  case h_2=>cases hs
  rename_i vs he
  split at hs
  case h_2=>cases hs
  rename_i v hv
  have hx:=h.ev x
  rw [he] at hx
  obtain ⟨u,k1,k2,k3⟩:=Qqg (P:=C.P) hx.1 hx.2 hv
  refine ⟨v,u,hs,k2,k3,fun w'=>?_⟩
  have : execOp a.eval o = (do pure (.value (← Instr.extract (a.eval x) i))):=by simp [execOp,hop]
  rw [this,Sem.run_bind,k1 w']
  rfl
end
end Go.Ab
