import Derived.Test.YtcoepmcddmnnhaaAb12
namespace Go.Ab
variable {R : Type}
theorem QE {st st' : St} {d : Nat} {x : Operand} (h : ∀ t ∈ Zc x,st.tm d t = st'.tm d t) : st.ev d x = st'.ev d x:=by
 cases x with
 | tmp t=>exact h t (by simp [Zc])
 | _=>rfl
theorem EB {st st' : St} {d : Nat} : ∀ {xs : List Operand},(∀ t ∈ xs.flatMap Zc,st.tm d t = st'.tm d t) → xs.map (st.ev d) = xs.map (st'.ev d)
 | [],_=>rfl
 | x :: xs,h=>by
  rw [List.map_cons,List.map_cons,QE (fun t ht=>h t (by simp [ht])),EB (xs:=xs) (fun t ht=>h t (by rw [List.flatMap_cons]; exact List.mem_append_right _ ht))]
def Nat1 (F : (V → Option R) → Option R) : Prop:=∀ K r,F K = some r → ∃ v,K v = some r ∧ ∀ (K' : V → Option R) r',K' v = some r' → F K' = some r'
theorem Nat1.out (v : V) : Nat1 (R:=R) (fun K=>K v):=fun _ _ h=>⟨v,h,fun _ _ h'=>h'⟩
theorem Nat1.none : Nat1 (R:=R) (fun _=>Option.none):=fun _ _ h=>nomatch h
theorem Nat1.bif {c : Bool} {F G : (V → Option R) → Option R} (h1 : Nat1 F) (h2 : Nat1 G) : Nat1 (fun K=>bif c then F K else G K):=by
 cases c
 ·exact h2
 ·exact h1
theorem Uj {n : Nat} {lo hi : Option V} {f : Int → Int → V} : Nat1 (R:=R) (fun K=>Wz n lo hi fun l h=>K (f l h)):=by
 intro K r h
 unfold Wz at h ⊢
 split at h
 ·exact ⟨_,h,fun _ _ h'=>h'⟩
 ·obtain ⟨h0,h⟩:=Qa h
  exact ⟨_,h,fun _ _ h'=>by rw [h0]; exact h'⟩
 ·obtain ⟨h0,h⟩:=Qa h
  exact ⟨_,h,fun _ _ h'=>by rw [h0]; exact h'⟩
 ·obtain ⟨h0,h⟩:=Qa h
  obtain ⟨h1,h⟩:=Qa h
  exact ⟨_,h,fun _ _ h'=>by rw [h0,h1]; exact h'⟩
 ·cases h
theorem GE {P : Program} {t : TypeId} {cs : List V} {off : Nat} : Nat1 (R:=R) (Y2 P t cs off):=by
 intro K r h
 unfold Y2 at h ⊢
 split at h
 case h_2=>cases h
 split at h
 ·obtain ⟨h0,h⟩:=Qa h
  exact ⟨_,h,fun _ _ h'=>by simp only [h0,cond_true]; exact h'⟩
 ·split at h
  ·exact ⟨_,h,fun _ _ h'=>h'⟩
  ·cases h
theorem Qh6 {op : UnOp} {x : V} : Nat1 (R:=R) (unC op x):=by
 intro K r h
 unfold unC at h ⊢
 split at h
 ·exact ⟨_,h,fun _ _ h'=>h'⟩
 ·exact ⟨_,h,fun _ _ h'=>h'⟩
 ·cases h
theorem Qho {P : Program} {op : BinOp} {t : TypeId} {x y : V} : Nat1 (R:=R) (Ed P op t x y):=by
 intro K r h
 unfold Ed at h ⊢
 split at h
 ·split at h
  ·obtain ⟨h0,h⟩:=Qa h; exact ⟨_,h,fun _ _ h'=>by simp only [h0,cond_true]; exact h'⟩
  ·obtain ⟨h0,h⟩:=Qa h; exact ⟨_,h,fun _ _ h'=>by simp only [h0,cond_true]; exact h'⟩
  ·split at h
   case isFalse=>cases h
   rename_i hk
   (try simp only [if_pos hk])
   split at h
   case h_4 =>
    revert h
    cases decide (_ = (0 : Int)) with
    | true=>intro h; cases h
    | false=>intro h; exact ⟨_,h,fun _ _ h'=>h'⟩
   case h_5 =>
    revert h
    cases decide (_ = (0 : Int)) with
    | true=>intro h; cases h
    | false=>intro h; exact ⟨_,h,fun _ _ h'=>h'⟩
   all_goals first | (cases h; done) | exact ⟨_,h,fun _ _ h'=>h'⟩
 ·split at h
  case h_1=>obtain ⟨h0,h⟩:=Qa h; exact ⟨_,h,fun _ _ h'=>by simp only [h0,cond_true]; exact h'⟩
  all_goals first | (cases h; done) | exact ⟨_,h,fun _ _ h'=>h'⟩
 ·split at h
  ·rename_i hu
   (try simp only [hu])
   split at h
   all_goals first | (cases h; done) | exact ⟨_,h,fun _ _ h'=>h'⟩
  ·cases h
 ·split at h
  case h_2=>cases h
  rename_i ty hty
  obtain ⟨h0,h⟩:=Qa h
  (try simp only [hty,h0,cond_true])
  split at h
  case h_2=>cases h
  rename_i u v hu hv
  (try simp only [hu,hv])
  split at h
  all_goals first | (cases h; done) | exact ⟨_,h,fun _ _ h'=>h'⟩
 ·cases h
theorem QgG {P : Program} {st : St} {t : TypeId} {a : V} : Nat1 (R:=R) (Xy P st t a):=by
 intro K r h
 unfold Xy at h ⊢
 split at h
 ·exact GE K r h
 ·split at h
  ·rename_i hb
   (try simp only [hb])
   exact GE K r h
  ·cases h
 ·split at h
  ·rename_i hb
   (try simp only [hb])
   obtain ⟨h0,h⟩:=Qa h
   obtain ⟨v,h1,h2⟩:=GE K r h
   exact ⟨v,h1,fun K' r' h'=>by rw [h0]; exact h2 K' r' h'⟩
  ·rename_i hb
   (try simp only [hb])
   split at h
   case h_2=>cases h
   rename_i hc
   (try simp only [hc])
   split at h
   case h_2=>cases h
   rename_i hc
   (try simp only [hc])
   obtain ⟨h0,h⟩:=Qa h
   obtain ⟨h1,h⟩:=Qa h
   exact ⟨_,h,fun _ _ h'=>by rw [h0,h1]; exact h'⟩
  ·cases h
 ·split at h
  ·rename_i hb
   (try simp only [hb])
   obtain ⟨h0,h⟩:=Qa h
   obtain ⟨v,h1,h2⟩:=GE K r h
   exact ⟨v,h1,fun K' r' h'=>by rw [h0]; exact h2 K' r' h'⟩
  ·cases h
 ·cases h
theorem Qhp {P : Program} {st st' : St} {k : Nat → Nat → Bool} {q : Bool} (hb : ∀ x y,k x y = true → st.bx x y = st'.bx x y) (hq : q = true → st.rw = st'.rw) {t : TypeId} {a : V} (ha : a.kept k q = true) {K : V → Option R} : Xy P st t a K = Xy P st' t a K:=by
 unfold Xy
 cases a <;> first | rfl | (simp only [V.kept] at ha; rw [hq ha]; done) | (simp only [V.kept] at ha; simp only [hb _ _ ha])
theorem Qcj {P : Program} {t : TypeId} {x : V} {f : Nat} : Nat1 (R:=R) (YK P t x f):=by
 intro K r h
 unfold YK at h ⊢
 split at h
 case h_2=>cases h
 revert h
 cases Nat.beq _ 0 with
 | true=>intro h; cases h
 | false =>
  intro h
  simp only [cond_false] at h ⊢
  split at h
  all_goals first | (cases h; done) | exact ⟨_,h,fun _ _ h'=>h'⟩
theorem QfE {P : Program} {t : TypeId} {x : V} {f : Nat} : Nat1 (R:=R) (Qab P t x f):=by
 intro K r h
 unfold Qab at h ⊢
 split at h
 ·rename_i he
  (try simp only [he])
  exact GE K r h
 ·cases h
theorem Qck {P : Program} {st : St} {t : TypeId} {x i : V} : Nat1 (R:=R) (JR P st t x i):=by
 intro K r h
 unfold JR at h ⊢
 split at h
 ·rename_i he
  (try simp only [he])
  split at h
  case h_2=>cases h
  rename_i hc
  (try simp only [hc])
  obtain ⟨h0,h⟩:=Qa h
  exact ⟨_,h,fun _ _ h'=>by rw [h0]; exact h'⟩
 ·rename_i he
  (try simp only [he])
  split at h
  case h_2=>cases h
  rename_i hc
  (try simp only [hc])
  obtain ⟨h0,h⟩:=Qa h
  exact ⟨_,h,fun _ _ h'=>by rw [h0]; exact h'⟩
 ·rename_i he
  (try simp only [he])
  split at h
  case h_2=>cases h
  rename_i hb
  (try simp only [hb])
  split at h
  case h_2=>cases h
  rename_i hc
  (try simp only [hc])
  obtain ⟨h0,h⟩:=Qa h
  exact ⟨_,h,fun _ _ h'=>by rw [h0]; exact h'⟩
 ·rename_i he
  (try simp only [he])
  split at h
  case h_2=>cases h
  rename_i hb
  (try simp only [hb])
  split at h
  case h_2=>cases h
  rename_i hc
  (try simp only [hc])
  obtain ⟨h0,h⟩:=Qa h
  exact ⟨_,h,fun _ _ h'=>by rw [h0]; exact h'⟩
 ·rename_i he
  (try simp only [he])
  split at h
  case h_2=>cases h
  rename_i hb
  (try simp only [hb])
  split at h
  case h_2=>cases h
  rename_i hc
  (try simp only [hc])
  obtain ⟨h0,h⟩:=Qa h
  exact ⟨_,h,fun _ _ h'=>by rw [h0]; exact h'⟩
 ·rename_i he
  (try simp only [he])
  split at h
  case h_2=>cases h
  rename_i hb
  (try simp only [hb])
  obtain ⟨h0,h⟩:=Qa h
  obtain ⟨h1,h⟩:=Qa h
  exact ⟨_,h,fun _ _ h'=>by rw [h0,h1]; exact h'⟩
 ·cases h
theorem Qdi {P : Program} {st st' : St} {k : Nat → Nat → Bool} {q : Bool} (hb : ∀ x y,k x y = true → st.bx x y = st'.bx x y) (hq : q = true → st.rw = st'.rw) (hd : st.dr = st'.dr) {t : TypeId} {x i : V} (hx : x.kept k q = true) {K : V → Option R} : JR P st t x i K = JR P st' t x i K:=by
 unfold JR
 split
 ·rfl
 ·rfl
 ·simp only [V.kept] at hx; simp only [hb _ _ hx]
 ·simp only [V.kept] at hx; rw [hq hx]
 ·rw [hd]
 ·rfl
 ·rfl
theorem Qem {st st' : St} {kk : Nat → Nat → Bool} {q : Bool} (hb : ∀ x y,kk x y = true → st.bx x y = st'.bx x y) {k v : Ty} {m : V} (hx : m.kept kk q = true) : Gu st k v m = Gu st' k v m:=by
 unfold Gu
 split
 ·rfl
 ·simp only [V.kept] at hx; rw [hb _ _ hx]
 ·rfl
theorem QfF {P : Program} {st st' : St} {kk : Nat → Nat → Bool} {q : Bool} (hb : ∀ x y,kk x y = true → st.bx x y = st'.bx x y) {t : TypeId} {m x : V} {ok : Bool} (hx : m.kept kk q = true) {K : V → Option R} : Gj P st t m x ok K = Gj P st' t m x ok K:=by
 unfold Gj
 split
 ·rw [Qem hb hx]
 ·rfl
theorem Qe0 {P : Program} {st : St} {t : TypeId} {m x : V} {ok : Bool} : Nat1 (R:=R) (Gj P st t m x ok):=by
 intro K r h
 unfold Gj at h ⊢
 split at h
 case h_2=>cases h
 rename_i h1
 (try simp only [h1])
 split at h
 case h_2=>cases h
 rename_i h2 h3 h4
 (try simp only [h2,h3,h4])
 revert h
 cases (ok || !(Eh P _ _)) with
 | true=>intro h; cases h
 | false=>intro h; exact ⟨_,h,fun _ _ h'=>h'⟩
theorem QfG {P : Program} {t : TypeId} {x i : V} : Nat1 (R:=R) (Qac P t x i):=by
 intro K r h
 unfold Qac at h ⊢
 split at h
 ·rename_i he
  (try simp only [he])
  obtain ⟨h0,h⟩:=Qa h
  exact ⟨_,h,fun _ _ h'=>by rw [h0]; exact h'⟩
 ·rename_i he
  (try simp only [he])
  split at h
  case h_2=>cases h
  rename_i hb
  (try simp only [hb])
  split at h
  case h_2=>cases h
  rename_i hc
  (try simp only [hc])
  obtain ⟨h0,h⟩:=Qa h
  obtain ⟨h1,h⟩:=Qa h
  exact ⟨_,h,fun _ _ h'=>by rw [h0,h1]; exact h'⟩
 ·cases h
theorem Qe1 {P : Program} {t : TypeId} {x : V} {lo hi mx : Option V} : Nat1 (R:=R) (UW P t x lo hi mx):=by
 intro K r h
 unfold UW at h ⊢
 split at h
 ·rename_i he
  (try simp only [he])
  obtain ⟨h0,h⟩:=Qa h
  obtain ⟨v,h1,h2⟩:=Uj K r h
  exact ⟨v,h1,fun K' r' h'=>by rw [h0]; exact h2 K' r' h'⟩
 ·cases h
theorem QfH {P : Program} {t : TypeId} {x : V} {lo hi : Option V} : Nat1 (R:=R) (Qad P t x lo hi):=by
 intro K r h
 unfold Qad at h ⊢
 split at h
 ·rename_i he
  (try simp only [he])
  exact Uj K r h
 ·rename_i he
  (try simp only [he])
  obtain ⟨h0,h⟩:=Qa h
  obtain ⟨v,h1,h2⟩:=Uj K r h
  exact ⟨v,h1,fun K' r' h'=>by rw [h0]; exact h2 K' r' h'⟩
 ·rename_i he
  (try simp only [he])
  obtain ⟨h0,h⟩:=Qa h
  split at h
  ·obtain ⟨v,h1,h2⟩:=Uj K r h
   exact ⟨v,h1,fun K' r' h'=>by rw [h0]; exact h2 K' r' h'⟩
  ·obtain ⟨v,h1,h2⟩:=Uj K r h
   exact ⟨v,h1,fun K' r' h'=>by rw [h0]; exact h2 K' r' h'⟩
 ·cases h
theorem QdN {P : Program} {s t : TypeId} {x : V} : Nat1 (R:=R) (QbN P s t x):=by
 intro K r h
 unfold QbN at h ⊢
 split at h
 ·rename_i he he2; (try simp only [he,he2]); exact ⟨_,h,fun _ _ h'=>h'⟩
 ·rename_i he he2; (try simp only [he,he2]); exact ⟨_,h,fun _ _ h'=>h'⟩
 ·rename_i he he2
  (try simp only [he,he2])
  split at h
  ·rename_i h3; (try simp only [h3]); exact ⟨_,h,fun _ _ h'=>h'⟩
  ·cases h
 ·rename_i he he2
  (try simp only [he,he2])
  split at h
  ·rename_i h3; (try simp only [h3])
   obtain ⟨h0,h⟩:=Qa h
   exact ⟨_,h,fun _ _ h'=>by rw [h0]; exact h'⟩
  ·cases h
 ·rename_i he he2
  (try simp only [he,he2])
  split at h
  ·rename_i h3; (try simp only [h3])
   obtain ⟨h0,h⟩:=Qa h
   exact ⟨_,h,fun _ _ h'=>by rw [h0]; exact h'⟩
  ·cases h
 ·rename_i he he2
  (try simp only [he,he2])
  split at h
  ·rename_i h3; (try simp only [h3]); exact ⟨_,h,fun _ _ h'=>h'⟩
  ·cases h
 ·cases h
theorem QfI {P : Program} {t : TypeId} {ps : List (Nat × V)} : Nat1 (R:=R) (Qae P t ps):=by
 intro K r h
 unfold Qae at h ⊢
 split at h
 ·rename_i he he2
  (try simp only [he,he2])
  obtain ⟨h0,h⟩:=Qa h
  rw [h0]
  simp only [cond_true]
  split at h
  ·rename_i h3; (try simp only [h3]); exact ⟨_,h,fun _ _ h'=>h'⟩
  ·cases h
 ·rename_i he he2
  (try simp only [he,he2])
  obtain ⟨h0,h⟩:=Qa h
  rw [h0]
  simp only [cond_true]
  split at h
  ·rename_i h3; (try simp only [h3]); exact ⟨_,h,fun _ _ h'=>h'⟩
  ·cases h
 ·cases h
theorem Qhq {P : Program} {st : St} {t : TypeId} {x : V} : Nat1 (R:=R) (QdY P st t x):=by
 intro K r h
 unfold QdY at h ⊢
 split at h
 ·split at h
  ·rename_i h3; (try simp only [h3]); exact ⟨_,h,fun _ _ h'=>h'⟩
  ·cases h
 ·split at h
  ·rename_i h3; (try simp only [h3]); exact ⟨_,h,fun _ _ h'=>h'⟩
  ·cases h
 ·split at h
  ·rename_i h3; (try simp only [h3]); exact ⟨_,h,fun _ _ h'=>h'⟩
  ·cases h
 ·split at h
  ·rename_i h3; (try simp only [h3]); exact ⟨_,h,fun _ _ h'=>h'⟩
  ·cases h
 ·split at h
  ·rename_i h3 h4; (try simp only [h3,h4]); exact ⟨_,h,fun _ _ h'=>h'⟩
  ·cases h
 ·split at h
  ·rename_i h3 h4; (try simp only [h3,h4]); exact ⟨_,h,fun _ _ h'=>h'⟩
  ·cases h
 ·split at h
  ·rename_i h3 h4; (try simp only [h3,h4]); exact ⟨_,h,fun _ _ h'=>h'⟩
  ·cases h
 ·cases h
theorem Qh7 {P : Program} {st st' : St} {k : Nat → Nat → Bool} {q : Bool} (hb : ∀ x y,k x y = true → st.bx x y = st'.bx x y) (hq : q = true → st.rw = st'.rw) (hd : st.dr = st'.dr) {t : TypeId} {x : V} (hx : x.kept k q = true) {K : V → Option R} : QdY P st t x K = QdY P st' t x K:=by
 unfold QdY
 split
 ·rfl
 ·rfl
 ·rfl
 ·rfl
 ·simp only [V.kept] at hx; simp only [hb _ _ hx]
 ·simp only [V.kept] at hx; rw [hq hx]
 ·rw [hd]
 ·rfl
theorem Qhr {x y : V} : Nat1 (R:=R) (Qgw x y):=by
 intro K r h
 unfold Qgw at h ⊢
 split at h
 ·split at h
  ·rename_i hk; (try simp only [if_pos hk]); exact ⟨_,h,fun _ _ h'=>h'⟩
  ·cases h
 ·cases h
theorem Qhs {x y : V} : Nat1 (R:=R) (Qgx x y):=by
 intro K r h
 unfold Qgx at h ⊢
 split at h
 ·split at h
  ·rename_i hk; (try simp only [if_pos hk]); exact ⟨_,h,fun _ _ h'=>h'⟩
  ·cases h
 ·cases h
theorem WM {st st' : St} {d : Nat} : ∀ {ps : List (Nat × Operand)},(∀ t ∈ ps.flatMap (fun p=>Zc p.2),st.tm d t = st'.tm d t) → ps.map (fun p=>(p.1,st.ev d p.2)) = ps.map (fun p=>(p.1,st'.ev d p.2))
 | [],_=>rfl
 | x :: xs,h=>by
  rw [List.map_cons,List.map_cons,QE (fun t ht=>h t (by simp [ht])),WM (ps:=xs) (fun t ht=>h t (by rw [List.flatMap_cons]; exact List.mem_append_right _ ht))]
theorem GF {st st' : St} {d : Nat} {x : Option Operand} (h : ∀ t ∈ x.toList.flatMap Zc,st.tm d t = st'.tm d t) : x.map (st.ev d) = x.map (st'.ev d):=by
 cases x with
 | none=>rfl
 | some x=>simp only [Option.map_some]; rw [QE (fun t ht=>h t (by simpa using ht))]
def Qht (c x y : V) (K : V → Option R) : Option R :=
 match c with
 | .d .bool t=>bif t then K x else K y
 | _=>none
theorem QgH {c x y : V} : Nat1 (R:=R) (Qht c x y):=by
 intro K r h
 unfold Qht at h ⊢
 split at h
 ·rename_i t
  cases t
  ·exact ⟨_,h,fun _ _ h'=>h'⟩
  ·exact ⟨_,h,fun _ _ h'=>h'⟩
 ·cases h
def Qay (x : V) (K : V → Option R) : Option R :=
 match x with
 | .ptr a b c=>K (.ptr a b c)
 | .eptr cs=>K (.eptr cs)
 | .rptr a b c e f=>K (.rptr a b c e f)
 | _=>none
theorem Qdj {x : V} : Nat1 (R:=R) (Qay x):=by
 intro K r h
 unfold Qay at h ⊢
 split at h
 all_goals first | (cases h; done) | exact ⟨_,h,fun _ _ h'=>h'⟩
def Qcl (x : V) (i : Nat) (K : V → Option R) : Option R :=
 match x with
 | .tup vs=>match vs[i]? with
  | some v=>K v
  | none=>none
 | _=>none
theorem Qen {x : V} {i : Nat} : Nat1 (R:=R) (Qcl x i):=by
 intro K r h
 unfold Qcl at h ⊢
 split at h
 ·split at h
  ·rename_i hv; (try simp only [hv]); exact ⟨_,h,fun _ _ h'=>h'⟩
  ·cases h
 ·cases h
theorem ml {P : Nat → Prop} {a b : List Nat} (h : ∀ t ∈ a ++ b,P t) : (∀ t ∈ a,P t) ∧ (∀ t ∈ b,P t):=⟨fun t ht=>h t (List.mem_append_left _ ht),fun t ht=>h t (List.mem_append_right _ ht)⟩
theorem Qeo (k : Nat → Nat → Bool) (q : Bool) (v : Value) : (YB v).kept k q = true:=by
 unfold YB
 split
 ·rfl
 ·cases inK _ _ <;> rfl
 ·cases Nat.ble _ _ <;> rfl
 ·rfl
 ·rfl
theorem EC {k : Nat → Nat → Bool} {q : Bool} {st : St} {d : Nat} {x : Operand} (h : ∀ t ∈ Zc x,(st.tm d t).kept k q = true) : (st.ev d x).kept k q = true:=by
 cases x with
 | tmp t=>exact h t (by simp [Zc])
 | const v=>exact Qeo k q v
 | func f=>rfl
 | global g=>rfl
def Eff.boxed? : Eff → Bool
 | .boxed ..=>true
 | _=>false
def Eff.grown? : Eff → Bool
 | .grown ..=>true
 | _=>false
def Eff.deep? : Eff → Bool
 | .deep ..=>true
 | _=>false
theorem QgI (C C' : Ctx R) (hP : C.P = C'.P) {st : St} {d : Nat} {path path' : List Nat} {here here' : Nat} {o : Oper} (hl : Zl C.P o = true) {k : Nat → Nat → Bool} {q : Bool} (hkp : ∀ t ∈ JS o,(st.tm d t).kept k q = true) {K : Q1 R} {r : R}
  (hs : QP C d path here o st K = some r) : ∃ v,K (st.put d o.dst v) = some r ∧ ∀ st' : St,(∀ t ∈ JS o,st'.tm d t = st.tm d t) → (∀ x y,k x y = true → st'.bx x y = st.bx x y) → ((q = true → st'.rw = st.rw) ∧ (QeE o = true → st'.dr = st.dr)) → ∀ (K' : Q1 R) r',K' (st'.put d o.dst v) = some r' → QP C' d path' here' o st' K' = some r':=by
 have fin : ∀ {F : (V → Option R) → Option R},Nat1 F → F (fun v=>K (st.put d o.dst v)) = some r → (∀ st' : St,(∀ t ∈ JS o,st'.tm d t = st.tm d t) → (∀ x y,k x y = true → st'.bx x y = st.bx x y) → ((q = true → st'.rw = st.rw) ∧ (QeE o = true → st'.dr = st.dr)) → ∀ K' : Q1 R,QP C' d path' here' o st' K' = F (fun v=>K' (st'.put d o.dst v))) →
   ∃ v,K (st.put d o.dst v) = some r ∧ ∀ st' : St,(∀ t ∈ JS o,st'.tm d t = st.tm d t) → (∀ x y,k x y = true → st'.bx x y = st.bx x y) → ((q = true → st'.rw = st.rw) ∧ (QeE o = true → st'.dr = st.dr)) → ∀ (K' : Q1 R) r',K' (st'.put d o.dst v) = some r' → QP C' d path' here' o st' K' = some r':=by
  intro F hF h he
  obtain ⟨v,h1,h2⟩:=hF _ _ h
  exact ⟨v,h1,fun st' hag hbx hq K' r' h'=>(he st' hag hbx hq K').trans (h2 (fun v=>K' (st'.put d o.dst v)) r' h')⟩
 cases hop : o.op <;> simp only [QP,hop] at hs <;> (try (cases hs; done)) <;> (try (simp [Zl,hop] at hl; done)) <;> simp only [JS,hop] at fin hkp ⊢
 case move x=>exact fin (.out _) hs fun st' hag _ _ K'=>by simp only [QP,hop]; rw [QE hag]
 case assign x=>exact fin (.out _) hs fun st' hag _ _ K'=>by simp only [QP,hop]; rw [QE hag]
 case pick c x y =>
  refine fin (F:=Qht (st.ev d c) (st.ev d x) (st.ev d y)) QgH hs fun st' hag _ _ K'=>?_
  obtain ⟨h1,h3⟩:=ml hag
  obtain ⟨h1,h2⟩:=ml h1
  simp only [QP,hop]
  rw [QE h1,QE h2,QE h3]
  rfl
 case binOp op t x y t' =>
  have hn : QaW y = false:=by simpa [Zl,hop] using hl
  rw [hn] at hs
  refine fin (F:=Ed C.P op t (st.ev d x) (st.ev d y)) Qho hs fun st' hag _ _ K'=>?_
  obtain ⟨h1,h2⟩:=ml hag
  simp only [QP,hop,hn,cond_false]
  rw [QE h1,QE h2,hP]
 case unOp op t x=>exact fin Qh6 hs fun st' hag _ _ K'=>by simp only [QP,hop]; rw [QE hag]
 case load t x =>
  have hn : Qah x = none:=by simpa [Zl,hop] using hl
  rw [hn] at hs
  exact fin (F:=Xy C.P st t (st.ev d x)) QgG hs fun st' hag hbx hq K'=>by simp only [QP,hop,hn]; rw [QE hag,Qhp hbx hq.1 (EC hkp),hP]
 case nilCheck x =>
  refine fin (F:=Qay (st.ev d x)) Qdj hs fun st' hag _ _ K'=>?_
  simp only [QP,hop]; rw [QE hag]; rfl
 case fieldAddr t x f=>exact fin (F:=YK C.P t (st.ev d x) f) Qcj hs fun st' hag _ _ K'=>by simp only [QP,hop]; rw [QE hag,hP]
 case field t x f=>exact fin (F:=Qab C.P t (st.ev d x) f) QfE hs fun st' hag _ _ K'=>by simp only [QP,hop]; rw [QE hag,hP]
 case indexAddr t x i =>
  refine fin (F:=JR C.P st t (st.ev d x) (st.ev d i)) Qck hs fun st' hag hbx hq K'=>?_
  obtain ⟨h1,h2⟩:=ml hag
  simp only [QP,hop]
  rw [QE h1,QE h2,Qdi hbx hq.1 (hq.2 (by simp [QeE,hop])) (EC (ml hkp).1),hP]
 case lookup t x i ok =>
  refine fin (F:=Gj C.P st t (st.ev d x) (st.ev d i) ok) Qe0 hs fun st' hag hbx _ K'=>?_
  obtain ⟨h1,h2⟩:=ml hag
  simp only [QP,hop]
  rw [QE h1,QE h2,QfF hbx (EC (ml hkp).1),hP]
 case index t x i =>
  refine fin (F:=Qac C.P t (st.ev d x) (st.ev d i)) QfG hs fun st' hag _ _ K'=>?_
  obtain ⟨h1,h2⟩:=ml hag
  simp only [QP,hop]
  rw [QE h1,QE h2,hP]
 case slice t x lo hi mx =>
  cases mx with
  | some m =>
   refine fin (F:=UW C.P t (st.ev d x) (lo.map (st.ev d)) (hi.map (st.ev d)) (some (st.ev d m))) Qe1 hs fun st' hag _ _ K'=>?_
   obtain ⟨h1,h4⟩:=ml hag
   obtain ⟨h1,h3⟩:=ml h1
   obtain ⟨h1,h2⟩:=ml h1
   have h5:=GF h4
   simp only [Option.map_some,Option.some.injEq] at h5
   simp only [QP,hop]
   rw [QE h1,GF h2,GF h3,h5,hP]
  | none =>
   refine fin (F:=Qad C.P t (st.ev d x) (lo.map (st.ev d)) (hi.map (st.ev d))) QfH hs fun st' hag _ _ K'=>?_
   obtain ⟨h1,_⟩:=ml hag
   obtain ⟨h1,h3⟩:=ml h1
   obtain ⟨h1,h2⟩:=ml h1
   simp only [QP,hop]
   rw [QE h1,GF h2,GF h3,hP]
 case convert s t x=>exact fin (F:=QbN C.P s t (st.ev d x)) QdN hs fun st' hag _ _ K'=>by simp only [QP,hop]; rw [QE hag,hP]
 case extract x i =>
  refine fin (F:=Qcl (st.ev d x) i) Qen hs fun st' hag _ _ K'=>?_
  simp only [QP,hop]; rw [QE hag]; rfl
 case build t ps=>exact fin (F:=Qae C.P t (ps.toList.map fun p=>(p.1,st.ev d p.2))) QfI hs fun st' hag _ _ K'=>by simp only [QP,hop]; rw [WM hag,hP]
 case makeFunc f first caps =>
  cases f with
  | func g =>
   simp only at hs
   split at hs
   case h_2=>cases hs
   rename_i hfirst
   refine fin (F:=fun K=>K (.fn g (caps.toList.map (st.ev d)))) (.out _) hs fun st' hag _ _ K'=>?_
   simp only [QP,hop,hfirst]
   rw [EB hag]
  | _=>simp only at hs; cases hs
 case call c =>
  obtain ⟨callee,args,argTypes⟩:=c
  cases callee with
  | value f=>simp [Zl,hop] at hl
  | invoke r m=>simp only at hs; cases hs
  | builtin b =>
   cases b <;> simp only at hs <;> (try (cases hs; done)) <;> (try (simp [Zl,hop] at hl; done))
   case len =>
    split at hs
    case h_2=>cases hs
    rename_i x t hargs htypes
    simp only [hargs] at fin hkp ⊢
    refine fin (F:=QdY C.P st t (st.ev d x)) Qhq hs fun st' hag hbx hq K'=>?_
    simp only [QP,hop,hargs,htypes]
    rw [QE (x:=x) (fun t ht=>hag t (by simpa using ht)),Qh7 hbx hq.1 (hq.2 (by simp [QeE,hop])) (EC (x:=x) (fun t ht=>hkp t (by simpa using ht))),hP]
   case min =>
    split at hs
    case h_2=>cases hs
    rename_i x y hargs
    simp only [hargs] at fin ⊢
    refine fin (F:=Qgw (st.ev d x) (st.ev d y)) Qhr hs fun st' hag hbx hq K'=>?_
    simp only [QP,hop,hargs]
    rw [QE (x:=x) (fun t ht=>hag t (by simp [ht])),QE (x:=y) (fun t ht=>hag t (by simp [ht]))]
   case max =>
    split at hs
    case h_2=>cases hs
    rename_i x y hargs
    simp only [hargs] at fin ⊢
    refine fin (F:=Qgx (st.ev d x) (st.ev d y)) Qhs hs fun st' hag hbx hq K'=>?_
    simp only [QP,hop,hargs]
    rw [QE (x:=x) (fun t ht=>hag t (by simp [ht])),QE (x:=y) (fun t ht=>hag t (by simp [ht]))]
theorem QgJ (C C' : Ctx R) (hP : C.P = C'.P) {st : St} {d : Nat} {path path' : List Nat} {here here' : Nat} {o : Oper} (hl : Gl o = true) {k : Nat → Nat → Bool} {q : Bool} (hkp : ∀ t ∈ JS o,(st.tm d t).kept k q = true) (hqg : X3 o = true → q = false) (hI : ZF C.I (here :: path) = none) (hI' : ZF C'.I (here' :: path') = none) {K : Q1 R} {r : R}
  (hs : QP C d path here o st K = some r) : ∃ e : Eff,K (e.app d o.dst st) = some r ∧ (e.boxed? = true → Qdz o = true ∧ ∀ t,o.dst = some t → st.bx d t = .none) ∧ (e.grown? = true → X3 o = true) ∧ e.deep? = false ∧
   ∀ st' : St,(∀ t ∈ JS o,st'.tm d t = st.tm d t) → (e.boxed? = true → ∀ t,o.dst = some t → st'.bx d t = .none) → (e.grown? = true → st'.nt = st.nt ∧ st'.lv = st.lv) → ∀ (K' : Q1 R) r',K' (e.app d o.dst st') = some r' → QP C' d path' here' o st' K' = some r':=by
 cases hop : o.op <;> simp only [QP,hop] at hs <;> (try (cases hs; done)) <;> (try (simp [Gl,hop] at hl; done)) <;> simp only [JS,hop] at hkp ⊢
 case alloc e =>
  split at hs
  case h_2=>cases hs
  rename_i s z hdst hz
  split at hs
  case h_2=>cases hs
  rename_i hb
  refine ⟨.boxed (.ptr d s 0) (.cells z),by unfold Eff.app; simp only [hdst]; exact hs,fun _=>⟨by simp [Qdz,hop],fun t ht=>by rw [hdst] at ht; cases ht; exact hb⟩,(fun h=>by cases h),rfl,fun st' _ hb' _ K' r' h'=>?_⟩
  have hb2:=hb' rfl s hdst
  simp only [QP,hop,hdst,← hP,hz,hb2]
  unfold Eff.app at h'
  simp only [hdst] at h'
  exact h'
 case box e x =>
  split at hs
  case h_2=>cases hs
  rename_i s hdst
  split at hs
  case h_2=>cases hs
  rename_i hb
  obtain ⟨hp,hs⟩:=Qa hs
  refine ⟨.boxed (.ptr d s 0) (.cells (st.ev d x).cellsOf),by unfold Eff.app; simp only [hdst]; exact hs,fun _=>⟨by simp [Qdz,hop],fun t ht=>by rw [hdst] at ht; cases ht; exact hb⟩,(fun h=>by cases h),rfl,fun st' hag hb' _ K' r' h'=>?_⟩
  have hb2:=hb' rfl s hdst
  simp only [QP,hop,hdst,hb2]
  rw [QE hag,hp]
  unfold Eff.app at h'
  simp only [hdst] at h'
  exact h'
 case convert s t x =>
  obtain ⟨v,h1,h2⟩:=QdN _ _ hs
  refine ⟨.val v,h1,(fun h=>by cases h),(fun h=>by cases h),rfl,fun st' hag _ _ K' r' h'=>?_⟩
  simp only [QP,hop]
  rw [QE hag,← hP]
  exact h2 (fun v=>K' (st'.put d o.dst v)) r' h'
 case buildSlice t n ps =>
  rw [hI] at hs
  simp only at hs
  unfold VO at hs
  split at hs
  case h_2=>cases hs
  rename_i e he
  split at hs
  case h_2=>cases hs
  rename_i ty hty
  split at hs
  case h_2=>cases hs
  rename_i z hz
  obtain ⟨h0,hs⟩:=Qa hs
  split at hs
  case h_2=>cases hs
  rename_i xs hxs
  refine ⟨.grown none (.own st.nt ty xs),hs,(fun h=>by cases h),fun _=>by simp [X3,hop],rfl,fun st' hag _ hg K' r' h'=>?_⟩
  obtain ⟨g1,g2⟩:=hg rfl
  simp only [QP,hop,hI']
  unfold VO
  rw [WM hag,← hP]
  simp only [he,hty,hz,h0,cond_true,hxs,g1]
  exact h'
 case makeSlice t l c =>
  rw [hI] at hs
  simp only at hs
  unfold Vy at hs
  split at hs
  case h_2=>cases hs
  rename_i e s he hdst
  split at hs
  case h_2=>cases hs
  rename_i ty hty
  split at hs
  case h_2=>cases hs
  rename_i z hz
  split at hs
  case h_2=>cases hs
  rename_i n m hl1 hc1
  split at hs
  case h_2=>cases hs
  rename_i hb
  obtain ⟨h0,hs⟩:=Qa hs
  refine ⟨.boxed (.msl d s) (.rows ty (List.replicate (Int.toNat n) z)),by unfold Eff.app; simp only [hdst]; rw [hdst] at hs; exact hs,fun _=>⟨by simp [Qdz,hop],fun t ht=>by rw [hdst] at ht; cases ht; exact hb⟩,(fun h=>by cases h),rfl,fun st' hag hb' _ K' r' h'=>?_⟩
  have hb2:=hb' rfl s hdst
  obtain ⟨a1,a2⟩:=ml hag
  simp only [QP,hop,hI']
  unfold Vy
  rw [QE a1,QE a2,← hP]
  simp only [he,hdst,hty,hz,hl1,hc1,hb2,h0,cond_true]
  unfold Eff.app at h'
  simp only [hdst] at h'
  exact h'
 case call c =>
  obtain ⟨callee,args,argTypes⟩:=c
  cases callee with
  | value f=>simp [Gl,hop] at hl
  | invoke r m=>simp only at hs; cases hs
  | builtin b =>
   cases b <;> simp only at hs <;> (try (cases hs; done)) <;> (try (simp [Gl,hop] at hl; done))
   case append =>
    split at hs
    case h_2=>cases hs
    rename_i s x t t' hargs htypes
    obtain ⟨ht,hs⟩:=Qa hs
    simp only [hargs] at hkp ⊢
    rw [hI] at hs
    simp only at hs
    unfold UX at hs
    split at hs
    case h_2=>cases hs
    rename_i e he
    split at hs
    case h_2=>cases hs
    rename_i ty hty
    split at hs
    case h_2=>cases hs
    rename_i z hz
    revert hs
    cases hcz : Nat.beq ty.cells 0 with
    | true=>intro hs; cases hs
    | false =>
     intro hs
     simp only [cond_false] at hs
     split at hs
     case h_2=>cases hs
     rename_i ys hys
     have es : ∀ {st' : St},(∀ t ∈ [s,x].flatMap Zc,st'.tm d t = st.tm d t) → st'.ev d s = st.ev d s ∧ st'.ev d x = st.ev d x:=fun hag =>
      ⟨QE (fun t ht=>hag t (by simp [ht])),QE (fun t ht=>hag t (by simp [ht]))⟩
     split at hs
     ·rename_i hv
      obtain ⟨h0,hs⟩:=Qa hs
      refine ⟨.grown none (.own st.nt ty ys),hs,(fun h=>by cases h),fun _=>by simp [X3,hop],rfl,fun st' hag _ hg K' r' h'=>?_⟩
      obtain ⟨g1,g2⟩:=hg rfl
      obtain ⟨e1,e2⟩:=es hag
      simp only [QP,hop,hargs,htypes,ht,cond_true,hI']
      unfold UX
      rw [e1,e2,← hP]
      simp only [he,hty,hz,hcz,cond_false,hys,hv,h0,cond_true,g1]
      exact h'
     ·rename_i tok ty' xs hv
      split at hs
      case h_2=>cases hs
      rename_i xs' hc
      obtain ⟨hlv,hs⟩:=Qa hs
      obtain ⟨h0,hs⟩:=Qa hs
      refine ⟨.grown (some tok) (.own st.nt ty (xs' ++ ys)),hs,(fun h=>by cases h),fun _=>by simp [X3,hop],rfl,fun st' hag _ hg K' r' h'=>?_⟩
      obtain ⟨g1,g2⟩:=hg rfl
      obtain ⟨e1,e2⟩:=es hag
      simp only [QP,hop,hargs,htypes,ht,cond_true,hI']
      unfold UX
      rw [e1,e2,← hP]
      simp only [he,hty,hz,hcz,cond_false,hys,hv,hc,g2,hlv,h0,cond_true,g1]
      exact h'
     ·rename_i tok hv
      have:=EC (k:=k) (q:=q) (st:=st) (d:=d) (x:=s) (fun t ht=>hkp t (by simp [ht]))
      rw [hv,hqg (by simp [X3,hop])] at this
      cases this
     ·cases hs
section
variable {P : Program} {base : Nat} {w0 : Orig} {dp nn : Nat} {st : St} {θ : Nat → Nat → Value} {M : Me} {a : Act} {w : World}
theorem QfJ (C : Ctx R) (hP : C.P = P) (h : RelA P base w0 dp nn st θ M a w) {path : List Nat} {here : Nat} {o : Oper} (hl : Gw o = true) {K : Q1 R} {r : R} (hs : QP C dp path here o st K = some r) :
  ∃ v u,K (st.put dp o.dst v) = some r ∧ RelV M v u ∧ v.le dp = true ∧ ∀ w',(execOp a.eval o).run P w' = .ok (.value u) w':=by
 subst hP
 have flat : ∀ {s : Sem Value},GivesFlat C.P M w (fun v=>K (st.put dp o.dst v)) r s → (execOp a.eval o = (do pure (.value (← s)))) → ∃ v u,K (st.put dp o.dst v) = some r ∧ RelV M v u ∧ v.le dp = true ∧ ∀ w',(execOp a.eval o).run C.P w' = .ok (.value u) w':=by
  intro s hg hrun
  obtain ⟨v,u,h1,h2,h3,h4⟩:=hg
  refine ⟨v,u,h1,h3,h4 dp,fun w'=>?_⟩
  rw [hrun,Sem.run_bind,h2 w']
  rfl
 cases hop : o.op <;> simp only [QP,hop] at hs <;> (try (simp [Gw,hop] at hl; done))
 case move x=>exact ⟨_,_,hs,(h.ev x).1,(h.ev x).2,fun w'=>by simp [execOp,hop]⟩
 case assign x=>exact ⟨_,_,hs,(h.ev x).1,(h.ev x).2,fun w'=>by simp [execOp,hop]⟩
 case pick c x y =>
  split at hs
  case h_2=>cases hs
  rename_i t hc0
  have hcv:=(h.ev c).1
  rw [hc0] at hcv
  have hcv:=hcv.bool_inv
  cases t with
  | true=>exact ⟨_,_,hs,(h.ev x).1,(h.ev x).2,fun w'=>by simp [execOp,hop,hcv,asBool]⟩
  | false=>exact ⟨_,_,hs,(h.ev y).1,(h.ev y).2,fun w'=>by simp [execOp,hop,hcv,asBool]⟩
 case binOp op t x y t' =>
  have hn : QaW y = false:=by simpa [Gw,hop] using hl
  rw [hn] at hs
  exact flat (QbY (X:=x) (Y:=y) (w:=w) hs (h.ev x).1 (h.ev y).1) (by simp [execOp,hop])
 case fieldAddr t x f =>
  obtain ⟨v,u,h1,h2,h3,h4⟩:=Hw (P:=C.P) hs (h.ev x).1 (h.ev x).2
  refine ⟨v,u,h1,h3,h4,fun w'=>?_⟩
  have : execOp a.eval o = (do pure (.value (← Instr.fieldAt t (a.eval x) f))):=by simp [execOp,hop]
  rw [this,Sem.run_bind,h2 w']
  rfl
 case unOp op t x=>exact flat (QdD (P:=C.P) (w:=w) hs (h.ev x).1) (by simp [execOp,hop])
 case extract x i =>
  split at hs
  case h_2=>cases hs
  rename_i vs he
  split at hs
  case h_2=>cases hs
  rename_i v hv
  have hx:=h.ev x
  rw [he] at hx
  obtain ⟨u,k1,k2,k3⟩:=Wj (P:=C.P) hx.1 hx.2 hv
  refine ⟨v,u,hs,k2,k3,fun w'=>?_⟩
  have : execOp a.eval o = (do pure (.value (← Instr.extract (a.eval x) i))):=by simp [execOp,hop]
  rw [this,Sem.run_bind,k1 w']
  rfl
end
end Go.Ab
