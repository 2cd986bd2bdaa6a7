import Derived.Test.YtedpigpcdllpaaaGreatAskC
namespace Go.Ab
open Go.Proofs
noncomputable section
theorem Qic {α : Type} {xs : List α} {y : α} {c : Int} (hx : xs.length ≤ 3000000) (h0 : 0 ≤ c) (h1 : c ≤ 1000) : (decide (((xs.length : Int) + (([y] : List α).length : Int)) * c ≤ ZB) && decide ((xs.length : Int) + (([y] : List α).length : Int) ≤ ZB)) = true:=by
 have h : ((xs.length : Int) + 1) * c ≤ 3000001 * 1000:=Int.mul_le_mul (by omega) h1 h0 (by omega)
 rw [U9,Bool.and_eq_true,decide_eq_true_eq,decide_eq_true_eq,List.length_singleton]
 exact ⟨by push_cast at h ⊢; omega,by omega⟩
theorem QGo {α : Type} {p : α → Prop} {a : α} {l : List α} : (∃ x,x ∈ a :: l ∧ p x) ↔ p a ∨ ∃ x,x ∈ l ∧ p x:=by
 constructor
 ·rintro ⟨x,h,hp⟩
  rcases List.mem_cons.1 h with rfl | h
  ·exact .inl hp
  ·exact .inr ⟨x,h,hp⟩
 ·rintro (h | ⟨x,h,hp⟩)
  ·exact ⟨a,List.mem_cons_self,h⟩
  ·exact ⟨x,List.mem_cons_of_mem _ h,hp⟩
theorem QGy {x : List Int} (h : bytesL x) : isB (bsI x) = x:=by
 unfold isB bsI
 rw [List.map_map]
 conv=>rhs; rw [← List.map_id x]
 apply List.map_congr_left
 intro b hb
 have:=h b hb
 simp only [Function.comp,UInt8.toNat_ofNat',id]
 omega
theorem Qlr {xs : List (List Int)} (h : ∀ x ∈ xs,bytesL x) {y : List Int} : y ∈ VV xs ↔ y ∈ xs:=by
 unfold VV
 simp only [List.mem_map,QwI]
 constructor
 ·rintro ⟨z,⟨x,hx,rfl⟩,rfl⟩
  rw [QGy (h x hx)]; exact hx
 ·intro hy
  exact ⟨bsI y,⟨y,hy,rfl⟩,QGy (h y hy)⟩
def QiW (k : Qm) : Bool:=decide (k.2.1 = ([] : List Int)) && !k.2.2.1
def Qe1 (r : Qf) : List (List Int):=(r.2.filter QiW).map (·.1)
theorem Qg0 {r : Qf} {x : List Int} : x ∈ Qe1 r ↔ ∃ k ∈ r.2,QiW k = true ∧ k.1 = x:=by
 unfold Qe1
 simp only [List.mem_map,List.mem_filter]
 constructor
 ·rintro ⟨k,⟨h1,h2⟩,h3⟩; exact ⟨k,h1,h2,h3⟩
 ·rintro ⟨k,h1,h2,h3⟩; exact ⟨k,⟨h1,h2⟩,h3⟩
theorem Qe2 : ∀ (l : List Qm) (acc : List (List Int)),acc.length + l.length ≤ 3000000 → Jo l acc = some (VV (acc ++ (l.filter QiW).map (·.1)))
 | [],acc,_=>by rw [Jo]; simp
 | e :: l,acc,h=>by
  simp only [List.length_cons] at h
  rw [Jo,Qe2 l _ (by simp; omega),Qe2 l acc (by omega),Qic (by omega) (by omega) (by omega),List.filter_cons,QiW]
  cases decide (e.2.1 = ([] : List Int)) <;> cases e.2.2.1 <;> simp
theorem QqN {r : Qf} (h : r.2.length ≤ 2000000) : J9 r = some (VV (Qe1 r)):=by
 rw [J9,QL (by unfold maxLen; omega),Qe2 _ _ (by simp; omega)]; rfl
def QB7 (l : List (List Int)) (x : List Int) : Bool:=l.any fun e=>decide (e = x)
theorem QoP (x : List Int) : ∀ l : List (List Int),Vi x l = some (QB7 l x)
 | []=>rfl
 | e :: r=>by
  rw [Vi,QoP x r]
  unfold QB7
  rw [List.any_cons]
  cases decide (e = x) <;> rfl
theorem QB8 {l : List (List Int)} (h : l.length ≤ maxLen) (x : List Int) : H5 l x = some (QB7 l x):=by
 rw [H5,QL h,QoP]
def Qid (s : Qa) (n : List Int) : List Qm → List (List Int) → List (List Int)
 | [],acc=>acc
 | k :: r,acc=>bif QiW k && GW s k.1 n && !(QB7 acc k.1) then Qid s n r (acc ++ [k.1]) else Qid s n r acc
theorem Qwf (s : Qa) (n : List Int) : ∀ (l : List Qm) (acc : List (List Int)),(Qid s n l acc).length ≤ acc.length + l.length
 | [],acc=>Nat.le_refl _
 | k :: r,acc=>by
  rw [Qid]
  cases (QiW k && GW s k.1 n && !(QB7 acc k.1)) with
  | true=>have:=Qwf s n r (acc ++ [k.1]); simp only [cond_true,List.length_append,List.length_cons,List.length_nil] at this ⊢; omega
  | false=>have:=Qwf s n r acc; simp only [cond_false,List.length_cons] at this ⊢; omega
theorem QfR (s : Qa) (n x : List Int) : ∀ (l : List Qm) (acc : List (List Int)),x ∈ Qid s n l acc ↔ x ∈ acc ∨ ∃ k ∈ l,QiW k = true ∧ GW s k.1 n = true ∧ k.1 = x
 | [],acc=>by simp [Qid]
 | k :: r,acc=>by
  rw [Qid]
  have h1:=QfR s n x r (acc ++ [k.1])
  have h2:=QfR s n x r acc
  have h3 : QB7 acc k.1 = true ↔ k.1 ∈ acc:=by
   unfold QB7
   rw [List.any_eq_true]
   constructor
   ·rintro ⟨e,h,h4⟩; rw [of_decide_eq_true h4] at h; exact h
   ·intro h; exact ⟨_,h,decide_eq_true rfl⟩
  cases hp : QiW k <;> cases hn : GW s k.1 n <;> cases hh : QB7 acc k.1 <;> simp only [Bool.and_true,Bool.and_false,Bool.true_and,Bool.false_and,Bool.not_true,Bool.not_false,cond_true,cond_false,h1,h2,List.mem_append,List.mem_singleton,QGo,hp,hn,Bool.false_eq_true,false_and,and_false,false_or,true_and]
  ·constructor
   ·rintro ((h | h) | h)
    ·exact .inl h
    ·exact .inr (.inl h.symm)
    ·exact .inr (.inr h)
   ·rintro (h | h | h)
    ·exact .inl (.inl h)
    ·exact .inl (.inr h.symm)
    ·exact .inr h
  ·constructor
   ·rintro (h | h)
    ·exact .inl h
    ·exact .inr (.inr h)
   ·rintro (h | h | h)
    ·exact .inl h
    ·exact .inl (h ▸ h3.1 hh)
    ·exact .inr h
theorem Qe3 {s : Qa} (hs : SchLen s) (n : List Int) : ∀ (l : List Qm) (acc : List (List Int)),acc.length + l.length ≤ 3000000 → ZW n s l acc = some (Qid s n l acc)
 | [],acc,_=>rfl
 | e :: l,acc,h=>by
  simp only [List.length_cons] at h
  rw [ZW,Qe3 hs n l _ (by simp; omega),Qe3 hs n l acc (by omega),Qic (by omega) (by omega) (by omega),W7 hs.t hs.typ,QB8 (by unfold maxLen; omega),Qid,QiW]
  cases decide (e.2.1 = ([] : List Int)) <;> cases e.2.2.1 <;> cases GW s e.1 n <;> cases QB7 acc e.1 <;> rfl
theorem QqO {s : Qa} (hs : SchLen s) {r : Qf} (h : r.2.length ≤ 2000000) (n : List Int) : V5 s r n = some (Qid s n r.2 []):=by
 rw [V5,QL (by unfold maxLen; omega),Qe3 hs n _ _ (by simp; omega)]
def Qpa (s : Qa) (r : Qf) (n : List Int) : Bool:=r.2.any fun k=>QiW k && GW s k.1 n
def Hh (s : Qa) (t : Qb) (w : Qp) : Bool :=
 bif Qki w || decide (w.1 = 6) then decide (w.2.1 = ([] : List Int)) && decide (w.2.2 = ([] : List Int))
 else bif decide (w.1 = 1) then decide (w.2.1 = ([] : List Int)) && GW s t.1 w.2.2
 else bif decide (w.1 = 2) then (V3 t w.2.1).2 && Qpa s (V3 t w.2.1).1 w.2.2 else false
theorem QDL (s : Qa) (r : Qf) (n : List Int) : decide ((0 : Int) < ((Qid s n r.2 []).length : Int)) = Qpa s r n:=by
 rw [Bool.eq_iff_iff,decide_eq_true_eq,Qpa,List.any_eq_true]
 constructor
 ·intro h
  obtain ⟨x,hx⟩:=List.exists_mem_of_length_pos (l:=Qid s n r.2 []) (by omega)
  rw [QfR] at hx
  rcases hx with hx | ⟨k,h1,h2,h3,_⟩
  ·cases hx
  ·exact ⟨k,h1,by rw [h2,h3]; rfl⟩
 ·rintro ⟨k,h1,h2⟩
  rw [Bool.and_eq_true] at h2
  have : k.1 ∈ Qid s n r.2 []:=(QfR s n k.1 r.2 []).2 (.inr ⟨k,h1,h2.1,h2.2,rfl⟩)
  have:=List.length_pos_of_mem this
  omega
structure SchBd (s : Qa) : Prop extends SchLen s where
 rel : ∀ t ∈ s.2,∀ r ∈ t.2.1,r.2.length ≤ 2000000
 wf : wfD Qi s
theorem Qpb {t : Qb} (h : ∀ r ∈ t.2.1,r.2.length ≤ 2000000) (x : List Int) : (V3 t x).1.2.length ≤ 2000000:=by
 unfold V3
 have : ∀ l : List Qf,(∀ r ∈ l,r.2.length ≤ 2000000) → (Yz (·.1) (([],[]) : Qf) l x).1.2.length ≤ 2000000:=by
  intro l
  induction l with
  | nil=>intro _; exact Nat.zero_le _
  | cons e r ih =>
   intro h
   unfold Yz
   split
   ·exact h e List.mem_cons_self
   ·exact ih fun r hr=>h r (List.mem_cons_of_mem _ hr)
 exact this _ h
def seg (b : List Qp) (a c : Nat) : List Qp:=(b.drop a).take (c - a)
theorem QzD {b : List Qp} {a c e : Nat} (h1 : a ≤ c) (h2 : c ≤ e) : seg b a e = seg b a c ++ seg b c e:=by
 unfold seg
 rw [show e - a = (c - a) + (e - c) by omega,List.take_add,List.drop_drop,show a + (c - a) = c by omega]
theorem QEe {b : List Qp} {a : Nat} {w : Qp} (h : b[a]? = some w) : seg b a (a + 1) = [w]:=by
 unfold seg
 obtain ⟨h1,h2⟩:=List.getElem?_eq_some_iff.1 h
 rw [Nat.add_sub_cancel_left,List.drop_eq_getElem_cons h1,h2]; rfl
theorem QGp {b : List Qp} : seg b 0 b.length = b:=by simp [seg]
theorem Qls {s : Qa} (hs : SchLen s) {t : Qb} (ht : GS t) (hr : ∀ r ∈ t.2.1,r.2.length ≤ 2000000) {b : List Qp} : ∀ (d r a : Nat) (p : Q5 × Nat),JJ b d a = some p → d ≤ r → YV r s t p.1 = some ((seg b a p.2).all (Hh s t))
 | 0,_,_,_,h,_=>by cases h
 | d + 1,0,_,_,_,h=>by omega
 | d + 1,r + 1,a,p,h,hdr=>by
  rw [JJ] at h
  split at h
  ·cases h
  ·rename_i w hw
   have leaf : ∀ ks,Gl (YV r) s t (.node w ks) = bif Qki w then Jl (YV r) true s t (.node w ks) w else some (Hh s t w):=by
    intro ks
    rw [Gl]
    simp only [Tree.val,Tree.kids,W7 hs.t hs.typ,Wz ht.1,Option.bind_some,QqO hs (Qpb hr _),QDL]
    unfold Qki Hh Qki
    by_cases h6 : w.1 = 6
    ·by_cases hv : w.2.1 = ([] : List Int)
     ·simp [h6,hv]
      exact decide_eq_decide.2 Iff.rfl
     ·simp [h6,hv]
    ·by_cases h1 : w.1 = 1
     ·by_cases hv : w.2.1 = ([] : List Int) <;> simp [h1,hv]
     ·by_cases h2 : w.1 = 2
      ·simp [h2]
       cases (V3 t w.2.1).2 <;> simp
      ·by_cases h3 : w.1 = 3
       ·simp [h3]
       ·by_cases h4 : w.1 = 4
        ·simp [h4]
        ·by_cases h5 : w.1 = 5
         ·simp [h5]
         ·simp [h1,h2,h3,h4,h5,h6,Jl]
   show Gl (YV r) s t p.1 = _
   split at h
   ·rename_i hop
    split at h
    ·cases h
    ·rename_i p1 h1
     split at h
     ·cases h
     ·rename_i q h2
      cases h
      have l1:=Qai h1
      have l2:=Qai h2
      rw [leaf,hop]
      simp only [cond_true]
      unfold Jl
      have hk : (Tree.node w [p1.1,q.1] : Q5).kids = [p1.1,q.1]:=rfl
      rw [hk]
      simp only [List.length_cons,List.length_nil,cond_true]
      rw [show inB 0 (0 + 1 + 1) = true from rfl,show inB 1 (0 + 1 + 1) = true from rfl]
      simp only [cond_true]
      rw [show rd [p1.1,q.1] (0 : Int) (Ty.dflt Yo) = p1.1 from rfl,show rd [p1.1,q.1] (1 : Int) (Ty.dflt Yo) = q.1 from rfl,eta,eta,Qls hs ht hr d r (a + 1) p1 h1 (by omega),Qls hs ht hr d r p1.2 q h2 (by omega)]
      rw [QzD (b:=b) (a:=a) (c:=a + 1) (e:=q.2) (by omega) (by omega),QzD (b:=b) (a:=a + 1) (c:=p1.2) (e:=q.2) (by omega) (by omega),QEe hw]
      simp only [List.all_append,List.all_cons,List.all_nil,Bool.and_true,Hh,hop,Bool.true_or,cond_true]
      generalize (seg b (a + 1) p1.2).all (Hh s t) = A
      generalize (seg b p1.2 q.2).all (Hh s t) = B
      cases decide (w.2.1 = ([] : List Int)) <;> cases decide (w.2.2 = ([] : List Int)) <;> cases A <;> cases B <;> rfl
   ·rename_i hop
    cases h
    rw [leaf,QEe hw]
    simp only [Bool.not_eq_true] at hop
    rw [hop]
    simp
theorem QDM {s : Qa} (hs : SchLen s) {t : Qb} (ht : GS t) (hr : ∀ r ∈ t.2.1,r.2.length ≤ 2000000) {b : List Qp} {p : Q5 × Nat} (h : JJ b 10 0 = some p) : VA s t p.1 = some ((seg b 0 p.2).all (Hh s t)) :=
 Qbn ⟨10,fun r hr'=>Qls hs ht hr 10 r 0 p h hr'⟩
theorem Qux {s : Qa} (hs : SchLen s) (w : Qp) (K : Option Bool) : ∀ (l : List (List Int)) (k : Nat),QT K s w l k = bif l.any (fun x=>GW s x w.2.2) then K else some false
 | [],k=>rfl
 | e :: l,k=>by
  rw [QT,W8 hs.t hs.typ,Option.bind_some,Qux hs w K l (k + 1),List.any_cons,QHd]
  cases GW s e w.2.2 <;> simp
theorem QAA {s : Qa} {r : Qf} (h : ∀ k ∈ r.2,wfD Qd k) (n : List Int) : (VV (Qe1 r)).any (fun x=>GW s x n) = Qpa s r n:=by
 have hb : ∀ x ∈ Qe1 r,bytesL x:=fun x hx=>by
  obtain ⟨k,h1,_,rfl⟩:=Qg0.1 hx
  exact Qo8 (h k h1).1
 rw [Bool.eq_iff_iff,Qpa,List.any_eq_true,List.any_eq_true]
 constructor
 ·rintro ⟨x,h1,h2⟩
  obtain ⟨k,k1,k2,rfl⟩:=Qg0.1 ((Qlr hb).1 h1)
  exact ⟨k,k1,by rw [k2,h2]; rfl⟩
 ·rintro ⟨k,k1,k2⟩
  rw [Bool.and_eq_true] at k2
  exact ⟨k.1,(Qlr hb).2 (Qg0.2 ⟨k,k1,k2.1,rfl⟩),k2.2⟩
theorem Qlt (xs : List (List Int)) : (VV xs).length ≤ xs.length:=by
 unfold VV
 rw [List.length_map]
 exact Nat.le_trans (QwJ _) (by simp)
theorem QCU {t : Qb} (h : ∀ r ∈ t.2.1,wfD Qj r) (x : List Int) : ∀ k ∈ (V3 t x).1.2,wfD Qd k:=by
 unfold V3
 cases hb : (Yz (·.1) (([],[]) : Qf) t.2.1 x).2 with
 | true=>exact (h _ (Qdp hb).1).2.2
 | false =>
  have : ∀ l : List Qf,(Yz (·.1) (([],[]) : Qf) l x).2 = false → (Yz (·.1) (([],[]) : Qf) l x).1 = ([],[]):=by
   intro l
   induction l with
   | nil=>intro _; rfl
   | cons e r ih =>
    intro h
    unfold Yz at h ⊢
    split
    ·rename_i hx; rw [if_pos hx] at h; cases h
    ·rename_i hx; rw [if_neg hx] at h; exact ih h
  rw [this _ hb]
  intro k hk
  cases hk
theorem QCV {s : Qa} (hs : SchLen s) {t : Qb} (ht : GS t) (hr : ∀ r ∈ t.2.1,r.2.length ≤ 2000000) (hw : ∀ r ∈ t.2.1,wfD Qj r) (w : Qp) (K : Option Bool) : Ze K w.1 (Qki w || decide (w.1 = 6)) s t w = bif Hh s t w then K else some false:=by
 have hl:=Qpb hr w.2.1
 have hc : (VV (Qe1 (V3 t w.2.1).1)).length ≤ maxLen:=Nat.le_trans (Qlt _) (by
  unfold Qe1
  rw [List.length_map]
  exact Nat.le_trans (List.length_filter_le _ _) (by unfold maxLen; omega))
 rw [Ze,W8 hs.t hs.typ,G4 ht.1,Option.bind_some,Option.bind_some,QqN hl,Option.bind_some,QL hc,Qux hs,QAA (QCU hw _),Hh]
 cases Qki w || decide (w.1 = 6) <;> cases decide (w.1 = 1) <;> cases decide (w.1 = 2) <;> cases decide (w.2.1 = ([] : List Int)) <;> cases decide (w.2.2 = ([] : List Int)) <;> cases GW s t.1 w.2.2 <;> cases (V3 t w.2.1).2 <;> cases Qpa s (V3 t w.2.1).1 w.2.2 <;> rfl
theorem Quy {s : Qa} (hs : SchLen s) {t : Qb} (ht : GS t) (hr : ∀ r ∈ t.2.1,r.2.length ≤ 2000000) (hw : ∀ r ∈ t.2.1,wfD Qj r) : ∀ l : List Qp,QP s t l = some (l.all (Hh s t))
 | []=>rfl
 | e :: l=>by
  have key:=QCV hs ht hr hw e (QP s t l)
  rw [QP,List.all_cons]
  have e2 : (bif Hh s t e then QP s t l else some false) = some (Hh s t e && l.all (Hh s t)):=by
   rw [Quy hs ht hr hw l]
   cases Hh s t e <;> rfl
  rw [← e2,← key]
  unfold Qki
  by_cases h3 : e.1 = 3
  ·simp [h3]
  ·by_cases h4 : e.1 = 4
   ·simp [h4]
   ·by_cases h5 : e.1 = 5
    ·simp [h5]
    ·simp [h3,h4,h5]
def E6 (s : Qa) (t : Qb) (b : List Qp) : Bool:=decide (1 ≤ b.length) && decide (b.length ≤ 30) && (match JJ b 10 0 with
 | none=>false
 | some p=>decide (p.2 = b.length)) && b.all (Hh s t)
theorem QxP {s : Qa} (hs : SchLen s) {t : Qb} (ht : GS t) (hr : ∀ r ∈ t.2.1,r.2.length ≤ 2000000) (hw : ∀ r ∈ t.2.1,wfD Qj r) {b : List Qp} (hb : b.length ≤ maxLen) : ZY s t b = some (E6 s t b):=by
 rw [ZY,QB6 hb,Option.bind_some,QL hb,Quy hs ht hr hw,E6]
 have e1 : decide ((b.length : Int) = 0) = !decide (1 ≤ b.length):=by grind
 have e2 : decide ((30 : Int) < (b.length : Int)) = !decide (b.length ≤ 30):=by grind
 have e3 : decide (QCS (JJ b 10 0) = (b.length : Int)) = (match JJ b 10 0 with | none=>false | some p=>decide (p.2 = b.length)):=by
  cases JJ b 10 0 with
  | none=>exact decide_eq_false (by show ¬ (-1 : Int) = _; omega)
  | some p=>show decide ((p.2 : Int) = (b.length : Int)) = _; simp only; grind
 rw [e1,e2,e3]
 generalize (match JJ b 10 0 with | none=>false | some p=>decide (p.2 = b.length)) = z
 cases decide (1 ≤ b.length) <;> cases decide (b.length ≤ 30) <;> cases z <;> cases b.all (Hh s t) <;> rfl
end
end Go.Ab
