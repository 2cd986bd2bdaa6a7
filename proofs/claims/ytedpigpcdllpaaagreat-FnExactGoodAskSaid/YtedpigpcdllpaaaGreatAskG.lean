import Derived.Test.YtedpigpcdllpaaaGreatAskF
namespace Go.Ab
open Go.Proofs
noncomputable section
def Qa2 (t : Qb) : List Qk:=t.2.1.map (fun r=>(t.1,r.1)) ++ t.2.2.map (fun p=>(t.1,p.1))
def JK (s : Qa) : List Qk:=s.2.flatMap Qa2
theorem QzH (K : List Qk → Option (List Qk)) (t : Qb) : ∀ (l : List Qc) (acc : List Qk),acc.length + l.length ≤ 3000000 → Zf K t l acc = K (acc ++ l.map (fun p=>(t.1,p.1)))
 | [],acc,_=>by rw [Zf]; simp
 | e :: l,acc,h=>by
  simp only [List.length_cons] at h
  rw [Zf,Qic (by omega) (by omega) (by omega),QzH K t l _ (by simp; omega)]
  simp
theorem QzI (K : List Qk → Option (List Qk)) (t : Qb) (ht : GS t) : ∀ (l : List Qf) (acc : List Qk),acc.length + l.length + t.2.2.length ≤ 3000000 → Zl K t l acc = K (acc ++ (l.map (fun r=>(t.1,r.1)) ++ t.2.2.map (fun p=>(t.1,p.1))))
 | [],acc,h=>by
  simp only [List.length_nil] at h
  rw [Zl,QL ht.2,QzH K t _ _ (by omega)]; simp
 | e :: l,acc,h=>by
  simp only [List.length_cons] at h
  rw [Zl,Qic (by omega) (by omega) (by omega),QzI K t ht l _ (by simp; omega)]
  simp
theorem Qsy (t : Qb) : (Qa2 t).length = t.2.1.length + t.2.2.length:=by simp [Qa2]
theorem QzJ : ∀ (l : List Qb) (acc : List Qk),(∀ t ∈ l,GS t) → acc.length + (l.flatMap Qa2).length ≤ 3000000 → Zm l acc = some (acc ++ l.flatMap Qa2)
 | [],acc,_,_=>by rw [Zm]; simp
 | e :: l,acc,hl,h=>by
  simp only [List.flatMap_cons,List.length_append,Qsy] at h
  have he:=hl e List.mem_cons_self
  rw [Zm,QL he.1,QzI _ e he _ _ (by omega)]
  rw [QzJ l _ (fun t ht=>hl t (List.mem_cons_of_mem _ ht)) (by simp only [List.length_append,List.length_map]; omega)]
  simp [Qa2]
theorem QAC {s : Qa} (hs : SchLen s) (h : (JK s).length ≤ 3000000) : JH s = some (JK s):=by
 rw [JH,QL hs.t,QzJ _ _ hs.typ (by rw [List.length_nil,Nat.zero_add]; exact h)]; rfl
def Qfr (n : Qk) : Qn:=(n.1,n.2,0)
theorem QBa (K : List Qn → Option (List Qn)) (t : Qb) : ∀ (l : List Qc) (acc : List Qn),acc.length + l.length ≤ 3000000 → JF K t l acc = K (acc ++ l.map (fun p=>(t.1,p.1,0)))
 | [],acc,_=>by rw [JF]; simp
 | e :: l,acc,h=>by
  simp only [List.length_cons] at h
  rw [JF,Qic (by omega) (by omega) (by omega),QBa K t l _ (by simp; omega)]
  simp
theorem QBb (K : List Qn → Option (List Qn)) (t : Qb) (ht : GS t) : ∀ (l : List Qf) (acc : List Qn),acc.length + l.length + t.2.2.length ≤ 3000000 → JW K t l acc = K (acc ++ (l.map (fun r=>(t.1,r.1,0)) ++ t.2.2.map (fun p=>(t.1,p.1,0))))
 | [],acc,h=>by
  simp only [List.length_nil] at h
  rw [JW,QL ht.2,QBa K t _ _ (by omega)]; simp
 | e :: l,acc,h=>by
  simp only [List.length_cons] at h
  rw [JW,Qic (by omega) (by omega) (by omega),QBb K t ht l _ (by simp; omega)]
  simp
theorem QBc : ∀ (l : List Qb) (acc : List Qn),(∀ t ∈ l,GS t) → acc.length + (l.flatMap Qa2).length ≤ 3000000 → JX l acc = some (acc ++ (l.flatMap Qa2).map Qfr)
 | [],acc,_,_=>by rw [JX]; simp
 | e :: l,acc,hl,h=>by
  simp only [List.flatMap_cons,List.length_append,Qsy] at h
  have he:=hl e List.mem_cons_self
  rw [JX,QL he.1,QBb _ e he _ _ (by omega)]
  rw [QBc l _ (fun t ht=>hl t (List.mem_cons_of_mem _ ht)) (by simp only [List.length_append,List.length_map]; omega)]
  simp [Qa2,Qfr,Function.comp_def]
theorem QzK {s : Qa} (hs : SchLen s) (h : (JK s).length ≤ 3000000) : V9 s = some ((JK s).map Qfr):=by
 rw [V9,QL hs.t,QBc _ _ hs.typ (by rw [List.length_nil,Nat.zero_add]; exact h)]; rfl
theorem QBd {α : Type} {key : α → List Int} : ∀ {l : List α} {p : α},QU (fun a b=>Jg (key a) (key b)) (some p) l = true → (∀ x ∈ l,Jg (key p) (key x) = true) ∧ (l.map key).Nodup
 | [],p,_=>⟨fun x hx=>(by cases hx),List.nodup_nil⟩
 | e :: r,p,h=>by
  simp only [QU,Bool.and_eq_true] at h
  obtain ⟨h1,h2⟩:=QBd h.2
  refine ⟨fun x hx=>?_,?_⟩
  ·rcases List.mem_cons.1 hx with rfl | hx
   ·exact h.1
   ·exact QwG _ _ _ h.1 (h1 x hx)
  ·rw [List.map_cons]
   refine List.nodup_cons.2 ⟨fun hm=>?_,h2⟩
   obtain ⟨x,hx,e1⟩:=List.mem_map.1 hm
   have:=h1 x hx
   rw [e1,QkG] at this
   cases this
theorem Qlw {α : Type} {key : α → List Int} {l : List α} (h : ZQ (fun a b=>Jg (key a) (key b)) l = true) : (l.map key).Nodup:=by
 cases l with
 | nil=>exact List.nodup_nil
 | cons e r =>
  have h : QU (fun a b=>Jg (key a) (key b)) (some e) r = true:=h
  obtain ⟨h1,h2⟩:=QBd h
  rw [List.map_cons]
  refine List.nodup_cons.2 ⟨fun hm=>?_,h2⟩
  obtain ⟨x,hx,e1⟩:=List.mem_map.1 hm
  have:=h1 x hx
  rw [e1,QkG] at this
  cases this
theorem Ea {β : Type} {name : β → List Int} {z : β} : ∀ {l : List β} {e : β},(l.map name).Nodup → e ∈ l → Yz name z l (name e) = (e,true)
 | a :: r,e,hn,he=>by
  rw [List.map_cons] at hn
  obtain ⟨h1,h2⟩:=List.nodup_cons.1 hn
  unfold Yz
  rcases List.mem_cons.1 he with rfl | he
  ·rw [if_pos rfl]
  ·rw [if_neg (fun e1=>h1 (by rw [e1]; exact List.mem_map_of_mem he)),Ea h2 he]
structure TypGood (s : Qa) (t : Qb) : Prop where
 nr : t.2.1.length ≤ 12
 np : t.2.2.length ≤ 12
 ru : (t.2.1.map (·.1)).Nodup
 pu : (t.2.2.map (·.1)).Nodup
 sub : ∀ r ∈ t.2.1,r.2.length ≤ 8 ∧ ∀ k ∈ r.2,k.2.1 ≠ [] → GW s k.1 k.2.1 = true
 apart : ∀ p ∈ t.2.2,(V3 t p.1).2 = false
 body : ∀ p ∈ t.2.2,p.2.length ≤ 30 ∧ (∃ q,JJ p.2 10 0 = some q) ∧ ∀ w ∈ p.2,Hh s t w = true
theorem QGq {s : Qa} {t : Qb} (h : Qie s t = true) : TypGood s t:=by
 unfold Qie at h
 simp only [Bool.and_eq_true,decide_eq_true_eq,List.all_eq_true] at h
 obtain ⟨⟨⟨_,h1⟩,h2⟩,⟨h3,h4⟩,h5,h6⟩:=h
 refine ⟨h1,h2,Qlw (key:=fun r : Qf=>r.1) h4,Qlw (key:=fun r : Qc=>r.1) h6,fun r hr=>?_,fun p hp=>?_,fun p hp=>?_⟩
 ·have:=h3 r hr
  unfold QoQ QoN at this
  simp only [Bool.and_eq_true,decide_eq_true_eq,List.all_eq_true] at this
  obtain ⟨_,⟨_,k1⟩,k2,_⟩:=this
  refine ⟨k1,fun k hk hne=>?_⟩
  have:=k2 k hk
  unfold QqL at this
  simp only [Bool.and_eq_true,Bool.or_eq_true,decide_eq_true_eq] at this
  rcases this.1.2 with h | h
  ·exact absurd h hne
  ·exact h.2
 ·have:=h5 p hp
  unfold Qdq at this
  simp only [Bool.and_eq_true,Bool.not_eq_true'] at this
  exact this.2
 ·have:=h5 p hp
  unfold Qdq E6 at this
  simp only [Bool.and_eq_true,decide_eq_true_eq,List.all_eq_true] at this
  obtain ⟨⟨_,⟨⟨_,k1⟩,k2⟩,k3⟩,_⟩:=this
  refine ⟨k1,?_,k3⟩
  cases hq : JJ p.2 10 0 with
  | none=>rw [hq] at k2; cases k2
  | some q=>exact ⟨q,rfl⟩
structure SchGood (s : Qa) : Prop extends SchBd s where
 nt : s.2.length ≤ 12
 tu : (s.2.map (·.1)).Nodup
 good : ∀ t ∈ s.2,TypGood s t
theorem QGr {s : Qa} (hs : SchBd s) (h : QzE s = true) : SchGood s:=by
 unfold QzE at h
 simp only [Bool.and_eq_true,decide_eq_true_eq,List.all_eq_true] at h
 obtain ⟨⟨⟨_,h1⟩,_⟩,h2,h3⟩:=h
 exact { hs with nt:=h1,tu:=Qlw (key:=fun r : Qb=>r.1) h3,good:=fun t ht=>QGq (h2 t ht) }
theorem Qer {α β : Type} {f : α → List β} {m : Nat} : ∀ {l : List α},(∀ x ∈ l,(f x).length ≤ m) → (l.flatMap f).length ≤ l.length * m
 | [],_=>Nat.zero_le _
 | a :: l,h=>by
  rw [List.flatMap_cons,List.length_append,List.length_cons,Nat.succ_mul]
  have h1:=h a List.mem_cons_self
  have h2:=Qer (l:=l) fun x hx=>h x (List.mem_cons_of_mem _ hx)
  omega
theorem Qwi {s : Qa} (hg : SchGood s) : (JK s).length ≤ 288:=by
 have h:=Qer (f:=Qa2) (m:=24) (l:=s.2) fun t ht=>by
  rw [Qsy]
  have:=(hg.good t ht).nr
  have:=(hg.good t ht).np
  omega
 have h2 : s.2.length * 24 ≤ 12 * 24:=Nat.mul_le_mul_right _ hg.nt
 exact Nat.le_trans h h2
theorem Qbd {s : Qa} {n : Qk} : n ∈ JK s ↔ ∃ t ∈ s.2,(∃ r ∈ t.2.1,n = (t.1,r.1)) ∨ ∃ p ∈ t.2.2,n = (t.1,p.1):=by
 unfold JK Qa2
 simp only [List.mem_flatMap,List.mem_append,List.mem_map]
 constructor
 ·rintro ⟨t,ht,⟨r,hr,rfl⟩ | ⟨p,hp,rfl⟩⟩
  ·exact ⟨t,ht,.inl ⟨r,hr,rfl⟩⟩
  ·exact ⟨t,ht,.inr ⟨p,hp,rfl⟩⟩
 ·rintro ⟨t,ht,⟨r,hr,rfl⟩ | ⟨p,hp,rfl⟩⟩
  ·exact ⟨t,ht,.inl ⟨r,hr,rfl⟩⟩
  ·exact ⟨t,ht,.inr ⟨p,hp,rfl⟩⟩
theorem Qwj {s : Qa} {x y : List Int} (h : GW s x y = true) : (x,y) ∈ JK s:=by
 unfold GW at h
 simp only [Bool.and_eq_true,Bool.or_eq_true] at h
 obtain ⟨h1,h2⟩:=h
 obtain ⟨k1,k2⟩:=Qdp h1
 have k2 : (HT s x).1.1 = x:=k2
 refine Qbd.2 ⟨_,k1,?_⟩
 have pr : ∀ {z : List Int},z = y → (x,y) = ((HT s x).1.1,z):=fun e=>by rw [k2,e]
 rcases h2 with h2 | h2
 ·obtain ⟨k3,k4⟩:=Qdp h2
  exact .inl ⟨_,k3,pr k4⟩
 ·obtain ⟨k3,k4⟩:=Qdp h2
  exact .inr ⟨_,k3,pr k4⟩
theorem QwR {s : Qa} (hg : SchGood s) : (JK s).Nodup:=by
 have key : ∀ l : List Qb,(∀ t ∈ l,t ∈ s.2) → (l.map (·.1)).Nodup → (l.flatMap Qa2).Nodup:=by
  intro l
  induction l with
  | nil=>intro _ _; exact List.nodup_nil
  | cons t l ih =>
   intro hl hn
   rw [List.map_cons] at hn
   obtain ⟨h1,h2⟩:=List.nodup_cons.1 hn
   have ht:=hl t List.mem_cons_self
   have hgt:=hg.good t ht
   rw [List.flatMap_cons]
   have fst : ∀ (t : Qb) (n : Qk),n ∈ Qa2 t → n.1 = t.1:=by
    intro t n hn
    unfold Qa2 at hn
    rcases List.mem_append.1 hn with h | h
    ·obtain ⟨r,_,rfl⟩:=List.mem_map.1 h; rfl
    ·obtain ⟨r,_,rfl⟩:=List.mem_map.1 h; rfl
   refine List.nodup_append.2 ⟨?_,ih (fun t ht=>hl t (List.mem_cons_of_mem _ ht)) h2,fun a ha b hb e=>?_⟩
   ·unfold Qa2
    have inj : ∀ {β : Type} {name : β → List Int} {l : List β},(l.map name).Nodup → (l.map fun r=>((t.1,name r) : Qk)).Nodup:=by
     intro β name l h
     induction l with
     | nil=>exact List.nodup_nil
     | cons a l ih =>
      rw [List.map_cons] at h ⊢
      obtain ⟨k1,k2⟩:=List.nodup_cons.1 h
      refine List.nodup_cons.2 ⟨fun hm=>?_,ih k2⟩
      obtain ⟨x,hx,e⟩:=List.mem_map.1 hm
      exact k1 ((Prod.mk.inj e).2 ▸ List.mem_map_of_mem hx)
    refine List.nodup_append.2 ⟨inj (name:=fun r : Qf=>r.1) hgt.ru,inj (name:=fun p : Qc=>p.1) hgt.pu,fun a ha b hb e=>?_⟩
    subst e
    obtain ⟨r,hr,rfl⟩:=List.mem_map.1 ha
    obtain ⟨p,hp,e⟩:=List.mem_map.1 hb
    have h3:=hgt.apart p hp
    have h4 : (V3 t r.1).2 = true:=QCR (name:=fun r : Qf=>r.1) hr
    rw [← (Prod.mk.inj e).2,h3] at h4
    cases h4
   ·subst e
    obtain ⟨t',ht',hb'⟩:=List.mem_flatMap.1 hb
    have e1:=fst t a ha
    have e2:=fst t' a hb'
    exact h1 (List.mem_map.2 ⟨t',ht',e2.symm.trans e1⟩)
 exact key s.2 (fun _ h=>h) hg.tu
def QzL (r : Qf) : List Qx:=(r.2.filter fun k=>!decide (k.2.1 = ([] : List Int))).map fun k=>((k.1,k.2.1),false)
theorem QDN : ∀ (l : List Qm) (acc : List Qx),acc.length + l.length ≤ 3000000 → Q9 l acc = some (acc ++ (l.filter fun k=>!decide (k.2.1 = ([] : List Int))).map fun k=>((k.1,k.2.1),false))
 | [],acc,_=>by rw [Q9]; simp
 | e :: l,acc,h=>by
  simp only [List.length_cons] at h
  rw [Q9,QDN l _ (by simp; omega),QDN l acc (by omega),Qic (by omega) (by omega) (by omega),List.filter_cons]
  cases decide (e.2.1 = ([] : List Int)) <;> simp
def Xj (s : Qa) (n : Qk) : List Qx :=
 bif (V3 (HT s n.1).1 n.2).2 then QzL (V3 (HT s n.1).1 n.2).1 else Gr (Qsx s (HT s n.1).1) n.1 (QA7 (HT s n.1).1 n.2).1.2 10 0 false
theorem QEf {s : Qa} {t : Qb} (hg : TypGood s t) (x : List Int) : (V3 t x).1.2.length ≤ 8:=by
 unfold V3
 have : ∀ l : List Qf,(∀ r ∈ l,r.2.length ≤ 8) → (Yz (·.1) (([],[]) : Qf) l x).1.2.length ≤ 8:=by
  intro l
  induction l with
  | nil=>intro _; exact Nat.zero_le _
  | cons e r ih =>
   intro h
   unfold Yz
   split
   ·exact h e List.mem_cons_self
   ·exact ih fun r hr=>h r (List.mem_cons_of_mem _ hr)
 exact this _ fun r hr=>(hg.sub r hr).1
theorem QFX {s : Qa} {t : Qb} (hg : TypGood s t) (w : Qp) : (Qsx s t w).length ≤ 8:=by
 unfold Qsx
 refine Nat.le_trans (List.length_filter_le _ _) (Nat.le_trans (Qlt _) ?_)
 unfold Qe1
 rw [List.length_map]
 exact Nat.le_trans (List.length_filter_le _ _) (QEf hg _)
theorem QCY {s : Qa} {t : Qb} (hg : TypGood s t) (w : Qp) : (Qkj s t w).length ≤ 8:=by
 unfold Qkj
 have:=Qwf s w.2.2 (V3 t w.2.1).1.2 []
 have:=QEf hg w.2.1
 simp only [List.length_nil] at *
 omega
theorem QzM {s : Qa} {t : Qb} (hg : TypGood s t) {arr : Qp → List (List Int)} (h : ∀ w,(arr w).length ≤ 8) (x : List Int) {p : Qc} (hp : p ∈ t.2.2) : (Gr arr x p.2 10 0 false).length ≤ 270:=by
 obtain ⟨h1,⟨q,hq⟩,_⟩:=hg.body p hp
 have h2:=Qwg h x p.2 10 0 false q hq
 have h3:=Qai hq
 have h4 : (q.2 - 0) * (8 + 1) ≤ 30 * 9:=Nat.mul_le_mul_right _ (by omega)
 omega
theorem Qwk {s : Qa} (hg : SchGood s) {t : Qb} (ht : t ∈ s.2) {r : Qf} (hr : r ∈ t.2.1) : Xj s (t.1,r.1) = QzL r:=by
 have e1 : HT s t.1 = (t,true):=Ea hg.tu ht
 have e2 : V3 t r.1 = (r,true):=Ea (hg.good t ht).ru hr
 unfold Xj
 rw [e1,e2]; rfl
theorem Qsz {s : Qa} (hg : SchGood s) {t : Qb} (ht : t ∈ s.2) {p : Qc} (hp : p ∈ t.2.2) : Xj s (t.1,p.1) = Gr (Qsx s t) t.1 p.2 10 0 false:=by
 have e1 : HT s t.1 = (t,true):=Ea hg.tu ht
 have e2:=(hg.good t ht).apart p hp
 have e3 : QA7 t p.1 = (p,true):=Ea (hg.good t ht).pu hp
 unfold Xj
 rw [e1,e2,e3]; rfl
theorem QqT {s : Qa} (hg : SchGood s) {n : Qk} (hn : n ∈ JK s) : JI s n = some (Xj s n) ∧ (Xj s n).length ≤ 270:=by
 obtain ⟨t,ht,h⟩:=Qbd.1 hn
 have e1 : HT s t.1 = (t,true):=Ea hg.tu ht
 have hgt:=hg.good t ht
 have htl:=hg.typ t ht
 rw [JI,QfL hg.t,Option.bind_some]
 rcases h with ⟨r,hr,rfl⟩ | ⟨p,hp,rfl⟩
 ·have e2 : V3 t r.1 = (r,true):=Ea hgt.ru hr
  have h8:=(hgt.sub r hr).1
  rw [Qwk hg ht hr]
  simp only
  rw [e1]
  simp only
  rw [G4 htl.1,Option.bind_some,e2]
  simp only [cond_true]
  rw [QL (by unfold maxLen; omega),QDN _ _ (by simp; omega)]
  refine ⟨by simp [QzL],?_⟩
  unfold QzL
  rw [List.length_map]
  exact Nat.le_trans (List.length_filter_le _ _) (by omega)
 ·have e2:=hgt.apart p hp
  have e3 : QA7 t p.1 = (p,true):=Ea hgt.pu hp
  obtain ⟨h1,⟨q,hq⟩,_⟩:=hgt.body p hp
  have hlen:=QzM hgt (QFX hgt) t.1 hp
  rw [Qsz hg ht hp]
  simp only
  rw [e1]
  simp only
  rw [G4 htl.1,Option.bind_some,e2,QgY htl.2]
  simp only [cond_false,Option.bind_some]
  rw [e3]
  simp only
  rw [QGL hg.toSchLen htl (hg.rel t ht) (by unfold maxLen; omega) (t.1,p.1) hq (by simp only; omega)]
  exact ⟨rfl,hlen⟩
def HQ (n : Qk) (l : Qx) : Qen Qk:=(n,l.1,l.2)
def QCa (s : Qa) : List (Qen Qk):=(JK s).flatMap fun n=>(Xj s n).map (HQ n)
def QoU (s : Qa) (t : Qb) : List (Qen Qk):=t.2.1.flatMap (fun r=>(QzL r).map (HQ (t.1,r.1))) ++ t.2.2.flatMap (fun p=>(Gr (Qkj s t) t.1 p.2 10 0 false).map (HQ (t.1,p.1)))
def QiX (s : Qa) : List (Qen Qk):=s.2.flatMap (QoU s)
theorem QCZ {s : Qa} {t : Qb} (hw : ∀ r ∈ t.2.1,wfD Qj r) (w : Qp) (x : List Int) : x ∈ Qsx s t w ↔ x ∈ Qkj s t w:=by
 unfold Qsx Qkj
 have hb : ∀ x ∈ Qe1 (V3 t w.2.1).1,bytesL x:=fun x hx=>by
  obtain ⟨k,h1,_,rfl⟩:=Qg0.1 hx
  exact Qo8 (QCU hw _ k h1).1
 rw [List.mem_filter,Qlr hb,Qg0,QfR]
 constructor
 ·rintro ⟨⟨k,h1,h2,rfl⟩,h3⟩
  exact .inr ⟨k,h1,h2,h3,rfl⟩
 ·rintro (h | ⟨k,h1,h2,h3,rfl⟩)
  ·cases h
  ·exact ⟨⟨k,h1,h2,rfl⟩,h3⟩
theorem QzN {s : Qa} (hg : SchGood s) (e : Qen Qk) : e ∈ QCa s ↔ e ∈ QiX s:=by
 have hwt : ∀ t ∈ s.2,wfD Qe t:=hg.wf.2.2
 unfold QCa QiX QoU
 simp only [List.mem_flatMap,List.mem_append,List.mem_map]
 constructor
 ·rintro ⟨n,hn,l,hl,rfl⟩
  obtain ⟨t,ht,⟨r,hr,rfl⟩ | ⟨p,hp,rfl⟩⟩:=Qbd.1 hn
  ·rw [Qwk hg ht hr] at hl
   exact ⟨t,ht,.inl ⟨r,hr,l,hl,rfl⟩⟩
  ·rw [Qsz hg ht hp] at hl
   exact ⟨t,ht,.inr ⟨p,hp,l,(Qwh (QCZ (hwt t ht).2.1.2) _ _ _ _ _ _).1 hl,rfl⟩⟩
 ·rintro ⟨t,ht,⟨r,hr,l,hl,rfl⟩ | ⟨p,hp,l,hl,rfl⟩⟩
  ·exact ⟨(t.1,r.1),Qbd.2 ⟨t,ht,.inl ⟨r,hr,rfl⟩⟩,l,by rw [Qwk hg ht hr]; exact hl,rfl⟩
  ·exact ⟨(t.1,p.1),Qbd.2 ⟨t,ht,.inr ⟨p,hp,rfl⟩⟩,l,by rw [Qsz hg ht hp]; exact (Qwh (QCZ (hwt t ht).2.1.2) _ _ _ _ _ _).2 hl,rfl⟩
theorem Qwl {s : Qa} {t : Qb} (ht : t ∈ s.2) {b : List Qp} (hb : ∀ w ∈ b,Hh s t w = true) : ∀ (d a : Nat) (ag : Bool) (l : Qx),l ∈ Gr (Qkj s t) t.1 b d a ag → l.1 ∈ JK s
 | 0,_,_,_,h=>by cases h
 | d + 1,a,ag,l,h=>by
  rw [Gr] at h
  cases hw : b[a]? with
  | none=>rw [hw] at h; cases h
  | some w =>
   rw [hw] at h
   simp only at h
   have hok:=hb w (List.mem_of_getElem? hw)
   cases ho : Qki w with
   | true =>
    rw [ho] at h
    simp only [cond_true] at h
    cases h1 : JJ b d (a + 1) with
    | none=>rw [h1] at h; cases h
    | some p =>
     rw [h1] at h
     simp only [List.mem_append] at h
     rcases h with h | h
     ·exact Qwl ht hb d _ _ l h
     ·exact Qwl ht hb d _ _ l h
   | false =>
    rw [ho] at h
    simp only [cond_false] at h
    unfold QuE at h
    cases k1 : decide (w.1 = 1) with
    | true =>
     rw [k1] at h
     simp only [cond_true,List.mem_singleton] at h
     subst h
     have e1:=of_decide_eq_true k1
     unfold Hh at hok
     rw [ho,k1,show decide (w.1 = 6) = false from decide_eq_false (by rw [e1]; decide)] at hok
     simp only [Bool.or_false,cond_false,cond_true,Bool.and_eq_true] at hok
     exact Qwj hok.2
    | false =>
     rw [k1] at h
     simp only [cond_false] at h
     cases k2 : decide (w.1 = 2) with
     | false=>rw [k2] at h; cases h
     | true =>
      rw [k2] at h
      simp only [cond_true,List.mem_cons,List.mem_map] at h
      have e1:=of_decide_eq_true k2
      unfold Hh at hok
      rw [ho,k1,k2,show decide (w.1 = 6) = false from decide_eq_false (by rw [e1]; decide)] at hok
      simp only [Bool.or_false,cond_false,cond_true,Bool.and_eq_true] at hok
      rcases h with rfl | ⟨x,hx,rfl⟩
      ·obtain ⟨k3,k4⟩:=Qdp hok.1
       exact Qbd.2 ⟨t,ht,.inl ⟨_,k3,by rw [k4]⟩⟩
      ·unfold Qkj at hx
       rw [QfR] at hx
       rcases hx with hx | ⟨k,_,_,hk,rfl⟩
       ·cases hx
       ·exact Qwj hk
theorem QzO {s : Qa} (hg : SchGood s) : ∀ e ∈ QiX s,e.1 ∈ JK s ∧ e.2.1 ∈ JK s:=by
 intro e he
 unfold QiX QoU at he
 simp only [List.mem_flatMap,List.mem_append,List.mem_map] at he
 obtain ⟨t,ht,⟨r,hr,l,hl,rfl⟩ | ⟨p,hp,l,hl,rfl⟩⟩:=he
 ·refine ⟨Qbd.2 ⟨t,ht,.inl ⟨r,hr,rfl⟩⟩,?_⟩
  unfold QzL at hl
  obtain ⟨k,hk,rfl⟩:=List.mem_map.1 hl
  obtain ⟨k1,k2⟩:=List.mem_filter.1 hk
  refine Qwj (((hg.good t ht).sub r hr).2 k k1 ?_)
  simpa using k2
 ·exact ⟨Qbd.2 ⟨t,ht,.inr ⟨p,hp,rfl⟩⟩,Qwl ht ((hg.good t ht).body p hp).2.2 _ _ _ l hl⟩
end
end Go.Ab
