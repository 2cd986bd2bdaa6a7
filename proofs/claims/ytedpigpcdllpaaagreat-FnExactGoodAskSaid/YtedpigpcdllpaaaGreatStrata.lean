import Derived.Test.YtedpigpcdllpaaaGreatAb16w
namespace Go.Ab
section
variable {α : Type} [DecidableEq α]
abbrev Qen (α : Type):=α × α × Bool
def wt (b : Bool) : Nat:=if b then 1 else 0
def W4 (E : List (Qen α)) (L : α → Nat) : Prop:=∀ e ∈ E,L e.2.1 + wt e.2.2 ≤ L e.1
def QxM (f : α → Nat) (i : α) (v : Nat) : α → Nat:=fun x=>if x = i then v else f x
theorem UN (f : α → Nat) (i : α) (v : Nat) : QxM f i v i = v:=if_pos rfl
theorem W5 (f : α → Nat) {i x : α} (v : Nat) (h : x ≠ i) : QxM f i v x = f x:=if_neg h
def VX (n : Nat) : List (Qen α) → (α → Nat) → Bool → Option ((α → Nat) × Bool)
 | [],lv,t=>some (lv,t)
 | e :: r,lv,t=>if n < lv e.2.1 + wt e.2.2 then none else if lv e.1 < lv e.2.1 + wt e.2.2 then VX n r (QxM lv e.1 (lv e.2.1 + wt e.2.2)) true else VX n r lv t
theorem Qeo {n : Nat} : ∀ {E : List (Qen α)} {lv lv' : α → Nat} {t t' : Bool},VX n E lv t = some (lv',t') → ∀ x,lv x ≤ lv' x
 | [],lv,lv',t,t',h,x=>by
  simp only [VX,Option.some.injEq,Prod.mk.injEq] at h
  rw [h.1]; exact Nat.le_refl _
 | e :: r,lv,lv',t,t',h,x=>by
  simp only [VX] at h
  split at h
  ·cases h
  ·split at h
   ·rename_i h2
    refine Nat.le_trans ?_ (Qeo h x)
    by_cases hx : x = e.1
    ·subst hx; rw [UN]; exact Nat.le_of_lt h2
    ·rw [W5 _ _ hx]; exact Nat.le_refl _
   ·exact Qeo h x
theorem QgW {n : Nat} : ∀ {E : List (Qen α)} {lv lv' : α → Nat} {t : Bool},VX n E lv t = some (lv',false) → t = false ∧ lv' = lv ∧ W4 E lv
 | [],lv,lv',t,h=>by
  simp only [VX,Option.some.injEq,Prod.mk.injEq] at h
  exact ⟨h.2,h.1.symm,fun e he=>by cases he⟩
 | e :: r,lv,lv',t,h=>by
  simp only [VX] at h
  split at h
  ·cases h
  ·split at h
   ·have:=(QgW h).1
    cases this
   ·rename_i h1 h2
    obtain ⟨k1,k2,k3⟩:=QgW h
    refine ⟨k1,k2,fun e' he'=>?_⟩
    rcases List.mem_cons.1 he' with rfl | he'
    ·omega
    ·exact k3 e' he'
theorem Qbb {n : Nat} {L : α → Nat} : ∀ {E : List (Qen α)} {lv : α → Nat} {t : Bool},W4 E L → (∀ e ∈ E,L e.1 ≤ n) → (∀ x,lv x ≤ L x) → ∃ lv' t',VX n E lv t = some (lv',t') ∧ ∀ x,lv' x ≤ L x
 | [],lv,t,_,_,h=>⟨lv,t,rfl,h⟩
 | e :: r,lv,t,hs,hn,h=>by
  have h1:=hs e List.mem_cons_self
  have h2:=hn e List.mem_cons_self
  have h3:=h e.2.1
  have hs' : W4 r L:=fun e he=>hs e (List.mem_cons_of_mem _ he)
  have hn' : ∀ e ∈ r,L e.1 ≤ n:=fun e he=>hn e (List.mem_cons_of_mem _ he)
  simp only [VX]
  rw [if_neg (by omega)]
  split
  ·refine Qbb hs' hn' fun x=>?_
   by_cases hx : x = e.1
   ·subst hx; rw [UN]; omega
   ·rw [W5 _ _ hx]; exact h x
  ·exact Qbb hs' hn' h
theorem Qsv {n : Nat} : ∀ {E : List (Qen α)} {lv lv' : α → Nat} {t t' : Bool},VX n E lv t = some (lv',t') → ∀ e ∈ E,lv e.2.1 + wt e.2.2 ≤ lv' e.1
 | e0 :: r,lv,lv',t,t',h,e,he=>by
  simp only [VX] at h
  split at h
  ·cases h
  ·split at h
   ·rename_i h2
    rcases List.mem_cons.1 he with rfl | he
    ·have:=Qeo h e.1
     rw [UN] at this
     exact this
    ·refine Nat.le_trans (Nat.add_le_add_right ?_ _) (Qsv h e he)
     by_cases hx : e.2.1 = e0.1
     ·rw [hx,UN]; exact Nat.le_of_lt h2
     ·rw [W5 _ _ hx]; exact Nat.le_refl _
   ·rename_i h2
    rcases List.mem_cons.1 he with rfl | he
    ·have:=Qeo h e.1
     omega
    ·exact Qsv h e he
theorem Qln {n : Nat} : ∀ {E : List (Qen α)} {lv lv' : α → Nat},VX n E lv false = some (lv',true) → ∃ e ∈ E,lv e.1 < lv' e.1
 | [],lv,lv',h=>by simp [VX] at h
 | e :: r,lv,lv',h=>by
  simp only [VX] at h
  split at h
  ·cases h
  ·split at h
   ·rename_i h2
    have:=Qeo h e.1
    rw [UN] at this
    exact ⟨e,List.mem_cons_self,Nat.lt_of_lt_of_le h2 this⟩
   ·obtain ⟨e',h1,h2⟩:=Qln h
    exact ⟨e',List.mem_cons_of_mem _ h1,h2⟩
theorem W6 {n : Nat} : ∀ {E : List (Qen α)} {lv lv' : α → Nat} {t t' : Bool},VX n E lv t = some (lv',t') → (∀ x,lv x ≤ n) → ∀ x,lv' x ≤ n
 | [],lv,lv',t,t',h,hb,x=>by
  simp only [VX,Option.some.injEq,Prod.mk.injEq] at h
  rw [← h.1]; exact hb x
 | e :: r,lv,lv',t,t',h,hb,x=>by
  simp only [VX] at h
  split at h
  ·cases h
  ·rename_i h1
   split at h
   ·refine W6 h (fun x=>?_) x
    by_cases hx : x = e.1
    ·subst hx; rw [UN]; omega
    ·rw [W5 _ _ hx]; exact hb x
   ·exact W6 h hb x
def WB (N : List α) (f : α → Nat) : Nat:=(N.map f).sum
omit [DecidableEq α] in
theorem QEc {f g : α → Nat} : ∀ {N : List α},(∀ x ∈ N,f x ≤ g x) → WB N f ≤ WB N g
 | [],_=>Nat.le_refl _
 | a :: N,h=>by
  simp only [WB,List.map_cons,List.sum_cons]
  have:=QEc (N:=N) (f:=f) (g:=g) fun x hx=>h x (List.mem_cons_of_mem _ hx)
  simp only [WB] at this
  have:=h a List.mem_cons_self
  omega
omit [DecidableEq α] in
theorem Qup {f g : α → Nat} {a : α} : ∀ {N : List α},(∀ x ∈ N,f x ≤ g x) → a ∈ N → f a < g a → WB N f < WB N g
 | b :: N,h,ha,hlt=>by
  simp only [WB,List.map_cons,List.sum_cons]
  have hb:=h b List.mem_cons_self
  rcases List.mem_cons.1 ha with rfl | ha
  ·have:=QEc (N:=N) (f:=f) (g:=g) fun x hx=>h x (List.mem_cons_of_mem _ hx)
   simp only [WB] at this
   omega
  ·have:=Qup (N:=N) (fun x hx=>h x (List.mem_cons_of_mem _ hx)) ha hlt
   simp only [WB] at this
   omega
omit [DecidableEq α] in
theorem Qzz {f : α → Nat} {n : Nat} : ∀ {N : List α},(∀ x,f x ≤ n) → WB N f ≤ N.length * n
 | [],_=>Nat.zero_le _
 | a :: N,h=>by
  simp only [WB,List.map_cons,List.sum_cons,List.length_cons]
  have:=Qzz (N:=N) h
  simp only [WB] at this
  have:=h a
  rw [Nat.succ_mul]
  omega
omit [DecidableEq α] in
theorem Qwc {E : List (Qen α)} (N : List α) (h : ∃ L,W4 E L) : ∃ L,W4 E L ∧ ∀ L',W4 E L' → WB N L ≤ WB N L':=by
 obtain ⟨L,hL⟩:=h
 generalize hs : WB N L = s
 induction s using Nat.strongRecOn generalizing L with
 | ind s ih =>
  by_cases hm : ∀ L',W4 E L' → WB N L ≤ WB N L'
  ·exact ⟨L,hL,hm⟩
  ·have : ∃ L',W4 E L' ∧ WB N L' < WB N L:=by
    false_or_by_contra
    rename_i hc
    refine hm fun L' hL'=>?_
    rcases Nat.lt_or_ge (WB N L') (WB N L) with h1 | h1
    ·exact (hc ⟨L',hL',h1⟩).elim
    ·exact h1
   obtain ⟨L',h1,h2⟩:=this
   exact ih _ (by omega) L' h1 rfl
omit [DecidableEq α] in
theorem Qo9 {p q : α → Bool} {a : α} : ∀ {N : List α},(∀ x ∈ N,p x = true → q x = true) → a ∈ N → p a = false → q a = true → (N.filter p).length < (N.filter q).length
 | b :: N,h,ha,hp,hq=>by
  have hle : ∀ {N : List α},(∀ x ∈ N,p x = true → q x = true) → (N.filter p).length ≤ (N.filter q).length:=by
   intro N
   induction N with
   | nil=>intro _; exact Nat.le_refl _
   | cons c N ih =>
    intro h
    have h1:=ih fun x hx=>h x (List.mem_cons_of_mem _ hx)
    have h2:=h c List.mem_cons_self
    simp only [List.filter_cons]
    cases hpc : p c with
    | true=>rw [h2 hpc]; simp; omega
    | false =>
     cases q c with
     | true=>simp; omega
     | false=>simpa using h1
  rcases List.mem_cons.1 ha with rfl | ha
  ·have:=hle (N:=N) fun x hx=>h x (List.mem_cons_of_mem _ hx)
   simp only [List.filter_cons,hp,hq]
   simp
   omega
  ·have:=Qo9 (N:=N) (fun x hx=>h x (List.mem_cons_of_mem _ hx)) ha hp hq
   have h2:=h b List.mem_cons_self
   simp only [List.filter_cons]
   cases hpc : p b with
   | true=>rw [h2 hpc]; simp; omega
   | false =>
    cases q b with
    | true=>simp; omega
    | false=>simpa using this
omit [DecidableEq α] in
theorem QB3 {E : List (Qen α)} {N : List α} (hE : ∀ e ∈ E,e.1 ∈ N ∧ e.2.1 ∈ N) {L : α → Nat} (hL : W4 E L) (hm : ∀ L',W4 E L' → WB N L ≤ WB N L') : ∀ x ∈ N,L x ≤ N.length:=by
 intro x hx
 false_or_by_contra
 rename_i hgt
 let R : α → Nat:=fun x=>(N.filter fun y=>decide (L y < L x)).length
 have hR : W4 E R:=by
  intro e he
  have h1:=hL e he
  show R e.2.1 + wt e.2.2 ≤ R e.1
  unfold wt at h1 ⊢
  cases hb : e.2.2 with
  | true =>
   rw [hb] at h1
   simp only [if_true] at h1 ⊢
   exact Qo9 (fun y _ hy=>by simp only [decide_eq_true_eq] at hy ⊢; omega) (hE e he).2 (by simp) (by simp; omega)
  | false =>
   rw [hb] at h1
   simp only [Bool.false_eq_true,if_false,Nat.add_zero] at h1 ⊢
   rcases Nat.eq_or_lt_of_le h1 with h2 | h2
   ·show (N.filter fun y=>decide (L y < L e.2.1)).length ≤ (N.filter fun y=>decide (L y < L e.1)).length
    rw [h2]; exact Nat.le_refl _
   ·exact Nat.le_of_lt (Qo9 (fun y _ hy=>by simp only [decide_eq_true_eq] at hy ⊢; omega) (hE e he).2 (by simp) (by simp; omega))
 have hmin : W4 E fun x=>min (L x) (R x):=by
  intro e he
  have h1:=hL e he
  have h2:=hR e he
  show min (L e.2.1) (R e.2.1) + wt e.2.2 ≤ min (L e.1) (R e.1)
  omega
 have h1:=hm _ hmin
 have hRx : R x ≤ N.length:=List.length_filter_le _ _
 have h2 : WB N (fun x=>min (L x) (R x)) < WB N L:=Qup (a:=x) (fun y _=>Nat.min_le_left _ _) hx (by show min (L x) (R x) < L x; omega)
 omega
def QdG (n : Nat) (E : List (Qen α)) : Nat → (α → Nat) → Option (α → Nat)
 | 0,_=>none
 | k + 1,lv=>match VX n E lv false with
  | none=>none
  | some (lv',true)=>QdG n E k lv'
  | some (lv',false)=>some lv'
theorem Quq {n : Nat} {E : List (Qen α)} : ∀ {k : Nat} {lv : α → Nat},(QdG n E k lv).isSome = true → ∃ L,W4 E L
 | 0,_,h=>by cases h
 | k + 1,lv,h=>by
  simp only [QdG] at h
  split at h
  ·cases h
  ·exact Quq h
  ·rename_i lv' hp
   exact ⟨lv,(QgW hp).2.2⟩
theorem Qur {E : List (Qen α)} {N : List α} (hE : ∀ e ∈ E,e.1 ∈ N ∧ e.2.1 ∈ N) {L : α → Nat} (hL : W4 E L) (hm : ∀ L',W4 E L' → WB N L ≤ WB N L') :
  ∀ (k : Nat) (lv : α → Nat),(∀ x,lv x ≤ L x) → (N.filter fun x=>decide (lv x ≠ L x)).length < k → (QdG N.length E k lv).isSome = true
 | 0,_,_,h=>absurd h (Nat.not_lt_zero _)
 | k + 1,lv,hlv,hk=>by
  obtain ⟨lv',t',hp,hb⟩:=Qbb (n:=N.length) (t:=false) hL (fun e he=>QB3 hE hL hm _ (hE e he).1) hlv
  simp only [QdG,hp]
  cases t' with
  | false=>rfl
  | true =>
   have hle:=Qeo hp
   obtain ⟨e0,he0,hlt0⟩:=Qln hp
   refine Qur hE hL hm k lv' hb ?_
   by_cases hnew : ∃ x ∈ N,lv x ≠ L x ∧ lv' x = L x
   ·obtain ⟨x,hx,h1,h2⟩:=hnew
    have:=Qo9 (N:=N) (p:=fun x=>decide (lv' x ≠ L x)) (q:=fun x=>decide (lv x ≠ L x)) (a:=x) (fun y _ hy=>by
     simp only [decide_eq_true_eq] at hy ⊢
     have:=hle y; have:=hb y; have:=hlv y; omega) hx (by simp [h2]) (by simp [h1])
    omega
   ·exfalso
    have hsame : ∀ x ∈ N,lv' x = L x → lv x = L x:=fun x hx h1=>by
     false_or_by_contra
     rename_i h2
     exact hnew ⟨x,hx,h2,h1⟩
    have hS : W4 E fun x=>if lv' x = L x then L x else L x - 1:=by
     intro e he
     have h1:=hL e he
     have h2:=Qsv hp e he
     have h3:=hb e.1
     have h4:=hb e.2.1
     show (if lv' e.2.1 = L e.2.1 then L e.2.1 else L e.2.1 - 1) + wt e.2.2 ≤ (if lv' e.1 = L e.1 then L e.1 else L e.1 - 1)
     by_cases ha : lv' e.1 = L e.1
     ·rw [if_pos ha]; split <;> omega
     ·rw [if_neg ha]
      by_cases hc : lv' e.2.1 = L e.2.1
      ·rw [if_pos hc]
       have:=hsame _ (hE e he).2 hc
       omega
      ·rw [if_neg hc]; omega
    have h1:=hm _ hS
    have h5:=hb e0.1
    have hx0 : lv' e0.1 ≠ L e0.1:=fun h=>by have:=hsame _ (hE e0 he0).1 h; omega
    have h2 : WB N (fun x=>if lv' x = L x then L x else L x - 1) < WB N L:=Qup (a:=e0.1) (fun y _=>by split <;> omega) (hE e0 he0).1 (by
     show (if lv' e0.1 = L e0.1 then L e0.1 else L e0.1 - 1) < L e0.1
     rw [if_neg hx0]; omega)
    omega
theorem QDI {E : List (Qen α)} {N : List α} (hE : ∀ e ∈ E,e.1 ∈ N ∧ e.2.1 ∈ N) {k : Nat} (hk : N.length < k) : (QdG N.length E k (fun _=>0)).isSome = true ↔ ∃ L,W4 E L:=by
 refine ⟨Quq,fun h=>?_⟩
 obtain ⟨L,hL,hm⟩:=Qwc N h
 exact Qur hE hL hm k _ (fun _=>Nat.zero_le _) (Nat.lt_of_le_of_lt (List.length_filter_le _ _) hk)
def Qlo (n : Nat) (E : List (Qen α)) : Nat → Bool → (α → Nat) → Option (Option (α → Nat))
 | 0,_,_=>none
 | k + 1,t,lv=>if t then (match VX n E lv false with
  | none=>some none
  | some (lv',t')=>Qlo n E k t' lv') else some (some lv)
theorem QEU {E : List (Qen α)} {N : List α} (hE : ∀ e ∈ E,e.1 ∈ N ∧ e.2.1 ∈ N) : ∀ (s : Nat) (lv : α → Nat),(∀ x,lv x ≤ N.length) → N.length * N.length ≤ WB N lv + s → (∀ L,W4 E L → (∀ L',W4 E L' → WB N L ≤ WB N L') → ∀ x,lv x ≤ L x) →
  ∃ b,(∀ k,s + 2 ≤ k → Qlo N.length E k true lv = some b) ∧ (b.isSome = true ↔ ∃ L,W4 E L):=by
 intro s
 induction s with
 | zero =>
  intro lv hb hs hinv
  cases hp : VX N.length E lv false with
  | none =>
   refine ⟨none,fun k hk=>?_,⟨fun h=>(nomatch h),fun h=>?_⟩⟩
   ·obtain ⟨k,rfl⟩ : ∃ j,k = j + 1:=⟨k - 1,by omega⟩
    simp [Qlo,hp]
   ·obtain ⟨L,hL,hm⟩:=Qwc N h
    obtain ⟨_,_,h1,_⟩:=Qbb (n:=N.length) (t:=false) hL (fun e he=>QB3 hE hL hm _ (hE e he).1) (hinv L hL hm)
    rw [hp] at h1; cases h1
  | some r =>
   obtain ⟨lv',t'⟩:=r
   cases t' with
   | false =>
    refine ⟨some lv',fun k hk=>?_,⟨fun _=>⟨lv,(QgW hp).2.2⟩,fun _=>rfl⟩⟩
    obtain ⟨k,rfl⟩ : ∃ j,k = j + 2:=⟨k - 2,by omega⟩
    simp [Qlo,hp]
   | true =>
    exfalso
    obtain ⟨e,he,hlt⟩:=Qln hp
    have h1 : WB N lv < WB N lv':=Qup (fun x _=>Qeo hp x) (hE e he).1 hlt
    have h2:=Qzz (N:=N) (W6 hp hb)
    omega
 | succ s ih =>
  intro lv hb hs hinv
  cases hp : VX N.length E lv false with
  | none =>
   refine ⟨none,fun k hk=>?_,⟨fun h=>(nomatch h),fun h=>?_⟩⟩
   ·obtain ⟨k,rfl⟩ : ∃ j,k = j + 1:=⟨k - 1,by omega⟩
    simp [Qlo,hp]
   ·obtain ⟨L,hL,hm⟩:=Qwc N h
    obtain ⟨_,_,h1,_⟩:=Qbb (n:=N.length) (t:=false) hL (fun e he=>QB3 hE hL hm _ (hE e he).1) (hinv L hL hm)
    rw [hp] at h1; cases h1
  | some r =>
   obtain ⟨lv',t'⟩:=r
   cases t' with
   | false =>
    refine ⟨some lv',fun k hk=>?_,⟨fun _=>⟨lv,(QgW hp).2.2⟩,fun _=>rfl⟩⟩
    obtain ⟨k,rfl⟩ : ∃ j,k = j + 2:=⟨k - 2,by omega⟩
    simp [Qlo,hp]
   | true =>
    obtain ⟨e,he,hlt⟩:=Qln hp
    have h1 : WB N lv < WB N lv':=Qup (fun x _=>Qeo hp x) (hE e he).1 hlt
    obtain ⟨b,h2,h3⟩:=ih lv' (W6 hp hb) (by omega) fun L hL hm=>by
     obtain ⟨lv2,t2,h4,h5⟩:=Qbb (n:=N.length) (t:=false) hL (fun e he=>QB3 hE hL hm _ (hE e he).1) (hinv L hL hm)
     rw [hp] at h4
     cases h4
     exact h5
    refine ⟨b,fun k hk=>?_,h3⟩
    obtain ⟨k,rfl⟩ : ∃ j,k = j + 1:=⟨k - 1,by omega⟩
    simp only [Qlo,hp,if_true]
    exact h2 k (by omega)
theorem Qlp {n : Nat} : ∀ (E1 E2 : List (Qen α)) (lv : α → Nat) (t : Bool),VX n (E1 ++ E2) lv t = match VX n E1 lv t with
  | none=>none
  | some r=>VX n E2 r.1 r.2
 | [],E2,lv,t=>rfl
 | e :: E1,E2,lv,t=>by
  simp only [List.cons_append,VX]
  split
  ·rfl
  ·split
   ·exact Qlp E1 E2 _ _
   ·exact Qlp E1 E2 _ _
omit [DecidableEq α] in
theorem QDJ {E E' : List (Qen α)} (h : ∀ e,e ∈ E ↔ e ∈ E') : (∃ L,W4 E L) ↔ ∃ L,W4 E' L :=
 ⟨fun ⟨L,hL⟩=>⟨L,fun e he=>hL e ((h e).2 he)⟩,fun ⟨L,hL⟩=>⟨L,fun e he=>hL e ((h e).1 he)⟩⟩
end
end Go.Ab
