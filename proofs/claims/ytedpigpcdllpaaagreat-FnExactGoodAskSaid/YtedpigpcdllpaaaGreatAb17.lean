import Derived.Test.YtedpigpcdllpaaaGreatAb16
import Derived.ProofKit
namespace Go.Ab
open Go.ChangeShapes Go.WideShapes Go.ChangeAt Go.RowKit
def QkA (w : World) : Snap:=fun a=>if a.spot = none then w.cell? a else none
theorem QEH (w : World) : ∀ a u,QkA w a = some u → Sees w a u:=by
 intro a u h
 unfold QkA at h
 split at h
 ·exact .of ‹_› h
 ·cases h
def wfD : (t : Ty) → t.den → Prop
 | .int k,x=>inK k x = true
 | .bool,_=>True
 | .str,x=>List.length (α:=Int) x ≤ 140737488351232 ∧ ∀ b ∈ (show List Int from x),inK .u8 b = true
 | .list t,xs=>List.length (α:=t.den) xs ≤ maxLen ∧ ∀ x ∈ (show List t.den from xs),wfD t x
 | .unit,_=>True
 | .pair a b,x=>wfD a x.1 ∧ wfD b x.2
 | .map _ _,_=>True
 | .tree _,_=>True
def Ty.pos : Ty → Bool
 | .list t=>Nat.blt 0 t.cells && t.pos
 | .pair a b=>a.pos && b.pos
 | .map _ _=>false
 | .tree _=>false
 | _=>true
theorem QyX {α β : Type} {f : α → Option β} {a : α} {l : List α} {r : List β} (h : (a :: l).mapM f = some r) : ∃ y ys,f a = some y ∧ l.mapM f = some ys ∧ r = y :: ys:=by
 rw [List.mapM_cons] at h
 cases h1 : f a with
 | none=>rw [h1] at h; cases h
 | some y =>
  cases h2 : l.mapM f with
  | none=>rw [h1,h2] at h; cases h
  | some ys =>
   rw [h1,h2] at h
   exact ⟨y,ys,rfl,rfl,(Option.some.inj h).symm⟩
theorem QD9 {α β : Type} {f : α → Option β} : ∀ {l : List α} {r : List β},l.mapM f = some r → r.length = l.length ∧ ∀ (i : Nat) (x : α),l[i]? = some x → ∃ y,r[i]? = some y ∧ f x = some y
 | [],r,h=>by
  have : r = []:=(Option.some.inj h).symm
  subst this
  exact ⟨rfl,fun i x hx=>by simp at hx⟩
 | a :: l,r,h=>by
  obtain ⟨y,ys,h1,h2,rfl⟩:=QyX h
  obtain ⟨k1,k2⟩:=QD9 h2
  refine ⟨by simp [k1],fun i x hx=>?_⟩
  cases i with
  | zero=>simp only [List.getElem?_cons_zero,Option.some.injEq] at hx; subst hx; exact ⟨y,rfl,h1⟩
  | succ i=>exact k2 i x (by simpa using hx)
theorem QA0 {k : IntKind} {n : Int} (h : (Lit.int k n).wf = true) : inK k n = true:=by
 simpa [Lit.wf,inK] using h
theorem cells?_at {w : World} {a : Addr} {n : Nat} {es : List Value} (h : w.cells? 0 a n = some es) : es.length = n ∧ ∀ (j : Nat) (u : Value),es[j]? = some u → w.cell? (a.add j) = some u:=by
 unfold World.cells? at h
 rw [if_pos (Nat.zero_le _)] at h
 obtain ⟨h1,h2⟩:=QD9 h
 rw [List.length_range] at h1
 refine ⟨h1,fun j u hu=>?_⟩
 have hj : j < n:=by rw [← h1]; exact (List.getElem?_eq_some_iff.1 hu).1
 obtain ⟨y,k1,k2⟩:=h2 j j (by simp [hj])
 rw [hu] at k1
 cases k1
 exact k2
theorem all_append {α : Type} {p : α → Bool} {a b : List α} (h : (a ++ b).all p = true) : a.all p = true ∧ b.all p = true:=by
 rw [List.all_append,Bool.and_eq_true] at h
 exact h
theorem QEI (s : ByteArray) : ∀ b ∈ ZU s,inK .u8 b = true:=by
 intro b hb
 obtain ⟨c,_,rfl⟩:=List.mem_map.1 hb
 have:=c.toNat_lt
 rw [Wa,QuS,QuT]
 omega
section
variable {H : Type} {enc : TypeId × Value → H} {P : Program} {w : World} {spare : Nat → Bool} {held : Bool}
abbrev QyY (P : Program) (t : TypeId) (d : DataW H) : Prop:=(d.weights P t).all (· ≤ reachBytes) = true
theorem QFJ {α : Type} {Q : Nat → α → Prop} : ∀ (n : Nat),(∀ i,i < n → ∃ x,Q i x) → ∃ xs : List α,xs.length = n ∧ ∀ (i : Nat) (x : α),xs[i]? = some x → Q i x
 | 0,_=>⟨[],rfl,fun i x hx=>by simp at hx⟩
 | n + 1,h=>by
  obtain ⟨xs,hl,hx⟩:=QFJ n fun i hi=>h i (by omega)
  obtain ⟨y,hy⟩:=h n (by omega)
  refine ⟨xs ++ [y],by simp [hl],fun i x hi=>?_⟩
  by_cases hin : i < n
  ·rw [List.getElem?_append_left (by omega)] at hi
   exact hx i x hi
  ·rw [List.getElem?_append_right (by omega)] at hi
   have hlt:=(List.getElem?_eq_some_iff.1 hi).1
   have e : i = n:=by simp only [List.length_singleton] at hlt; omega
   subst e
   rw [hl,Nat.sub_self] at hi
   simp only [List.getElem?_cons_zero,Option.some.injEq] at hi
   subst hi
   exact hy
theorem Qqj {e : TypeId} : ∀ {l : List (DataW H)},(DataW.weightsAll P e l).all (· ≤ reachBytes) = true → ∀ (i : Nat) (d : DataW H),l[i]? = some d → QyY P e d
 | [],_,i,d,h=>by simp at h
 | a :: l,hw,i,d,h=>by
  obtain ⟨h1,h2⟩:=all_append hw
  cases i with
  | zero=>simp only [List.getElem?_cons_zero,Option.some.injEq] at h; subst h; exact h1
  | succ i=>exact Qqj h2 i d (by simpa using h)
theorem Qri {n fuel : Nat} {cs : List Value} (ih : ∀ {t : TypeId} {cs : List Value} {d : DataW H} {ps : List MemPlace} {ty : Ty},DataW.trod enc P w 0 spare held fuel t cs = some (d,ps) → GY P n t = some ty → ty.pos = true → QyY P t d → ∃ x : ty.den,RelD (QkA w) ty x cs ∧ wfD ty x) :
  ∀ (l : List Field) (off : Nat) {ty : Ty} {xs : List (DataW H × List MemPlace)},Yh (GY P n) off l = some ty → ty.pos = true → xs.length = l.length → (∀ (i : Nat) (f : Field),l[i]? = some f → DataW.trod enc P w 0 spare held fuel f.type ((cs.drop f.offset).take (P.cellsOf f.type)) = xs[i]?) →
   (DataW.weightsEach P (l.map (·.type)) (xs.map (·.1))).all (· ≤ reachBytes) = true → ∃ x : ty.den,RelD (QkA w) ty x ((cs.drop off).take ty.cells) ∧ wfD ty x
 | [],off,ty,xs,h,_,_,_,_=>by
  simp only [Yh,Option.some.injEq] at h
  subst h
  refine ⟨(),?_,trivial⟩
  show (cs.drop off).take 0 = []
  simp
 | [f],off,ty,[],h,hp,hl,hm,hw=>by cases hl
 | [f],off,ty,y :: ys,h,hp,hl,hm,hw=>by
  simp only [Yh] at h
  split at h
  case isFalse=>cases h
  rename_i ho
  have h1:=hm 0 f rfl
  have hw1:=(all_append hw).1
  obtain ⟨x,hx,hwf⟩:=ih (d:=y.1) (ps:=y.2) h1 h hp hw1
  obtain ⟨_,_,_,hc,_⟩:=Yi h
  rw [ho,hc] at hx
  exact ⟨x,hx,hwf⟩
 | f :: g :: fs,off,ty,[],h,hp,hl,hm,hw=>by cases hl
 | f :: g :: fs,off,ty,y :: ys,h,hp,hl,hm,hw=>by
  simp only [Yh] at h
  split at h
  case isFalse=>cases h
  rename_i ho
  cases h1 : GY P n f.type with
  | none=>rw [h1] at h; cases h
  | some a =>
   rw [h1] at h
   simp only [Option.bind_some] at h
   cases h2 : Yh (GY P n) (off + a.cells) (g :: fs) with
   | none=>rw [h2] at h; cases h
   | some b =>
    rw [h2] at h
    simp only [Option.map_some,Option.some.injEq] at h
    subst h
    simp only [Ty.pos,Bool.and_eq_true] at hp
    have k1:=hm 0 f rfl
    obtain ⟨hw1,hw2⟩:=all_append hw
    obtain ⟨x,hx,hwf⟩:=ih (d:=y.1) (ps:=y.2) k1 h1 hp.1 hw1
    obtain ⟨z,hz,hwf2⟩:=Qri ih (g :: fs) _ h2 hp.2 (by simpa using hl) (fun i f hf=>hm (i + 1) f hf) hw2
    obtain ⟨_,_,_,hc,_⟩:=Yi h1
    rw [ho,hc] at hx
    refine ⟨(x,z),⟨_,_,?_,hx,hz⟩,hwf,hwf2⟩
    rw [show (Ty.pair a b).cells = a.cells + b.cells from rfl,List.take_add,List.drop_drop]
theorem QGY (a : Addr) (i n j : Nat) : (a.add (i * n)).add j = a.add (i * n + j):=by
 unfold Addr.add
 by_cases h1 : i * n = 0
 ·simp [h1]
 ·by_cases h2 : j = 0
  ·simp [h1,h2]
  ·simp [h1,h2,Nat.add_assoc]
theorem QBU {a : Addr} {u : Value} (h : w.cell? a = some u) : a.spot = none:=by
 unfold World.cell? at h
 split at h
 ·split at h
  ·cases h
  ·rename_i h1; simpa using h1
 ·cases h
theorem Qs2 : ∀ (fuel : Nat) {n : Nat} {t : TypeId} {cs : List Value} {d : DataW H} {ps : List MemPlace} {ty : Ty},DataW.trod enc P w 0 spare held fuel t cs = some (d,ps) → GY P n t = some ty → ty.pos = true → QyY P t d →
  ∃ x : ty.den,RelD (QkA w) ty x cs ∧ wfD ty x
 | 0,_,_,_,_,_,_,h,_,_,_=>by simp [DataW.trod] at h
 | fuel + 1,n,t,cs,d,ps,ty,h,hty,hp,hw=>by
  obtain ⟨m,_,hat,hcells,_⟩:=Yi hty
  cases hat with
  | bool hu =>
   obtain ⟨b,rfl,_⟩:=DataW.trod_bool hu h
   exact ⟨b,rfl,trivial⟩
  | int k hu =>
   obtain ⟨n',rfl,_,hk⟩:=DataW.trod_int hu h
   exact ⟨n',⟨rfl,QA0 hk⟩,QA0 hk⟩
  | str hu =>
   obtain ⟨s,rfl,hd,_⟩:=DataW.trod_string hu h
   cases hd
   have hl : s.size ≤ 140737488351232:=by
    have:=hw
    simp only [QyY,DataW.weights,reachBytes,List.all_cons,List.all_nil,Bool.and_true,Array.length_toList] at this
    exact of_decide_eq_true this
   exact ⟨ZU s,⟨s,rfl,rfl,by omega⟩,by rw [HY]; exact hl,QEI s⟩
  | list e ty' hu he =>
   simp only [Ty.pos,Bool.and_eq_true] at hp
   have hpos : 0 < ty'.cells:=Nat.le_of_ble_eq_true hp.1
   rcases DataW.trod_slice hu h with ⟨rfl,_⟩ | ⟨a,len,cap,elems,rest,f',hf,rfl,hd,_,hlc,hcm,hel,hat,_⟩
   ·exact ⟨[],⟨none,0,rfl,Nat.le_refl _,Nat.zero_le _,fun _=>rfl,fun b hb=>by cases hb⟩,Nat.zero_le _,fun x hx=>by cases hx⟩
   ·cases hf
    cases hd
    have hw2 : (DataW.weightsAll P e (elems.map (·.1))).all (· ≤ reachBytes) = true:=by
     have:=hw
     simp only [QyY,DataW.weights,hu] at this
     exact (all_append (all_append (a:=[_]) this).2).1
    obtain ⟨_,_,_,hce,_⟩:=Yi he
    have each : ∀ i,i < len → ∃ x : ty'.den,(∃ es,RelD (QkA w) ty' x es ∧ es.length = ty'.cells ∧ ∀ (j : Nat) (u : Value),es[j]? = some u → w.cell? (a.add (i * ty'.cells + j)) = some u) ∧ wfD ty' x:=by
     intro i hi
     have h1:=hat i hi
     have hlt : i < elems.length:=by omega
     rw [List.getElem?_eq_getElem hlt] at h1
     obtain ⟨es,hes,htr⟩:=Option.bind_eq_some_iff.1 h1
     obtain ⟨hl,hc⟩:=cells?_at hes
     obtain ⟨x,hx,hwf⟩:=Qs2 fuel (d:=elems[i].1) (ps:=elems[i].2) htr he hp.2 (Qqj hw2 i _ (by simp [List.getElem?_eq_getElem hlt]))
     refine ⟨x,⟨es,hx,hx.len,fun j u hu=>?_⟩,hwf⟩
     have:=hc j u hu
     rwa [QGY,hce] at this
    obtain ⟨xs,hxl,hxs⟩:=QFJ len each
    have hlen : List.length (α:=ty'.den) xs = len:=hxl
    have hspot : ∀ i,i < len → a.spot = none:=by
     intro i hi
     obtain ⟨x0,⟨es,_,h2,h3⟩,_⟩:=each 0 (by omega)
     have:=h3 0 es[0] (List.getElem?_eq_getElem (by omega))
     rw [Nat.zero_mul] at this
     exact QBU (a:=a) this
    have hrel : RelD (QkA w) (.list ty') xs [.slice (some a) len cap]:=by
     refine ⟨some a,cap,by rw [hlen],by rw [hlen]; exact hlc,hcm,fun e=>(by cases e),fun b hb i x hx=>?_⟩
     cases hb
     obtain ⟨⟨es,h1,h2,h3⟩,_⟩:=hxs i x hx
     have hs:=hspot i (by rw [← hlen]; exact (List.getElem?_eq_some_iff.1 hx).1)
     refine ⟨hs,es,h1,fun j u hu=>?_⟩
     have:=h3 j u hu
     obtain ⟨g,o,sp⟩:=a
     cases hs
     rw [Addr.add_lit] at this
     unfold QkA
     rw [if_pos rfl]
     show w.cell? ⟨g,o + i * ty'.cells + j,none⟩ = _
     rw [Nat.add_assoc]
     exact this
    refine ⟨xs,hrel,?_,?_⟩
    ·exact Nat.le_trans (by rw [hlen]; exact hlc) hcm
    ·intro x hx
     obtain ⟨i,hi⟩:=List.getElem?_of_mem hx
     exact (hxs i x hi).2
  | map k e a b hu _ _=>cases hp
  | tree fs f a _ _ _ _ _=>cases hp
  | one fs f ty' hu hfs h0 he =>
   obtain ⟨xs,n',hn,hd,hl,hxl,hall⟩:=DataW.trod_struct hu h
   cases hn
   cases hd
   have hw2 : (DataW.weightsEach P (fs.toList.map (·.type)) (xs.map (·.1))).all (· ≤ reachBytes) = true:=by
    have:=hw
    simpa only [QyY,DataW.weights,hu] using this
   simp only [Ty.pos,Bool.and_true] at hp
   obtain ⟨x,hx,hwf⟩:=Qri (cs:=cs) (Qs2 fuel) [f] 0 (ty:=ty') (xs:=xs) (by simp only [Yh,h0]; exact he) hp (by rw [hxl,← Array.length_toList,hfs]) (fun i f' hf=>hall i f' (by rw [← Array.getElem?_toList,hfs]; exact hf)) (by rw [← hfs]; exact hw2)
   refine ⟨(x,()),⟨_,[],?_,hx,rfl⟩,hwf,trivial⟩
   have hc : cs.length = ty'.cells:=by rw [hl,hcells]; rfl
   rw [List.append_nil,List.drop_zero,← hc,List.take_length]
  | st fs ty' hu hne he =>
   obtain ⟨xs,n',hn,hd,hl,hxl,hall⟩:=DataW.trod_struct hu h
   cases hn
   cases hd
   have hw2 : (DataW.weightsEach P (fs.toList.map (·.type)) (xs.map (·.1))).all (· ≤ reachBytes) = true:=by
    have:=hw
    simpa only [QyY,DataW.weights,hu] using this
   obtain ⟨x,hx,hwf⟩:=Qri (cs:=cs) (Qs2 fuel) fs.toList 0 (ty:=ty) (xs:=xs) he hp (by rw [hxl,Array.length_toList]) (fun i f' hf=>hall i f' (by rw [← Array.getElem?_toList]; exact hf)) hw2
   refine ⟨x,?_,hwf⟩
   have hc : cs.length = ty.cells:=by rw [hl,hcells]
   rw [List.drop_zero,← hc,List.take_length] at hx
   exact hx
end
end Go.Ab
