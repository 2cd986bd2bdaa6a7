import Derived.Test.YtafopbigcffjgaaGreatAb40
import Derived.Test.YtafopbigcffjgaaGreatPlain1
import Derived.Shelf.SlSortCmp.NoneTotal
namespace Go.Ab
noncomputable section
open Go.Proofs Go.Sort Go.Shelf
abbrev QaT : Ty:=.pair (.int .i64) (.pair (.int .i64) (.pair .str .str))
def Qo4 (a : Atm) : Prop:=(inK .i64 a.1 = true ∧ inK .i64 a.2.1 = true) ∧ ((a.2.2.1.length ≤ 140737488355328 ∧ ∀ x ∈ a.2.2.1,inK .u8 x = true) ∧ a.2.2.2.length ≤ 140737488355328 ∧ ∀ x ∈ a.2.2.2,inK .u8 x = true)
abbrev WfA : Type:={ a : Atm // Qo4 a }
instance : Inhabited WfA:=⟨⟨(0,0,[],[]),⟨by decide,by decide⟩,⟨by decide,by simp⟩,by decide,by simp⟩⟩
def Qk3 (l : List Int) : ByteArray:=⟨(l.map fun b=>UInt8.ofNat b.toNat).toArray⟩
def UQ (a : WfA) : List Value:=[.int .i64 a.1.1,.int .i64 a.1.2.1,.string (Qk3 a.1.2.2.1),.string (Qk3 a.1.2.2.2)]
theorem Ga {l : List Int} (h : ∀ x ∈ l,inK .u8 x = true) : Qx (Qk3 l) = l:=by
 unfold Qx Qk3
 simp only [List.map_map]
 conv=>rhs; rw [← List.map_id l]
 apply List.map_congr_left
 intro x hx
 have:=Jz.1 (h x hx)
 rw [QdH,QdI] at this
 simp only [Function.comp_apply,id]
 rw [UInt8.toNat_ofNat']
 omega
theorem Qh0 (s : ByteArray) : Qk3 (Qx s) = s:=by
 have : ((Qx s).map fun b=>UInt8.ofNat b.toNat) = s.data.toList:=by
  unfold Qx
  rw [List.map_map]
  conv=>rhs; rw [← List.map_id s.data.toList]
  apply List.map_congr_left
  intro b _
  simp
 unfold Qk3
 rw [this]
theorem QsC {a b : WfA} (h : UQ a = UQ b) : a = b:=by
 unfold UQ at h
 simp only [List.cons.injEq,Value.int.injEq,Value.string.injEq,true_and,and_true] at h
 obtain ⟨h1,h2,h3,h4⟩:=h
 have e3:=congrArg Qx h3
 have e4:=congrArg Qx h4
 rw [Ga a.2.2.1.2,Ga b.2.2.1.2] at e3
 rw [Ga a.2.2.2.2,Ga b.2.2.2.2] at e4
 exact Subtype.ext (Prod.ext h1 (Prod.ext h2 (Prod.ext e3 e4)))
open Classical in
def Qtz (v : Value) : WfA:=if h : ∃ a,G8 UQ a = v then h.choose else default
theorem QsD (a : WfA) : Qtz (G8 UQ a) = a:=by
 have h : ∃ b,G8 UQ b = G8 UQ a:=⟨a,rfl⟩
 have key : ∀ b,G8 UQ b = G8 UQ a → b = a:=by
  intro b hb
  unfold G8 at hb
  simp only [Value.agg.injEq] at hb
  exact QsC (congrArg Array.toList hb)
 unfold Qtz
 rw [dif_pos h]
 exact key _ h.choose_spec
theorem QpP (a : WfA) : (UQ a).length = 4:=rfl
theorem QpQ (a : WfA) : ∀ v ∈ UQ a,v.oneCell' = true:=by
 intro v hv
 simp only [UQ,List.mem_cons,List.not_mem_nil,or_false] at hv
 rcases hv with rfl | rfl | rfl | rfl <;> rfl
theorem Qm6 (a : WfA) (F : Snap) : RelD F QaT a.1 (UQ a):=by
 have hs : ∀ l : List Int,(Qk3 l).size = l.length:=by intro l; simp [Qk3,ByteArray.size]
 exact ⟨[_],[_,_,_],rfl,⟨rfl,a.2.1.1⟩,[_],[_,_],rfl,⟨rfl,a.2.1.2⟩,[_],[_],rfl,⟨_,rfl,Ga a.2.2.1.2,by rw [hs]; exact a.2.2.1.1⟩,⟨_,rfl,Ga a.2.2.2.2,by rw [hs]; exact a.2.2.2.1⟩⟩
theorem Qtb {F : Snap} {x : Atm} {v : Value} (h : RelD F QaT x v.cells.toList) (hs : W7 QaT v) (z : WfA) (hz : z.1 = x) : v = G8 UQ z:=by
 obtain ⟨arr,rfl⟩:=hs.2 rfl
 obtain ⟨c1,c2,e,⟨h1,_⟩,d1,d2,e2,⟨h2,_⟩,f1,f2,e3,⟨s1,h3,h4,_⟩,s2,h5,h6,_⟩:=h
 have h1 : c1 = [.int .i64 x.1]:=h1
 have h2 : d1 = [.int .i64 x.2.1]:=h2
 subst hz
 have hc : (Value.agg arr).cells.toList = arr.toList:=rfl
 rw [hc] at e
 unfold G8 UQ
 congr 1
 apply Array.toList_inj.1
 rw [e,e2,e3,h1,h2,h3,h5]
 have h4 : Qx s1 = z.1.2.2.1:=h4
 have h6 : Qx s2 = z.1.2.2.2:=h6
 rw [← h4,← h6,Qh0,Qh0]
 rfl
def cfA (x y : WfA) : Int:=Jr x.1 y.1
theorem ltA (x y : WfA) : ltOf cfA x y = Qs x.1 y.1:=by
 have h:=VS x.1 y.1
 unfold ltOf cfA
 cases hl : Qs x.1 y.1 with
 | true=>rw [hl] at h; simp only [Bool.not_true,decide_eq_false_iff_not] at h; exact decide_eq_true (by omega)
 | false=>rw [hl] at h; simp only [Bool.not_false,decide_eq_true_eq] at h; exact decide_eq_false (by omega)
theorem QcA (a : Atm) : Qs a a = false:=by
 unfold Qs
 simp [WW]
theorem XL {a b c : Atm} (h1 : Qs a b = true) (h2 : Qs b c = true) : Qs a c = true:=by
 have t1:=Qea a.2.2.2 b.2.2.2 c.2.2.2
 have t2:=Qea a.2.2.1 b.2.2.1 c.2.2.1
 unfold Qs at *
 grind
theorem XM {a b : Atm} (h1 : Qs a b = false) (h2 : Qs b a = false) : a = b:=by
 have t1:=E1 a.2.2.2 b.2.2.2
 have t2:=E1 a.2.2.1 b.2.2.1
 obtain ⟨a1,a2,a3,a4⟩:=a
 obtain ⟨b1,b2,b3,b4⟩:=b
 unfold Qs at *
 dsimp only at *
 grind
theorem QtA : SWO (ltOf cfA) where
 irrefl x:=by rw [ltA]; exact QcA _
 trans x y z h1 h2:=by rw [ltA] at *; exact XL h1 h2
 ntrans x y z h1 h2:=by
  rw [ltA] at *
  cases h : Qs x.1 z.1 with
  | false=>rfl
  | true =>
   cases h3 : Qs y.1 x.1 with
   | true=>have:=XL h3 h; rw [h2] at this; cases this
   | false=>rw [XM h1 h3] at h; rw [h2] at h; cases h
theorem QtP (x y : WfA) (h1 : (ltOf cfA) x y = false) (h2 : (ltOf cfA) y x = false) : x = y:=by
 rw [ltA] at h1 h2
 exact Subtype.ext (XM h1 h2)
def Qm7 (d : List WfA) : List WfA:=d.mergeSort fun x y=>!(ltOf cfA) y x
theorem W3 (d : List WfA) : (Qm7 d).Perm d:=List.mergeSort_perm _ _
theorem Qec (d : List WfA) : (Qm7 d).Pairwise fun x y=>(!(ltOf cfA) y x) = true:=by
 refine List.pairwise_mergeSort (fun x y z h1 h2=>?_) (fun x y=>?_) d
 ·simp only [Bool.not_eq_true'] at *
  cases h : ltOf cfA z x with
  | false=>rfl
  | true =>
   have:=QtA.ntrans z y x h2 h1
   rw [h] at this; cases this
 ·rw [Bool.or_eq_true,Bool.not_eq_true',Bool.not_eq_true']
  cases h : ltOf cfA y x with
  | false=>exact .inl rfl
  | true=>exact .inr (QtA.asymmA h)
theorem Qoc {α : Type} {lt : α → α → Prop} (hi : ∀ a,¬ lt a a) (ht : ∀ a b c,lt a b → lt b c → lt a c) : ∀ {l l' : List α},l.Pairwise lt → l'.Pairwise lt → (∀ a,a ∈ l ↔ a ∈ l') → l = l'
 | [],[],_,_,_=>rfl
 | [],b :: l',_,_,h=>by have:=(h b).2 (by simp); simp at this
 | a :: l,[],_,_,h=>by have:=(h a).1 (by simp); simp at this
 | a :: l,b :: l',h1,h2,h=>by
  rw [List.pairwise_cons] at h1 h2
  have hab : a = b:=by
   rcases List.mem_cons.1 ((h a).1 (by simp)) with e | e
   ·exact e
   rcases List.mem_cons.1 ((h b).2 (by simp)) with e' | e'
   ·exact e'.symm
   ·exact absurd (ht _ _ _ (h1.1 b e') (h2.1 a e)) (hi a)
  subst hab
  congr 1
  refine Qoc hi ht h1.2 h2.2 fun x=>?_
  have hx:=h x
  rw [List.mem_cons,List.mem_cons] at hx
  constructor
  ·intro hm
   rcases hx.1 (.inr hm) with rfl | h'
   ·exact absurd (h1.1 x hm) (hi x)
   ·exact h'
  ·intro hm
   rcases hx.2 (.inr hm) with rfl | h'
   ·exact absurd (h2.1 x hm) (hi x)
   ·exact h'
theorem Qtc (d d' : List WfA) (h : d.Perm d') : Qm7 d = Qm7 d':=by
 refine List.Perm.eq_of_pairwise (le:=fun x y=>(!(ltOf cfA) y x) = true) (fun x y _ _ h1 h2=>?_) (Qec d) (Qec d') ((W3 d).trans (h.trans (W3 d').symm))
 simp only [Bool.not_eq_true'] at h1 h2
 exact QtP x y h2 h1
theorem Qtd {w w' : World} (h : BelowN w.heap.size w w') : ∃ q os,w' = grow (w.drewN q) os:=by
 obtain ⟨h1,h2,h3,h4,h5,h6⟩:=h
 refine ⟨w'.drawn - w.drawn,w'.heap.extract w.heap.size w'.heap.size,?_⟩
 obtain ⟨heap,tape,drawn,os,output⟩:=w
 obtain ⟨heap',tape',drawn',os',output'⟩:=w'
 simp only at h1 h2 h3 h4 h5 h6
 subst h1; subst h2; subst h3
 unfold grow World.drewN
 simp only [World.mk.injEq,true_and,and_true]
 refine ⟨?_,by omega⟩
 apply Array.ext_getElem?
 intro i
 rw [Array.getElem?_append]
 split
 ·rename_i hi; exact h5 i hi
 ·rename_i hi
  rw [Array.getElem?_extract]
  split
  ·congr 1; omega
  ·rename_i hj
   exact Array.getElem?_eq_none (by omega)
def Qtl (P : Program) (t : TypeId) : Bool :=
 match P.underlying t with
 | some _=>Xy P t
 | none=>false
theorem Qte {P : Program} {t : TypeId} (h : Qtl P t = true) (w : World) : (isAgg t).run P w = .ok true w:=by
 unfold Qtl at h
 split at h
 case h_2=>cases h
 rename_i d hd
 rw [V4 hd,h]
def QsE (P : Program) (t : TypeId) (k : Nat) : Bool :=
 match P.info? t with
 | some i=>Nat.beq i.size k
 | none=>false
theorem QsF {P : Program} {t : TypeId} {k : Nat} (h : QsE P t k = true) (w : World) : (Go.sizeOf t).run P w = .ok k w:=by
 unfold QsE at h
 split at h
 case h_2=>cases h
 rename_i i hi
 rw [Qy hi,Nat.eq_of_beq_eq_true h]
theorem QpR {P : Program} {ρ : Ren} {g0 : Nat} (L : SlLaysF0.n6 P ρ) (aE : ∀ w,(isAgg (ρ.t 24)).run P w = .ok true w) (zE : ∀ w,(Go.sizeOf (ρ.t 24)).run P w = .ok 4 w) (he : Z8 P (ρ.f 6) = true)
  (hlt : Nat.blt g0 QC = true) {f : ES [QaT,QaT] → Option Int} (h : Qh P ⟨g0,[QaT,QaT],[.int .i64],f⟩) (hf : ∀ a b,f (a,b,()) = some (Jr a b)) : QpN P (ρ.f 6) g0 UQ 4 Qm7:=by
 have hcall : ∀ (x y : WfA) (w : World),Calls P g0 (#[.agg (UQ x).toArray,.agg (UQ y).toArray] ++ #[]) w fun e w'=>e = .returned (.int .i64 (cfA x y)) ∧ ∃ q os',w' = grow (w.drewN q) os':=by
  intro x y w
  obtain ⟨_,_,h3⟩:=(h (x.1,y.1,()) _ (hf x.1 y.1)).1 (HK hlt)
  have hr:=h3 ⟨fun _=>none,fun _ _=>none,fun _=>none,0,.no⟩ w [.agg (UQ x).toArray,.agg (UQ y).toArray] (GlobOk.none _) (fun a u hu=>by cases hu) rfl (fun i c u hc hu=>by
   match i with
   | 0=>cases hc; cases hu; exact Vg ⟨(UQ x).toArray,rfl,Qm6 x _⟩
   | 1=>cases hc; cases hu; exact Vg ⟨(UQ y).toArray,rfl,Qm6 y _⟩
   | i + 2=>simp [Qp] at hc)
  refine hr.mono fun e w'=>?_
  rintro ⟨u,F',rfl,_,_,hB,hu⟩
  refine ⟨?_,Qtd hB⟩
  have hu : RelV _ (.d (.int .i64) (Jr x.1 y.1)) u:=hu
  obtain ⟨e,_⟩:=hu.int_inv
  rw [e]
  rfl
 have eg : ∀ args w,(callFunc g0 args).run P w = .ok (.enter g0 args) w:=by
  obtain ⟨h1,_,_⟩:=(h ((0,0,[],[]),(0,0,[],[]),()) _ (hf _ _)).1 (HK hlt)
  exact fun args w=>V8 h1
 refine ⟨he,fun blk off cap d w hH hblk hlen=>?_,fun p cap w=>AnyF.slices_SortFunc_none L p cap _ w⟩
 have:=AnyQ.slices_SortFunc_total L 4 aE zE UQ QpP QpQ cfA QtA g0 #[] blk off cap d.toArray w eg (fun m os dk hdk x y=>hcall x y _) hH hblk (by simpa using hlen) QtP
 simpa [Qm7] using this
open Classical in
def Qca (ks : List Atm) : Option (List Atm):=if h : (ks.length + 1) * 64 ≤ 140737488355328 ∧ ∀ a ∈ ks,Qo4 a then some ((Qm7 (ks.attach.map fun a=>⟨a.1,h.2 a.1 a.2⟩)).map (·.1)) else none
theorem QrE : ∀ ks y,Qca ks = some y → ∃ kb : List WfA,kb.length = ks.length ∧ (kb.length + 1) * 64 ≤ 140737488355328 ∧ (∀ (i : Nat) x z (F : Snap) (v : Value),ks[i]? = some x → kb[i]? = some z → RelD F QaT x v.cells.toList → W7 QaT v → v = G8 UQ z) ∧ y = (Qm7 kb).map (·.1):=by
 intro ks y h
 unfold Qca at h
 split at h
 case isFalse=>cases h
 rename_i hk
 cases h
 refine ⟨_,by simp,by simpa using hk.1,fun i x z F v hx hz hr hs=>Qtb hr hs z ?_,rfl⟩
 rw [List.getElem?_map] at hz
 obtain ⟨a,ha,rfl⟩:=Option.map_eq_some_iff.1 hz
 simp only
 have : (ks.attach.map (·.1))[i]? = some a.1:=by rw [List.getElem?_map,ha]; rfl
 rw [List.attach_map_subtype_val,hx] at this
 exact (Option.some.inj this).symm
theorem QrF {ks zs : List Atm} (hl : (ks.length + 1) * 64 ≤ 140737488355328) (hw : ∀ a ∈ ks,Qo4 a) (hn : ks.Nodup) (hz : zs.Pairwise fun a b=>Qs a b = true) (hm : ∀ a,a ∈ zs ↔ a ∈ ks) : Qca ks = some zs:=by
 unfold Qca
 rw [dif_pos ⟨hl,hw⟩]
 congr 1
 refine Qoc (lt:=fun a b=>Qs a b = true) (fun a h=>by rw [QcA] at h; cases h) (fun a b c=>XL) ?_ hz fun a=>?_
 ·rw [List.pairwise_map]
  have hs:=Qec (ks.attach.map fun a=>⟨a.1,hw a.1 a.2⟩)
  have hnd : (Qm7 (ks.attach.map fun a=>⟨a.1,hw a.1 a.2⟩)).Nodup:=by
   rw [(W3 _).nodup_iff]
   have : ((ks.attach.map fun a=>(⟨a.1,hw a.1 a.2⟩ : WfA)).map (·.1)).Nodup:=by
    rw [List.map_map]
    show (ks.attach.map (·.1)).Nodup
    rw [List.attach_map_subtype_val]; exact hn
   exact V9 this
  refine (List.pairwise_and_iff.2 ⟨hs,hnd⟩).imp fun {x y} h=>?_
  obtain ⟨h1,h2⟩:=h
  simp only [Bool.not_eq_true'] at h1
  rw [ltA] at h1
  cases h3 : Qs x.1 y.1 with
  | true=>rfl
  | false=>exact absurd (Subtype.ext (XM h3 h1)) h2
 ·rw [hm]
  constructor
  ·intro h
   obtain ⟨z,hz,rfl⟩:=List.mem_map.1 h
   obtain ⟨b,_,rfl⟩:=List.mem_map.1 ((W3 _).mem_iff.1 hz)
   exact b.2
  ·intro h
   exact List.mem_map.2 ⟨⟨a,hw a h⟩,(W3 _).mem_iff.2 (List.mem_map.2 ⟨⟨a,h⟩,by simp,rfl⟩),rfl⟩
end
end Go.Ab
