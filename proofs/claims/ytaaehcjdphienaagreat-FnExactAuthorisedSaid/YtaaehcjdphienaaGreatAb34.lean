/-
  The keys of a map, collected and sorted: the contract.
-/
import Derived.Test.YtaaehcjdphienaaGreatAb33
namespace Go.Ab
open Go.Proofs (encStr)

def toB (l : List Int) : List UInt8 := l.map fun b => UInt8.ofNat b.toNat
def ofB (l : List UInt8) : List Int := l.map fun b => (b.toNat : Int)
def sortK (l : List (List Int)) : List (List Int) := ((l.map toB).mergeSort fun x y => decide (x ≤ y)).map ofB

theorem toB_ofB (l : List UInt8) : toB (ofB l) = l := by
  unfold toB ofB
  rw [List.map_map]
  conv => rhs; rw [← List.map_id l]
  apply List.map_congr_left
  intro b _
  simp
theorem enc_data (s : ByteArray) : encStr s.data.toList = .string s := by simp [encStr]

open Classical in
noncomputable def keysF {v : Ty} (es : List (List Int × v.den)) : Option (List (List Int)) := if (es.length + 1) * 16 ≤ 140737488355328 then some (sortK (es.map (·.1))) else none

theorem keys_own {P : Program} {gl : Nat → Option (List V)} {g gs ts : Nat} {v : Ty} {fn : Func} {c : Code} (hlt : Nat.blt g ownMark = true) (hf : P.funcs[g]? = some fn) (hb : fn.body = some c) (he : entersB P g = true) (hsort : SortS P gs) (hchk : keysL P gs ts fn c = true) :
    CtrOkG P gl (ownOf g [.map .str v] .str fun x => keysF x.1) := by
  intro xs y hy
  have hm := (marks_lt (blt_lt hlt)).1
  obtain ⟨es, ⟨⟩⟩ := xs
  have hy : keysF es = some y := hy
  unfold keysF at hy
  split at hy
  case isFalse => cases hy
  rename_i hlen
  cases hy
  refine ⟨fun hlt => absurd hlt (Nat.not_lt.2 (Nat.le_add_left _ _)), fun _ _ t' ys hv => ?_, fun h1 => (Nat.lt_irrefl _ (Nat.lt_of_lt_of_le hm h1)).elim, fun h1 => (Nat.lt_irrefl _ (Nat.lt_of_lt_of_le hm (Nat.le_trans marks_le.2.2 h1))).elim⟩
  have hv : V.d (.list .str) (sortK (es.map (·.1))) = .d (.list t') ys := hv
  cases hv
  refine ⟨by rw [show (ownOf g [.map .str v] .str fun x => keysF x.1).g - ownMark = g from Nat.add_sub_cancel _ _]; exact he, fun M w vals hG hF hl hr => ?_⟩
  rw [show (ownOf g [.map .str v] .str fun x => keysF x.1).g - ownMark = g from Nat.add_sub_cancel _ _]
  obtain ⟨u, rfl⟩ : ∃ u, vals = [u] := List.length_eq_one_iff.1 hl.symm
  have hu : RelV M (.d (.map .str v) es) u := hr 0 _ u rfl rfl
  have hu : RelD M.F (.map .str v) es [u] := by cases hu with | d _ _ _ h => exact h
  obtain ⟨r, hur, hr0, hrb⟩ := hu
  simp only [List.cons.injEq, and_true] at hur
  subst hur
  -- what stands there
  obtain ⟨ms, clock, k1, k2, k3, k4, k5, k6⟩ : ∃ (ms : Array MapEntry) (clock : Nat), (∀ b, r = some b → w.heap[b]? = some (.map ms clock)) ∧ (r = none → ms = #[]) ∧ (∀ m ∈ ms, m.born < clock) ∧ (ms.toList.map (·.born)).Nodup ∧
      ms.toList.map (·.key) = (es.map fun e => toB e.1).map encStr ∧ ∀ x ∈ es.map fun e => toB e.1, x.length ≤ 140737488355328 := by
    cases r with
    | none =>
      have := hr0 rfl
      have he0 : es = [] := this
      subst he0
      exact ⟨#[], 0, by simp, by simp, by simp, by simp, by simp, by simp⟩
    | some b =>
      obtain ⟨ms, clock, q1, q2, q3, q4, q5⟩ := hrb b rfl
      have hkey : ∀ (i : Nat) (x : List Int × v.den) (m : MapEntry), es[i]? = some x → ms[i]? = some m → m.key = encStr (toB x.1) ∧ (toB x.1).length ≤ 140737488355328 := by
        intro i x m hx hm
        obtain ⟨⟨s, p1, p2, p3⟩, p4, _⟩ := q5 i x m hx hm
        have e1 : toB x.1 = s.data.toList := by rw [← p2]; exact toB_ofB _
        have : m.key = .string s := by
          have h1 := one_cells (p4.1 rfl)
          rw [h1] at p1
          simpa using p1
        rw [this, e1, enc_data]
        refine ⟨rfl, ?_⟩
        rw [Array.length_toList]; exact p3
      have q2 : ms.size = es.length := q2
      refine ⟨ms, clock, fun b' hb' => ?_, (fun h => by cases h), q3, q4, ?_, ?_⟩
      · cases hb'
        rcases hF _ _ q1 with h | ⟨_, ms', c', h1, h2⟩
        · cases h.1
        · obtain ⟨e1, e2⟩ := encE_inj h2
          rw [e1, e2]; exact h1
      · apply List.ext_getElem?
        intro i
        simp only [List.getElem?_map]
        by_cases hi : i < es.length
        · have hx : es[i]? = some es[i] := List.getElem?_eq_getElem hi
          have hm : ms[i]? = some ms[i] := Array.getElem?_eq_getElem (by omega)
          rw [Array.getElem?_toList, hx, hm]
          simp only [Option.map_some]
          rw [(hkey i _ _ hx hm).1]
        · rw [List.getElem?_eq_none (l := ms.toList) (by rw [Array.length_toList, q2]; omega), List.getElem?_eq_none (l := es) (by omega)]
          rfl
      · intro x hx
        obtain ⟨e, he', rfl⟩ := List.mem_map.1 hx
        obtain ⟨i, hi⟩ := List.getElem?_of_mem he'
        have hil : i < es.length := (List.getElem?_eq_some_iff.1 hi).1
        exact (hkey i e ms[i] hi (Array.getElem?_eq_getElem (by omega))).2
  refine (keys_walk hf hb hsort hchk k1 k2 k3 k4 k5 (by simpa using hlen)).mono fun e w' => ?_
  rintro ⟨v', rfl, hGr, hB⟩
  have hms : ((es.map fun e => toB e.1).mergeSort fun x y => decide (x ≤ y)) = ((es.map (·.1)).map toB).mergeSort fun x y => decide (x ≤ y) := by rw [List.map_map]; rfl
  have hlong : ∀ x ∈ ((es.map fun e => toB e.1).mergeSort fun x y => decide (x ≤ y)), x.length ≤ 140737488355328 := fun x hx => k6 x (List.mem_mergeSort.1 hx)
  have hsk : sortK (es.map (·.1)) = ((es.map fun e => toB e.1).mergeSort fun x y => decide (x ≤ y)).map ofB := by rw [hms]; rfl
  generalize hL : ((es.map fun e => toB e.1).mergeSort fun x y => decide (x ≤ y)) = L at *
  rw [hsk]
  rcases hGr with ⟨rfl, rfl⟩ | ⟨g', cap, cur, e', rfl, h1, h2, h3, h4, h5, h6, _⟩
  · exact ⟨_, M.F, none, rfl, fun _ _ h => h, fun _ _ h => .inl h, hB, ⟨none, 0, rfl, Nat.le_refl _, Nat.zero_le _, fun _ => rfl, fun b h => by cases h⟩, ⟨rfl, rfl⟩, fun reg h => by cases h⟩
  · let F' : Snap := fun ad => if ad.block = g' then (if ad.spot = none ∧ ad.off < L.length then (L[ad.off]?).map encStr else none) else M.F ad
    have hnF : ∀ ad, ad.block = g' → M.F ad = none := fun ad had => by
      cases h : M.F ad with
      | none => rfl
      | some u => have := (hF ad u h).lt; omega
    have hcell : ∀ j x, L[j]? = some x → F' ⟨g', j, none⟩ = some (encStr x) := fun j x hx => by
      have : j < L.length := (List.getElem?_eq_some_iff.1 hx).1
      simp only [F', if_true, this, and_self, hx, Option.map_some]
    refine ⟨_, F', some ⟨g', cap, L.length, 1⟩, rfl, fun ad u h => ?_, fun ad u h => ?_, hB, ⟨some ⟨g', 0, none⟩, cap, by rw [List.length_map], by rw [List.length_map]; exact h4, h5, fun h => (by cases h), fun b hb i x hx => ?_⟩, ⟨0, ⟨g', 0, none⟩, by rw [List.length_map]; rfl, fun _ => by simp, by simp, Nat.zero_le _, rfl⟩, fun reg hreg => ?_⟩
    · show (if ad.block = g' then _ else M.F ad) = some u
      rw [if_neg (fun e => by rw [hnF ad e] at h; cases h)]; exact h
    · simp only [F'] at h
      split at h
      · rename_i hbk
        split at h
        case isFalse => cases h
        rename_i hs
        obtain ⟨x, hx, rfl⟩ := Option.map_eq_some_iff.1 h
        refine .inr ⟨.inl ⟨hs.1, ?_⟩, by rw [hbk]; exact h6⟩
        obtain ⟨ab, ao, as⟩ := ad
        simp only at hbk hs hx
        obtain ⟨hs1, hs2⟩ := hs
        subst hbk; subst hs1
        rw [cell_row h1]
        have : (cur.toList.take L.length)[ao]? = (L.map encStr)[ao]? := by rw [h2]
        rw [List.getElem?_take_of_lt hs2, List.getElem?_map, hx] at this
        simpa using this
      · exact .inl h
    · cases hb
      refine ⟨rfl, ?_⟩
      have hx : (L.map ofB)[i]? = some x := hx
      rw [List.getElem?_map] at hx
      obtain ⟨z, hz, rfl⟩ := Option.map_eq_some_iff.1 hx
      refine ⟨[encStr z], ⟨⟨z.toArray⟩, by simp [encStr], by simp [intsOf, ofB], ?_⟩, fun j u hu => ?_⟩
      · have := hlong z (List.mem_of_getElem? hz)
        simpa [ByteArray.size] using this
      · cases j with
        | zero =>
          cases hu
          have := hcell i z hz
          show F' ⟨g', 0 + i * 1 + 0, none⟩ = _
          simpa using this
        | succ j => simp at hu
    · cases hreg
      refine ⟨h6, h4, h5, cur, e', h1, by simp [h3], fun ad had hoff => ?_⟩
      simp only [F', had, if_true]
      simp only [Nat.mul_one] at hoff
      rw [if_neg (by omega)]

/-- The caller's own slice, as a datum. -/
theorem plain_of_own {P : Program} {gl : Nat → Option (List V)} {g : Nat} {tys : List Ty} {t : Ty} {f : denA tys → Option (List t.den)} (hlt : Nat.blt g ownMark = true) (h : CtrOkG P gl (ownOf g tys t f)) : CtrOkG P gl ⟨g, tys, [.list t], f⟩ := by
  intro xs y hy
  have hg := blt_lt hlt
  have hm := (marks_lt hg).1
  refine ⟨fun _ => ?_, fun h1 => (Nat.lt_irrefl _ (Nat.lt_of_lt_of_le hg h1)).elim, fun h1 => (Nat.lt_irrefl _ (Nat.lt_of_lt_of_le hg (Nat.le_trans marks_le.1 h1))).elim, fun h1 => (Nat.lt_irrefl _ (Nat.lt_of_lt_of_le hg (Nat.le_trans marks_le.2.1 h1))).elim⟩
  obtain ⟨he, hc⟩ := (h xs y hy).2.1 (Nat.le_add_left _ _) hm t y rfl
  rw [show (ownOf g tys t f).g - ownMark = g from Nat.add_sub_cancel _ _] at he hc
  refine ⟨he, fun n => rfl, fun M w vals hG hF hl hr => (hc M w vals hG hF hl hr).mono fun e w' => ?_⟩
  rintro ⟨u, F', o, q1, q2, q3, q4, q5, _⟩
  exact ⟨u, F', q1, q2, q3, q4, .d _ _ _ q5⟩
end Go.Ab
