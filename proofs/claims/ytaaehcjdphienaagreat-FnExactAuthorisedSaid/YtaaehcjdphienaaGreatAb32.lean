/-
  The keys of a map, collected and sorted: a function of that shape, step by step.
-/
import Derived.Test.YtaaehcjdphienaaGreatAb31
import Derived.Maps.RangeRun
import Derived.Sort.OwnSorted
namespace Go.Ab
open Go.Proofs (encStr)

def SortS (P : Program) (g : Nat) : Prop :=
  entersB P g = true ∧ (∀ (blk off cap : Nat) (ss : List (List UInt8)) (w : World), Go.Sort.Holds encStr w blk off ss.toArray → blk < w.heap.size → ss.length < 4611686018427387904 →
    Calls P g #[.slice (some ⟨blk, off, none⟩) ss.length cap] w fun e w' => e = .returned (.tuple #[]) ∧ ∃ n os, w' = Go.Sort.grow (Go.Sort.putRow encStr (Go.Sort.ahead w n) blk off (ss.mergeSort fun x y => decide (x ≤ y)).toArray) os) ∧
  ∀ (p : Option Addr) (cap : Nat) (w : World), Calls P g #[.slice p 0 cap] w fun e w' => e = .returned (.tuple #[]) ∧ w' = w

section
variable {P : Program} {w : World}

theorem run_lit1 {t e : TypeId} {i : TypeInfo} {z : Value} (ht : P.underlying t = some (.slice e)) (hi : P.info? e = some i) (hz : i.zero = some z) (hs : i.size = 1) (u : Value) (hu : u.cells = #[u]) :
    (Instr.buildSlice t 1 #[(0, u)]).run P w = .ok (.slice (some ⟨w.heap.size, 0, none⟩) 1 1) (w.alloc (.cells #[u] e)) := by
  have hrow : ∀ cs, (newRow e cs).run P w = .ok ⟨w.heap.size, 0, none⟩ (w.alloc (.cells cs e)) := fun cs => by simp [newRow, newObj, Sem.run]
  unfold Instr.buildSlice
  simp only [Sem.run_bind, run_underlying ht, Result.andThen_ok, run_sizeOf' hi, hs]
  rw [if_neg (by decide), if_neg (by decide)]
  simp only [Sem.run_bind, run_zero hi hz, Result.andThen_ok, Sem.run_pure]
  have hc : Instr.fill (fun i => some (i * 1, 1)) ((Array.range (1 * 1)).map (fun k => z.cells[k % z.cells.size]!)) [(0, u)] = some #[u] := by
    simp only [Instr.fill, hu]
    rw [show Array.range (1 * 1) = #[0] by decide]
    simp
  rw [hc]
  simp only [Sem.run_bind, hrow, Result.andThen_ok, Sem.run_pure]

/-- The slice that is grown: nil, or at the head of a block of its own, full of texts. -/
def Grown (w0 w : World) (bad : List Nat) (v : Value) (ss : List (List UInt8)) : Prop :=
  (v = .slice none 0 0 ∧ ss = []) ∨ ∃ (g cap : Nat) (cur : Array Value) (e : TypeId), v = .slice (some ⟨g, 0, none⟩) ss.length cap ∧ w.heap[g]? = some (.cells cur e (0, 0)) ∧ cur.toList.take ss.length = ss.map encStr ∧ cur.size = cap ∧ ss.length ≤ cap ∧ cap ≤ maxLen ∧ w0.heap.size ≤ g ∧ g ∉ bad

theorem heap_al {o : Obj} {b : Nat} {x : Obj} (h : w.heap[b]? = some x) : (w.alloc o).heap[b]? = some x := by
  rw [RowKit.Below.heap_alloc w o b (Array.getElem?_eq_some_iff.1 h).1]; exact h

/-- One text more. -/
theorem grown_push {w0 : World} {bad : List Nat} {v : Value} {ss : List (List UInt8)} {x : List UInt8} {t ty e : TypeId} {i : TypeInfo} {z : Value} (ht : P.underlying t = some (.slice e)) (hi : P.info? e = some i) (hz : i.zero = some z) (hzs : z.cells.size = 1) (hs : i.size = 1) (hby : i.bytes ≤ 16)
    (hG : Grown w0 w bad v ss) (hB : RowKit.Below w0.heap.size w0 w) (hbad : ∀ b ∈ bad, b < w.heap.size) (hn : (ss.length + 1) * 16 ≤ 140737488355328) :
    ∃ v' w', (Builtin.append_ #[t, t] ty #[v, .slice (some ⟨w.heap.size, 0, none⟩) 1 1]).run P (w.alloc (.cells #[encStr x] e)) = .ok v' w' ∧ Grown w0 w' bad v' (ss ++ [x]) ∧ RowKit.Below w0.heap.size w0 w' ∧ w.heap.size ≤ w'.heap.size ∧ ∀ b ∈ bad, w'.heap[b]? = w.heap[b]? := by
  have hw1 : (w.alloc (.cells #[encStr x] e)).heap.size = w.heap.size + 1 := size_alloc
  have hnew : (w.alloc (.cells #[encStr x] e)).heap[w.heap.size]? = some (.cells #[encStr x] e (0, 0)) := (MapKept.heap_alloc w _).1
  have hB1 : RowKit.Below w0.heap.size w0 (w.alloc (.cells #[encStr x] e)) := hB.alloc hB.size _
  have hcell : ∀ j u, ([encStr x] : List Value)[j]? = some u → (w.alloc (.cells #[encStr x] e)).cell? ((⟨w.heap.size, 0, none⟩ : Addr).add j) = some u := by
    intro j u hu
    cases j with
    | zero =>
      cases hu
      rw [Addr.add_lit, cell_row hnew]; rfl
    | succ j => simp at hu
  have hold1 : ∀ b, b < w.heap.size → (w.alloc (.cells #[encStr x] e)).heap[b]? = w.heap[b]? := fun b hb => RowKit.Below.heap_alloc w _ b hb
  have hd : ∀ (o : Obj) (b : Nat), b < w.heap.size → ((w.alloc (.cells #[encStr x] e)).drew.alloc o).heap[b]? = w.heap[b]? := fun o b hb => by
    rw [RowKit.Below.heap_alloc _ o b (by show b < (w.alloc (.cells #[encStr x] e)).heap.size; omega)]
    exact hold1 b hb
  have hdB : ∀ o : Obj, RowKit.Below w0.heap.size w0 ((w.alloc (.cells #[encStr x] e)).drew.alloc o) := fun o => by
    have : RowKit.Below w0.heap.size w0 (w.alloc (.cells #[encStr x] e)).drew := ⟨hB1.os, hB1.tape, hB1.output, hB1.size, hB1.block⟩
    exact this.alloc this.size o
  have hds : ∀ o : Obj, ((w.alloc (.cells #[encStr x] e)).drew.alloc o).heap.size = w.heap.size + 2 := fun o => by
    rw [size_alloc]; show (w.alloc (.cells #[encStr x] e)).heap.size + 1 = _; rw [hw1]
  have hdn : ∀ o : Obj, ((w.alloc (.cells #[encStr x] e)).drew.alloc o).heap[w.heap.size + 1]? = some o := fun o => by
    have := (MapKept.heap_alloc (w.alloc (.cells #[encStr x] e)).drew o).1
    rw [show (w.alloc (.cells #[encStr x] e)).drew.heap.size = w.heap.size + 1 from hw1] at this
    exact this
  have hmul : (ss.length + 1) * i.bytes ≤ 140737488355328 := Nat.le_trans (Nat.mul_le_mul_left _ hby) hn
  rcases hG with ⟨rfl, rfl⟩ | ⟨g, cap, cur, e', rfl, h1, h2, h3, h4, h5, h6, h7⟩
  · have hrun := run_append_nil (P := P) (w.alloc (.cells #[encStr x] e)) t ty e i z ht hi hz ⟨w.heap.size, 0, none⟩ 1 1 [encStr x] (by rw [hs]; rfl) hcell (by decide) (by decide) (by omega)
    rw [hw1] at hrun
    refine ⟨_, _, hrun, .inr ⟨_, _, _, _, rfl, hdn _, ?_, ?_, ?_, ?_, ?_, ?_⟩, hdB _, by rw [hds]; omega, fun b hb => hd _ b (hbad b hb)⟩
    · simp
    · have := grownCap_ge (w.alloc (.cells #[encStr x] e)) 1 0 e
      simp only [Array.size_append, List.size_toArray, size_zeroCells, hzs, List.length_singleton]
      omega
    · exact grownCap_ge _ 1 0 e
    · exact grownCap_le_maxLen _ 1 0 e (by decide)
    · have := hB.size; omega
    · intro hm; have := hbad _ hm; omega
  · have hg : g < w.heap.size := (Array.getElem?_eq_some_iff.1 h1).1
    have h1' : (w.alloc (.cells #[encStr x] e)).heap[g]? = some (.cells cur e' (0, 0)) := by rw [hold1 g hg]; exact h1
    by_cases hroom : ss.length + 1 ≤ cap
    · have hrun := run_append_in (P := P) (w := w.alloc (.cells #[encStr x] e)) (t := t) (ty := ty) (u := .slice (some ⟨w.heap.size, 0, none⟩) 1 1) (ds := [encStr x]) (m := 1) (sLen := ss.length) (sCap := cap) ht hi h1' rfl
        (run_firstCells_some (P := P) _ i.size 1 _ 1 1 [encStr x] (by rw [hs]; rfl) hcell) (by simp; rfl) hroom (by rw [hs]; simp; omega)
      rw [hs, Nat.mul_one] at hrun
      have hblk := heap_setRow (w := w.alloc (.cells #[encStr x] e)) (cs := (cur.toList.take ss.length ++ [encStr x] ++ cur.toList.drop (ss.length + [encStr x].length)).toArray) h1'
      have hcl : cur.toList.length = cap := by rw [Array.length_toList, h3]
      refine ⟨_, _, hrun, .inr ⟨g, cap, _, e', by rw [List.length_append]; rfl, by rw [hblk, if_pos rfl], ?_, ?_, by simpa using hroom, h5, h6, h7⟩, ?_, ?_, fun b hb => ?_⟩
      · simp only [List.length_append, List.length_singleton, List.map_append, List.map_cons, List.map_nil]
        rw [List.take_left' (by simp; omega), h2]
      · simp; omega
      · exact Below.setRow hB1 h6 _
      · rw [size_setRow, hw1]; omega
      · rw [hblk, if_neg (fun e => h7 (by rw [← e]; exact hb))]
        exact hold1 b (hbad b hb)
    · have holds : ∀ j u, (ss.map encStr)[j]? = some u → (w.alloc (.cells #[encStr x] e)).cell? ((⟨g, 0, none⟩ : Addr).add j) = some u := by
        intro j u hu
        have hj : j < ss.length := by have := (List.getElem?_eq_some_iff.1 hu).1; simpa using this
        rw [← h2, List.getElem?_take_of_lt hj] at hu
        rw [Addr.add_lit, cell_row h1', Nat.zero_add]; simpa using hu
      have hrun := run_append_grow (P := P) (w.alloc (.cells #[encStr x] e)) t ty e i z ht hi hz ⟨g, 0, none⟩ ss.length cap (ss.map encStr) (by rw [hs]; simp) holds ⟨w.heap.size, 0, none⟩ 1 1 [encStr x] (by rw [hs]; rfl) hcell (by omega) (by omega) (growslice_fits (by omega) hmul)
      rw [hw1] at hrun
      have hge := grownCap_ge (w.alloc (.cells #[encStr x] e)) (ss.length + 1) cap e
      refine ⟨_, _, hrun, .inr ⟨_, _, _, _, by rw [List.length_append]; rfl, hdn _, ?_, ?_, ?_, ?_, ?_, ?_⟩, hdB _, by rw [hds]; omega, fun b hb => hd _ b (hbad b hb)⟩
      · simp only [Array.toList_append, List.map_append, List.map_cons, List.map_nil]
        rw [List.take_left' (by simp)]
      · simp only [Array.size_append, List.size_toArray, size_zeroCells, hzs, List.length_singleton, List.length_map]
        omega
      · simpa using hge
      · exact grownCap_le_maxLen _ _ cap e (by unfold maxLen; omega)
      · have := hB.size; omega
      · intro hm; have := hbad _ hm; omega
end
end Go.Ab
