/- A list of no numbers, walked: parse.wrap hands back what it is given. -/
import Derived.Test.YtpcppjbjmdolnaaGreatDoorChecked
import Derived.WalkKit
import Derived.WalkSpells
import Derived.RangeFuncLeaves
import Derived.RangeFuncSeq
import Derived.OwnWalkIn
import Derived.TacticsInMore
import Derived.RegionIn
import Derived.LoopNIn
import Derived.LoopIn
import Derived.Test.YtpcppjbjmdolnaaGreatDoorCtM
namespace Go.Proofs.YtpcppjbjmdolnaaGreatDoor
open Go Go.RowKit

set_option maxHeartbeats 1000000 in
theorem back_nil (w : World) : Calls Tryz.prog 207 #[.slice none 0 0] w fun e w' => e = .returned (.func (.func 247) #[] #[.pointer (some ⟨w.heap.size, 0, none⟩)]) ∧ w' = w.alloc (.cells #[.slice none 0 0] 85) := by
  go_enter Tryz.func207, Tryz.ntmps207
  go_wp2
  go_ret
  exact ⟨rfl, rfl⟩

set_option maxHeartbeats 1000000 in
theorem back1_nil (l : Nat) (a : Addr) (w : World) (h : w.cell? a = some (.slice none 0 0)) : Calls Tryz.prog 247 #[.func (.yield l) #[] #[], .pointer (some a)] w fun e w' => (∃ v, e = .returned v) ∧ w' = w := by
  go_enter Tryz.func247, Tryz.ntmps247
  go_wp2
  apply wp_loop_once
  go_wp2
  go_end0
  exact ⟨⟨_, rfl⟩, rfl⟩

set_option maxRecDepth 100000 in
set_option maxHeartbeats 2000000 in
theorem wrap_nil (x0 x1 x2 x3 : Value) (h0 : x0.oneCell' = true) (h1 : x1.oneCell' = true) (h2 : x2.oneCell' = true) (h3 : x3.oneCell' = true) (w : World) :
    Calls Tryz.prog 157 #[.agg #[x0, x1, x2, x3], .slice none 0 0] w fun e w' => e = .returned (.agg #[x0, x1, x2, x3]) ∧ Ct.WR (fun b => w.heap.size ≤ b) w w' := by
  refine (callsIn_wide (n := 3)).1 (callsIn_of_wp_marks Tryz.func157 rfl trivial ?_ rfl)
  simp only [Tryz.ntmps157, List.size_toArray, List.length_cons, List.length_nil, Nat.reduceAdd, Nat.reduceSub, Array.replicate_succ, Array.replicate_zero, List.push_toArray, List.append_toArray, List.nil_append, List.cons_append]
  gi_wp2_with gi_in
  refine ⟨trivial, (callsIn_wide.2 (back_nil _)).mono ?_⟩
  rintro e w' ⟨rfl, rfl⟩
  gi_wp2
  refine wpIn_rangeFunc ?_
  intro fn hfn
  obtain ⟨W0, hW0⟩ : ∃ W0, ((w.alloc (Obj.cells #[x0, x1, x2, x3] 73)).alloc (Obj.cells #[Value.int IntKind.i64 0, Value.int IntKind.i64 0, Value.string { data := #[] }, Value.slice none 0 0] 73)).alloc (.cells #[.slice none 0 0] 85) = W0 := ⟨_, rfl⟩
  rw [hW0]
  have hs0 : W0.heap.size = w.heap.size + 3 := by rw [← hW0]; simp
  have hh0 : W0.heap[w.heap.size]? = some (Obj.cells #[x0, x1, x2, x3] 73) := by
    rw [← hW0]
    exact (Below.heap_alloc _ _ _ (by simp; omega)).trans ((Below.heap_alloc _ _ _ (by simp)).trans (World.alloc_heap_new w _))
  have hh1 : W0.heap[w.heap.size + 1]? = some (Obj.cells #[Value.int IntKind.i64 0, Value.int IntKind.i64 0, Value.string { data := #[] }, Value.slice none 0 0] 73) := by
    rw [← hW0]
    refine (Below.heap_alloc _ _ _ (by simp)).trans ?_
    have := World.alloc_heap_new (w.alloc (Obj.cells #[x0, x1, x2, x3] 73)) (Obj.cells #[Value.int IntKind.i64 0, Value.int IntKind.i64 0, Value.string { data := #[] }, Value.slice none 0 0] 73)
    rwa [World.size_alloc] at this
  have hh2 : W0.heap[w.heap.size + 1 + 1]? = some (Obj.cells #[Value.slice none 0 0] 85) := by
    rw [← hW0]
    have := World.alloc_heap_new ((w.alloc (Obj.cells #[x0, x1, x2, x3] 73)).alloc (Obj.cells #[Value.int IntKind.i64 0, Value.int IntKind.i64 0, Value.string { data := #[] }, Value.slice none 0 0] 73)) (Obj.cells #[Value.slice none 0 0] 85)
    rwa [World.size_alloc, World.size_alloc] at this
  have hkeep0 : ∀ b, b < w.heap.size → W0.heap[b]? = w.heap[b]? := fun b hb => by
    rw [← hW0]
    exact (Below.heap_alloc _ _ _ (by simp; omega)).trans ((Below.heap_alloc _ _ _ (by simp; omega)).trans (Below.heap_alloc _ _ _ hb))
  have ho0 : W0.os = w.os ∧ W0.tape = w.tape ∧ W0.output = w.output := by rw [← hW0]; exact ⟨rfl, rfl, rfl⟩
  have he := fun (fn : FuncId) (tmps : Array Value) (ps : Array Tmp) (x y : Code) => run_enterLoop_outer (P := Tryz.prog) fn tmps ps x y (w := W0)
  refine ⟨_, _, _, { target := .fn (.func 247) #[.pointer (some ⟨w.heap.size + 1 + 1, 0, none⟩)], args := #[.func (.yield (W0.heap.size + 1)) #[] #[]] }, _, 247,
    #[.func (.yield (W0.heap.size + 1)) #[] #[], .pointer (some ⟨w.heap.size + 1 + 1, 0, none⟩)], _, he _ _ _ _ _, by simp [resolve, go_sem]; rfl, fun _ _ => trivial, by simp [invoke, go_sem]; rfl, (fun h => nomatch h), ?_⟩
  generalize hr : ({ state := .ready, pending := none, fn := fn, tmps := _, params := _, assign := _, body := _, defers := W0.heap.size } : Loop) = rec
  obtain ⟨W1, hW1⟩ : ∃ W1, (W0.alloc (.deferred (some []))).alloc (.loop rec) = W1 := ⟨_, rfl⟩
  rw [hW1]
  have hs1 : W1.heap.size = W0.heap.size + 2 := by rw [← hW1]; simp
  have hold1 : ∀ k, k < W0.heap.size → W1.heap[k]? = W0.heap[k]? := fun k hk => by
    rw [← hW1]; exact (Below.heap_alloc _ _ k (by simp; omega)).trans (Below.heap_alloc _ _ k hk)
  have hL1 : W1.heap[W0.heap.size + 1]? = some (.loop rec) := by
    rw [← hW1]; have := World.alloc_heap_new (W0.alloc (.deferred (some []))) (.loop rec); rwa [World.size_alloc] at this
  have hD1 : W1.heap[W0.heap.size]? = some (.deferred (some [])) := by
    rw [← hW1]; exact (Below.heap_alloc _ _ _ (by simp)).trans (World.alloc_heap_new W0 _)
  have ho1 : W1.os = W0.os ∧ W1.tape = W0.tape ∧ W1.output = W0.output := by rw [← hW1]; exact ⟨rfl, rfl, rfl⟩
  have hc2 : W1.cell? ⟨w.heap.size + 1 + 1, 0, none⟩ = some (.slice none 0 0) := by
    unfold World.cell?
    simp only
    rw [hold1 _ (by omega), hh2]; rfl
  refine (callsIn_wide.2 (back1_nil _ _ W1 hc2)).mono ?_
  rintro e W2 ⟨⟨v, rfl⟩, hWW⟩
  replace hWW := hWW.symm
  subst hWW
  have hend := run_endLoop (P := Tryz.prog) hL1 (by rw [← hr]; simp)
  obtain ⟨W3, hW3⟩ : ∃ W3, W1.putObj (W0.heap.size + 1) (.loop { rec with state := .exhausted }) = W3 := ⟨_, rfl⟩
  rw [hW3] at hend
  have hp : rec.pending = none := by rw [← hr]
  rw [hp] at hend
  have hold3 : ∀ k, k ≠ W0.heap.size + 1 → W3.heap[k]? = W1.heap[k]? := fun k hk => by rw [← hW3]; exact World.putObj_heap_other hk
  have hs3 : W3.heap.size = W1.heap.size := by rw [← hW3]; simp [World.putObj]
  have ho3 : W3.os = W1.os ∧ W3.tape = W1.tape ∧ W3.output = W1.output := by rw [← hW3]; exact ⟨rfl, rfl, rfl⟩
  refine ⟨none, W3, hend, ?_⟩
  have hb0 : W3.heap[w.heap.size]? = some (Obj.cells #[x0, x1, x2, x3] 73) := by rw [hold3 _ (by omega), hold1 _ (by omega), hh0]
  have hb1 : W3.heap[w.heap.size + 1]? = some (Obj.cells #[Value.int IntKind.i64 0, Value.int IntKind.i64 0, Value.string { data := #[] }, Value.slice none 0 0] 73) := by rw [hold3 _ (by omega), hold1 _ (by omega), hh1]
  have q0 : W3.cell? ⟨w.heap.size, 0, none⟩ = some x0 := by unfold World.cell?; simp only; rw [hb0]; rfl
  have q1 : W3.cell? ⟨w.heap.size, 1, none⟩ = some x1 := by unfold World.cell?; simp only; rw [hb0]; rfl
  have q2 : W3.cell? ⟨w.heap.size, 2, none⟩ = some x2 := by unfold World.cell?; simp only; rw [hb0]; rfl
  have q3 : W3.cell? ⟨w.heap.size, 3, none⟩ = some x3 := by unfold World.cell?; simp only; rw [hb0]; rfl
  clear hr hW1 hW3 hend hW0 he
  have hst := Ct.run_cells (P := Tryz.prog) (o := 0) (m := 4) hb1 (.inl (Nat.le_refl _)) (us := [x0, x1, x2, x3]) (Nat.le_refl _) (by simp) (by intro v hv; simp at hv; rcases hv with rfl | rfl | rfl | rfl <;> assumption)
  obtain ⟨c4, g1, g2, g3⟩ := Ct.setCells_heap (w.heap.size + 1) [x0, x1, x2, x3] 0 W3 _ 73 _ hb1
  obtain ⟨k1, k2, k3, k4, k5⟩ := Ct.setCells_frame (w.heap.size + 1) [x0, x1, x2, x3] 0 W3
  have hc4 : c4 = #[x0, x1, x2, x3] := by
    apply Array.ext_getElem?
    intro j
    rw [g3 j]
    split
    · simp
    · rename_i hj
      simp at hj
      rw [Array.getElem?_eq_none (by simp; omega), Array.getElem?_eq_none (by simp; omega)]
  obtain ⟨W4, hW4⟩ : ∃ W4, W3.setCells (w.heap.size + 1) 0 [x0, x1, x2, x3] = W4 := ⟨_, rfl⟩
  rw [hW4] at hst g1 k1 k2 k3 k4 k5
  have hid : ∀ r : Result Unit, (r.andThen fun _ w' => Result.ok () w') = r := fun r => by cases r <;> rfl
  simp only [storeCells, Sem.run_bind, Sem.run_pure, hid, Ct.addr_add, Nat.zero_add, Nat.reduceAdd] at hst
  subst hc4
  have p0 : W4.cell? ⟨w.heap.size + 1, 0, none⟩ = some x0 := by unfold World.cell?; simp only; rw [g1]; rfl
  have p1 : W4.cell? ⟨w.heap.size + 1, 1, none⟩ = some x1 := by unfold World.cell?; simp only; rw [g1]; rfl
  have p2 : W4.cell? ⟨w.heap.size + 1, 2, none⟩ = some x2 := by unfold World.cell?; simp only; rw [g1]; rfl
  have p3 : W4.cell? ⟨w.heap.size + 1, 3, none⟩ = some x3 := by unfold World.cell?; simp only; rw [g1]; rfl
  clear hW4 g2 g3
  gi_wp2
  have hD4 : W4.heap[w.heap.size + 3]? = some (.deferred (some [])) := by rw [k5 _ (by omega), hold3 _ (by omega), ← hs0]; exact hD1
  refine ⟨by simp, .inl ⟨_, _, rfl, run_takeDeferred hD4, ?_⟩⟩
  obtain ⟨W5, hW5⟩ : ∃ W5, W4.putObj (w.heap.size + 3) (.deferred none) = W5 := ⟨_, rfl⟩
  rw [hW5]
  have hold5 : ∀ k, k ≠ w.heap.size + 3 → W5.heap[k]? = W4.heap[k]? := fun k hk => by rw [← hW5]; exact World.putObj_heap_other hk
  have hs5 : W5.heap.size = W4.heap.size := by rw [← hW5]; simp [World.putObj]
  have ho5 : W5.os = W4.os ∧ W5.tape = W4.tape ∧ W5.output = W4.output := by rw [← hW5]; exact ⟨rfl, rfl, rfl⟩
  have g5 : W5.heap[w.heap.size + 1]? = some (Obj.cells #[x0, x1, x2, x3] 73) := by rw [hold5 _ (by omega)]; exact g1
  have p0 : W5.cell? ⟨w.heap.size + 1, 0, none⟩ = some x0 := by unfold World.cell?; simp only; rw [g5]; rfl
  have p1 : W5.cell? ⟨w.heap.size + 1, 1, none⟩ = some x1 := by unfold World.cell?; simp only; rw [g5]; rfl
  have p2 : W5.cell? ⟨w.heap.size + 1, 2, none⟩ = some x2 := by unfold World.cell?; simp only; rw [g5]; rfl
  have p3 : W5.cell? ⟨w.heap.size + 1, 3, none⟩ = some x3 := by unfold World.cell?; simp only; rw [g5]; rfl
  refine ⟨.agg #[x0, x1, x2, x3], ?_, rfl, ⟨?_, ?_, ?_, ?_, fun b hb => ?_⟩⟩
  · simp [results, Tryz.results157, go_sem, p0, p1, p2, p3]
  · rw [ho5.1, k1, ho3.1, ho1.1, ho0.1]
  · rw [ho5.2.1, k2, ho3.2.1, ho1.2.1, ho0.2.1]
  · rw [ho5.2.2, k3, ho3.2.2, ho1.2.2, ho0.2.2]
  · omega
  · rw [hold5 _ (by omega), k5 _ (by omega), hold3 _ (by omega), hold1 _ (by omega), hkeep0 _ (by omega)]
end Go.Proofs.YtpcppjbjmdolnaaGreatDoor
