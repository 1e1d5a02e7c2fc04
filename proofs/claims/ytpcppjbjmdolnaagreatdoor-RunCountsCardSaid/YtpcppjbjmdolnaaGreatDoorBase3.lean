/- What each statement of the seat has alike: the table that the rows list, a world that has it. -/
import Derived.Test.YtpcppjbjmdolnaaGreatDoorCards
import Derived.Test.YtpcppjbjmdolnaaGreatDoorTie
import Derived.WalkKit
import Derived.ProofKit
import Derived.OpenShut
import Derived.Deep.DeepHandedRow
import Derived.Deep.DeepWitnessRowRef
import Derived.Lib.LaidTab
import Derived.Lib.Space
import Derived.Test.YtpcppjbjmdolnaaGreatDoorCtZ
namespace Go.Proofs.YtpcppjbjmdolnaaGreatDoor
open Go Go.ChangeShapes Go.WideShapes Go.ChangeAt Go.RowKit

theorem own : ownKnob Tryz.prog.godebug = none := by kernel_rfl
theorem gSpace : Tryz.prog.globalNamed "strings.asciiSpace" = some 1 := by kernel_rfl
theorem gSpaceType : (Tryz.prog.globals[1]?).map (·.type) = some 310 := by kernel_rfl
theorem cells310 : Tryz.prog.cellsOf 310 = 256 := by kernel_rfl
theorem cells5 : Tryz.prog.cellsOf 5 = 1 := by kernel_rfl

def spaceList : List (String × DataW Unit) := [("unicode.White_Space", Rows.laid_unicode_White_Space), ("strings.asciiSpace", Rows.laid_strings_asciiSpace)]

/-- The table's numbers. -/
def SPz : List Int := (List.range 256).map fun i => if i == 9 || i == 10 || i == 11 || i == 12 || i == 13 || i == 32 then 1 else 0
def SP : List Ct.AV := SPz.map fun z => Ct.AV.int .u8 z
theorem SPz_len : SPz.length = 256 := by simp [SPz]
theorem SP_len : SP.length = 256 := by simp [SP, SPz_len]
theorem SPz_data : Rows.laid_strings_asciiSpace = (Lib.tabData .u8 SPz : DataW Unit) := by kernel_rfl

/-- WHAT THE ROW's LIST GIVES: the table's block. -/
theorem table {W : World} (h : laidMet Tryz.prog spaceList W) : ∃ c t, W.heap[1]? = some (.cells c t (0, 0)) ∧ c.size = SP.length ∧ ∀ j, j < SP.length → ∃ k z, SP[j]? = some (.int k z) ∧ c[j]? = some (.int k z) := by
  obtain ⟨ps, ⟨g0, t0, cs0, f0, p0, q0, _, _, _, _, ⟨g', t', cs, fuel, p, q, hg', ht', hvar, hd, _, hq⟩, hps⟩, _, hcell⟩ := h
  obtain rfl := Option.some.inj (gSpace.symm.trans hg')
  obtain rfl := Option.some.inj (gSpaceType.symm.trans ht')
  rw [SPz_data] at hd
  have hcs := Lib.cells_of_tab Tryz.underlying310 Tryz.underlying5 cells5 cells310 hd
  have hsz : cs.size = 256 := by
    have := congrArg List.length hcs
    simpa [SPz_len] using this
  simp only [World.var?, gSpace, Option.bind_some] at hvar
  have hmem : MemPlace.cell 1 0 ∈ ps := by
    rw [hps, hq]
    refine List.mem_append_right _ (List.mem_append_left _ (List.mem_append_left _ ?_))
    unfold MemPlace.row
    rw [List.mem_map]
    exact ⟨0, by simp; omega, rfl⟩
  obtain ⟨⟨c, t, hb⟩, _⟩ := hcell 1 0 hmem
  rw [hb] at hvar
  cases hvar
  refine ⟨_, t, hb, by rw [hsz, SP_len], fun j hj => ?_⟩
  have hj' : j < SPz.length := by rw [SPz_len]; rw [SP_len] at hj; exact hj
  refine ⟨.u8, SPz[j], ?_, ?_⟩
  · simp [SP, hj']
  · rw [← Array.getElem?_toList, hcs]; simp [hj']

/-- A WORLD FOR THE WITNESS: the settled one, with the ranges of unicode.White_Space and its table, the two variables holding what their initialisers lay. -/
noncomputable def laidWorld (os : Os) : World :=
  let n := (World.settled Tryz.prog os).heap.size
  let w0 := World.holding Tryz.prog os ⟨#[.cells ([9, 13, 1, 32, 133, 101, 160, 5760, 5600, 8192, 8202, 1, 8232, 8233, 1, 8239, 8287, 48, 12288, 12288, 1].map fun (z : Int) => Value.int .u16 z).toArray 327, .cells #[.slice (some ⟨n, 0, none⟩) 7 7, .slice none 0 0, .int .i64 2] 325], #[], []⟩
  let put (h : Array Obj) (g : Nat) (cs : Array Value) : Array Obj := h.modify g fun
    | .cells _ t frozen => .cells cs t frozen
    | o => o
  { w0 with heap := put (put w0.heap 1 (SPz.map fun z => Value.int .u8 z).toArray) 2 #[.pointer (some ⟨n + 1, 0, none⟩)] }
theorem laid_met (os : Os) (args : Array Value) : laidMet Tryz.prog spaceList ((laidWorld os).forCall (fun _ _ => 0) ⟨#[], args, []⟩).memory :=
  laidMet_of_run' 8 (by kernel_rfl) (by kernel_rfl)

/-- What a run ends with. -/
def ends (v : Ct.AV) : Ct.AV := .tup [v, .agg SP, .int .i64 (.ofNat 256), .int .i64 (.ofNat 0), .int .i64 (.ofNat 1)]
theorem fin_true (ρ : Nat → Int) (β : Nat → Bool) : Ct.Fin SP ρ β (ends (.bool true)) := ⟨.bool true, by rw [SP_len]; rfl, .inl rfl⟩
theorem fin_of {ρ : Nat → Int} {β : Nat → Bool} {e : Ct.SB} (h : e.den ρ β = true) : Ct.Fin SP ρ β (ends (.sbool e)) := ⟨.sbool e, by rw [SP_len]; rfl, .inr ⟨e, rfl, h⟩⟩

theorem wf_bounds {k : IntKind} {n : Int} (h : (Lit.int k n).wf = true) : k.min ≤ n ∧ n ≤ k.max := by
  have h1 : (decide (k.min ≤ n) && decide (n ≤ k.max)) = true := h
  rw [Bool.and_eq_true, decide_eq_true_iff, decide_eq_true_iff] at h1
  exact h1
theorem wf_i64 {n : Int} (h : (Lit.int .i64 n).wf = true) : -9223372036854775808 ≤ n ∧ n ≤ 9223372036854775807 := by
  have := wf_bounds h
  simpa [IntKind.min, IntKind.max, IntKind.signed, IntKind.bits] using this
theorem wf_u8 {n : Int} (h : (Lit.int .u8 n).wf = true) : 0 ≤ n ∧ n ≤ 255 := by
  have := wf_bounds h
  simpa [IntKind.min, IntKind.max, IntKind.signed, IntKind.bits] using this
theorem wf_u16 {n : Int} (h : (Lit.int .u16 n).wf = true) : 0 ≤ n ∧ n ≤ 65535 := by
  have := wf_bounds h
  simpa [IntKind.min, IntKind.max, IntKind.signed, IntKind.bits] using this
theorem wrap_i64 (n : Int) : IntKind.wrap .i64 n = if 9223372036854775808 ≤ n % 18446744073709551616 then n % 18446744073709551616 - 18446744073709551616 else n % 18446744073709551616 := by
  simp [IntKind.wrap, IntKind.signed, IntKind.bits]
theorem wrap_i32 (n : Int) : IntKind.wrap .i32 n = if 2147483648 ≤ n % 4294967296 then n % 4294967296 - 4294967296 else n % 4294967296 := by
  simp [IntKind.wrap, IntKind.signed, IntKind.bits]
theorem wrap_u8 (n : Int) : IntKind.wrap .u8 n = n % 256 := by
  simp [IntKind.wrap, IntKind.signed, IntKind.bits]
theorem wrap_u16 (n : Int) : IntKind.wrap .u16 n = n % 65536 := by
  simp [IntKind.wrap, IntKind.signed, IntKind.bits]
theorem wrap_u64 (n : Int) : IntKind.wrap .u64 n = n % 18446744073709551616 := by
  simp [IntKind.wrap, IntKind.signed, IntKind.bits]
end Go.Proofs.YtpcppjbjmdolnaaGreatDoor
