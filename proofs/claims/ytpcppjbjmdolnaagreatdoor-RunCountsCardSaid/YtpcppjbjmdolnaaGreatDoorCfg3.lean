/- What is asked of the functions that the evaluator takes as known; what it reckons with. -/
import Derived.Test.YtpcppjbjmdolnaaGreatDoorWrap3
import Derived.Test.YtpcppjbjmdolnaaGreatDoorFX
import Derived.Tactics
import Derived.Tactics2
import Derived.Defers
import Derived.Recover
import Derived.Lib.Strings
import Derived.Lib.Slices
import Derived.Lib.Walk
import Derived.Lib.Bytealg
import Derived.WalkKit
import Derived.Test.YtpcppjbjmdolnaaGreatDoorCtZ
set_option maxRecDepth 100000
namespace Go.Proofs.YtpcppjbjmdolnaaGreatDoor
open Go Go.RowKit

set_option maxHeartbeats 1000000 in
theorem idle56 (vs : Array Value) (w : World) : CallsD Tryz.prog 56 vs .returning w fun e u' w' => (∃ v, e = .returned v) ∧ u' = .returning ∧ w' = w := by
  refine callsD_of_wpS Tryz.func56 rfl fun c₀ cs hu => ?_
  rw [Tryz.ntmps56]
  obtain ⟨T, hT⟩ : ∃ T, vs ++ Array.replicate (22 - vs.size) undef = T := ⟨_, rfl⟩
  have hs : 22 ≤ T.size := by rw [← hT]; simp; omega
  rw [hT]
  have l1 : 3 < T.size := by omega
  have l2 : 6 < T.size := by omega
  have l3 : 7 < T.size := by omega
  have l4 : 8 < T.size := by omega
  clear hT
  apply wpS_seq
  apply wpS_region
  simp [wpOpsS, go_sem, recoverD, hu, Exit.thenS, l2]
  apply wpS_seq
  apply wpS_region
  simp [wpOpsS, go_sem, Exit.thenS, l1, l3]
  refine wpS_cond (t := false) (by simp [Act.eval, l4]) ?_
  simp only [Bool.false_eq_true, if_false]
  refine wpS_of_wp (wp_skip ?_)
  cases c₀
  simp_all [bodyPostS, results, Tryz.results56]

set_option maxHeartbeats 1000000 in
theorem idle114 (vs : Array Value) (w : World) : CallsD Tryz.prog 114 vs .returning w fun e u' w' => (∃ v, e = .returned v) ∧ u' = .returning ∧ w' = w := by
  refine callsD_of_wpS Tryz.func114 rfl fun c₀ cs hu => ?_
  rw [Tryz.ntmps114]
  obtain ⟨T, hT⟩ : ∃ T, vs ++ Array.replicate (16 - vs.size) undef = T := ⟨_, rfl⟩
  have hs : 16 ≤ T.size := by rw [← hT]; simp; omega
  rw [hT]
  have l1 : 1 < T.size := by omega
  have l2 : 4 < T.size := by omega
  have l3 : 5 < T.size := by omega
  have l4 : 6 < T.size := by omega
  clear hT
  apply wpS_seq
  apply wpS_region
  simp [wpOpsS, go_sem, recoverD, hu, Exit.thenS, l2]
  apply wpS_seq
  apply wpS_region
  simp [wpOpsS, go_sem, Exit.thenS, l1, l3]
  refine wpS_cond (t := false) (by simp [Act.eval, l4]) ?_
  simp only [Bool.false_eq_true, if_false]
  refine wpS_of_wp (wp_skip ?_)
  cases c₀
  simp_all [bodyPostS, results, Tryz.results114]

set_option maxHeartbeats 1000000 in
theorem lite_IndexByte (s : ByteArray) (c : Int) (w : World) :
    Calls Tryz.prog 200 #[.string s, .int .u8 c] w fun e w' => e = .returned (.int .i64 (Lib.indexByte s.data.toList c.toNat.toUInt8)) ∧ w' = w := by
  go_enter Tryz.func200, Tryz.ntmps200
  go_wp2
  rw [run_callFunc_extern Tryz.func241 (by kernel_rfl) (by kernel_rfl) (by kernel_rfl) (e := Extern.BytealgIndexByte.indexByte) (by kernel_rfl), Lib.run_indexByteString]
  simp only [Result.andThen]
  rw [Oper.upon_value]
  go_wp2
  go_ret
  exact ⟨rfl, rfl⟩

set_option maxHeartbeats 1000000 in
theorem strings_IndexByte (s : ByteArray) (c : Int) (w : World) :
    Calls Tryz.prog 139 #[.string s, .int .u8 c] w fun e w' => e = .returned (.int .i64 (Lib.indexByte s.data.toList c.toNat.toUInt8)) ∧ w' = w := by
  go_enter Tryz.func139, Tryz.ntmps139
  go_wp2_with (go_at_call 200; refine (lite_IndexByte _ _ _).mono ?_; rintro e w' ⟨rfl, rfl⟩)
  go_ret
  exact ⟨rfl, rfl⟩
end Go.Proofs.YtpcppjbjmdolnaaGreatDoor

namespace Ct
open Go

/-- The place of a byte in a string of n bytes. -/
noncomputable def idxB (n : Nat) : Nat → Nat → Nat → Int :=
  Nat.rec (motive := fun _ => Nat → Nat → Nat → Int) (fun _ _ _ => -1) (fun _ ih x c i => Bool.casesOn (motive := fun _ => Int) (Nat.beq (Nat.mod x 256) c) (ih (Nat.div x 256) c (Nat.succ i)) (.ofNat i)) n

theorem idxB_eq : ∀ (n x c i : Nat), c < 256 → idxB n x c i = if Lib.indexByte (strL n x) (UInt8.ofNat c) = -1 then -1 else Lib.indexByte (strL n x) (UInt8.ofNat c) + i
  | 0, x, c, i, _ => by show (-1 : Int) = _; simp [strL, Lib.indexByte]
  | n + 1, x, c, i, hc => by
    have ih := idxB_eq n (x / 256) c (i + 1) hc
    have hb : (UInt8.ofNat (x % 256) == UInt8.ofNat c) = Nat.beq (Nat.mod x 256) c := by
      rw [nmod]
      have hx : x % 256 < 256 := Nat.mod_lt _ (by omega)
      cases hq : Nat.beq (x % 256) c with
      | true => rw [nbeq] at hq; rw [hq]; simp
      | false =>
        rw [nbeqF] at hq
        have : UInt8.ofNat (x % 256) ≠ UInt8.ofNat c := by
          intro e
          have := congrArg UInt8.toNat e
          simp only [UInt8.toNat_ofNat'] at this
          rw [show (2 : Nat) ^ 8 = 256 from rfl] at this
          exact hq (by omega)
        simpa using this
    show (Bool.casesOn (motive := fun _ => Int) (Nat.beq (Nat.mod x 256) c) (idxB n (Nat.div x 256) c (Nat.succ i)) (.ofNat i) : Int) = _
    simp only [strL, Lib.indexByte, hb]
    cases Nat.beq (Nat.mod x 256) c with
    | true => simp
    | false =>
      show idxB n (x / 256) c (i + 1) = _
      rw [ih]
      by_cases h1 : Lib.indexByte (strL n (x / 256)) (UInt8.ofNat c) = -1
      · simp [h1]
      · have hge := Lib.indexByte_ge (strL n (x / 256)) (UInt8.ofNat c)
        simp only [h1, if_false, beq_iff_eq, Bool.false_eq_true]
        rw [if_neg (by omega)]
        omega

noncomputable def cfg : Cfg :=
  { fn := fun f => getF (pathOf f) FNS some none
    ext := fun f => match Nat.beq f 139 with
      | true => some fun args _ => match args with
        | [.str n x, .int .u8 (.ofNat c)] => match Nat.blt c 256 with
          | true => some (.int .i64 (idxB n x c 0))
          | false => none
        | _ => none
      | false => match Nat.beq f 157 with
        | true => some fun args _ => match args with
          | [.agg [a, b, c, d], .nils] => some (.agg [a, b, c, d])
          | _ => none
        | false => none
    nop := fun f => (Nat.beq f 56).or (Nat.beq f 114) }

/-- A call that only answers. -/
theorem ext_of {P : Program} {f : FuncId} {vs : Array Value} {w : World} {o : Oper} {a : Act} {K : Act → World → Prop} {Q : Exit → Act → World → Prop} {fn : Func} {c : Code} (hf : P.funcs[f]? = some fn) (hb : fn.body = some c) (hn : (fn.name == "runtime.NumGoroutine") = false) {u : Value}
    (h : Calls P f vs w fun e w' => e = .returned u ∧ WR (fun b => w.heap.size ≤ b) w w') (hK : ∀ w', WR (fun b => w.heap.size ≤ b) w w' → K (a.put o.dst u) w') : o.upon P a K Q ((callFunc f vs).run P w) := by
  rw [run_callFunc hf hb hn vs w]
  show Calls P f vs w _
  refine h.mono fun e w' he => ?_
  obtain ⟨rfl, hw⟩ := he
  exact hK w' hw

theorem noGor : Go.Proofs.Tryz.prog.funcs.toList.all (fun fn => !(fn.name == "runtime.NumGoroutine")) = true := by kernel_rfl
theorem noGor_at {f : Nat} {fn : Func} (h : Go.Proofs.Tryz.prog.funcs[f]? = some fn) : (fn.name == "runtime.NumGoroutine") = false := by
  have h1 := noGor
  rw [List.all_eq_true] at h1
  have h2 := h1 fn (by rw [Array.mem_toList_iff]; exact Array.mem_of_getElem? h)
  simpa using h2

theorem agg4 {E : Env} {a b c d : AV} {v : Value} (h : VR E (.agg [a, b, c, d]) v) : ∃ x0 x1 x2 x3, v = .agg #[x0, x1, x2, x3] ∧ x0.oneCell' = true ∧ x1.oneCell' = true ∧ x2.oneCell' = true ∧ x3.oneCell' = true := by
  simp only [VR] at h
  obtain ⟨cs, rfl, hl, h1⟩ := h
  obtain ⟨x0, r0, e0, g0, hl⟩ := VRs_inv hl
  obtain ⟨x1, r1, e1, g1, hl⟩ := VRs_inv hl
  obtain ⟨x2, r2, e2, g2, hl⟩ := VRs_inv hl
  obtain ⟨x3, r3, e3, g3, hl⟩ := VRs_inv hl
  rw [VRs_inv_nil hl] at e3
  simp only [List.all_cons, List.all_nil, Bool.and_eq_true] at h1
  refine ⟨x0, x1, x2, x3, ?_, VR_one g0 h1.1, VR_one g1 h1.2.1, VR_one g2 h1.2.2.1, VR_one g3 h1.2.2.2.1⟩
  congr 1
  apply Array.ext'
  rw [e0, e1, e2, e3]

theorem cfg_ok : Cok Go.Proofs.Tryz.prog cfg := by
  refine ⟨by kernel_rfl, fun f g h => ⟨?_, fun fn hf => noGor_at hf⟩, ?_, ?_⟩
  · refine FNS_ok ?_
    have h1 : getF (pathOf f) FNS some none = some g := h
    rw [getF_eq] at h1
    cases hq : FNS.get f with
    | none => rw [hq] at h1; exact h1
    | some x => rw [hq] at h1; exact h1
  · intro f g hg _ E args v vs _ _ _ w o a K Q hga hvr _ hK
    simp only [cfg] at hg
    split at hg
    · rename_i hf
      rw [nbeq] at hf
      subst hf
      cases hg
      simp only at hga
      split at hga
      · rename_i n x c
        split at hga
        · rename_i hc
          rw [nblt] at hc
          cases hga
          obtain ⟨v0, r0, e0, g0, hl⟩ := VRs_inv hvr
          obtain ⟨v1, r1, e1, g1, hl⟩ := VRs_inv hl
          rw [VRs_inv_nil hl] at e1
          simp only [VR] at g0 g1
          obtain ⟨hx, rfl⟩ := g0
          subst g1
          have hvs : vs = #[.string (strV n x), .int .u8 (Int.ofNat c)] := by apply Array.ext'; rw [e0, e1]
          subst hvs
          refine ext_of (u := .int .i64 (idxB n x c 0)) Go.Proofs.Tryz.func139 rfl (noGor_at Go.Proofs.Tryz.func139) ?_ fun w' hw => hK _ w' (by simp only [VR]) hw
          refine (Go.Proofs.YtpcppjbjmdolnaaGreatDoor.strings_IndexByte (strV n x) (Int.ofNat c) w).mono ?_
          rintro e w' ⟨rfl, rfl⟩
          refine ⟨?_, .refl _ _⟩
          rw [idxB_eq n x c 0 hc, strV_toList]
          simp only [Int.ofNat_eq_natCast, Int.toNat_natCast]
          have : c.toUInt8 = UInt8.ofNat c := rfl
          rw [this]
          split
          · rename_i h9; rw [h9]
          · simp
        · cases hga
      · cases hga
    · split at hg
      · rename_i hf
        rw [nbeq] at hf
        subst hf
        cases hg
        simp only at hga
        split at hga
        · rename_i x y z t
          cases hga
          obtain ⟨v0, r0, e0, g0, hl⟩ := VRs_inv hvr
          obtain ⟨v1, r1, e1, g1, hl⟩ := VRs_inv hl
          rw [VRs_inv_nil hl] at e1
          obtain ⟨x0, x1, x2, x3, rfl, h0, h1, h2, h3⟩ := agg4 g0
          simp only [VR] at g1
          subst g1
          have hvs : vs = #[.agg #[x0, x1, x2, x3], .slice none 0 0] := by apply Array.ext'; rw [e0, e1]
          subst hvs
          exact ext_of Go.Proofs.Tryz.func157 rfl (noGor_at Go.Proofs.Tryz.func157) (Go.Proofs.YtpcppjbjmdolnaaGreatDoor.wrap_nil x0 x1 x2 x3 h0 h1 h2 h3 w) fun w' hw => hK _ w' g0 hw
        · cases hga
      · cases hg
  · intro f hf
    have hf' : f = 56 ∨ f = 114 := by
      have h1 : (Nat.beq f 56).or (Nat.beq f 114) = true := hf
      cases h2 : Nat.beq f 56 with
      | true => rw [nbeq] at h2; exact .inl h2
      | false =>
        rw [h2] at h1
        have h3 : Nat.beq f 114 = true := by simpa using h1
        rw [nbeq] at h3; exact .inr h3
    rcases hf' with rfl | rfl
    · refine ⟨⟨_, _, Go.Proofs.Tryz.func56, rfl, noGor_at Go.Proofs.Tryz.func56⟩, fun vs w => CallsD.mono (Go.Proofs.YtpcppjbjmdolnaaGreatDoor.idle56 vs w) ?_⟩
      rintro e u' w' ⟨h1, h2, rfl⟩
      exact ⟨h1, h2, .refl _ _⟩
    · refine ⟨⟨_, _, Go.Proofs.Tryz.func114, rfl, noGor_at Go.Proofs.Tryz.func114⟩, fun vs w => CallsD.mono (Go.Proofs.YtpcppjbjmdolnaaGreatDoor.idle114 vs w) ?_⟩
      rintro e u' w' ⟨h1, h2, rfl⟩
      exact ⟨h1, h2, .refl _ _⟩
end Ct
