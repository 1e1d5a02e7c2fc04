/- crosstreelaw11.MachFits returns true for every input. -/
import Derived.Test.YtpcppjbjmdolnaaGreatDoorBase2
import Derived.Test.YtpcppjbjmdolnaaGreatDoorCfg2
import Derived.Test.YtpcppjbjmdolnaaGreatDoorMachFitsFacts
namespace Go.Proofs.YtpcppjbjmdolnaaGreatDoor.machFits
open Go Go.ChangeShapes Go.WideShapes Go.ChangeAt Go.RowKit
set_option linter.unusedVariables false
set_option linter.unusedSimpArgs false
set_option maxRecDepth 100000

def tree : Ct.R Ct.AV := (.br (.cmp .eq (.conv .i64 (.conv .u8 (.conv .i64 (.conv .u8 (.var 0))))) (.conv .i64 (.conv .u8 (.var 0)))) (.br (.cmp .eq (.conv .i64 (.conv .i32 (.conv .i64 (.conv .i32 (.var 0))))) (.conv .i64 (.conv .i32 (.var 0)))) (.br (.cmp .eq (.bin .rem .i64 (.sub .i64 (.var 0) (.conv .i64 (.conv .u8 (.var 0)))) (.lit 256)) (.lit 0)) (.done (ends (.sbool (.cmp .eq (.bin .rem .u64 (.conv .u64 (.sub .i64 (.var 0) (.conv .i64 (.conv .i32 (.var 0))))) (.lit 4294967296)) (.lit 0))))) (.done (ends (.bool false)))) (.done (ends (.bool false)))) (.done (ends (.bool false))))
/-- THE RUN, by the kernel: for every number. -/
theorem run : Ct.runK Ct.cfg 100000 5 1 64 [.sint .i64 (.var 0)] SP = tree := by kernel_rfl

theorem good (ρ : Nat → Int) (β : Nat → Bool) (w0 : -9223372036854775808 ≤ ρ 0 ∧ ρ 0 ≤ 9223372036854775807) : Ct.Good ρ β (Ct.Fin SP ρ β) tree := by
  have k1 : IntKind.wrap .i64 (IntKind.wrap .u8 (ρ 0)) = ρ 0 % 256 := by rw [wrap_u8, wrap_i64, if_neg (by omega)]; omega
  have k2 : IntKind.wrap .i64 (IntKind.wrap .u8 (ρ 0 % 256)) = ρ 0 % 256 := by rw [wrap_u8, wrap_i64, if_neg (by omega)]; omega
  obtain ⟨x, hx⟩ : ∃ x, IntKind.wrap .i32 (ρ 0) = x := ⟨_, rfl⟩
  have hx' := hx
  rw [wrap_i32] at hx'
  have b1 : -2147483648 ≤ x ∧ x < 2147483648 ∧ (ρ 0 - x) % 4294967296 = 0 := by split at hx' <;> omega
  have k3 : IntKind.wrap .i64 x = x := by rw [wrap_i64]; split <;> omega
  have k4 : IntKind.wrap .i32 x = x := by rw [wrap_i32]; split <;> omega
  obtain ⟨y, hy⟩ : ∃ y, IntKind.wrap .i64 (ρ 0 - ρ 0 % 256) = y := ⟨_, rfl⟩
  have hy' := hy
  rw [wrap_i64] at hy'
  have b2 : y % 256 = 0 := by split at hy' <;> omega
  obtain ⟨z, hz⟩ : ∃ z, IntKind.wrap .i64 (ρ 0 - x) = z := ⟨_, rfl⟩
  have hz' := hz
  rw [wrap_i64] at hz'
  have b3 : z % 4294967296 = 0 := by split at hz' <;> omega
  refine ⟨fun _ => ⟨fun _ => ⟨fun _ => fin_of ?_, fun e => ?_⟩, fun e => ?_⟩, fun e => ?_⟩
  · simp only [Ct.SB.den, Ct.SI.den, Ct.XOp.den, Ct.cmpI, hx, k3, hz, wrap_u64, beq_iff_eq]
    rw [Int.tmod_eq_emod_of_nonneg (by omega)]
    omega
  · simp only [Ct.SB.den, Ct.SI.den, Ct.XOp.den, Ct.cmpI, k1, hy, beq_eq_false_iff_ne] at e
    exact absurd (Int.tmod_eq_zero_of_dvd (by omega)) e
  · simp only [Ct.SB.den, Ct.SI.den, Ct.cmpI, hx, k3, k4, beq_eq_false_iff_ne] at e
    exact absurd rfl e
  · simp only [Ct.SB.den, Ct.SI.den, Ct.cmpI, k1, k2, beq_eq_false_iff_ne] at e
    exact absurd rfl e

theorem walk (a0 : Int) (w0 : (Lit.int .i64 a0).wf = true) (W : World) (h : laidMet Tryz.prog spaceList W) :
    Calls Tryz.prog 5 #[.int .i64 a0] W fun e w' => e = .returned (.bool true) ∧ Ct.Kept W w' := by
  obtain ⟨c, t, h1, h2, h3⟩ := table h
  have hsz : Ct.gN ≤ W.heap.size := by have := (Array.getElem?_eq_some_iff.1 h1).1; show 2 ≤ _; omega
  refine Ct.law_of_run Ct.cfg_ok (n := 100000) (nx := 64) (args := [.sint .i64 (.var 0)]) (ρ := fun _ => a0) (β := fun _ => false) (by rfl) (by decide) (by decide) hsz h1 h2 h3 (Ct.VRs_cons.2 ⟨by simp only [Ct.VR]; rfl, Ct.VRs_nil⟩) ?_
  rw [← Ct.runK_eq, run]
  exact good _ _ (wf_i64 w0)

theorem contract (H : Type) (enc : TypeId × Value → H) (W : World) (base : Nat) (args : Array Value) (ds gs : List (DataW H)) (before : List MemPlace)
    (hval : ∀ (j : Nat) t v, Tryz.f5.params[j]? = some t → args[j]? = some v → Value.okWide Tryz.prog W .any base t v)
    (hW : DataW.Whole enc Tryz.prog Tryz.f5.params.toList Rows.machFitsSpec.vars false W args.toList ds gs before) (hL : laidMetH Tryz.prog Rows.machFitsRow.laid W) :
    Calls Tryz.prog 5 args W fun e W' => ∃ v, e = .returned v ∧ Rows.machFitsSpec.post enc Tryz.prog Tryz.f5 false true false false W args v W' := by
  have hW' := hW
  obtain ⟨p, q, hA0, hV, rfl, hfz, hnd⟩ := hW
  have hA : DataW.TrodAll enc Tryz.prog W 0 (fun _ => true) true Tryz.f5.params.toList args.toList ds p := hA0
  rw [Tryz.params5] at hA hval
  obtain ⟨v0, vs0, d0, ds0, p0, q0, hargs, rfl, rfl, h0, r0⟩ := trodAll_cons hA
  obtain ⟨rfl, rfl, rfl⟩ := trodAll_nil r0
  obtain rfl : args = #[v0] := by cases args; simp_all
  obtain ⟨rfl, rfl⟩ := trodVars_none hV
  obtain ⟨a0, rfl, rfl, rfl, w0⟩ := open_int Tryz.underlying2 (hval 0 2 v0 rfl rfl) h0
  clear hA0
  simp only [List.append_nil] at hW'
  refine (walk a0 w0 W hL).mono fun e W' ⟨he, hg⟩ => ?_
  subst he
  exact ⟨_, rfl, Ct.post_kept (pa := []) (pv := []) hW' (fun _ _ _ => trodAll_cons_mk (shut_bool Tryz.underlying4 _) trodAll_mk0) (fun _ _ => (trodAll_cons_mk (shut_int Tryz.underlying2 w0) trodAll_mk0)) (fun _ _ => rfl) rfl hg
    (ok_one (by kernel_rfl) rfl (okWide_bool_mk Tryz.underlying4 _))⟩

theorem reads (os : Os) {H : Type} (enc : TypeId × Value → H) : ∃ places, DataW.whole enc Tryz.prog ((laidWorld os).forCall (fun _ _ => 0) ⟨#[], #[.int .i64 0], []⟩).memory Tryz.f5.params.toList Rows.machFitsSpec.vars false (#[.int .i64 0] : Array Value).toList 8 = some ([.lit (.int .i64 0)], [], places) :=
  ⟨[], by kernel_rfl⟩

theorem lifted (os : Os) (started : os.Started) (H : Type) (enc : TypeId × Value → H) (F : Stop.Interp) :
    ReturnsInHanded {} Tryz.checked os 5 .any ((OpenSpec.ofChange Rows.machFitsSpec).preRow enc Tryz.prog Tryz.f5 Rows.machFitsRow.domain false Rows.machFitsRow.laid) (((OpenSpec.ofChange Rows.machFitsSpec).at F).post enc Tryz.prog Tryz.f5 false true false false) := by
  obtain ⟨places, hx⟩ := reads os enc
  refine returnsInHanded_of_row (C := Tryz.checked) (s := OpenSpec.ofChange Rows.machFitsSpec) own started (by kernel_rfl) Tryz.func5
    (witness_row_atRef (enc := enc) (C := Tryz.checked) false (laidWorld os) #[.int .i64 0] rfl (by kernel_rfl) (by kernel_rfl) (by kernel_rfl)
      (OpenSpec.preRow_of_cond 8 hx (by kernel_rfl) (fun k hk => by cases hk) (by kernel_rfl) (laid_met os _))) ?_
  intro W base args ds gs before hval hW _ _ _ hL _ _
  exact contract H enc W base args ds gs before hval hW hL

theorem said : Rows.MachFitsSaid :=
  OpenClaim.holds_of_cond 5 Tryz.f5 rfl rfl rfl rfl rfl rfl rfl ⟨rfl, rfl, rfl, rfl, rfl⟩ rfl rfl rfl rfl rfl (by kernel_rfl) Tryz.func5 closed
    (of_decide_eq_true (by kernel_rfl)) (by unfold Func.isWrapper; first | (rw [if_pos (by decide +kernel)]; kernel_rfl) | (rw [if_neg (by decide +kernel)]; exact ⟨rfl, rfl⟩))
    (fun os started H enc _ F => by rw [OpenClaim.pre_eq_preRow]; exact lifted os started H enc F)

theorem plain (f : FuncId) (fn : Func) (hf : Tryz.pinned.checked.prog.funcNamed "crosstree/crosstreelaw11.MachFits" = some f) (hfn : Tryz.pinned.checked.prog.funcs[f]? = some fn) :
    true = Tryz.pinned.checked.prog.looks [] ∧ ∀ (j : Nat) t, fn.params[j]? = some t → Tryz.pinned.checked.prog.wantsStandIn t = false := by
  obtain rfl : f = 5 := Option.some.inj ((show Tryz.prog.funcNamed "crosstree/crosstreelaw11.MachFits" = some 5 by kernel_rfl).symm.trans hf) |>.symm
  obtain rfl : fn = Tryz.f5 := (Option.some.inj (Tryz.func5.symm.trans hfn)).symm
  refine ⟨by kernel_rfl, fun j t ht => ?_⟩
  rw [Tryz.params5] at ht
  have hm := Array.mem_of_getElem? ht
  have hall : (#[2] : Array Nat).toList.all (fun t => !Tryz.prog.wantsStandIn t) = true := by kernel_rfl
  have h1 := List.all_eq_true.1 hall t (by simpa using hm)
  have h2 : Tryz.prog.wantsStandIn t = false := by
    cases hq : Tryz.prog.wantsStandIn t with
    | false => rfl
    | true => rw [hq] at h1; cases h1
  exact h2

/-- THE STATEMENT. -/
theorem card : Rows.MachFitsCardSaid :=
  Claim7.holds_tied_plain_at .later [] _ _ _ _ said (fun _ h => by cases h) (by kernel_rfl) (fun _ h => by cases h) machFits_row_tie rfl ⟨rfl, rfl⟩ (by kernel_rfl) rfl plain (by kernel_rfl)
#print axioms card
end Go.Proofs.YtpcppjbjmdolnaaGreatDoor.machFits
