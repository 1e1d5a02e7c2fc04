/- crosstreelaw11.MachNobody returns true for every input: a machine that is nil does nothing. -/
import Derived.Test.YtpcppjbjmdolnaaGreatDoorBase
import Derived.Test.YtpcppjbjmdolnaaGreatDoorCfg
import Derived.Test.YtpcppjbjmdolnaaGreatDoorMachNobodyFacts
namespace Go.Proofs.YtpcppjbjmdolnaaGreatDoor.machNobody
open Go Go.ChangeShapes Go.WideShapes Go.ChangeAt Go.RowKit
set_option linter.unusedVariables false
set_option maxRecDepth 100000

def ends : Ct.AV := .tup [.bool true, .agg SP, .int .i64 (.ofNat 256), .int .i64 (.ofNat 0), .int .i64 (.ofNat 1)]
/-- THE RUN, by the kernel: for every number. -/
theorem run : Ct.runK Ct.cfg 100000 8 1 64 [.sint .i64 (.var 0)] SP = .br (.cmp .lt (.var 0) (.lit 0)) (.done ends) (.br (.cmp .ge (.var 0) (.lit 0)) (.done ends) (.fail 32)) := by kernel_rfl

theorem walk (a0 : Int) (W : World) (h : laidMet Tryz.prog spaceList W) :
    Calls Tryz.prog 8 #[.int .i64 a0] W fun e w' => e = .returned (.bool true) ∧ Ct.Kept W w' := by
  obtain ⟨c, t, h1, h2, h3⟩ := table h
  have hsz : Ct.gN ≤ W.heap.size := by have := (Array.getElem?_eq_some_iff.1 h1).1; show 2 ≤ _; omega
  have hend : Ct.Fin SP (fun _ => a0) (fun _ => false) ends := ⟨.bool true, by rw [SP_len]; rfl, .inl rfl⟩
  refine Ct.law_of_run Ct.cfg_ok (n := 100000) (nx := 64) (args := [.sint .i64 (.var 0)]) (ρ := fun _ => a0) (β := fun _ => false) (by rfl) (by decide) (by decide) hsz h1 h2 h3 (Ct.VRs_cons.2 ⟨by simp only [Ct.VR]; rfl, Ct.VRs_nil⟩) ?_
  rw [← Ct.runK_eq, run]
  refine ⟨fun _ => hend, fun e1 => ⟨fun _ => hend, fun e2 => ?_⟩⟩
  have e1' : decide (a0 < 0) = false := e1
  have e2' : decide (a0 ≥ 0) = false := e2
  rw [decide_eq_false_iff_not] at e1' e2'
  omega

theorem contract (H : Type) (enc : TypeId × Value → H) (W : World) (base : Nat) (args : Array Value) (ds gs : List (DataW H)) (before : List MemPlace)
    (hval : ∀ (j : Nat) t v, Tryz.f8.params[j]? = some t → args[j]? = some v → Value.okWide Tryz.prog W .any base t v)
    (hW : DataW.Whole enc Tryz.prog Tryz.f8.params.toList Rows.machNobodySpec.vars false W args.toList ds gs before) (hL : laidMetH Tryz.prog Rows.machNobodyRow.laid W) :
    Calls Tryz.prog 8 args W fun e W' => ∃ v, e = .returned v ∧ Rows.machNobodySpec.post enc Tryz.prog Tryz.f8 false true false false W args v W' := by
  have hW' := hW
  obtain ⟨p, q, hA0, hV, rfl, hfz, hnd⟩ := hW
  have hA : DataW.TrodAll enc Tryz.prog W 0 (fun _ => true) true Tryz.f8.params.toList args.toList ds p := hA0
  rw [Tryz.params8] at hA hval
  obtain ⟨v0, vs0, d0, ds0, p0, q0, hargs, rfl, rfl, h0, r0⟩ := trodAll_cons hA
  obtain ⟨rfl, rfl, rfl⟩ := trodAll_nil r0
  obtain rfl : args = #[v0] := by cases args; simp_all
  obtain ⟨rfl, rfl⟩ := trodVars_none hV
  obtain ⟨a0, rfl, rfl, rfl, w0⟩ := open_int Tryz.underlying3 (hval 0 3 v0 rfl rfl) h0
  clear hA0
  simp only [List.append_nil] at hW'
  refine (walk a0 W hL).mono fun e W' ⟨he, hg⟩ => ?_
  subst he
  exact ⟨_, rfl, Ct.post_kept (pa := []) (pv := []) hW' (fun _ _ _ => trodAll_cons_mk (shut_bool Tryz.underlying4 _) trodAll_mk0) (fun _ _ => trodAll_cons_mk (shut_int Tryz.underlying3 w0) trodAll_mk0) (fun _ _ => rfl) rfl hg
    (ok_one (by kernel_rfl) rfl (okWide_bool_mk Tryz.underlying4 _))⟩

theorem reads (os : Os) {H : Type} (enc : TypeId × Value → H) : ∃ places, DataW.whole enc Tryz.prog ((laidWorld os).forCall (fun _ _ => 0) ⟨#[], #[.int .i64 0], []⟩).memory Tryz.f8.params.toList Rows.machNobodySpec.vars false #[Value.int .i64 0].toList 8 = some ([.lit (.int .i64 0)], [], places) :=
  ⟨[], by kernel_rfl⟩

theorem lifted (os : Os) (started : os.Started) (H : Type) (enc : TypeId × Value → H) (F : Stop.Interp) :
    ReturnsInHanded {} Tryz.checked os 8 .any ((OpenSpec.ofChange Rows.machNobodySpec).preRow enc Tryz.prog Tryz.f8 Rows.machNobodyRow.domain false Rows.machNobodyRow.laid) (((OpenSpec.ofChange Rows.machNobodySpec).at F).post enc Tryz.prog Tryz.f8 false true false false) := by
  obtain ⟨places, hx⟩ := reads os enc
  refine returnsInHanded_of_row (C := Tryz.checked) (s := OpenSpec.ofChange Rows.machNobodySpec) own started (by kernel_rfl) Tryz.func8
    (witness_row_atRef (enc := enc) (C := Tryz.checked) false (laidWorld os) #[.int .i64 0] rfl (by kernel_rfl) (by kernel_rfl) (by kernel_rfl)
      (OpenSpec.preRow_of_cond 8 hx (by kernel_rfl) (fun k hk => by cases hk) (by kernel_rfl) (laid_met os _))) ?_
  intro W base args ds gs before hval hW _ _ _ hL _ _
  exact contract H enc W base args ds gs before hval hW hL

theorem said : Rows.MachNobodySaid :=
  OpenClaim.holds_of_cond 8 Tryz.f8 rfl rfl rfl rfl rfl rfl rfl ⟨rfl, rfl, rfl, rfl, rfl⟩ rfl rfl rfl rfl rfl (by kernel_rfl) Tryz.func8 closed
    (of_decide_eq_true (by kernel_rfl)) (by unfold Func.isWrapper; first | (rw [if_pos (by decide +kernel)]; kernel_rfl) | (rw [if_neg (by decide +kernel)]; exact ⟨rfl, rfl⟩))
    (fun os started H enc _ F => by rw [OpenClaim.pre_eq_preRow]; exact lifted os started H enc F)

theorem plain (f : FuncId) (fn : Func) (hf : Tryz.pinned.checked.prog.funcNamed "crosstree/crosstreelaw11.MachNobody" = some f) (hfn : Tryz.pinned.checked.prog.funcs[f]? = some fn) :
    true = Tryz.pinned.checked.prog.looks [] ∧ ∀ (j : Nat) t, fn.params[j]? = some t → Tryz.pinned.checked.prog.wantsStandIn t = false := by
  obtain rfl : f = 8 := Option.some.inj ((show Tryz.prog.funcNamed "crosstree/crosstreelaw11.MachNobody" = some 8 by kernel_rfl).symm.trans hf) |>.symm
  obtain rfl : fn = Tryz.f8 := (Option.some.inj (Tryz.func8.symm.trans hfn)).symm
  refine ⟨by kernel_rfl, fun j t ht => ?_⟩
  rw [Tryz.params8] at ht
  obtain rfl : t = 3 := by simpa using Array.mem_of_getElem? ht
  exact (show Tryz.prog.wantsStandIn 3 = false by kernel_rfl)

/-- THE STATEMENT. -/
theorem card : Rows.MachNobodyCardSaid :=
  Claim7.holds_tied_plain_at .later [] _ _ _ _ said (fun _ h => by cases h) (by kernel_rfl) (fun _ h => by cases h) machNobody_row_tie rfl ⟨rfl, rfl⟩ (by kernel_rfl) rfl plain (by kernel_rfl)
#print axioms card
end Go.Proofs.YtpcppjbjmdolnaaGreatDoor.machNobody
