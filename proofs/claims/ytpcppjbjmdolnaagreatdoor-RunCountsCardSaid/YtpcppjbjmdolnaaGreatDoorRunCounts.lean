/- crosstreelaw12.RunCounts returns true for every input. -/
import Derived.Test.YtpcppjbjmdolnaaGreatDoorBase3
import Derived.Test.YtpcppjbjmdolnaaGreatDoorShown
import Derived.Test.YtpcppjbjmdolnaaGreatDoorCtZb
import Derived.Test.YtpcppjbjmdolnaaGreatDoorRunCountsFacts
namespace Go.Proofs.YtpcppjbjmdolnaaGreatDoor.runCounts
open Go Go.ChangeShapes Go.WideShapes Go.ChangeAt Go.RowKit
set_option linter.unusedVariables false
set_option linter.unusedSimpArgs false
set_option maxRecDepth 100000

def ends (v : Ct.AV) : Ct.AV := v
theorem fin_true (ρ : Nat → Int) (β : Nat → Bool) : Ct.okV ρ β (ends (.bool true)) := .inl rfl
theorem fin_of {ρ : Nat → Int} {β : Nat → Bool} {e : Ct.SB} (h : e.den ρ β = true) : Ct.okV ρ β (ends (.sbool e)) := .inr ⟨e, rfl, h⟩
def X : Ct.SI := .conv .i64 (.conv .u8 (.var 0))
def last (i : Nat) : Ct.R Ct.AV := .br (.cmp .eq (.lit (.ofNat i)) X) (.done (ends (.bool true))) (.done (ends (.bool false)))
/-- One test for each step that the fuel may be the last of. -/
def chain : Nat → Nat → Ct.R Ct.AV
  | 0, i => last i
  | n + 1, i => .br (.cmp .lt (.lit (.ofNat i)) X) (chain n (i + 1)) (last i)
def tree : Ct.R Ct.AV := chain 255 0
/-- THE RUN, by the kernel: for every number. -/
theorem run : Ct.runK2 Ct.cfgS 100000 10 1 64 [.sint .u8 (.conv .u8 (.var 0))] SP SPn = tree := by kernel_rfl

theorem good_last {ρ : Nat → Int} {β : Nat → Bool} {i : Nat} (h : X.den ρ = i) : Ct.Good ρ β (Ct.okV ρ β) (last i) := by
  refine ⟨fun _ => fin_true _ _, fun e => ?_⟩
  have e' : (((i : Nat) : Int) == X.den ρ) = false := e
  rw [h] at e'
  simp at e'
theorem good_chain {ρ : Nat → Int} {β : Nat → Bool} : ∀ (n i : Nat), i + n = 255 → (i : Int) ≤ X.den ρ → X.den ρ ≤ 255 → Ct.Good ρ β (Ct.okV ρ β) (chain n i)
  | 0, i, h, h1, h2 => good_last (by omega)
  | n + 1, i, h, h1, h2 => by
    refine ⟨fun e => good_chain n (i + 1) (by omega) ?_ h2, fun e => good_last ?_⟩
    · have e' : decide (((i : Nat) : Int) < X.den ρ) = true := e
      rw [decide_eq_true_iff] at e'
      omega
    · have e' : decide (((i : Nat) : Int) < X.den ρ) = false := e
      rw [decide_eq_false_iff_not] at e'
      omega
theorem good (ρ : Nat → Int) (β : Nat → Bool) (h : 0 ≤ ρ 0 ∧ ρ 0 ≤ 255) : Ct.Good ρ β (Ct.okV ρ β) tree := by
  have hx : X.den ρ = ρ 0 := by
    show IntKind.wrap .i64 (IntKind.wrap .u8 (ρ 0)) = ρ 0
    rw [wrap_u8, wrap_i64, if_neg (by omega)]; omega
  exact good_chain 255 0 rfl (by rw [hx]; exact h.1) (by rw [hx]; exact h.2)

theorem walk (a0 : Int) (w0 : (Lit.int .u8 a0).wf = true) (W : World) (h : laidMet Tryz.prog spaceList W) :
    Calls Tryz.prog 10 #[.int .u8 a0] W fun e w' => e = .returned (.bool true) ∧ Ct.Kept W w' := by
  obtain ⟨c, t, h1, h2, h3⟩ := table h
  have hsz : Ct.gN ≤ W.heap.size := by have := (Array.getElem?_eq_some_iff.1 h1).1; show 2 ≤ _; omega
  refine Ct.law_of_run2 Ct.cfgS_ok SPn_SP (n := 100000) (nx := 64) (args := [.sint .u8 (.conv .u8 (.var 0))]) (ρ := fun _ => a0) (β := fun _ => false) (by rfl) (by decide) (by decide) hsz SP_len h1 h2 h3 (Ct.VRs_cons.2 ⟨by simp only [Ct.VR]; exact congrArg _ (by have := wf_u8 w0; show _ = IntKind.wrap _ a0; rw [wrap_u8]; omega), Ct.VRs_nil⟩) ?_
  rw [← Ct.runK2_eq, run]
  exact good _ _ (wf_u8 w0)

theorem contract (H : Type) (enc : TypeId × Value → H) (W : World) (base : Nat) (args : Array Value) (ds gs : List (DataW H)) (before : List MemPlace)
    (hval : ∀ (j : Nat) t v, Tryz.f10.params[j]? = some t → args[j]? = some v → Value.okWide Tryz.prog W .any base t v)
    (hW : DataW.Whole enc Tryz.prog Tryz.f10.params.toList Rows.runCountsSpec.vars false W args.toList ds gs before) (hL : laidMetH Tryz.prog Rows.runCountsRow.laid W) :
    Calls Tryz.prog 10 args W fun e W' => ∃ v, e = .returned v ∧ Rows.runCountsSpec.post enc Tryz.prog Tryz.f10 false true false false W args v W' := by
  have hW' := hW
  obtain ⟨p, q, hA0, hV, rfl, hfz, hnd⟩ := hW
  have hA : DataW.TrodAll enc Tryz.prog W 0 (fun _ => true) true Tryz.f10.params.toList args.toList ds p := hA0
  rw [Tryz.params10] at hA hval
  obtain ⟨v0, vs0, d0, ds0, p0, q0, hargs, rfl, rfl, h0, r0⟩ := trodAll_cons hA
  obtain ⟨rfl, rfl, rfl⟩ := trodAll_nil r0
  obtain rfl : args = #[v0] := by cases args; simp_all
  obtain ⟨rfl, rfl⟩ := trodVars_none hV
  obtain ⟨a0, rfl, rfl, rfl, w0⟩ := open_int Tryz.underlying5 (hval 0 5 v0 rfl rfl) h0
  clear hA0
  simp only [List.append_nil] at hW'
  refine (walk a0 w0 W hL).mono fun e W' ⟨he, hg⟩ => ?_
  subst he
  exact ⟨_, rfl, Ct.post_kept (pa := []) (pv := []) hW' (fun _ _ _ => trodAll_cons_mk (shut_bool Tryz.underlying4 _) trodAll_mk0) (fun _ _ => (trodAll_cons_mk (shut_int Tryz.underlying5 w0) trodAll_mk0)) (fun _ _ => rfl) rfl hg
    (ok_one (by kernel_rfl) rfl (okWide_bool_mk Tryz.underlying4 _))⟩

theorem reads (os : Os) {H : Type} (enc : TypeId × Value → H) : ∃ places, DataW.whole enc Tryz.prog ((laidWorld os).forCall (fun _ _ => 0) ⟨#[], #[.int .u8 0], []⟩).memory Tryz.f10.params.toList Rows.runCountsSpec.vars false (#[.int .u8 0] : Array Value).toList 8 = some ([.lit (.int .u8 0)], [], places) :=
  ⟨[], by kernel_rfl⟩

theorem lifted (os : Os) (started : os.Started) (H : Type) (enc : TypeId × Value → H) (F : Stop.Interp) :
    ReturnsInHanded {} Tryz.checked os 10 .any ((OpenSpec.ofChange Rows.runCountsSpec).preRow enc Tryz.prog Tryz.f10 Rows.runCountsRow.domain false Rows.runCountsRow.laid) (((OpenSpec.ofChange Rows.runCountsSpec).at F).post enc Tryz.prog Tryz.f10 false true false false) := by
  obtain ⟨places, hx⟩ := reads os enc
  refine returnsInHanded_of_row (C := Tryz.checked) (s := OpenSpec.ofChange Rows.runCountsSpec) own started (by kernel_rfl) Tryz.func10
    (witness_row_atRef (enc := enc) (C := Tryz.checked) false (laidWorld os) #[.int .u8 0] rfl (by kernel_rfl) (by kernel_rfl) (by kernel_rfl)
      (OpenSpec.preRow_of_cond 8 hx (by kernel_rfl) (fun k hk => by cases hk) (by kernel_rfl) (laid_met os _))) ?_
  intro W base args ds gs before hval hW _ _ _ hL _ _
  exact contract H enc W base args ds gs before hval hW hL

theorem said : Rows.RunCountsSaid :=
  OpenClaim.holds_of_cond 10 Tryz.f10 rfl rfl rfl rfl rfl rfl rfl ⟨rfl, rfl, rfl, rfl, rfl⟩ rfl rfl rfl rfl rfl (by kernel_rfl) Tryz.func10 closed
    (of_decide_eq_true (by kernel_rfl)) (by unfold Func.isWrapper; first | (rw [if_pos (by decide +kernel)]; kernel_rfl) | (rw [if_neg (by decide +kernel)]; exact ⟨rfl, rfl⟩))
    (fun os started H enc _ F => by rw [OpenClaim.pre_eq_preRow]; exact lifted os started H enc F)

theorem plain (f : FuncId) (fn : Func) (hf : Tryz.pinned.checked.prog.funcNamed "crosstree/crosstreelaw12.RunCounts" = some f) (hfn : Tryz.pinned.checked.prog.funcs[f]? = some fn) :
    true = Tryz.pinned.checked.prog.looks [] ∧ ∀ (j : Nat) t, fn.params[j]? = some t → Tryz.pinned.checked.prog.wantsStandIn t = false := by
  obtain rfl : f = 10 := Option.some.inj ((show Tryz.prog.funcNamed "crosstree/crosstreelaw12.RunCounts" = some 10 by kernel_rfl).symm.trans hf) |>.symm
  obtain rfl : fn = Tryz.f10 := (Option.some.inj (Tryz.func10.symm.trans hfn)).symm
  refine ⟨by kernel_rfl, fun j t ht => ?_⟩
  rw [Tryz.params10] at ht
  have hm := Array.mem_of_getElem? ht
  have hall : (#[5] : Array Nat).toList.all (fun t => !Tryz.prog.wantsStandIn t) = true := by kernel_rfl
  have h1 := List.all_eq_true.1 hall t (by simpa using hm)
  have h2 : Tryz.prog.wantsStandIn t = false := by
    cases hq : Tryz.prog.wantsStandIn t with
    | false => rfl
    | true => rw [hq] at h1; cases h1
  exact h2

/-- THE STATEMENT. -/
theorem card : Rows.RunCountsCardSaid :=
  Claim7.holds_tied_plain_at .later [] _ _ _ _ said (fun _ h => by cases h) (by kernel_rfl) (fun _ h => by cases h) runCounts_row_tie rfl ⟨rfl, rfl⟩ (by kernel_rfl) rfl plain (by kernel_rfl)
#print axioms card
end Go.Proofs.YtpcppjbjmdolnaaGreatDoor.runCounts
