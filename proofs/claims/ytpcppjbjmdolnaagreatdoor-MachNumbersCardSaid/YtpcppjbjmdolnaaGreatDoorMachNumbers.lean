/- crosstreelaw11.MachNumbers returns true for every input. -/
import Derived.Test.YtpcppjbjmdolnaaGreatDoorBase2
import Derived.Test.YtpcppjbjmdolnaaGreatDoorCfg2
import Derived.Test.YtpcppjbjmdolnaaGreatDoorMachNumbersFacts
namespace Go.Proofs.YtpcppjbjmdolnaaGreatDoor.machNumbers
open Go Go.ChangeShapes Go.WideShapes Go.ChangeAt Go.RowKit
set_option linter.unusedVariables false
set_option linter.unusedSimpArgs false
set_option maxRecDepth 100000

def tree : Ct.R Ct.AV := (.br (.cmp .eq (.sub .i64 (.add .i64 (.var 0) (.var 1)) (.var 1)) (.var 0)) (.br (.cmp .eq (.var 1) (.lit 0)) (.br (.cmp .lt (.var 0) (.var 1)) (.done (ends (.bool true))) (.br (.cmp .eq (.var 0) (.var 1)) (.done (ends (.bool true))) (.done (ends (.bool true))))) (.br (.cmp .eq (.add .i64 (.mul .i64 (.bin .quo .i64 (.var 0) (.var 1)) (.var 1)) (.bin .rem .i64 (.var 0) (.var 1))) (.var 0)) (.br (.cmp .lt (.var 0) (.var 1)) (.done (ends (.bool true))) (.br (.cmp .eq (.var 0) (.var 1)) (.done (ends (.bool true))) (.done (ends (.bool true))))) (.done (ends (.bool false))))) (.done (ends (.bool false))))
/-- THE RUN, by the kernel: for every number. -/
theorem run : Ct.runK Ct.cfg 100000 4 1 64 [.sint .i64 (.var 0), .sint .i64 (.var 1), .sint .u8 (.conv .u8 (.var 2))] SP = tree := by kernel_rfl

theorem good (ρ : Nat → Int) (β : Nat → Bool) (w0 : -9223372036854775808 ≤ ρ 0 ∧ ρ 0 ≤ 9223372036854775807) (w1 : -9223372036854775808 ≤ ρ 1 ∧ ρ 1 ≤ 9223372036854775807) (_ : 0 ≤ ρ 2 ∧ ρ 2 ≤ 255) : Ct.Good ρ β (Ct.Fin SP ρ β) tree := by
  have t : Ct.Fin SP ρ β (ends (.bool true)) := fin_true _ _
  refine ⟨fun _ => ⟨fun _ => ⟨fun _ => t, fun _ => ⟨fun _ => t, fun _ => t⟩⟩, fun _ => ⟨fun _ => ⟨fun _ => t, fun _ => ⟨fun _ => t, fun _ => t⟩⟩, fun e => ?_⟩⟩, fun e => ?_⟩
  · simp only [Ct.SB.den, Ct.SI.den, Ct.XOp.den, Ct.cmpI, beq_eq_false_iff_ne] at e
    refine absurd ?_ e
    have h := Int.tdiv_mul_add_tmod (ρ 0) (ρ 1)
    obtain ⟨q, hq⟩ : ∃ q, Int.tdiv (ρ 0) (ρ 1) = q := ⟨_, rfl⟩
    obtain ⟨r, hr⟩ : ∃ r, Int.tmod (ρ 0) (ρ 1) = r := ⟨_, rfl⟩
    rw [hq, hr] at h ⊢
    obtain ⟨k, hk⟩ : ∃ k, IntKind.wrap .i64 q = q + 18446744073709551616 * k := by
      rw [wrap_i64]; split
      · exact ⟨-(q / 18446744073709551616) - 1, by omega⟩
      · exact ⟨-(q / 18446744073709551616), by omega⟩
    rw [hk, Int.add_mul]
    obtain ⟨p, hp⟩ : ∃ p, q * ρ 1 = p := ⟨_, rfl⟩
    rw [hp] at h ⊢
    have hm : 18446744073709551616 * k * ρ 1 = 18446744073709551616 * (k * ρ 1) := Int.mul_assoc _ _ _
    rw [hm]
    obtain ⟨m, hm'⟩ : ∃ m, k * ρ 1 = m := ⟨_, rfl⟩
    rw [hm']
    rw [wrap_i64 (IntKind.wrap .i64 _ + r), wrap_i64 (p + _)]
    repeat' split
    all_goals omega
  · simp only [Ct.SB.den, Ct.SI.den, Ct.XOp.den, Ct.cmpI, beq_eq_false_iff_ne] at e
    refine absurd ?_ e
    rw [wrap_i64 (IntKind.wrap .i64 _ - _), wrap_i64 (ρ 0 + ρ 1)]
    repeat' split
    all_goals omega

theorem walk (a0 : Int) (a1 : Int) (a2 : Int) (w0 : (Lit.int .i64 a0).wf = true) (w1 : (Lit.int .i64 a1).wf = true) (w2 : (Lit.int .u8 a2).wf = true) (W : World) (h : laidMet Tryz.prog spaceList W) :
    Calls Tryz.prog 4 #[.int .i64 a0, .int .i64 a1, .int .u8 a2] W fun e w' => e = .returned (.bool true) ∧ Ct.Kept W w' := by
  obtain ⟨c, t, h1, h2, h3⟩ := table h
  have hsz : Ct.gN ≤ W.heap.size := by have := (Array.getElem?_eq_some_iff.1 h1).1; show 2 ≤ _; omega
  refine Ct.law_of_run Ct.cfg_ok (n := 100000) (nx := 64) (args := [.sint .i64 (.var 0), .sint .i64 (.var 1), .sint .u8 (.conv .u8 (.var 2))]) (ρ := fun i => [a0, a1, a2].getD i 0) (β := fun _ => false) (by rfl) (by decide) (by decide) hsz h1 h2 h3 (Ct.VRs_cons.2 ⟨by simp only [Ct.VR]; rfl, (Ct.VRs_cons.2 ⟨by simp only [Ct.VR]; rfl, (Ct.VRs_cons.2 ⟨by simp only [Ct.VR]; exact congrArg _ (by have := wf_u8 w2; show _ = IntKind.wrap _ a2; rw [wrap_u8]; omega), Ct.VRs_nil⟩)⟩)⟩) ?_
  rw [← Ct.runK_eq, run]
  exact good _ _ (wf_i64 w0) (wf_i64 w1) (wf_u8 w2)

theorem contract (H : Type) (enc : TypeId × Value → H) (W : World) (base : Nat) (args : Array Value) (ds gs : List (DataW H)) (before : List MemPlace)
    (hval : ∀ (j : Nat) t v, Tryz.f4.params[j]? = some t → args[j]? = some v → Value.okWide Tryz.prog W .any base t v)
    (hW : DataW.Whole enc Tryz.prog Tryz.f4.params.toList Rows.machNumbersSpec.vars false W args.toList ds gs before) (hL : laidMetH Tryz.prog Rows.machNumbersRow.laid W) :
    Calls Tryz.prog 4 args W fun e W' => ∃ v, e = .returned v ∧ Rows.machNumbersSpec.post enc Tryz.prog Tryz.f4 false true false false W args v W' := by
  have hW' := hW
  obtain ⟨p, q, hA0, hV, rfl, hfz, hnd⟩ := hW
  have hA : DataW.TrodAll enc Tryz.prog W 0 (fun _ => true) true Tryz.f4.params.toList args.toList ds p := hA0
  rw [Tryz.params4] at hA hval
  obtain ⟨v0, vs0, d0, ds0, p0, q0, hargs, rfl, rfl, h0, r0⟩ := trodAll_cons hA
  obtain ⟨v1, vs1, d1, ds1, p1, q1, rfl, rfl, rfl, h1, r1⟩ := trodAll_cons r0
  obtain ⟨v2, vs2, d2, ds2, p2, q2, rfl, rfl, rfl, h2, r2⟩ := trodAll_cons r1
  obtain ⟨rfl, rfl, rfl⟩ := trodAll_nil r2
  obtain rfl : args = #[v0, v1, v2] := by cases args; simp_all
  obtain ⟨rfl, rfl⟩ := trodVars_none hV
  obtain ⟨a0, rfl, rfl, rfl, w0⟩ := open_int Tryz.underlying2 (hval 0 2 v0 rfl rfl) h0
  obtain ⟨a1, rfl, rfl, rfl, w1⟩ := open_int Tryz.underlying2 (hval 1 2 v1 rfl rfl) h1
  obtain ⟨a2, rfl, rfl, rfl, w2⟩ := open_int Tryz.underlying5 (hval 2 5 v2 rfl rfl) h2
  clear hA0
  simp only [List.append_nil] at hW'
  refine (walk a0 a1 a2 w0 w1 w2 W hL).mono fun e W' ⟨he, hg⟩ => ?_
  subst he
  exact ⟨_, rfl, Ct.post_kept (pa := []) (pv := []) hW' (fun _ _ _ => trodAll_cons_mk (shut_bool Tryz.underlying4 _) trodAll_mk0) (fun _ _ => (trodAll_cons_mk (shut_int Tryz.underlying2 w0) (trodAll_cons_mk (shut_int Tryz.underlying2 w1) (trodAll_cons_mk (shut_int Tryz.underlying5 w2) trodAll_mk0)))) (fun _ _ => rfl) rfl hg
    (ok_one (by kernel_rfl) rfl (okWide_bool_mk Tryz.underlying4 _))⟩

theorem reads (os : Os) {H : Type} (enc : TypeId × Value → H) : ∃ places, DataW.whole enc Tryz.prog ((laidWorld os).forCall (fun _ _ => 0) ⟨#[], #[.int .i64 0, .int .i64 0, .int .u8 0], []⟩).memory Tryz.f4.params.toList Rows.machNumbersSpec.vars false (#[.int .i64 0, .int .i64 0, .int .u8 0] : Array Value).toList 8 = some ([.lit (.int .i64 0), .lit (.int .i64 0), .lit (.int .u8 0)], [], places) :=
  ⟨[], by kernel_rfl⟩

theorem lifted (os : Os) (started : os.Started) (H : Type) (enc : TypeId × Value → H) (F : Stop.Interp) :
    ReturnsInHanded {} Tryz.checked os 4 .any ((OpenSpec.ofChange Rows.machNumbersSpec).preRow enc Tryz.prog Tryz.f4 Rows.machNumbersRow.domain false Rows.machNumbersRow.laid) (((OpenSpec.ofChange Rows.machNumbersSpec).at F).post enc Tryz.prog Tryz.f4 false true false false) := by
  obtain ⟨places, hx⟩ := reads os enc
  refine returnsInHanded_of_row (C := Tryz.checked) (s := OpenSpec.ofChange Rows.machNumbersSpec) own started (by kernel_rfl) Tryz.func4
    (witness_row_atRef (enc := enc) (C := Tryz.checked) false (laidWorld os) #[.int .i64 0, .int .i64 0, .int .u8 0] rfl (by kernel_rfl) (by kernel_rfl) (by kernel_rfl)
      (OpenSpec.preRow_of_cond 8 hx (by kernel_rfl) (fun k hk => by cases hk) (by kernel_rfl) (laid_met os _))) ?_
  intro W base args ds gs before hval hW _ _ _ hL _ _
  exact contract H enc W base args ds gs before hval hW hL

theorem said : Rows.MachNumbersSaid :=
  OpenClaim.holds_of_cond 4 Tryz.f4 rfl rfl rfl rfl rfl rfl rfl ⟨rfl, rfl, rfl, rfl, rfl⟩ rfl rfl rfl rfl rfl (by kernel_rfl) Tryz.func4 closed
    (of_decide_eq_true (by kernel_rfl)) (by unfold Func.isWrapper; first | (rw [if_pos (by decide +kernel)]; kernel_rfl) | (rw [if_neg (by decide +kernel)]; exact ⟨rfl, rfl⟩))
    (fun os started H enc _ F => by rw [OpenClaim.pre_eq_preRow]; exact lifted os started H enc F)

theorem plain (f : FuncId) (fn : Func) (hf : Tryz.pinned.checked.prog.funcNamed "crosstree/crosstreelaw11.MachNumbers" = some f) (hfn : Tryz.pinned.checked.prog.funcs[f]? = some fn) :
    true = Tryz.pinned.checked.prog.looks [] ∧ ∀ (j : Nat) t, fn.params[j]? = some t → Tryz.pinned.checked.prog.wantsStandIn t = false := by
  obtain rfl : f = 4 := Option.some.inj ((show Tryz.prog.funcNamed "crosstree/crosstreelaw11.MachNumbers" = some 4 by kernel_rfl).symm.trans hf) |>.symm
  obtain rfl : fn = Tryz.f4 := (Option.some.inj (Tryz.func4.symm.trans hfn)).symm
  refine ⟨by kernel_rfl, fun j t ht => ?_⟩
  rw [Tryz.params4] at ht
  have hm := Array.mem_of_getElem? ht
  have hall : (#[2, 2, 5] : Array Nat).toList.all (fun t => !Tryz.prog.wantsStandIn t) = true := by kernel_rfl
  have h1 := List.all_eq_true.1 hall t (by simpa using hm)
  have h2 : Tryz.prog.wantsStandIn t = false := by
    cases hq : Tryz.prog.wantsStandIn t with
    | false => rfl
    | true => rw [hq] at h1; cases h1
  exact h2

/-- THE STATEMENT. -/
theorem card : Rows.MachNumbersCardSaid :=
  Claim7.holds_tied_plain_at .later [] _ _ _ _ said (fun _ h => by cases h) (by kernel_rfl) (fun _ h => by cases h) machNumbers_row_tie rfl ⟨rfl, rfl⟩ (by kernel_rfl) rfl plain (by kernel_rfl)
#print axioms card
end Go.Proofs.YtpcppjbjmdolnaaGreatDoor.machNumbers
