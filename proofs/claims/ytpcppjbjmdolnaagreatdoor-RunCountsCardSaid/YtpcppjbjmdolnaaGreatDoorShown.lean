/- The examples at the laws' heads: they hold, whatever the world; and what the evaluator reckons with when it knows so. -/
import Derived.Test.YtpcppjbjmdolnaaGreatDoorBase3
import Derived.Test.YtpcppjbjmdolnaaGreatDoorCfg3
set_option maxRecDepth 100000
namespace Go.Proofs.YtpcppjbjmdolnaaGreatDoor
open Go

theorem run11 : Ct.runK Ct.cfg 100000 13 1 64 [] SP = .done (ends (.bool true)) := by kernel_rfl
def tree12 : Ct.R Ct.AV := (.both (.both (.done (ends (.bool true))) (.done (ends (.bool true)))) (.both (.done (ends (.bool true))) (.done (ends (.bool true)))))
theorem run12 : Ct.runK Ct.cfg 100000 28 1 64 [] SP = tree12 := by kernel_rfl
theorem good12 (ρ : Nat → Int) (β : Nat → Bool) : Ct.Good ρ β (Ct.Fin SP ρ β) tree12 := by
  unfold tree12
  repeat' first | exact fin_true _ _ | refine ⟨?_, ?_⟩

/-- The table, as naturals. -/
def SPn : List Nat := (List.range 256).map fun i => if i == 9 || i == 10 || i == 11 || i == 12 || i == 13 || i == 32 then 1 else 0
theorem SPn_SP : SPn.map (fun n => Ct.AV.int .u8 (.ofNat n)) = SP := by kernel_rfl
theorem SPn_len : SPn.length = Ct.tN := by kernel_rfl

theorem shown_of {f : Nat} (hx : Ct.cfg.ext f = none) (hg : ∀ ρ β, Ct.Good ρ β (Ct.Fin SP ρ β) (Ct.runK Ct.cfg 100000 f 1 64 [] SP)) {U : Nat → Prop} {E : Ct.Env} {H : Ct.Tr Ct.AO} {nx : Nat} {pc : List (Ct.SB × Bool)} {w : World} (hs : Ct.SR U E H nx pc w) (hh : Ct.holdsF 1 SPn H = true) :
    Calls Tryz.prog f #[] w fun e w' => e = .returned (.bool true) ∧ Ct.WR (fun b => w.heap.size ≤ b) w w' := by
  obtain ⟨h0, c, t, h1, h2, h3⟩ := Ct.known_of hs (by decide) SPn_len hh
  have hlen : SPn.length = SP.length := by rw [SPn_len, SP_len]
  refine (Ct.law_of_run Ct.cfg_ok (n := 100000) (nx := 64) (args := []) (ρ := fun _ => 0) (β := fun _ => false) hx (by decide) (by decide) (show 2 ≤ _ by omega) SP_len h1 (by rw [h2, hlen]) (fun j hj => ?_) Ct.VRs_nil ?_).mono ?_
  · obtain ⟨z, h4, h5⟩ := h3 j (by rw [hlen]; exact hj)
    refine ⟨.u8, .ofNat z, ?_, h5⟩
    rw [← SPn_SP, List.getElem?_map, h4]; rfl
  · rw [← Ct.runK_eq]; exact hg _ _
  · rintro e w' ⟨rfl, hk⟩
    exact ⟨rfl, hk.os, hk.tape, hk.output, hk.size, fun b hb => hk.heap b (by omega)⟩
end Go.Proofs.YtpcppjbjmdolnaaGreatDoor

namespace Ct
open Go
/-- As cfg; the examples are known. -/
noncomputable def cfgS : Cfg :=
  { fn := cfg.fn
    ext := fun f => match (Nat.beq f 13).or (Nat.beq f 28) with
      | true => some fun args h => match args with
        | [] => match holdsF 1 Go.Proofs.YtpcppjbjmdolnaaGreatDoor.SPn h with
          | true => some (.bool true)
          | false => none
        | _ => none
      | false => cfg.ext f
    nop := cfg.nop }

theorem cfgS_ok : Cok Go.Proofs.Tryz.prog cfgS := by
  refine ⟨cfg_ok.mixed, cfg_ok.fn, ?_, cfg_ok.nop⟩
  intro f g hg U E args v vs H nx pc w o a K Q hga hvr hs hK
  simp only [cfgS] at hg
  split at hg
  · rename_i hf
    cases hg
    simp only at hga
    split at hga
    · split at hga
      · rename_i hh
        cases hga
        have hvs : vs = #[] := by apply Array.ext'; rw [VRs_inv_nil hvr]
        subst hvs
        have hK' : ∀ w', WR (fun b => w.heap.size ≤ b) w w' → K (a.put o.dst (.bool true)) w' := fun w' hw => hK _ w' (by simp only [VR]) hw
        have hff : f = 13 ∨ f = 28 := by
          cases h2 : Nat.beq f 13 with
          | true => rw [nbeq] at h2; exact .inl h2
          | false =>
            rw [h2] at hf
            have h3 : Nat.beq f 28 = true := by simpa using hf
            rw [nbeq] at h3; exact .inr h3
        rcases hff with rfl | rfl
        · exact ext_of Go.Proofs.Tryz.func13 rfl (noGor_at Go.Proofs.Tryz.func13) (Go.Proofs.YtpcppjbjmdolnaaGreatDoor.shown_of rfl (fun ρ β => by rw [Go.Proofs.YtpcppjbjmdolnaaGreatDoor.run11]; exact Go.Proofs.YtpcppjbjmdolnaaGreatDoor.fin_true _ _) hs hh) hK'
        · exact ext_of Go.Proofs.Tryz.func28 rfl (noGor_at Go.Proofs.Tryz.func28) (Go.Proofs.YtpcppjbjmdolnaaGreatDoor.shown_of rfl (fun ρ β => by rw [Go.Proofs.YtpcppjbjmdolnaaGreatDoor.run12]; exact Go.Proofs.YtpcppjbjmdolnaaGreatDoor.good12 _ _) hs hh) hK'
      · cases hga
    · cases hga
  · exact cfg_ok.ext f g hg U E args v vs H nx pc w o a K Q hga hvr hs hK
end Ct
