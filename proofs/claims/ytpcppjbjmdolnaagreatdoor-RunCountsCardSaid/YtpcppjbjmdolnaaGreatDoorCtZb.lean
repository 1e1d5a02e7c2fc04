/- A law's run, with a cheaper look at the known table: the kernel looks but once at a table that stays the same. -/
import Derived.Test.YtpcppjbjmdolnaaGreatDoorCtZ
namespace Ct
open Go
variable {P : Program}

/-- Does an object hold just these? -/
noncomputable def holdsT (ns : List Nat) (m a b : Nat) (t : Tr AV) : Bool :=
  ((Nat.beq m ns.length).and ((Nat.beq a 0).and (Nat.beq b 1))).and (getAllF m 0 t (fun l => eqU8 l ns) false)
/-- What a run ends with: the answer, if the known global holds what it held. -/
noncomputable def fin2 (g : Nat) (ns : List Nat) (v : AV) (h : Tr AO) (_ : Nat) (_ : List (SB × Bool)) : R AV :=
  getF (pathOf g) h (fun o => onCells o (fun m a b t => iteB (holdsT ns m a b t) (.done v) (.fail 99)) (.fail 98)) (.fail 97)

theorem fin2_spec {ns : List Nat} {g : Nat} {v : AV} {h : Tr AO} {nx : Nat} {pc : List (SB × Bool)} {ρ ρ' : Nat → Int} {β β' : Nat → Bool} (hg : Good ρ β (okV ρ' β') (fin2 g ns v h nx pc)) :
    okV ρ' β' v ∧ ∃ T, h.get g = some (.cells ns.length 0 1 T) ∧ T.getAll 0 ns.length = some (ns.map fun n => AV.int .u8 (.ofNat n)) := by
  simp only [fin2, getF_eq] at hg
  cases hh : h.get g with
  | none => rw [hh] at hg; exact hg.elim
  | some o =>
    rw [hh] at hg
    simp only [onSome_some] at hg
    cases o with
    | cells m a b t =>
      simp only [onCells] at hg
      cases hq : holdsT ns m a b t with
      | false => rw [hq] at hg; exact hg.elim
      | true =>
        rw [hq] at hg
        have h1 : holdsF g ns h = true := by
          simp only [holdsF, getF_eq, hh, onSome_some, onCells]
          exact hq
        obtain ⟨T, h2, h3⟩ := holdsF_spec h1
        rw [hh] at h2
        exact ⟨hg, T, h2, h3⟩
    | _ => exact hg.elim

theorem law_of_run2 {C : Cfg} (hC : Cok P C) {n f g nx : Nat} {args : List AV} {vs : Array Value} {w : World} {ns : List Nat} {SP : List AV} (hns : ns.map (fun n => AV.int .u8 (.ofNat n)) = SP) {c : Array Value} {ty : TypeId} {ρ : Nat → Int} {β : Nat → Bool} (hx : C.ext f = none) (hg : g < gN) (hnx : gN ≤ nx)
    (hsz : gN ≤ w.heap.size) (hnt : SP.length = tN) (hw : w.heap[g]? = some (.cells c ty (0, 0))) (hn : c.size = SP.length) (hSP : ∀ j, j < SP.length → ∃ k z, SP[j]? = some (.int k z) ∧ c[j]? = some (.int k z))
    (hvr : VRs (env0 ρ β ty SP.length) args vs.toList) (hrun : Good ρ β (okV ρ β) (call C (ev C n) f args (heap0 g SP.length (Tr.setAll .leaf 0 SP)) nx [] (fin2 g ns))) :
    Calls P f vs w fun e w' => e = .returned (.bool true) ∧ Kept w w' := by
  have hl : ns.length = SP.length := by rw [← hns, List.length_map]
  have hT : ∀ j, j < SP.length → (Tr.setAll .leaf 0 SP : Tr AV).get j = SP[j]? := fun j hj => by
    rw [Tr.get_setAll, if_pos ⟨by omega, by omega⟩, Nat.sub_zero]
  have hs : SR (fun b => w.heap.size ≤ b ∨ b = g) (env0 ρ β ty SP.length) (heap0 g SP.length (Tr.setAll .leaf 0 SP)) nx [] w := by
    refine SR0 hg hw hn (fun j hj => ?_) hsz hnx hnt
    obtain ⟨k, z, h1, h2⟩ := hSP j hj
    exact ⟨.int k z, .int k z, by rw [hT j hj, h1], h2, by simp only [VR], rfl⟩
  refine (calls_of_ev hC hx hvr hs hrun).mono fun e w' he => ?_
  obtain ⟨v, u, E', h', nx', pc', rfl, hA, hv, hgd⟩ := he
  obtain ⟨h1, T, h2, h3⟩ := fin2_spec hgd
  rw [hl] at h2 h3
  rw [hns] at h3
  obtain ⟨_, h5'⟩ := Tr.getAll_some _ _ _ _ h3
  refine ⟨?_, kept_of hg hw hn hA h2 (T := Tr.setAll .leaf 0 SP) fun j hj => ?_⟩
  · rcases h1 with rfl | ⟨e, rfl, h1⟩
    · simp only [VR] at hv; rw [hv]
    · simp only [VR] at hv
      rw [hA.le.ρ, hA.le.β] at hv
      have h1' : e.den (env0 ρ β ty SP.length).ρ (env0 ρ β ty SP.length).β = true := h1
      rw [hv, h1']
  · obtain ⟨k, z, h4, h5⟩ := hSP j hj
    have h6 := h5' j hj
    rw [Nat.zero_add] at h6
    exact ⟨k, z, by rw [hT j hj, h4], by rw [h6, h4], h5⟩

/-- A run, laid out for the kernel. -/
noncomputable def runK2 (C : Cfg) (n f g nx : Nat) (args : List AV) (SP : List AV) (ns : List Nat) : R AV :=
  fL fS SP fun SP => lenF SP fun q => setAllF SP 0 .leaf fun T => setF (some (.cells q 0 1 T)) (pathOf g) .leaf fun h => callGo C (evF C n) f args h nx [] (fin2 g ns)
theorem runK2_eq (C : Cfg) (n f g nx : Nat) (args : List AV) (SP : List AV) (ns : List Nat) : runK2 C n f g nx args SP ns = call C (ev C n) f args (heap0 g SP.length (Tr.setAll .leaf 0 SP)) nx [] (fin2 g ns) := by
  unfold runK2
  rw [fL_eq fS_eq, lenF_eq, setAllF_eq, setF_eq, callGo_eq, evF_eq]
  rfl
end Ct
