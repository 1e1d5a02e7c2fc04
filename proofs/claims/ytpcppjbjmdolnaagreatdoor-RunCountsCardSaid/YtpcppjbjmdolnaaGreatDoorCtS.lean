/- Regions that do not draw, and control. -/
import Derived.Test.YtpcppjbjmdolnaaGreatDoorCtR
import Derived.Defers
import Derived.Scope
namespace Ct
open Go
variable {P : Program} {α : Type}

theorem Good.env {Φ : α → Prop} {E F : Env} {r : R α} (h : Good E.ρ E.β Φ r) (le : E.le F) : Good F.ρ F.β Φ r := by rw [le.ρ, le.β]; exact h
theorem Good.back {Φ : α → Prop} {E F : Env} {r : R α} (h : Good F.ρ F.β Φ r) (le : E.le F) : Good E.ρ E.β Φ r := by rw [← le.ρ, ← le.β]; exact h

theorem ST.pc {U : Nat → Prop} {E : Env} {s : St} {a : Act} {w : World} {N : Nat} (h : ST U E s a w N) {pc : List (SB × Bool)} (hp : ∀ c b, (c, b) ∈ pc → c.den E.ρ E.β = b) : ST U E ⟨s.t, s.d, s.h, s.nx, pc⟩ a w N :=
  ⟨h.tr, h.sz, h.sr.withPc hp, h.dr⟩

/-- A guard: as it is told. -/
theorem guarded_sound {Φ : α → Prop} {E : Env} {s : St} {a : Act} {ops : Array Oper} {o : Oper} {g : Option (Nat × Bool)} {yes no : St → R α}
    (htr : ∀ d want, g = some (d, want) → VR E (evA s.t (.tmp d)) (a.eval (.tmp d))) (hpc : ∀ c b, (c, b) ∈ s.pc → c.den E.ρ E.β = b)
    (hgo : (o.guard = none ∧ g = none) ∨ ∃ j want d, o.guard = some (j, want) ∧ (ops[j]?).bind (·.dst) = some d ∧ g = some (d, want)) (hg : Good E.ρ E.β Φ (guarded g s yes no)) :
    ∃ pc', (∀ c b, (c, b) ∈ pc' → c.den E.ρ E.β = b) ∧ ((Region.wanted o (yielded ops a.tmps) = true ∧ Good E.ρ E.β Φ (yes ⟨s.t, s.d, s.h, s.nx, pc'⟩)) ∨
      (Region.wanted o (yielded ops a.tmps) = false ∧ Good E.ρ E.β Φ (no ⟨s.t, s.d, s.h, s.nx, pc'⟩))) := by
  rcases hgo with ⟨ho, rfl⟩ | ⟨j, want, d, ho, hd, rfl⟩
  · exact ⟨s.pc, hpc, .inl ⟨by simp [Region.wanted, ho], hg⟩⟩
  · have hv := htr d want rfl
    have hw : Region.wanted o (yielded ops a.tmps) = ((match (a.tmps[d]? : Option Value) with | some (.bool b) => some b | _ => none) == some want) := by
      simp only [Region.wanted, ho, yielded, hd, Option.bind_some]
      rfl
    have hev : ∀ b : Bool, a.eval (.tmp d) = .bool b → a.tmps[d]? = some (.bool b) := by
      intro b hb
      simp only [Act.eval] at hb
      cases ht : a.tmps[d]? with
      | none => simp [ht, undef] at hb
      | some u => simp [ht] at hb; rw [hb]
    simp only [guarded] at hg
    simp only [evA] at hv
    split at hg
    · rename_i b hb
      rw [hb] at hv
      simp only [VR] at hv
      rw [hev b hv] at hw
      simp only at hw
      split at hg
      · rename_i he
        refine ⟨s.pc, hpc, .inl ⟨?_, hg⟩⟩
        rw [hw]; simpa using he
      · rename_i he
        refine ⟨s.pc, hpc, .inr ⟨?_, hg⟩⟩
        rw [hw]; simpa using he
    · rename_i c hb
      rw [hb] at hv
      obtain ⟨b, pc', hbv, hpc', hg'⟩ := withB_sound hpc hv hg
      rw [hev b hbv] at hw
      simp only at hw
      split at hg'
      · rename_i he
        refine ⟨pc', hpc', .inl ⟨?_, hg'⟩⟩
        rw [hw]; simpa using he
      · rename_i he
        refine ⟨pc', hpc', .inr ⟨?_, hg'⟩⟩
        rw [hw]; simpa using he
    · rename_i hb
      rw [hb] at hv
      simp only [VR] at hv
      obtain ⟨cs, hcs, _⟩ := hv
      refine ⟨s.pc, hpc, .inr ⟨?_, hg⟩⟩
      rw [hw]
      simp only [Act.eval] at hcs
      cases ht : a.tmps[d]? with
      | none => rfl
      | some u => simp [ht] at hcs; rw [hcs]; rfl
    · exact hg.elim

theorem bad_none (n : Nat) (T : Tr AV) (H : Tr AO) (i : Nat) : evPR T H (.bad n) = none ∧ evNew T i (.bad n) = none := ⟨rfl, rfl⟩

/-- How an operation was turned. -/
theorem compOper_cases (ops : Array Oper) (o : Oper) : (compOper P ops o).dst = o.dst ∧
    ((compOper P ops o).op = .bad 48 ∧ (compOper P ops o).guard = none ∨
     (compOper P ops o).op = compI P o ∧ ((o.guard = none ∧ (compOper P ops o).guard = none) ∨ ∃ j want d, o.guard = some (j, want) ∧ (ops[j]?).bind (·.dst) = some d ∧ (compOper P ops o).guard = some (d, want))) := by
  unfold compOper
  split
  · rename_i hg; exact ⟨rfl, .inr ⟨rfl, .inl ⟨hg, rfl⟩⟩⟩
  · rename_i j want hg
    split
    · rename_i d hd; exact ⟨rfl, .inr ⟨rfl, .inr ⟨j, want, d, hg, hd, rfl⟩⟩⟩
    · exact ⟨rfl, .inl ⟨rfl, rfl⟩⟩

theorem evOps_sound {C : Cfg} {ih : Rec α} {Φ : α → Prop} (hcall : CallOK P C ih Φ) (ops : Array Oper) {N : Nat} {Q : Exit → Act → World → Prop} {k : St → R α} {U : Nat → Prop} :
    ∀ (r pre : List Oper), ops.toList = pre ++ r → checkOps N r = true → ∀ (E : Env) (s : St) (a : Act) (w : World), ST U E s a w N → Good E.ρ E.β Φ (evOps C ih (r.map (compOper P ops)) s k) →
    (∀ E' s' a' w', Aft U E s.nx w E' s'.h s'.nx s'.pc w' → ST U E' s' a' w' N → Good E.ρ E.β Φ (k s') → Q .normal a' w') → wpOps P ops Q (List.range' pre.length r.length) a w
  | [], pre, _, _, E, s, a, w, hst, hg, hQ => by
    simp only [List.length_nil, List.range'_zero, wpOps]
    exact hQ E s a w (.same hst.sr) hst hg
  | o :: r, pre, hops, hck, E, s, a, w, hst, hg, hQ => by
    simp only [checkOps] at hck
    rw [band] at hck
    have hdst : ∀ d, o.dst = some d → d < N := by
      intro d hd
      have := hck.1
      rw [hd] at this
      exact nblt.1 this
    have hi : ops[pre.length]? = some o := by rw [← Array.getElem?_toList, hops]; simp
    simp only [List.length_cons, List.range'_succ, wpOps, hi]
    have hops' : ops.toList = (pre ++ [o]) ++ r := by simp [hops]
    have rest := evOps_sound hcall ops (N := N) (Q := Q) (k := k) (U := U) r (pre ++ [o]) hops' hck.2
    simp only [List.length_append, List.length_cons, List.length_nil, Nat.zero_add] at rest
    simp only [List.map_cons, evOps] at hg
    obtain ⟨hd0, hcase⟩ := compOper_cases (P := P) ops o
    rcases hcase with ⟨hb, hgn⟩ | ⟨hop, hgo⟩
    · rw [hgn, hb] at hg
      exact hg.elim
    · rw [hop, hd0] at hg
      obtain ⟨pc', hpc', hcases⟩ := guarded_sound (a := a) (ops := ops) (o := o) (fun d want _ => hst.tr d) hst.sr.pc hgo hg
      rcases hcases with ⟨hw, hg'⟩ | ⟨hw, hg'⟩
      · rw [if_pos hw]
        refine .inl ?_
        have hst' := hst.pc hpc'
        refine evO_sound hcall (hst'.tr.ops hst'.sr.globm _) hst'.sr hst'.dr hg' fun E' s' w' v u ds hA ht hv hd hg2 => ?_
        refine rest E' _ _ w' (hst'.next hA ht hv hd o.dst hdst) (hg2.env hA.le) fun E2 s2 a2 w2 hA2 hst2 hg3 => ?_
        exact hQ E2 s2 a2 w2 (Aft.trans (Aft.trans (Aft.withPc hst.sr hpc') hA) hA2) hst2 (hg3.back hA.le)
      · rw [if_neg (by rw [hw]; simp)]
        have hst' := hst.pc hpc'
        have hst2 := hst'.next (.same hst'.sr) rfl (VR_undef E) hst'.dr o.dst hdst
        refine rest E _ _ w hst2 hg' fun E2 s2 a2 w2 hA2 hst3 hg3 => ?_
        exact hQ E2 s2 a2 w2 (Aft.trans (Aft.withPc hst.sr hpc') hA2) hst3 hg3

/-! ## Control -/
def exitOf : AExit → Exit
  | .normal => .normal
  | .exit id => .exit id
  | .ret => .ret

def CodeOK (P : Program) (ih : Rec α) (Φ : α → Prop) : Prop :=
  ∀ (c : Code) (U : Nat → Prop) (E : Env) (s : St) (k : AExit → St → R α) (a : Act) (w : World) (Q : Exit → Act → World → Prop) (N : Nat),
    checkC P N c = true → ST U E s a w N → Good E.ρ E.β Φ (ih (compC P c) s k) →
    (∀ e E' s' a' w', Aft U E s.nx w E' s'.h s'.nx s'.pc w' → ST U E' s' a' w' N → Good E.ρ E.β Φ (k e s') → Q (exitOf e) a' w') → c.wp P Q a w

/-- Regions that draw do as the evaluator says. -/
def DrawOK (P : Program) (C : Cfg) (ih : Rec α) (Φ : α → Prop) : Prop :=
  ∀ (id : Nat) (ops : Array Oper) (U : Nat → Prop) (E : Env) (s : St) (k : St → R α) (a : Act) (w : World) (Q : Exit → Act → World → Prop) (N : Nat),
    checkOps N ops.toList = true → okD ops (drawOf ops.toList (ops.toList.map (compOper P ops))) = true → ST U E s a w N →
    Good E.ρ E.β Φ (evD C ih (drawOf ops.toList (ops.toList.map (compOper P ops))) s [] [] [] k) →
    (∀ E' s' a' w', Aft U E s.nx w E' s'.h s'.nx s'.pc w' → ST U E' s' a' w' N → Good E.ρ E.β Φ (k s') → Q .normal a' w') → (Code.region id ops true).wp P Q a w

theorem wp_loop_nat {c : Code} {Q : Exit → Act → World → Prop} (J : Nat → Act → World → Prop) {n : Nat} {a : Act} {w : World} (h0 : J n a w)
    (round : ∀ m a w, J m a w → c.wp P (Exit.then (fun a' w' => ∃ m', m' < m ∧ J m' a' w') Q) a w) : (Code.loop c).wp P Q a w := by
  have least : ∀ (n : Nat) (a : Act) (w : World), J n a w → ∃ m, J m a w ∧ ∀ m', J m' a w → m ≤ m' := by
    intro n
    induction n using Nat.strongRecOn with
    | _ n ih =>
      intro a w hj
      by_cases h : ∃ m, m < n ∧ J m a w
      · obtain ⟨m, hm, hj'⟩ := h
        exact ih m hm a w hj'
      · exact ⟨n, hj, fun m' hm' => by
          rcases Nat.lt_or_ge m' n with hlt | hge
          · exact absurd ⟨m', hlt, hm'⟩ h
          · exact hge⟩
  classical
  let μ : Act → World → Nat := fun a w => if h : ∃ m, J m a w ∧ ∀ m', J m' a w → m ≤ m' then Classical.choose h else 0
  have hμ : ∀ a w m, J m a w → J (μ a w) a w ∧ μ a w ≤ m := by
    intro a w m hj
    have h := least m a w hj
    have e : μ a w = Classical.choose h := by simp only [μ]; rw [dif_pos h]
    rw [e]
    exact ⟨(Classical.choose_spec h).1, (Classical.choose_spec h).2 m hj⟩
  refine wp_loop (fun a w => ∃ m, J m a w) μ ⟨n, h0⟩ fun a w ⟨m, hj⟩ => ?_
  refine wp_mono (round (μ a w) a w (hμ a w m hj).1) fun e a' w' hq => ?_
  cases e with
  | normal =>
    obtain ⟨m', hlt, hj'⟩ := hq
    exact ⟨⟨m', hj'⟩, Nat.lt_of_le_of_lt (hμ a' w' m' hj').2 hlt⟩
  | _ => exact hq

theorem code_step {C : Cfg} {Φ : α → Prop} {n : Nat} (hlt : ∀ m, m < n → CodeOK P (ev C m) Φ) (hcalls : ∀ m, m < n → CallOK P C (ev C m) Φ) (hdraw : ∀ m, m < n → DrawOK P C (ev C m) Φ) : CodeOK P (ev C n) Φ := by
  cases n with
  | zero => intro c U E s k a w Q N _ _ hg _; exact hg.elim
  | succ n =>
    have ih := hlt n (Nat.lt_succ_self n)
    intro c
    induction c with
    | skip => intro U E s k a w Q N _ hst hg hQ; exact wp_skip (hQ .normal E s a w (.same hst.sr) hst hg)
    | label l => intro U E s k a w Q N _ hst hg hQ; exact wp_label (hQ .normal E s a w (.same hst.sr) hst hg)
    | ret => intro U E s k a w Q N _ hst hg hQ; exact wp_ret (hQ .ret E s a w (.same hst.sr) hst hg)
    | exit id => intro U E s k a w Q N _ hst hg hQ; exact wp_exit (hQ (.exit id) E s a w (.same hst.sr) hst hg)
    | scope c ihc =>
      intro U E s k a w Q N hck hst hg hQ
      refine wp_scope_straight ?_
      refine ihc U E s k a w _ N hck hst hg fun e E' s' a' w' hA hst' hg' => ?_
      have := hQ e E' s' a' w' hA hst' hg'
      cases e <;> exact this
    | seq x y _ _ =>
      intro U E s k a w Q N hck hst hg hQ
      simp only [checkC] at hck
      rw [band] at hck
      refine wp_seq ?_
      refine ih x U E s _ a w _ N hck.1 hst hg fun e E' s' a' w' hA hst' hg' => ?_
      cases e with
      | normal =>
        refine ih y U E' s' k a' w' Q N hck.2 hst' (hg'.env hA.le) fun e E2 s2 a2 w2 hA2 hst2 hg2 => ?_
        exact hQ e E2 s2 a2 w2 (hA.trans hA2) hst2 (hg2.back hA.le)
      | exit id => exact hQ (.exit id) E' s' a' w' hA hst' hg'
      | ret => exact hQ .ret E' s' a' w' hA hst' hg'
    | cond c x y _ _ =>
      intro U E s k a w Q N hck hst hg hQ
      simp only [checkC] at hck
      rw [band] at hck
      simp only [compC] at hg
      split at hg
      · rename_i cx hcx
        have hv := hst.tr.ops hst.sr.globm [c] c (by simp) cx hcx
        have hg1 : Good E.ρ E.β Φ (withB s.pc (evA s.t cx) fun b pc => match b with
          | true => ev C n (compC P x) ⟨s.t, s.d, s.h, s.nx, pc⟩ k
          | false => ev C n (compC P y) ⟨s.t, s.d, s.h, s.nx, pc⟩ k) := hg
        obtain ⟨b, pc', hb, hpc', hg'⟩ := withB_sound hst.sr.pc hv hg1
        have hst' := hst.pc hpc'
        cases b with
        | true =>
          refine wp_cond_true hb ?_
          refine ih x U E ⟨s.t, s.d, s.h, s.nx, pc'⟩ k a w Q N hck.1 hst' hg' fun e E2 s2 a2 w2 hA2 hst2 hg2 => ?_
          exact hQ e E2 s2 a2 w2 ((Aft.withPc hst.sr hpc').trans hA2) hst2 hg2
        | false =>
          refine wp_cond_false hb ?_
          refine ih y U E ⟨s.t, s.d, s.h, s.nx, pc'⟩ k a w Q N hck.2 hst' hg' fun e E2 s2 a2 w2 hA2 hst2 hg2 => ?_
          exact hQ e E2 s2 a2 w2 ((Aft.withPc hst.sr hpc').trans hA2) hst2 hg2
      · exact hg.elim
    | block id c _ =>
      intro U E s k a w Q N hck hst hg hQ
      refine wp_block ?_
      refine ih c U E s _ a w _ N hck hst hg fun e E' s' a' w' hA hst' hg' => ?_
      cases e with
      | normal => exact hQ .normal E' s' a' w' hA hst' hg'
      | ret => exact hQ .ret E' s' a' w' hA hst' hg'
      | exit j =>
        show Exit.inBlock id Q (.exit j) a' w'
        simp only [Exit.inBlock]
        simp only at hg'
        split at hg'
        · rename_i he
          rw [nbeq] at he
          rw [if_pos he]
          exact hQ .normal E' s' a' w' hA hst' hg'
        · rename_i he
          rw [nbeqF] at he
          rw [if_neg he]
          exact hQ (.exit j) E' s' a' w' hA hst' hg'
    | loop c _ =>
      intro U E s k a w Q N hck hst hg hQ
      refine wp_loop_nat (fun m a' w' => m ≤ n + 1 ∧ ∃ E' s', Aft U E s.nx w E' s'.h s'.nx s'.pc w' ∧ ST U E' s' a' w' N ∧ Good E.ρ E.β Φ (ev C m (.loop (compC P c)) s' k)) (n := n + 1)
        ⟨Nat.le_refl _, E, s, .same hst.sr, hst, hg⟩ ?_
      rintro m a' w' ⟨hm, E', s', hA, hst', hg'⟩
      cases m with
      | zero => exact hg'.elim
      | succ m =>
        refine hlt m (by omega) c U E' s' _ a' w' _ N hck hst' (hg'.env hA.le) fun e E2 s2 a2 w2 hA2 hst2 hg2 => ?_
        cases e with
        | normal => exact ⟨m, Nat.lt_succ_self m, by omega, E2, s2, hA.trans hA2, hst2, hg2.back hA.le⟩
        | exit id => exact hQ (.exit id) E2 s2 a2 w2 (hA.trans hA2) hst2 (hg2.back hA.le)
        | ret => exact hQ .ret E2 s2 a2 w2 (hA.trans hA2) hst2 (hg2.back hA.le)
    | region id ops draw =>
      intro U E s k a w Q N hck hst hg hQ
      simp only [checkC] at hck
      rw [band] at hck
      cases draw with
      | false =>
        refine wp_region ?_
        have := evOps_sound (hcalls n (Nat.lt_succ_self n)) ops (N := N) (Q := Q) (k := k .normal) (U := U) ops.toList [] rfl hck.1 E s a w hst hg fun E' s' a' w' hA hst' hg' => hQ .normal E' s' a' w' hA hst' hg'
        simpa [List.range_eq_range'] using this
      | true =>
        exact hdraw n (Nat.lt_succ_self n) id ops U E s (k .normal) a w Q N hck.1 hck.2 hst hg fun E' s' a' w' hA hst' hg' => hQ .normal E' s' a' w' hA hst' hg'
    | goto l => intro U E s k a w Q N _ _ hg _; exact hg.elim
    | refuse why => intro U E s k a w Q N _ _ hg _; exact hg.elim
    | rangeFunc => intro U E s k a w Q N _ _ hg _; exact hg.elim
end Ct
