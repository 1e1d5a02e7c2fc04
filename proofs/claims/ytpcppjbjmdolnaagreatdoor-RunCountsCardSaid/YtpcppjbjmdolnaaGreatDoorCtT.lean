/- Calls, what is deferred, results. -/
import Derived.Test.YtpcppjbjmdolnaaGreatDoorCtS
namespace Ct
open Go
variable {P : Program} {α : Type}

/-- What is asked of a configuration. -/
structure Cok (P : Program) (C : Cfg) : Prop where
  mixed : P.follows .mixedOrders = true
  fn : ∀ f g, C.fn f = some g → compF P f = some g ∧ ∀ fn, P.funcs[f]? = some fn → (fn.name == "runtime.NumGoroutine") = false
  ext : ∀ f g, C.ext f = some g → ∀ (U : Nat → Prop) (E : Env) (args : List AV) (v : AV) (vs : Array Value) (H : Tr AO) (nx : Nat) (pc : List (SB × Bool)) (w : World) (o : Oper) (a : Act) (K : Act → World → Prop) (Q : Exit → Act → World → Prop), g args H = some v → VRs E args vs.toList → SR U E H nx pc w →
    (∀ u w', VR E v u → WR (fun b => w.heap.size ≤ b) w w' → K (a.put o.dst u) w') → o.upon P a K Q ((callFunc f vs).run P w)
  nop : ∀ f, C.nop f = true → (∃ fn c, P.funcs[f]? = some fn ∧ fn.body = some c ∧ (fn.name == "runtime.NumGoroutine") = false) ∧
    ∀ vs w, CallsD P f vs .returning w fun e u' w' => (∃ v, e = .returned v) ∧ u' = .returning ∧ WR (fun b => w.heap.size ≤ b) w w'

theorem Aft.grown {U : Nat → Prop} {E : Env} {H : Tr AO} {nx : Nat} {pc : List (SB × Bool)} {w w' : World} (h : SR U E H nx pc w) (g : WR (fun b => w.heap.size ≤ b) w w') : Aft U E nx w E H nx pc w' := by
  have hk : ∀ i b, E.m i = some b → w'.heap[b]? = w.heap[b]? := fun i b hb => g.keep b (by have := h.known i b hb; omega)
  refine ⟨.refl E, fun _ _ => rfl, ⟨⟨fun i o b hi hb => ?_, h.hr.inj⟩, h.own, h.fresh, fun b hb => h.big b (Nat.le_trans g.size hb), fun i b hb => Nat.lt_of_lt_of_le (h.known i b hb) g.size, h.pc, h.glob, h.pl⟩, g.mono fun b hb => h.big b hb, Nat.le_refl _⟩
  rw [hk i b hb]; exact h.hr.obj i o b hi hb

theorem run_callFunc {f : FuncId} {fn : Func} {c : Code} (hf : P.funcs[f]? = some fn) (hb : fn.body = some c) (hn : (fn.name == "runtime.NumGoroutine") = false) (vs : Array Value) (w : World) :
    (callFunc f vs).run P w = .ok (.enter f vs) w := by
  simp [callFunc, hf, hb]
  simp at hn
  intro h
  exact absurd h hn

theorem compF_some {f : Nat} {g : AFn} (h : compF P f = some g) : ∃ fn c r, P.funcs[f]? = some fn ∧ fn.body = some c ∧ resOf P fn.results.toList = some r ∧ checkC P fn.ntmps c = true ∧ g = ⟨fn.ntmps, compC P c, r⟩ := by
  unfold compF at h
  split at h
  · cases h
  · rename_i fn hf
    split at h
    · cases h
    · rename_i c hc
      split at h
      · rename_i r hr
        split at h
        · rename_i hck
          cases h
          exact ⟨fn, c, r, hf, hc, hr, hck, rfl⟩
        · cases h
      · cases h

theorem TRel_start {E : Env} {args : List AV} {vs : Array Value} (h : VRs E args vs.toList) (n : Nat) (ds : List Deferred) : TRel E (Tr.setAll .leaf 0 args) { tmps := vs ++ Array.replicate (n - vs.size) undef, defers := ds } := by
  intro i
  have hl : vs.size = args.length := by have := VRs_length h; simpa using this
  simp only [evA, Act.eval, Tr.get_setAll, Nat.zero_add, Nat.sub_zero]
  by_cases hi : i < args.length
  · rw [if_pos ⟨Nat.zero_le _, hi⟩, List.getElem?_eq_getElem hi]
    obtain ⟨u, hu, hr⟩ := VRs_get h i args[i] (List.getElem?_eq_getElem hi)
    have : (vs ++ Array.replicate (n - vs.size) undef).getD i undef = u := by
      have h1 : (vs ++ Array.replicate (n - vs.size) undef)[i]? = some u := by
        rw [Array.getElem?_append_left (by omega)]
        rw [← Array.getElem?_toList]; exact hu
      simp only [Array.getD_eq_getD_getElem?, h1, Option.getD_some]
    rw [this]; exact hr
  · rw [if_neg (by omega), Tr.get_leaf]
    have : (vs ++ Array.replicate (n - vs.size) undef).getD i undef = undef := by
      simp only [Array.getD_eq_getD_getElem?]
      rw [Array.getElem?_append_right (by omega)]
      rw [Array.getElem?_replicate]
      split <;> rfl
    rw [this]; exact VR_undef E

theorem res_sound {E : Env} {t : Tr AV} {tmps : Array Value} {ds : List Deferred} {H : Tr AO} {w : World} (ht : TRel E t ⟨tmps, ds⟩) (hH : HR E H w) (F : ResultVar → Sem Value) (hF1 : ∀ i, F (.tmp i) = pure (tmps.getD i undef)) (hF2 : ∀ a t, F (.cell a t) = (do loadVar t (← asAddr (tmps.getD a undef)))) :
    ∀ {l : List ResultVar} {rs : List ARes} {vs : List AV},
    resOf P l = some rs → resVs t H rs = some vs →
    ∃ us, (l.mapM F : Sem (List Value)).run P w = .ok us w ∧ VRs E vs us
  | [], rs, vs, h, hv => by
    simp only [resOf, Option.some.injEq] at h
    subst h
    simp only [resVs, Option.some.injEq] at hv
    subst hv
    exact ⟨[], rfl, VRs_nil⟩
  | .tmp i :: l, rs, vs, h, hv => by
    simp only [resOf] at h
    split at h
    · rename_i l' hl'
      cases h
      simp only [resVs, resV] at hv
      split at hv
      · cases hv
      · rename_i vs' hvs'
        cases hv
        obtain ⟨us, h1, h2⟩ := res_sound ht hH F hF1 hF2 hl' hvs'
        refine ⟨tmps.getD i undef :: us, ?_, VRs_cons.2 ⟨ht i, h2⟩⟩
        rw [List.mapM_cons, hF1]
        simp only [Sem.run_bind, Sem.run_pure, Result.andThen_ok, h1]
    · cases h
  | .cell i ty :: l, rs, vs, h, hv => by
    simp only [resOf] at h
    split at h
    · rename_i y hy
      split at h
      · rename_i l' hl'
        cases h
        simp only [resVs, resV] at hv
        split at hv
        · cases hv
        · rename_i v hv1
          split at hv
          · cases hv
          · rename_i vs' hvs'
            cases hv
            obtain ⟨us, h1, h2⟩ := res_sound ht hH F hF1 hF2 hl' hvs'
            obtain ⟨u, h3, h4⟩ := ld_sound (P := P) (w := w) hy hH (ht i) hv1
            refine ⟨u :: us, ?_, VRs_cons.2 ⟨h4, h2⟩⟩
            have h5 : (do loadVar ty (← asAddr (tmps.getD i undef)) : Sem Value).run P w = .ok u w := by
              have hp := ht i
              have e0 : Act.eval ⟨tmps, ds⟩ (.tmp i) = tmps.getD i undef := rfl
              rw [e0] at h3 hp
              unfold ld at hv1
              split at hv1
              · rename_i j o hq
                rw [hq] at hp
                simp only [VR] at hp
                obtain ⟨b, _, hp⟩ := hp
                rw [hp] at h3 ⊢
                exact h3
              · cases hv1
            rw [List.mapM_cons, hF2]
            rw [Sem.run_bind, h5]
            simp only [Sem.run_bind, Result.andThen_ok, h1, Sem.run_pure]
      · cases h
    · cases h

theorem results_sound {E : Env} {t : Tr AV} {tmps : Array Value} {ds : List Deferred} {H : Tr AO} {w : World} (ht : TRel E t ⟨tmps, ds⟩) (hH : HR E H w) {fn : Func} {rs : List ARes} {vs : List AV} (h : resOf P fn.results.toList = some rs) (hv : resVs t H rs = some vs) :
    ∃ u, (results fn tmps).run P w = .ok u w ∧ VR E (tupOf vs) u := by
  let F : ResultVar → Sem Value := fun
    | .tmp t => pure (tmps.getD t undef)
    | .cell a t => do loadVar t (← asAddr (tmps.getD a undef))
  obtain ⟨us, h1, h2⟩ := res_sound ht hH F (fun _ => rfl) (fun _ _ => rfl) h hv
  have hl := VRs_length h2
  refine ⟨if h : us.toArray.size = 1 then us.toArray[0] else .tuple us.toArray, ?_, ?_⟩
  · have he : results fn tmps = (do
        let vs ← fn.results.mapM F
        pure (if h : vs.size = 1 then vs[0] else .tuple vs)) := rfl
    rw [he, Array.mapM_eq_mapM_toList]
    simp only [Sem.run_bind, Sem.run_map]
    rw [h1]
    rfl
  · unfold tupOf
    split
    · rename_i v
      obtain ⟨u, us', rfl, h3, h4⟩ := VRs_inv h2
      rw [VRs_inv_nil h4]
      exact h3
    · rename_i hne
      have : ¬ us.toArray.size = 1 := by
        intro h1
        simp at h1
        match vs, hl, hne with
        | [v], _, hne => exact hne v rfl
        | [], hl, _ => rw [hl] at h1; simp at h1
        | _ :: _ :: _, hl, _ => rw [hl] at h1; simp at h1
      rw [dif_neg this, VR]
      exact ⟨_, rfl, by simpa using h2⟩

theorem leave_sound {C : Cfg} (hC : Cok P C) {ih : Rec α} {Φ : α → Prop} (hcode : CodeOK P ih Φ) {U : Nat → Prop} {fn : Func} {rs : List ARes} (hres : resOf P fn.results.toList = some rs) {tmps : Array Value} {t : Tr AV}
    {k : AV → Tr AO → Nat → List (SB × Bool) → R α} {R : Ending → World → Prop} : ∀ (ds : List ADefer) (xs : List Deferred) (E : Env) (h : Tr AO) (nx : Nat) (pc : List (SB × Bool)) (w : World),
    DRs E ds xs → TRel E t ⟨tmps, []⟩ → SR U E h nx pc w → Good E.ρ E.β Φ (leave C ih rs t ds h nx pc k) →
    (∀ E' v u h' nx' pc' w', Aft U E nx w E' h' nx' pc' w' → VR E' v u → Good E.ρ E.β Φ (k v h' nx' pc') → R (.returned u) w') → Leaves P fn tmps R xs .returning w
  | [], xs, E, h, nx, pc, w, hd, ht, hs, hg, hR => by
    have : xs = [] := hd
    subst this
    simp only [leave] at hg
    split at hg
    · rename_i vs hvs
      obtain ⟨u, h1, h2⟩ := results_sound ht hs.hr hres hvs
      exact ⟨u, h1, hR E _ u h nx pc w (.same hs) h2 hg⟩
    · exact hg.elim
  | d :: ds, xs, E, h, nx, pc, w, hd, ht, hs, hg, hR => by
    obtain ⟨y, ys, rfl, ⟨caps, args, rfl, hvr⟩, hd'⟩ := hd
    simp only [leave] at hg
    split at hg
    · rename_i hnop
      obtain ⟨⟨fn2, c2, hf2, hb2, hn2⟩, hcalls⟩ := hC.nop d.f hnop
      refine leaves_cons (by simp) (run_callFunc hf2 hb2 hn2 _ w) ?_
      refine CallsD.mono (hcalls _ w) fun e u' w' hq => ?_
      obtain ⟨⟨v, rfl⟩, rfl, hw⟩ := hq
      have hA := Aft.grown hs hw
      exact leave_sound hC hcode hres ds ys E h nx pc w' hd' ht hA.sr hg fun E' v u h' nx' pc' w2 hA2 hv hg2 => hR E' v u h' nx' pc' w2 (hA.trans hA2) hv hg2
    · split at hg
      · rename_i g hgf
        obtain ⟨hcomp, hname⟩ := hC.fn d.f g hgf
        obtain ⟨fn2, c2, r2, hf2, hb2, hr2, hck2, rfl⟩ := compF_some hcomp
        refine leaves_cons (by simp) (run_callFunc hf2 hb2 (hname fn2 hf2) _ w) ?_
        refine CallsD.mono (callsD_of_wp (R := fun e w' => ∃ v, e = .returned v ∧ Leaves P fn tmps R ys .returning w') hf2 hb2 ?_) fun e u' w' hq => ?_
        · have hst : ST U E ⟨Tr.setAll .leaf 0 d.args, [], h, nx, pc⟩ { tmps := (args ++ caps) ++ Array.replicate (fn2.ntmps - (args ++ caps).size) undef, defers := [] } w fn2.ntmps :=
            ⟨TRel_start (by simpa using hvr) _ _, by simp; omega, hs, rfl⟩
          refine hcode c2 U E _ _ _ w _ fn2.ntmps hck2 hst hg fun e E' s' a' w' hA hst' hg' => ?_
          have key : ∀ (hh : Good E.ρ E.β Φ (match s'.d with
              | [] => match resVs s'.t s'.h r2 with
                | some _ => leave C ih rs t ds s'.h s'.nx s'.pc k
                | none => .fail 51
              | _ => .fail 4)), a'.defers = [] ∧ ∃ v, (results fn2 a'.tmps).run P w' = .ok v w' ∧ ∃ v', Ending.returned v = .returned v' ∧ Leaves P fn tmps R ys .returning w' := by
            intro hh
            split at hh
            · rename_i hd0
              have hdr := hst'.dr
              rw [hd0] at hdr
              split at hh
              · rename_i vs hvs
                obtain ⟨u, h1, h2⟩ := results_sound (ds := a'.defers) hst'.tr hst'.sr.hr hr2 hvs
                refine ⟨hdr, u, h1, u, rfl, ?_⟩
                refine leave_sound hC hcode hres ds ys E' s'.h s'.nx s'.pc w' (DRs_mono hA.le _ _ hd') (ht.mono hA.le) hst'.sr (hh.env hA.le) fun E2 v u h' nx' pc' w2 hA2 hv hg2 => ?_
                exact hR E2 v u h' nx' pc' w2 (hA.trans hA2) hv (hg2.back hA.le)
              · exact hh.elim
            · exact hh.elim
          cases e with
          | normal => exact key hg'
          | ret => exact key hg'
          | exit id => exact hg'.elim
        · obtain ⟨rfl, v, rfl, hl⟩ := hq
          exact hl
      · exact hg.elim

theorem callOK_of {C : Cfg} (hC : Cok P C) {ih : Rec α} {Φ : α → Prop} (hcode : CodeOK P ih Φ) : CallOK P C ih Φ := by
  intro U E f args vs h nx pc w k o a K Q hvr hs hg hK
  unfold call at hg
  split at hg
  · rename_i g hgx
    split at hg
    · rename_i v hv
      exact hC.ext f g hgx U E args v vs h nx pc w o a K Q hv hvr hs fun u w' hu hw => hK E v u h nx pc w' (Aft.grown hs hw) hu hg
    · exact hg.elim
  · split at hg
    · exact hg.elim
    · rename_i g hgf
      obtain ⟨hcomp, hname⟩ := hC.fn f g hgf
      obtain ⟨fn, c, r, hf, hb, hr, hck, rfl⟩ := compF_some hcomp
      split at hg
      · exact hg.elim
      · rw [run_callFunc hf hb (hname fn hf) vs w]
        show Calls P f vs w _
        refine calls_of_wp_defers hf hb ?_
        have hst : ST U E ⟨Tr.setAll .leaf 0 args, [], h, nx, pc⟩ { tmps := vs ++ Array.replicate (fn.ntmps - vs.size) undef, defers := [] } w fn.ntmps :=
          ⟨TRel_start hvr _ _, by simp; omega, hs, rfl⟩
        refine hcode c U E _ _ _ w _ fn.ntmps hck hst hg fun e E' s' a' w' hA hst' hg' => ?_
        have key : ∀ (hh : Good E.ρ E.β Φ (leave C ih r s'.t s'.d s'.h s'.nx s'.pc k)), Leaves P fn a'.tmps (fun
            | .returned v, w'' => K (a.put o.dst v) w''
            | .panicked chain, w'' => Q (.panic chain) a w''
            | .outgrown, _ => LetsOut Q) a'.defers .returning w' := by
          intro hh
          refine leave_sound (E := E') hC hcode hr s'.d a'.defers s'.h s'.nx s'.pc w' hst'.dr (fun i => hst'.tr i) hst'.sr (hh.env hA.le) fun E2 v u h' nx' pc' w2 hA2 hv hg2 => ?_
          exact hK E2 v u h' nx' pc' w2 (hA.trans hA2) hv (hg2.back hA.le)
        cases e with
        | normal => exact key hg'
        | ret => exact key hg'
        | exit id => exact hg'.elim

/-- The evaluator, whole: but for the regions that draw. -/
theorem code_all {C : Cfg} (hC : Cok P C) {Φ : α → Prop} (hdraw : ∀ m, CallOK P C (ev C m) Φ → DrawOK P C (ev C m) Φ) : ∀ n, CodeOK P (ev C n) Φ := by
  intro n
  induction n using Nat.strongRecOn with
  | _ n ihn => exact code_step ihn (fun m hm => callOK_of hC (ihn m hm)) (fun m hm => hdraw m (callOK_of hC (ihn m hm)))
end Ct
