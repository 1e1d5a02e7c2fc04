/- One operation, and rows of them. -/
import Derived.Test.YtpcppjbjmdolnaaGreatDoorCtQ
namespace Ct
open Go
variable {P : Program} {α : Type}

/-- The slots. -/
def TRel (E : Env) (t : Tr AV) (a : Act) : Prop := ∀ i, VR E (evA t (.tmp i)) (a.eval (.tmp i))

theorem TRel.mono {E F : Env} {t : Tr AV} {a : Act} (h : TRel E t a) (le : E.le F) : TRel F t a := fun i => VR_mono le _ _ (h i)

theorem TRel.put {E : Env} {t : Tr AV} {a : Act} (h : TRel E t a) (dst : Option Nat) {v : AV} {u : Value} (hv : VR E v u) (hd : ∀ d, dst = some d → d < a.tmps.size) : TRel E (Ct.put t dst v) (a.put dst u) := by
  intro i
  cases dst with
  | none => exact h i
  | some d =>
    have hlt := hd d rfl
    have hi := h i
    simp only [evA, Ct.put, Act.eval, Act.put, Tr.get_set] at hi ⊢
    by_cases e : i = d
    · subst e
      simp [hlt]; exact hv
    · rw [if_neg e]
      have e1 : (a.tmps.setIfInBounds d u).getD i undef = a.tmps.getD i undef := by
        simp [Array.getElem?_setIfInBounds_ne (Ne.symm e)]
      rw [e1]; exact hi

theorem TRel.ops {E : Env} {t : Tr AV} {a : Act} (h : TRel E t a) (hg : ∀ g, g < gN → E.m g = some g) (l : List Operand) : OpsR E t a l := by
  intro x _ y hy
  cases x with
  | tmp i => simp only [compO, Option.some.injEq] at hy; subst hy; exact h i
  | const v => exact compO_const hy t
  | global g =>
    simp only [compO] at hy
    split at hy
    · rename_i hlt
      cases hy
      simp only [evA, Act.eval, VR]
      exact ⟨g, hg g (nblt.1 hlt), rfl⟩
    · cases hy
  | func f => simp only [compO, Option.some.injEq] at hy; subst hy; simp only [evA, Act.eval, VR]; exact ⟨#[], rfl, VRs_nil⟩

/-- All that is said of a state. -/
structure ST (U : Nat → Prop) (E : Env) (s : St) (a : Act) (w : World) (N : Nat) : Prop where
  tr : TRel E s.t a
  sz : N ≤ a.tmps.size
  sr : SR U E s.h s.nx s.pc w
  dr : DRs E s.d a.defers

theorem put_size (a : Act) (dst : Option Tmp) (v : Value) : (a.put dst v).tmps.size = a.tmps.size := by cases dst <;> simp [Act.put]

theorem ST.next {U : Nat → Prop} {E E' : Env} {s s' : St} {a : Act} {w w' : World} {N : Nat} (h : ST U E s a w N) (hA : Aft U E s.nx w E' s'.h s'.nx s'.pc w') (ht : s'.t = s.t) {v : AV} {u : Value} {ds : List Deferred}
    (hv : VR E' v u) (hd : DRs E' s'.d ds) (dst : Option Nat) (hdst : ∀ d, dst = some d → d < N) : ST U E' ⟨Ct.put s'.t dst v, s'.d, s'.h, s'.nx, s'.pc⟩ (({ a with defers := ds } : Act).put dst u) w' N := by
  refine ⟨?_, by rw [put_size]; exact h.sz, hA.sr, ?_⟩
  · rw [ht]
    have h1 : TRel E' s.t ({ a with defers := ds } : Act) := by
      have := h.tr.mono hA.le
      intro i; exact this i
    exact h1.put dst hv fun d hd => Nat.lt_of_lt_of_le (hdst d hd) h.sz
  · cases dst <;> exact hd

/-! ## Branches -/
theorem pcFind_mem : ∀ {pc : List (SB × Bool)} {c : SB} {b : Bool}, pcFind c pc = some b → (c, b) ∈ pc
  | [], _, _, h => by simp [pcFind] at h
  | (e, b') :: pc, c, b, h => by
    simp only [pcFind] at h
    split at h
    · rename_i he
      simp only [decide_eq_true_eq] at he
      subst he; cases h; simp
    · exact List.mem_cons_of_mem _ (pcFind_mem h)

theorem withB_sound {Φ : α → Prop} {E : Env} {pc : List (SB × Bool)} {v : AV} {u : Value} {k : Bool → List (SB × Bool) → R α} (hpc : ∀ c b, (c, b) ∈ pc → c.den E.ρ E.β = b) (hv : VR E v u)
    (hg : Good E.ρ E.β Φ (withB pc v k)) : ∃ b pc', u = .bool b ∧ (∀ c b, (c, b) ∈ pc' → c.den E.ρ E.β = b) ∧ Good E.ρ E.β Φ (k b pc') := by
  unfold withB at hg
  split at hg
  · rename_i b
    simp only [VR] at hv
    exact ⟨b, pc, hv, hpc, hg⟩
  · rename_i c
    simp only [VR] at hv
    split at hg
    · rename_i b hb
      exact ⟨b, pc, by rw [hv, hpc c b (pcFind_mem hb)], hpc, hg⟩
    · obtain ⟨h1, h2⟩ := hg
      cases hc : c.den E.ρ E.β with
      | true =>
        refine ⟨true, (c, true) :: pc, by rw [hv, hc], fun e b hm => ?_, h1 hc⟩
        rcases List.mem_cons.1 hm with he | hm
        · cases he; exact hc
        · exact hpc e b hm
      | false =>
        refine ⟨false, (c, false) :: pc, by rw [hv, hc], fun e b hm => ?_, h2 hc⟩
        rcases List.mem_cons.1 hm with he | hm
        · cases he; exact hc
        · exact hpc e b hm
  · exact hg.elim

/-! ## What 'pick' and 'indexSl' come from -/
theorem inv_pick {o : Oper} {c x y : AOp} (h : compI P o = .pick c x y) : ∃ c' x' y', o.op = .pick c' x' y' ∧ compO c' = some c ∧ compO x' = some x ∧ compO y' = some y := by
  obtain ⟨dst, op, ty, pos, after, guard⟩ := o
  cases op with
  | pick c' x' y' =>
    simp only [compI] at h
    rcases c3_cases c' x' y' .pick with ⟨c2, x2, y2, h1, h2, h3, e⟩ | ⟨n, e⟩
    · rw [e] at h; cases h; exact ⟨c', x', y', rfl, h1, h2, h3⟩
    · rw [e] at h; cases h
  | next x b => cases b <;> (simp only [compI] at h; rcases c1_cases x _ with ⟨x', hx, e⟩ | ⟨n, e⟩ <;> (rw [e] at h; cases h))
  | makeMap t r => cases r <;> (simp only [compI] at h; cases h)
  | makeFunc fn first caps =>
    cases fn with
    | func f =>
      simp only [compI] at h
      split at h
      · rcases cs_cases caps.toList (.mkFunc f []) with ⟨x', hx, e⟩ | ⟨n, e⟩ <;> (rw [e] at h; cases h)
      · cases h
    | _ => simp only [compI] at h; cases h
  | call c =>
    obtain ⟨callee, args, argTypes⟩ := c
    cases callee with
    | value f =>
      cases f <;> simp only [compI] at h <;> first
        | (rcases cs_cases args.toList _ with ⟨x', hx, e⟩ | ⟨n, e⟩ <;> (rw [e] at h; cases h; done))
        | (split at h
           · rcases cs_cases args.toList _ with ⟨x', hx, e⟩ | ⟨n, e⟩ <;> (rw [e] at h; cases h)
           · cases h)
    | invoke r m => simp only [compI] at h; cases h
    | builtin b =>
      cases b with
      | append | copy | delete | recover | println | len | max | min =>
        simp only [compI] at h
        repeat' (split at h)
        all_goals first
          | (cases h; done)
          | (rcases c1_cases _ _ with ⟨x', hx, e⟩ | ⟨n, e⟩ <;> (rw [e] at h; cases h; done))
          | (rcases c2_cases _ _ _ with ⟨x', y', hx, hy, e⟩ | ⟨n, e⟩ <;> (rw [e] at h; cases h; done))
      | _ => simp only [compI] at h; cases h
  | defer c =>
    obtain ⟨callee, args, argTypes⟩ := c
    cases callee with
    | value f =>
      simp only [compI] at h
      split at h
      · rcases cs_cases args.toList _ with ⟨x', hx, e⟩ | ⟨n, e⟩ <;> (rw [e] at h; cases h)
      · cases h
    | _ => simp only [compI] at h; cases h
  | move | assign | alloc | box | build | buildSlice | insert | mapUpdate | load | store | nilCheck | binOp | unOp | convert | makeInterface | makeSlice | slice | fieldAddr | field | indexAddr | index | lookup | mapEntry | entryStore | range | typeAssert | entry | extract | panic =>
    simp only [compI] at h
    repeat' (split at h)
    all_goals first
      | (cases h; done)
      | (rcases c1_cases _ _ with ⟨x', hx, e⟩ | ⟨n, e⟩ <;> (rw [e] at h; cases h; done))
      | (rcases c2_cases _ _ _ with ⟨x', y', hx, hy, e⟩ | ⟨n, e⟩ <;> (rw [e] at h; cases h; done))
      | (rcases c3_cases _ _ _ _ with ⟨x', y', z', hx, hy, hz, e⟩ | ⟨n, e⟩ <;> (rw [e] at h; cases h; done))
  | _ => simp only [compI] at h; cases h

theorem inv_index {o : Oper} {size : Nat} {x i : AOp} (h : compI P o = .indexSl size x i) : ∃ t e y x' i', o.op = .indexAddr t x' i' ∧ P.underlying t = some (.slice e) ∧ tyI P e = some y ∧ y.size = size ∧ compO x' = some x ∧ compO i' = some i := by
  obtain ⟨dst, op, ty, pos, after, guard⟩ := o
  cases op with
  | indexAddr t x' i' =>
    simp only [compI] at h
    split at h
    · rename_i e ht
      split at h
      · rename_i y hy
        rcases c2_cases x' i' (.indexSl y.size) with ⟨x2, y2, h1, h2, e1⟩ | ⟨n, e1⟩
        · rw [e1] at h; cases h; exact ⟨t, e, y, x', i', rfl, ht, hy, rfl, h1, h2⟩
        · rw [e1] at h; cases h
      · cases h
    · split at h
      · rcases c2_cases x' i' (.indexArrAddr _ _) with ⟨x2, y2, h1, h2, e1⟩ | ⟨n, e1⟩ <;> (rw [e1] at h; cases h)
      · cases h
    · cases h
  | next x b => cases b <;> (simp only [compI] at h; rcases c1_cases x _ with ⟨x', hx, e⟩ | ⟨n, e⟩ <;> (rw [e] at h; cases h))
  | makeMap t r => cases r <;> (simp only [compI] at h; cases h)
  | makeFunc fn first caps =>
    cases fn with
    | func f =>
      simp only [compI] at h
      split at h
      · rcases cs_cases caps.toList (.mkFunc f []) with ⟨x', hx, e⟩ | ⟨n, e⟩ <;> (rw [e] at h; cases h)
      · cases h
    | _ => simp only [compI] at h; cases h
  | call c =>
    obtain ⟨callee, args, argTypes⟩ := c
    cases callee with
    | value f =>
      cases f <;> simp only [compI] at h <;> first
        | (rcases cs_cases args.toList _ with ⟨x', hx, e⟩ | ⟨n, e⟩ <;> (rw [e] at h; cases h; done))
        | (split at h
           · rcases cs_cases args.toList _ with ⟨x', hx, e⟩ | ⟨n, e⟩ <;> (rw [e] at h; cases h)
           · cases h)
    | invoke r m => simp only [compI] at h; cases h
    | builtin b =>
      cases b with
      | append | copy | delete | recover | println | len | max | min =>
        simp only [compI] at h
        repeat' (split at h)
        all_goals first
          | (cases h; done)
          | (rcases c1_cases _ _ with ⟨x', hx, e⟩ | ⟨n, e⟩ <;> (rw [e] at h; cases h; done))
          | (rcases c2_cases _ _ _ with ⟨x', y', hx, hy, e⟩ | ⟨n, e⟩ <;> (rw [e] at h; cases h; done))
      | _ => simp only [compI] at h; cases h
  | defer c =>
    obtain ⟨callee, args, argTypes⟩ := c
    cases callee with
    | value f =>
      simp only [compI] at h
      split at h
      · rcases cs_cases args.toList _ with ⟨x', hx, e⟩ | ⟨n, e⟩ <;> (rw [e] at h; cases h)
      · cases h
    | _ => simp only [compI] at h; cases h
  | move | assign | pick | alloc | box | build | buildSlice | insert | mapUpdate | load | store | nilCheck | binOp | unOp | convert | makeInterface | makeSlice | slice | fieldAddr | field | index | lookup | mapEntry | entryStore | range | typeAssert | entry | extract | panic =>
    simp only [compI] at h
    repeat' (split at h)
    all_goals first
      | (cases h; done)
      | (rcases c1_cases _ _ with ⟨x', hx, e⟩ | ⟨n, e⟩ <;> (rw [e] at h; cases h; done))
      | (rcases c2_cases _ _ _ with ⟨x', y', hx, hy, e⟩ | ⟨n, e⟩ <;> (rw [e] at h; cases h; done))
      | (rcases c3_cases _ _ _ _ with ⟨x', y', z', hx, hy, hz, e⟩ | ⟨n, e⟩ <;> (rw [e] at h; cases h; done))
  | _ => simp only [compI] at h; cases h

theorem pick_run {E : Env} {T : Tr AV} {a : Act} {w : World} {o : Oper} {c x y : AOp} (hc : compI P o = .pick c x y) (ho : OpsR E T a o.op.operands.toList) :
    ∃ uc, VR E (evA T c) uc ∧ ∀ b, uc = .bool b → ∃ u, (execOp a.eval o).run P w = .ok (.value u) w ∧ VR E (match b with | true => evA T x | false => evA T y) u := by
  obtain ⟨c', x', y', hop, h1, h2, h3⟩ := inv_pick hc
  rw [hop] at ho
  refine ⟨a.eval c', ho c' (by simp [Op.operands]) c h1, fun b hb => ?_⟩
  refine ⟨if b then a.eval x' else a.eval y', ?_, ?_⟩
  · simp [execOp, hop, hb, asBool]
  · cases b
    · exact ho y' (by simp [Op.operands]) y h3
    · exact ho x' (by simp [Op.operands]) x h2

theorem evO_sound {C : Cfg} {ih : Rec α} {Φ : α → Prop} (hcall : CallOK P C ih Φ) {U : Nat → Prop} {E : Env} {w : World} {a : Act} {o : Oper} {s : St} {k : AV → St → R α} {K : Act → World → Prop} {Q : Exit → Act → World → Prop}
    (ho : OpsR E s.t a o.op.operands.toList) (hs : SR U E s.h s.nx s.pc w) (hd : DRs E s.d a.defers) (hg : Good E.ρ E.β Φ (evO C ih (compI P o) s k))
    (hK : ∀ E' s' w' v u ds, Aft U E s.nx w E' s'.h s'.nx s'.pc w' → s'.t = s.t → VR E' v u → DRs E' s'.d ds → Good E.ρ E.β Φ (k v s') → K (({ a with defers := ds } : Act).put o.dst u) w') : o.wp P a w K Q := by
  unfold evO at hg
  split at hg
  · rename_i v hv
    obtain ⟨u, h1, h2⟩ := evPR_sound ho hs.hr hv
    show Oper.upon P _ a K Q ((execOp a.eval o).run P w)
    rw [h1]
    exact hK E s w v u a.defers (.same hs) rfl h2 hd hg
  · split at hg
    · rename_i ob v hv
      obtain ⟨obj, u, h1, h2⟩ := evNew_sound (w := w) ho hv
      show Oper.upon P _ a K Q ((execOp a.eval o).run P w)
      rw [h1]
      have hle := Env.le_mk1 (E := E) (hs.fresh s.nx (Nat.le_refl _)).1 w.heap.size 0
      obtain ⟨h3, h4⟩ := h2 (E.mk1 s.nx w.heap.size 0) hle (Env.mk1_same _ _ _ _)
      have hA := Aft.new (w' := w.alloc obj) hs rfl rfl rfl rfl h3
      exact hK _ ⟨s.t, s.d, _, _, s.pc⟩ _ v u a.defers hA rfl h4 (DRs_mono hA.le _ _ hd) hg
    · split at hg
      · rename_i c x y hc
        obtain ⟨uc, h1, h2⟩ := pick_run (w := w) hc ho
        obtain ⟨b, pc', rfl, hpc, hg'⟩ := withB_sound hs.pc h1 hg
        obtain ⟨u, h3, h4⟩ := h2 b rfl
        show Oper.upon P _ a K Q ((execOp a.eval o).run P w)
        rw [h3]
        exact hK E ⟨s.t, s.d, s.h, s.nx, pc'⟩ w _ u a.defers (.withPc hs hpc) rfl h4 hd hg'
      · rename_i size x i hc
        obtain ⟨t, e, y, x', i', hop, ht, hy, hsz, h1, h2⟩ := inv_index hc
        obtain ⟨ie, hie, _, hse, _, _⟩ := tyI_some hy
        rw [hop] at ho
        have hxv := ho x' (by simp [Op.operands]) x h1
        have hiv := ho i' (by simp [Op.operands]) i h2
        split at hg
        · rename_i b off n hq
          rw [hq] at hxv
          simp only [VR] at hxv
          obtain ⟨bb, kk, hb, hxv, h0, hk⟩ := hxv
          split at hg
          · rename_i j hj
            obtain ⟨ik, hiv⟩ := natOf_some hj hiv
            have hbv : VR E (.sbool (.cmp .lt (.lit (.ofNat j)) n)) (.bool (decide ((j : Int) < n.den E.ρ))) := by
              simp only [VR, SB.den, cmpI, SI.den]; rfl
            obtain ⟨b', pc', he, hpc, hg'⟩ := withB_sound hs.pc hbv hg
            cases he
            cases hlt : decide ((j : Int) < n.den E.ρ) with
            | false => rw [hlt] at hg'; exact hg'.elim
            | true =>
              rw [hlt] at hg'
              simp only [decide_eq_true_eq] at hlt
              show Oper.upon P _ a K Q ((execOp a.eval o).run P w)
              have hrun : (execOp a.eval o).run P w = .ok (.value (.pointer (some ⟨bb, off + j * size, none⟩))) w := by
                have hb2 : (0 : Int) ≤ (j : Int) ∧ (j : Int) < ((n.den E.ρ).toNat : Int) := by omega
                have hdo : ∀ u, (Instr.indexAt t (a.eval x') (a.eval i')).run P w = .ok u w → (execOp a.eval o).run P w = .ok (.value u) w := fun u hu => by
                  have : execOp a.eval o = (do pure (Next.value (← Instr.indexAt t (a.eval x') (a.eval i')))) := by simp only [execOp, hop]
                  rw [this]; exact vrun hu
                refine hdo _ ?_
                rw [hxv, hiv]
                simp only [Instr.indexAt, asIntOf, Sem.run_bind, Sem.run_pure, Result.andThen_ok, run_underlying ht]
                rw [if_pos hb2]
                simp [run_size hie, hse, hsz, addr_add]
              rw [hrun]
              refine hK E ⟨s.t, s.d, s.h, s.nx, pc'⟩ w _ _ a.defers (.withPc hs hpc) rfl ?_ hd hg'
              simp only [VR, nadd, nmul]
              exact ⟨bb, hb, rfl⟩
          · exact hg.elim
        · exact hg.elim
      · exact evE_sound hcall ho hs hd hg hK
end Ct
