/- One operation, and rows of them. -/
import Derived.Test.YtpcppjbjmdolnaaGreatDoorCtQ
namespace Ct
open Go
variable {P : Program} {α : Type}

/-- The slots. -/
def TRel (E : Env) (t : Tr AV) (a : Act) : Prop := ∀ i, VR E (evA t (.tmp i)) (a.eval (.tmp i))

theorem TRel.mono {E F : Env} {t : Tr AV} {a : Act} (h : TRel E t a) (le : E.le F) : TRel F t a := fun i => VR_mono le _ _ (h i)

theorem TRel.put {E : Env} {t : Tr AV} {a : Act} (h : TRel E t a) (dst : Option Nat) {v : AV} {u : Value} (hv : VR E v u) (hd : ∀ d, dst = some d → d < a.tmps.size) : TRel E (Ct.put t dst v) (a.put dst u) := by
  intro i
  cases dst with
  | none => exact h i
  | some d =>
    have hlt := hd d rfl
    have hi := h i
    simp only [evA, Ct.put, Act.eval, Act.put, Tr.get_set] at hi ⊢
    by_cases e : i = d
    · subst e
      simp [hlt]; exact hv
    · rw [if_neg e]
      have e1 : (a.tmps.setIfInBounds d u).getD i undef = a.tmps.getD i undef := by
        simp [Array.getElem?_setIfInBounds_ne (Ne.symm e)]
      rw [e1]; exact hi

theorem TRel.ops {E : Env} {t : Tr AV} {a : Act} (h : TRel E t a) (hg : ∀ g, g < gN → E.m g = some g) (l : List Operand) : OpsR E t a l := by
  intro x _ y hy
  cases x with
  | tmp i => simp only [compO, Option.some.injEq] at hy; subst hy; exact h i
  | const v => exact compO_const hy t
  | global g =>
    simp only [compO] at hy
    split at hy
    · rename_i hlt
      cases hy
      simp only [evA, Act.eval, VR]
      exact ⟨g, hg g (nblt.1 hlt), rfl⟩
    · cases hy
  | func f => simp only [compO, Option.some.injEq] at hy; subst hy; simp only [evA, Act.eval, VR]; exact ⟨#[], rfl, VRs_nil⟩

/-- All that is said of a state. -/
structure ST (U : Nat → Prop) (E : Env) (s : St) (a : Act) (w : World) (N : Nat) : Prop where
  tr : TRel E s.t a
  sz : N ≤ a.tmps.size
  sr : SR U E s.h s.nx s.pc w
  dr : DRs E s.d a.defers

theorem put_size (a : Act) (dst : Option Tmp) (v : Value) : (a.put dst v).tmps.size = a.tmps.size := by cases dst <;> simp [Act.put]

theorem ST.next {U : Nat → Prop} {E E' : Env} {s s' : St} {a : Act} {w w' : World} {N : Nat} (h : ST U E s a w N) (hA : Aft U E s.nx w E' s'.h s'.nx s'.pc w') (ht : s'.t = s.t) {v : AV} {u : Value} {ds : List Deferred}
    (hv : VR E' v u) (hd : DRs E' s'.d ds) (dst : Option Nat) (hdst : ∀ d, dst = some d → d < N) : ST U E' ⟨Ct.put s'.t dst v, s'.d, s'.h, s'.nx, s'.pc⟩ (({ a with defers := ds } : Act).put dst u) w' N := by
  refine ⟨?_, by rw [put_size]; exact h.sz, hA.sr, ?_⟩
  · rw [ht]
    have h1 : TRel E' s.t ({ a with defers := ds } : Act) := by
      have := h.tr.mono hA.le
      intro i; exact this i
    exact h1.put dst hv fun d hd => Nat.lt_of_lt_of_le (hdst d hd) h.sz
  · cases dst <;> exact hd

/-! ## Branches -/
theorem pcFind_mem : ∀ {pc : List (SB × Bool)} {c : SB} {b : Bool}, pcFind c pc = some b → (c, b) ∈ pc
  | [], _, _, h => by simp [pcFind] at h
  | (e, b') :: pc, c, b, h => by
    simp only [pcFind] at h
    split at h
    · rename_i he
      simp only [decide_eq_true_eq] at he
      subst he; cases h; simp
    · exact List.mem_cons_of_mem _ (pcFind_mem h)

def PcOK (ρ : Nat → Int) (β : Nat → Bool) (pc : List (SB × Bool)) : Prop := ∀ c b, (c, b) ∈ pc → c.den ρ β = b

section
variable {ρ : Nat → Int} {β : Nat → Bool} {pc : List (SB × Bool)}
theorem PcOK.find (h : PcOK ρ β pc) {c : SB} {b : Bool} (hf : pcFind c pc = some b) : c.den ρ β = b := h c b (pcFind_mem hf)
theorem PcOK.cons (h : PcOK ρ β pc) {c : SB} {b : Bool} (hc : c.den ρ β = b) : PcOK ρ β ((c, b) :: pc) := by
  intro e x hm
  rcases List.mem_cons.1 hm with he | hm
  · cases he; exact hc
  · exact h e x hm

theorem decLt_sound {a b : SI} {x : Bool} (h : decLt a b = some x) : decide (a.den ρ < b.den ρ) = x := by
  unfold decLt at h
  split at h
  · rename_i he
    simp only [decide_eq_true_eq] at he
    subst he
    cases h; simp
  · split at h
    · cases h
    · rename_i l hh ha
      split at h
      · cases h
      · rename_i l' hh' hb
        obtain ⟨g1, g2⟩ := rng_sound ρ a ha
        obtain ⟨g3, g4⟩ := rng_sound ρ b hb
        split at h
        · rename_i hc
          rw [ilt_eq] at hc
          simp only [decide_eq_true_eq] at hc
          cases h
          simp only [decide_eq_true_eq]; omega
        · split at h
          · rename_i hc
            rw [ible_eq] at hc
            simp only [decide_eq_true_eq] at hc
            cases h
            simp only [decide_eq_false_iff_not]; omega
          · cases h
theorem decEq_sound {a b : SI} {x : Bool} (h : decEq a b = some x) : (a.den ρ == b.den ρ) = x := by
  unfold decEq at h
  split at h
  · rename_i he
    simp only [decide_eq_true_eq] at he
    subst he
    cases h; simp
  · split at h
    · rename_i hl
      have := decLt_sound (ρ := ρ) hl
      simp only [decide_eq_true_eq] at this
      cases h
      simp only [beq_eq_false_iff_ne]; omega
    · split at h
      · rename_i hl
        have := decLt_sound (ρ := ρ) hl
        simp only [decide_eq_true_eq] at this
        cases h
        simp only [beq_eq_false_iff_ne]; omega
      · cases h
theorem eqPc_sound (hpc : PcOK ρ β pc) {a b : SI} {x : Bool} (h : eqPc pc a b = some x) : (a.den ρ == b.den ρ) = x := by
  unfold eqPc at h
  split at h
  · rename_i y hy
    cases h
    exact hpc.find hy
  · have := hpc.find h
    simp only [SB.den, cmpI] at this
    rw [← this]
    exact Bool.eq_iff_iff.2 ⟨fun h => by simp only [beq_iff_eq] at h ⊢; exact h.symm, fun h => by simp only [beq_iff_eq] at h ⊢; exact h.symm⟩
theorem ltPc_sound (hpc : PcOK ρ β pc) {a b : SI} {x : Bool} (h : ltPc pc a b = some x) : decide (a.den ρ < b.den ρ) = x := by
  unfold ltPc at h
  split at h
  · rename_i y hy
    cases h; exact decLt_sound hy
  · split at h
    · rename_i y hy
      cases h; exact hpc.find hy
    · split at h
      · rename_i he
        have := eqPc_sound hpc he
        simp only [beq_iff_eq] at this
        cases h
        simp only [decide_eq_false_iff_not]; omega
      · rename_i e hne
        split at h
        · rename_i hf
          have h9 : decide (b.den ρ < a.den ρ) = true := hpc.find hf
          simp only [decide_eq_true_eq] at h9
          cases h
          simp only [decide_eq_false_iff_not]; omega
        · rename_i hf
          have h9 : decide (b.den ρ < a.den ρ) = false := hpc.find hf
          simp only [decide_eq_false_iff_not] at h9
          split at h
          · rename_i hee
            have := eqPc_sound hpc hee
            simp only [beq_eq_false_iff_ne] at this
            cases h
            simp only [decide_eq_true_eq]; omega
          · cases h
        · cases h
theorem eqPc2_sound (hpc : PcOK ρ β pc) {a b : SI} {x : Bool} (h : eqPc2 pc a b = some x) : (a.den ρ == b.den ρ) = x := by
  unfold eqPc2 at h
  split at h
  · rename_i y hy
    cases h; exact decEq_sound hy
  · split at h
    · rename_i y hy
      cases h; exact eqPc_sound hpc hy
    · split at h
      · rename_i hf
        have h9 : decide (a.den ρ < b.den ρ) = true := hpc.find hf
        simp only [decide_eq_true_eq] at h9
        cases h
        simp only [beq_eq_false_iff_ne]; omega
      · rename_i e hne
        split at h
        · rename_i hf
          have h9 : decide (b.den ρ < a.den ρ) = true := hpc.find hf
          simp only [decide_eq_true_eq] at h9
          cases h
          simp only [beq_eq_false_iff_ne]; omega
        · rename_i hf
          have h9 : decide (b.den ρ < a.den ρ) = false := hpc.find hf
          simp only [decide_eq_false_iff_not] at h9
          split at h
          · rename_i hee
            have h8 : decide (a.den ρ < b.den ρ) = false := hpc.find hee
            simp only [decide_eq_false_iff_not] at h8
            cases h
            simp only [beq_iff_eq]; omega
          · cases h
        · cases h

theorem brB_can {Φ : α → Prop} {c : SB} {o : Option Bool} {k : Bool → List (SB × Bool) → R α} (hpc : PcOK ρ β pc) (ho : ∀ x, o = some x → c.den ρ β = x) (hg : Good ρ β Φ (brB pc c o k)) :
    ∃ pc', PcOK ρ β pc' ∧ Good ρ β Φ (k (c.den ρ β) pc') := by
  unfold brB at hg
  split at hg
  · rename_i b
    rw [ho b rfl]
    exact ⟨pc, hpc, hg⟩
  · rw [pcTk_eq] at hg
    obtain ⟨h1, h2⟩ := hg
    have hpc' : PcOK ρ β (pc.take 15) := fun x y hxy => hpc x y (List.mem_of_mem_take hxy)
    cases hc : c.den ρ β with
    | true => exact ⟨_, hpc'.cons hc, h1 hc⟩
    | false => exact ⟨_, hpc'.cons hc, h2 hc⟩

theorem withSB_can {Φ : α → Prop} : ∀ {c : SB} {pc : List (SB × Bool)} {k : Bool → List (SB × Bool) → R α}, PcOK ρ β pc → Good ρ β Φ (withSB c pc k) → ∃ pc', PcOK ρ β pc' ∧ Good ρ β Φ (k (c.den ρ β) pc')
  | .lit b, pc, k, hpc, hg => ⟨pc, hpc, hg⟩
  | .var i, pc, k, hpc, hg => brB_can hpc (fun x hx => hpc.find hx) hg
  | .not c, pc, k, hpc, hg => by
    obtain ⟨pc', h1, h2⟩ := withSB_can (c := c) hpc hg
    exact ⟨pc', h1, h2⟩
  | .and a b, pc, k, hpc, hg => by
    obtain ⟨pc', h1, h2⟩ := withSB_can (c := a) hpc hg
    simp only [SB.den]
    cases ha : a.den ρ β with
    | true =>
      rw [ha] at h2
      obtain ⟨pc2, h3, h4⟩ := withSB_can (c := b) h1 h2
      exact ⟨pc2, h3, h4⟩
    | false =>
      rw [ha] at h2
      exact ⟨pc', h1, h2⟩
  | .iff a b, pc, k, hpc, hg => by
    obtain ⟨pc', h1, h2⟩ := withSB_can (c := a) hpc hg
    obtain ⟨pc2, h3, h4⟩ := withSB_can (c := b) h1 h2
    refine ⟨pc2, h3, ?_⟩
    simp only [SB.den]
    cases ha : a.den ρ β <;> rw [ha] at h4 <;> cases hb : b.den ρ β <;> rw [hb] at h4 <;> exact h4
  | .cmp c a b, pc, k, hpc, hg => by
    have flip : ∀ {x y : Int}, (!decide (x < y)) = decide (y ≤ x) := fun {x y} => by
      rw [Bool.eq_iff_iff]; simp only [Bool.not_eq_true', decide_eq_false_iff_not, decide_eq_true_eq]; omega
    cases c with
    | lt => exact brB_can hpc (fun x hx => ltPc_sound hpc hx) hg
    | gt => exact brB_can (c := .cmp .lt b a) hpc (fun x hx => ltPc_sound hpc hx) hg
    | le =>
      obtain ⟨pc', h1, h2⟩ := brB_can (c := .cmp .lt b a) hpc (fun x hx => ltPc_sound hpc hx) hg
      refine ⟨pc', h1, ?_⟩
      have e : (SB.cmp .le a b).den ρ β = Bool.not ((SB.cmp .lt b a).den ρ β) := by
        simp only [SB.den, cmpI]; exact flip.symm
      rw [e]; exact h2
    | ge =>
      obtain ⟨pc', h1, h2⟩ := brB_can (c := .cmp .lt a b) hpc (fun x hx => ltPc_sound hpc hx) hg
      refine ⟨pc', h1, ?_⟩
      have e : (SB.cmp .ge a b).den ρ β = Bool.not ((SB.cmp .lt a b).den ρ β) := by
        simp only [SB.den, cmpI]; exact flip.symm
      rw [e]; exact h2
    | eq => exact brB_can hpc (fun x hx => eqPc2_sound hpc hx) hg
    | ne =>
      obtain ⟨pc', h1, h2⟩ := brB_can (c := .cmp .eq a b) hpc (fun x hx => eqPc2_sound hpc hx) hg
      exact ⟨pc', h1, h2⟩
end

theorem withB_sound {Φ : α → Prop} {E : Env} {pc : List (SB × Bool)} {v : AV} {u : Value} {k : Bool → List (SB × Bool) → R α} (hpc : ∀ c b, (c, b) ∈ pc → c.den E.ρ E.β = b) (hv : VR E v u)
    (hg : Good E.ρ E.β Φ (withB pc v k)) : ∃ b pc', u = .bool b ∧ (∀ c b, (c, b) ∈ pc' → c.den E.ρ E.β = b) ∧ Good E.ρ E.β Φ (k b pc') := by
  unfold withB at hg
  split at hg
  · rename_i b
    simp only [VR] at hv
    exact ⟨b, pc, hv, hpc, hg⟩
  · rename_i c
    simp only [VR] at hv
    obtain ⟨pc', h1, h2⟩ := withSB_can hpc hg
    exact ⟨_, pc', hv, h1, h2⟩
  · exact hg.elim

/-! ## What 'pick' and 'indexSl' come from -/
theorem inv_pick {o : Oper} {c x y : AOp} (h : compI P o = .pick c x y) : ∃ c' x' y', o.op = .pick c' x' y' ∧ compO c' = some c ∧ compO x' = some x ∧ compO y' = some y := by
  obtain ⟨dst, op, ty, pos, after, guard⟩ := o
  cases op with
  | pick c' x' y' =>
    simp only [compI] at h
    rcases c3_cases c' x' y' .pick with ⟨c2, x2, y2, h1, h2, h3, e⟩ | ⟨n, e⟩
    · rw [e] at h; cases h; exact ⟨c', x', y', rfl, h1, h2, h3⟩
    · rw [e] at h; cases h
  | next x b => cases b <;> (simp only [compI] at h; rcases c1_cases x _ with ⟨x', hx, e⟩ | ⟨n, e⟩ <;> (rw [e] at h; cases h))
  | makeMap t r => cases r <;> (simp only [compI] at h; cases h)
  | makeFunc fn first caps =>
    cases fn with
    | func f =>
      simp only [compI] at h
      split at h
      · rcases cs_cases caps.toList (.mkFunc f []) with ⟨x', hx, e⟩ | ⟨n, e⟩ <;> (rw [e] at h; cases h)
      · cases h
    | _ => simp only [compI] at h; cases h
  | call c =>
    obtain ⟨callee, args, argTypes⟩ := c
    cases callee with
    | value f =>
      cases f <;> simp only [compI] at h <;> first
        | (rcases cs_cases args.toList _ with ⟨x', hx, e⟩ | ⟨n, e⟩ <;> (rw [e] at h; cases h; done))
        | (split at h
           · rcases cs_cases args.toList _ with ⟨x', hx, e⟩ | ⟨n, e⟩ <;> (rw [e] at h; cases h)
           · cases h)
    | invoke r m => simp only [compI] at h; cases h
    | builtin b =>
      cases b with
      | append | copy | delete | recover | println | len | max | min =>
        simp only [compI] at h
        repeat' (split at h)
        all_goals first
          | (cases h; done)
          | (rcases c1_cases _ _ with ⟨x', hx, e⟩ | ⟨n, e⟩ <;> (rw [e] at h; cases h; done))
          | (rcases c2_cases _ _ _ with ⟨x', y', hx, hy, e⟩ | ⟨n, e⟩ <;> (rw [e] at h; cases h; done))
      | _ => simp only [compI] at h; cases h
  | defer c =>
    obtain ⟨callee, args, argTypes⟩ := c
    cases callee with
    | value f =>
      simp only [compI] at h
      split at h
      · rcases cs_cases args.toList _ with ⟨x', hx, e⟩ | ⟨n, e⟩ <;> (rw [e] at h; cases h)
      · cases h
    | _ => simp only [compI] at h; cases h
  | move | assign | alloc | box | build | buildSlice | insert | mapUpdate | load | store | nilCheck | binOp | unOp | convert | makeInterface | makeSlice | slice | fieldAddr | field | indexAddr | index | lookup | mapEntry | entryStore | range | typeAssert | entry | extract | panic =>
    simp only [compI] at h
    repeat' (split at h)
    all_goals first
      | (cases h; done)
      | (rcases c1_cases _ _ with ⟨x', hx, e⟩ | ⟨n, e⟩ <;> (rw [e] at h; cases h; done))
      | (rcases c2_cases _ _ _ with ⟨x', y', hx, hy, e⟩ | ⟨n, e⟩ <;> (rw [e] at h; cases h; done))
      | (rcases c3_cases _ _ _ _ with ⟨x', y', z', hx, hy, hz, e⟩ | ⟨n, e⟩ <;> (rw [e] at h; cases h; done))
  | _ => simp only [compI] at h; cases h

theorem inv_bin {o : Oper} {bo : BinOp} {ek : EqK} {x y : AOp} (h : compI P o = .bin bo ek x y) : ∃ t x' y' yt, o.op = .binOp bo t x' y' yt ∧ compO x' = some x ∧ compO y' = some y := by
  obtain ⟨dst, op, ty, pos, after, guard⟩ := o
  cases op with
  | binOp b t x' y' yt =>
    simp only [compI] at h
    rcases c2_cases x' y' (.bin b (eqT P t)) with ⟨x2, y2, h1, h2, e⟩ | ⟨n, e⟩
    · rw [e] at h; cases h; exact ⟨t, x', y', yt, rfl, h1, h2⟩
    · rw [e] at h; cases h
  | next x b => cases b <;> (simp only [compI] at h; rcases c1_cases x _ with ⟨x', hx, e⟩ | ⟨n, e⟩ <;> (rw [e] at h; cases h))
  | makeMap t r => cases r <;> (simp only [compI] at h; cases h)
  | makeFunc fn first caps =>
    cases fn with
    | func f =>
      simp only [compI] at h
      split at h
      · rcases cs_cases caps.toList (.mkFunc f []) with ⟨x', hx, e⟩ | ⟨n, e⟩ <;> (rw [e] at h; cases h)
      · cases h
    | _ => simp only [compI] at h; cases h
  | call c =>
    obtain ⟨callee, args, argTypes⟩ := c
    cases callee with
    | value f =>
      cases f <;> simp only [compI] at h <;> first
        | (rcases cs_cases args.toList _ with ⟨x', hx, e⟩ | ⟨n, e⟩ <;> (rw [e] at h; cases h; done))
        | (split at h
           · rcases cs_cases args.toList _ with ⟨x', hx, e⟩ | ⟨n, e⟩ <;> (rw [e] at h; cases h)
           · cases h)
    | invoke r m => simp only [compI] at h; cases h
    | builtin b =>
      cases b with
      | append | copy | delete | recover | println | len | max | min =>
        simp only [compI] at h
        repeat' (split at h)
        all_goals first
          | (cases h; done)
          | (rcases c1_cases _ _ with ⟨x', hx, e⟩ | ⟨n, e⟩ <;> (rw [e] at h; cases h; done))
          | (rcases c2_cases _ _ _ with ⟨x', y', hx, hy, e⟩ | ⟨n, e⟩ <;> (rw [e] at h; cases h; done))
      | _ => simp only [compI] at h; cases h
  | defer c =>
    obtain ⟨callee, args, argTypes⟩ := c
    cases callee with
    | value f =>
      simp only [compI] at h
      split at h
      · rcases cs_cases args.toList _ with ⟨x', hx, e⟩ | ⟨n, e⟩ <;> (rw [e] at h; cases h)
      · cases h
    | _ => simp only [compI] at h; cases h
  | move | assign | alloc | box | build | buildSlice | insert | mapUpdate | load | store | nilCheck | pick | unOp | convert | makeInterface | makeSlice | slice | fieldAddr | field | indexAddr | index | lookup | mapEntry | entryStore | range | typeAssert | entry | extract | panic =>
    simp only [compI] at h
    repeat' (split at h)
    all_goals first
      | (cases h; done)
      | (rcases c1_cases _ _ with ⟨x', hx, e⟩ | ⟨n, e⟩ <;> (rw [e] at h; cases h; done))
      | (rcases c2_cases _ _ _ with ⟨x', y', hx, hy, e⟩ | ⟨n, e⟩ <;> (rw [e] at h; cases h; done))
      | (rcases c3_cases _ _ _ _ with ⟨x', y', z', hx, hy, hz, e⟩ | ⟨n, e⟩ <;> (rw [e] at h; cases h; done))
  | _ => simp only [compI] at h; cases h

theorem inv_index {o : Oper} {size : Nat} {x i : AOp} (h : compI P o = .indexSl size x i) : ∃ t e y x' i', o.op = .indexAddr t x' i' ∧ P.underlying t = some (.slice e) ∧ tyI P e = some y ∧ y.size = size ∧ compO x' = some x ∧ compO i' = some i := by
  obtain ⟨dst, op, ty, pos, after, guard⟩ := o
  cases op with
  | indexAddr t x' i' =>
    simp only [compI] at h
    split at h
    · rename_i e ht
      split at h
      · rename_i y hy
        rcases c2_cases x' i' (.indexSl y.size) with ⟨x2, y2, h1, h2, e1⟩ | ⟨n, e1⟩
        · rw [e1] at h; cases h; exact ⟨t, e, y, x', i', rfl, ht, hy, rfl, h1, h2⟩
        · rw [e1] at h; cases h
      · cases h
    · split at h
      · rcases c2_cases x' i' (.indexArrAddr _ _) with ⟨x2, y2, h1, h2, e1⟩ | ⟨n, e1⟩ <;> (rw [e1] at h; cases h)
      · cases h
    · cases h
  | next x b => cases b <;> (simp only [compI] at h; rcases c1_cases x _ with ⟨x', hx, e⟩ | ⟨n, e⟩ <;> (rw [e] at h; cases h))
  | makeMap t r => cases r <;> (simp only [compI] at h; cases h)
  | makeFunc fn first caps =>
    cases fn with
    | func f =>
      simp only [compI] at h
      split at h
      · rcases cs_cases caps.toList (.mkFunc f []) with ⟨x', hx, e⟩ | ⟨n, e⟩ <;> (rw [e] at h; cases h)
      · cases h
    | _ => simp only [compI] at h; cases h
  | call c =>
    obtain ⟨callee, args, argTypes⟩ := c
    cases callee with
    | value f =>
      cases f <;> simp only [compI] at h <;> first
        | (rcases cs_cases args.toList _ with ⟨x', hx, e⟩ | ⟨n, e⟩ <;> (rw [e] at h; cases h; done))
        | (split at h
           · rcases cs_cases args.toList _ with ⟨x', hx, e⟩ | ⟨n, e⟩ <;> (rw [e] at h; cases h)
           · cases h)
    | invoke r m => simp only [compI] at h; cases h
    | builtin b =>
      cases b with
      | append | copy | delete | recover | println | len | max | min =>
        simp only [compI] at h
        repeat' (split at h)
        all_goals first
          | (cases h; done)
          | (rcases c1_cases _ _ with ⟨x', hx, e⟩ | ⟨n, e⟩ <;> (rw [e] at h; cases h; done))
          | (rcases c2_cases _ _ _ with ⟨x', y', hx, hy, e⟩ | ⟨n, e⟩ <;> (rw [e] at h; cases h; done))
      | _ => simp only [compI] at h; cases h
  | defer c =>
    obtain ⟨callee, args, argTypes⟩ := c
    cases callee with
    | value f =>
      simp only [compI] at h
      split at h
      · rcases cs_cases args.toList _ with ⟨x', hx, e⟩ | ⟨n, e⟩ <;> (rw [e] at h; cases h)
      · cases h
    | _ => simp only [compI] at h; cases h
  | move | assign | pick | alloc | box | build | buildSlice | insert | mapUpdate | load | store | nilCheck | binOp | unOp | convert | makeInterface | makeSlice | slice | fieldAddr | field | index | lookup | mapEntry | entryStore | range | typeAssert | entry | extract | panic =>
    simp only [compI] at h
    repeat' (split at h)
    all_goals first
      | (cases h; done)
      | (rcases c1_cases _ _ with ⟨x', hx, e⟩ | ⟨n, e⟩ <;> (rw [e] at h; cases h; done))
      | (rcases c2_cases _ _ _ with ⟨x', y', hx, hy, e⟩ | ⟨n, e⟩ <;> (rw [e] at h; cases h; done))
      | (rcases c3_cases _ _ _ _ with ⟨x', y', z', hx, hy, hz, e⟩ | ⟨n, e⟩ <;> (rw [e] at h; cases h; done))
  | _ => simp only [compI] at h; cases h

theorem pick_run {E : Env} {T : Tr AV} {a : Act} {w : World} {o : Oper} {c x y : AOp} (hc : compI P o = .pick c x y) (ho : OpsR E T a o.op.operands.toList) :
    ∃ uc, VR E (evA T c) uc ∧ ∀ b, uc = .bool b → ∃ u, (execOp a.eval o).run P w = .ok (.value u) w ∧ VR E (match b with | true => evA T x | false => evA T y) u := by
  obtain ⟨c', x', y', hop, h1, h2, h3⟩ := inv_pick hc
  rw [hop] at ho
  refine ⟨a.eval c', ho c' (by simp [Op.operands]) c h1, fun b hb => ?_⟩
  refine ⟨if b then a.eval x' else a.eval y', ?_, ?_⟩
  · simp [execOp, hop, hb, asBool]
  · cases b
    · exact ho y' (by simp [Op.operands]) y h3
    · exact ho x' (by simp [Op.operands]) x h2

theorem evO_sound {C : Cfg} {ih : Rec α} {Φ : α → Prop} (hcall : CallOK P C ih Φ) {U : Nat → Prop} {E : Env} {w : World} {a : Act} {o : Oper} {s : St} {k : AV → St → R α} {K : Act → World → Prop} {Q : Exit → Act → World → Prop}
    (ho : OpsR E s.t a o.op.operands.toList) (hs : SR U E s.h s.nx s.pc w) (hd : DRs E s.d a.defers) (hg : Good E.ρ E.β Φ (evO C ih (compI P o) s k))
    (hK : ∀ E' s' w' v u ds, Aft U E s.nx w E' s'.h s'.nx s'.pc w' → s'.t = s.t → VR E' v u → DRs E' s'.d ds → Good E.ρ E.β Φ (k v s') → K (({ a with defers := ds } : Act).put o.dst u) w') : o.wp P a w K Q := by
  unfold evO at hg
  split at hg
  · rename_i v hv
    obtain ⟨u, h1, h2⟩ := evPR_sound ho hs.hr hv
    show Oper.upon P _ a K Q ((execOp a.eval o).run P w)
    rw [h1]
    exact hK E s w v u a.defers (.same hs) rfl h2 hd hg
  · split at hg
    · rename_i ob v hv
      obtain ⟨obj, u, h1, h2⟩ := evNew_sound (w := w) ho hv
      show Oper.upon P _ a K Q ((execOp a.eval o).run P w)
      rw [h1]
      have hle := Env.le_mk1 (E := E) (hs.fresh s.nx (Nat.le_refl _)).1 w.heap.size 0
      obtain ⟨h3, h4⟩ := h2 (E.mk1 s.nx w.heap.size 0) hle (Env.mk1_same _ _ _ _)
      have hA := Aft.new (w' := w.alloc obj) hs rfl rfl rfl rfl h3
      exact hK _ ⟨s.t, s.d, _, _, s.pc⟩ _ v u a.defers hA rfl h4 (DRs_mono hA.le _ _ hd) hg
    · split at hg
      · rename_i c x y hc
        obtain ⟨uc, h1, h2⟩ := pick_run (w := w) hc ho
        obtain ⟨b, pc', rfl, hpc, hg'⟩ := withB_sound hs.pc h1 hg
        obtain ⟨u, h3, h4⟩ := h2 b rfl
        show Oper.upon P _ a K Q ((execOp a.eval o).run P w)
        rw [h3]
        exact hK E ⟨s.t, s.d, s.h, s.nx, pc'⟩ w _ u a.defers (.withPc hs hpc) rfl h4 hd hg'
      · rename_i size x i hc
        obtain ⟨t, e, y, x', i', hop, ht, hy, hsz, h1, h2⟩ := inv_index hc
        obtain ⟨ie, hie, _, hse, _, _⟩ := tyI_some hy
        rw [hop] at ho
        have hxv := ho x' (by simp [Op.operands]) x h1
        have hiv := ho i' (by simp [Op.operands]) i h2
        split at hg
        · rename_i b off n hq
          rw [hq] at hxv
          simp only [VR] at hxv
          obtain ⟨bb, kk, hb, hxv, h0, hk⟩ := hxv
          split at hg
          · rename_i j hj
            obtain ⟨ik, hiv⟩ := natOf_some hj hiv
            have hbv : VR E (.sbool (.cmp .lt (.lit (.ofNat j)) n)) (.bool (decide ((j : Int) < n.den E.ρ))) := by
              simp only [VR, SB.den, cmpI, SI.den]; rfl
            obtain ⟨b', pc', he, hpc, hg'⟩ := withB_sound hs.pc hbv hg
            cases he
            cases hlt : decide ((j : Int) < n.den E.ρ) with
            | false => rw [hlt] at hg'; exact hg'.elim
            | true =>
              rw [hlt] at hg'
              simp only [decide_eq_true_eq] at hlt
              show Oper.upon P _ a K Q ((execOp a.eval o).run P w)
              have hrun : (execOp a.eval o).run P w = .ok (.value (.pointer (some ⟨bb, off + j * size, none⟩))) w := by
                have hb2 : (0 : Int) ≤ (j : Int) ∧ (j : Int) < ((n.den E.ρ).toNat : Int) := by omega
                have hdo : ∀ u, (Instr.indexAt t (a.eval x') (a.eval i')).run P w = .ok u w → (execOp a.eval o).run P w = .ok (.value u) w := fun u hu => by
                  have : execOp a.eval o = (do pure (Next.value (← Instr.indexAt t (a.eval x') (a.eval i')))) := by simp only [execOp, hop]
                  rw [this]; exact vrun hu
                refine hdo _ ?_
                rw [hxv, hiv]
                simp only [Instr.indexAt, asIntOf, Sem.run_bind, Sem.run_pure, Result.andThen_ok, run_underlying ht]
                rw [if_pos hb2]
                simp [run_size hie, hse, hsz, addr_add]
              rw [hrun]
              refine hK E ⟨s.t, s.d, s.h, s.nx, pc'⟩ w _ _ a.defers (.withPc hs hpc) rfl ?_ hd hg'
              simp only [VR, nadd, nmul]
              exact ⟨bb, hb, rfl⟩
          · exact hg.elim
        · exact hg.elim
      · rename_i bo ek x y hc
        obtain ⟨t, x', y', yt, hop, h1, h2⟩ := inv_bin hc
        rw [hop] at ho
        have hxv := ho x' (by simp [Op.operands]) x h1
        have hyv := ho y' (by simp [Op.operands]) y h2
        split at hg
        · rename_i kd ea hx
          split at hg
          · rename_i j eb hy
            split at hg
            · rename_i hk
              have hkj := ikBeq_eq hk
              subst hkj
              split at hg
              · rename_i xo hxo
                have hbv : VR E (.sbool (.cmp .eq eb (.lit 0))) (.bool (eb.den E.ρ == 0)) := by
                  simp only [VR, SB.den, cmpI, SI.den]
                obtain ⟨b', pc', he, hpc, hg'⟩ := withB_sound hs.pc hbv hg
                cases he
                cases hz : (eb.den E.ρ == 0) with
                | true => rw [hz] at hg'; exact hg'.elim
                | false =>
                  rw [hz] at hg'
                  have hnz : eb.den E.ρ ≠ 0 := by simpa using hz
                  have hxo' : (bo = .quo ∧ xo = .quo) ∨ (bo = .rem ∧ xo = .rem) := by
                    split at hxo
                    · cases hxo; exact .inl ⟨rfl, rfl⟩
                    · cases hxo; exact .inr ⟨rfl, rfl⟩
                    · cases hxo
                  have e1 := siOf_conc (E := E) hx
                  have e2 := siOf_conc (E := E) hy
                  have r1 := concS_rel hxv
                  have r2 := concS_rel hyv
                  rw [e1] at r1
                  rw [e2] at r2
                  simp only [VR] at r1 r2
                  show Oper.upon P _ a K Q ((execOp a.eval o).run P w)
                  have hrun : (execOp a.eval o).run P w = .ok (.value (.int kd (xo.den kd (ea.den E.ρ) (eb.den E.ρ)))) w := by
                    have : execOp a.eval o = (do pure (Next.value (← (do eqGuard bo t x' y' (a.eval x') (a.eval y'); Go.binOp bo t (a.eval x') (a.eval y') : Sem Value)))) := by simp only [execOp, hop]
                    rw [this]
                    refine vrun ?_
                    rw [r1, r2, guard_int]
                    exact div_sound t hnz hxo'
                  rw [hrun]
                  refine hK E ⟨s.t, s.d, s.h, s.nx, pc'⟩ w _ _ a.defers (.withPc hs hpc) rfl ?_ hd hg'
                  simp only [VR, SI.den]
              · exact hg.elim
            · exact hg.elim
          · exact hg.elim
        · exact hg.elim
      · exact evE_sound hcall ho hs hd hg hK
end Ct
