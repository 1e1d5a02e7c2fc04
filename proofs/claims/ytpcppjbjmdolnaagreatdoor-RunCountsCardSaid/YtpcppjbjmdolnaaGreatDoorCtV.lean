/- Regions that draw: the invariant. -/
import Derived.Test.YtpcppjbjmdolnaaGreatDoorCtUc
namespace Ct
open Go
variable {P : Program} {α : Type} {ops : Array Oper}

/-- How a condition stands. -/
def CB (E : Env) (v : AV) (b : Bool) : Prop := v = .bool b ∨ ∃ e, v = .sbool e ∧ e.den E.ρ E.β = b
theorem CB.mono {E F : Env} (le : E.le F) {v : AV} {b : Bool} (h : CB E v b) : CB F v b := by
  rcases h with h | ⟨e, h1, h2⟩
  · exact .inl h
  · exact .inr ⟨e, h1, by rw [le.ρ, le.β]; exact h2⟩
theorem CB.val {E : Env} {v : AV} {b : Bool} (h : CB E v b) {u : Value} (hv : VR E v u) : u = .bool b := by
  rcases h with rfl | ⟨e, rfl, rfl⟩ <;> (simp only [VR] at hv; exact hv)

theorem withB_can {Φ : α → Prop} {E : Env} {pc : List (SB × Bool)} {v : AV} {k : Bool → List (SB × Bool) → R α} (hpc : ∀ c b, (c, b) ∈ pc → c.den E.ρ E.β = b) (hg : Good E.ρ E.β Φ (withB pc v k)) :
    ∃ b pc', CB E v b ∧ (∀ c b, (c, b) ∈ pc' → c.den E.ρ E.β = b) ∧ Good E.ρ E.β Φ (k b pc') := by
  unfold withB at hg
  split at hg
  · rename_i b; exact ⟨b, pc, .inl rfl, hpc, hg⟩
  · rename_i c
    obtain ⟨pc', h1, h2⟩ := withSB_can hpc hg
    exact ⟨_, pc', .inr ⟨c, rfl, rfl⟩, h1, h2⟩
  · exact hg.elim

/-- How a guard stands. -/
def Gd (E : Env) (T : Tr AV) (g : Option (Nat × Bool)) (b : Bool) : Prop :=
  (g = none ∧ b = true) ∨ ∃ d want, g = some (d, want) ∧ ((∃ c, CB E (evA T (.tmp d)) c ∧ b = (c == want)) ∨ (T.get d = some (.tup []) ∧ b = false))
theorem Gd.mono {E F : Env} (le : E.le F) {T : Tr AV} {g : Option (Nat × Bool)} {b : Bool} (h : Gd E T g b) : Gd F T g b := by
  rcases h with h | ⟨d, want, h1, ⟨c, h2, h3⟩ | h2⟩
  · exact .inl h
  · exact .inr ⟨d, want, h1, .inl ⟨c, h2.mono le, h3⟩⟩
  · exact .inr ⟨d, want, h1, .inr h2⟩

theorem guarded_can {Φ : α → Prop} {E : Env} {s : St} {g : Option (Nat × Bool)} {yes no : St → R α} (hpc : ∀ c b, (c, b) ∈ s.pc → c.den E.ρ E.β = b) (hg : Good E.ρ E.β Φ (guarded g s yes no)) :
    ∃ pc' b, Gd E s.t g b ∧ (∀ c b, (c, b) ∈ pc' → c.den E.ρ E.β = b) ∧ Good E.ρ E.β Φ (match b with | true => yes ⟨s.t, s.d, s.h, s.nx, pc'⟩ | false => no ⟨s.t, s.d, s.h, s.nx, pc'⟩) := by
  unfold guarded at hg
  split at hg
  · exact ⟨s.pc, true, .inl ⟨rfl, rfl⟩, hpc, hg⟩
  · rename_i d want
    split at hg
    · rename_i b hb
      have hcb : CB E (evA s.t (.tmp d)) b := .inl (by simp [evA, hb])
      refine ⟨s.pc, b == want, .inr ⟨d, want, rfl, .inl ⟨b, hcb, rfl⟩⟩, hpc, ?_⟩
      exact hg
    · rename_i c hb
      obtain ⟨b, pc', h1, h2, h3⟩ := withB_can hpc hg
      have hcb : CB E (evA s.t (.tmp d)) b := by simp only [evA, hb]; exact h1
      refine ⟨pc', b == want, .inr ⟨d, want, rfl, .inl ⟨b, hcb, rfl⟩⟩, h2, ?_⟩
      exact h3
    · rename_i hb
      exact ⟨s.pc, false, .inr ⟨d, want, rfl, .inr ⟨hb, rfl⟩⟩, hpc, hg⟩
    · exact hg.elim

/-- How the operation was turned: not into 'bad'. -/
def Turned (P : Program) (ops : Array Oper) (o : Oper) : Prop :=
  (compOper P ops o).op = compI P o ∧ ((o.guard = none ∧ (compOper P ops o).guard = none) ∨ ∃ j want d, o.guard = some (j, want) ∧ (ops[j]?).bind (·.dst) = some d ∧ (compOper P ops o).guard = some (d, want))

/-- The slots that an operation looks at. -/
def LooksR (E : Env) (T : Tr AV) (a : Act) (ops : Array Oper) (o : Oper) : Prop := ∀ x ∈ o.looksAt ops, VR E (evA T (.tmp x)) (a.eval (.tmp x))

theorem LooksR.rel {E : Env} {T : Tr AV} {a : Act} {o : Oper} (h : LooksR E T a ops o) (hg : ∀ g, g < gN → E.m g = some g) : OpsR E T a o.op.operands.toList := by
  intro x hx y hy
  cases x with
  | tmp i =>
    simp only [compO, Option.some.injEq] at hy; subst hy
    exact h i (List.mem_append_left _ (List.mem_filterMap.2 ⟨.tmp i, hx, rfl⟩))
  | const v => exact compO_const hy T
  | global g =>
    simp only [compO] at hy
    split at hy
    · rename_i hlt
      cases hy
      simp only [evA, Act.eval, VR]
      exact ⟨g, hg g (nblt.1 hlt), rfl⟩
    · cases hy
  | func f => simp only [compO, Option.some.injEq] at hy; subst hy; simp only [evA, Act.eval, VR]; exact ⟨#[], rfl, VRs_nil⟩

/-- The guard, told by the model. -/
theorem Gd.wanted {E : Env} {T : Tr AV} {a : Act} {o : Oper} {b : Bool} (ht : Turned P ops o) (hl : LooksR E T a ops o) (h : Gd E T (compOper P ops o).guard b) : Region.wanted o (yielded ops a.tmps) = b := by
  rcases ht.2 with ⟨h1, h2⟩ | ⟨j, want, d, h1, h2, h3⟩
  · rw [h2] at h
    rcases h with ⟨_, rfl⟩ | ⟨_, _, h, _⟩
    · simp [Region.wanted, h1]
    · cases h
  · rw [h3] at h
    have hv := hl d (List.mem_append_right _ (by simp [h1, h2]))
    have hw : Region.wanted o (yielded ops a.tmps) = ((match (a.tmps[d]? : Option Value) with | some (.bool b) => some b | _ => none) == some want) := by
      simp only [Region.wanted, h1, yielded, h2, Option.bind_some]
      rfl
    rcases h with ⟨h, _⟩ | ⟨d', want', he, h⟩
    · cases h
    · cases he
      rcases h with ⟨c, hc, rfl⟩ | ⟨hc, rfl⟩
      · have := hc.val hv
        simp only [Act.eval] at this
        cases ht : a.tmps[d]? with
        | none => simp [ht, undef] at this
        | some u =>
          simp [ht] at this
          rw [hw, ht, this]
          cases c <;> cases want <;> rfl
      · simp only [evA, hc, VR] at hv
        obtain ⟨cs, hcs, _⟩ := hv
        simp only [Act.eval] at hcs
        rw [hw]
        cases ht : a.tmps[d]? with
        | none => rfl
        | some u => simp [ht] at hcs; rw [hcs]; rfl

/-- Nothing hidden is written by it. -/
def NoW (hid : List Hid) (m : Nat) : Prop := ∀ e ∈ hid, ∀ x ∈ e.2.2.2, x.1 ≠ m
/-- Nothing is made by it. -/
def NoM (pend : List (Nat × Nat × AO)) (hid : List Hid) (m : Nat) : Prop := (∀ q ∈ pend, q.1 ≠ m) ∧ ∀ e ∈ hid, e.1 ≠ some m
/-- What is made, and where: in sight, or hidden. -/
def Held (pend : List (Nat × Nat × AO)) (hid : List Hid) (m id : Nat) (ob : AO) : Prop := (m, id, ob) ∈ pend ∨ ∃ ws, (some m, id, ob, ws) ∈ hid

/-- What an operation that is due will give: 'HP' is the heap in sight, with all that is made laid in. -/
inductive Prom (P : Program) (ops : Array Oper) (E : Env) (HP : Tr AO) (past : Past) (pend : List (Nat × Nat × AO)) (seen : List Seen) (hid : List Hid) (m c : Nat) (o : Oper) (T : Tr AV) (v : AV) : Prop
  | off (hw : NoW hid m) (hno : NoM pend hid m) (hg : Gd E T (compOper P ops o).guard false) (hv : v = AV.undef)
  | read (hw : NoW hid m) (hno : NoM pend hid m) (hc : c = 0) (hg : Gd E T (compOper P ops o).guard true) (hs : (m, (compOper P ops o).op, T, v) ∈ seen) (H0 : Tr AO)
      (hsub : ∀ i o, H0.get i = some o → HP.get i = some o ∨ ∃ e ∈ hid, e.2.1 = i ∧ e.2.2.1 = o ∧ ∀ x ∈ e.2.2.2, ∃ q ∈ past, q.1 = x.1 ∧ q.2.2.testBit m = true) (he : evPR T H0 (compI P o) = some v)
  | pick (hw : NoW hid m) (hno : NoM pend hid m) (hg : Gd E T (compOper P ops o).guard true) (ca x y : AOp) (b : Bool) (hc : compI P o = .pick ca x y) (hv : v = match b with | true => evA T x | false => evA T y) (hb : CB E (evA T ca) b)
  | mk (hw : NoW hid m) (hg : Gd E T (compOper P ops o).guard true) (id : Nat) (ob : AO) (he : evNew T id (compI P o) = some (ob, v)) (hp : Held pend hid m id ob) (hn : E.m id = none) (hu : ∀ q ∈ pend, q.1 = m → q.2.1 = id) (hu' : ∀ e ∈ hid, e.1 = some m → e.2.1 = id)
  | wr (hno : NoM pend hid m) (hg : Gd E T (compOper P ops o).guard true) (hv : v = AV.undef) (e : Hid) (he : e ∈ hid) (x : HW) (hx : (m, x) ∈ e.2.2.2) (hop : WrOp (compI P o) T e.2.1 x) (hu : ∀ e2 ∈ hid, ∀ y ∈ e2.2.2.2, y.1 = m → e2 = e)

/-- What the slots that it looks at hold. -/
def RecT (ops : Array Oper) (past : Past) (T0 St : Tr AV) (m : Nat) (o : Oper) (T : Tr AV) : Prop :=
  ∀ x ∈ o.looksAt ops, (∃ q ∈ past, ∃ oq, ops[q.1]? = some oq ∧ oq.dst = some x ∧ q.1 ∈ depsL o ∧ T.get x = St.get x) ∨
    ((∀ q ∈ past, ∀ oq, ops[q.1]? = some oq → oq.dst = some x → q.1 = m ∨ q.2.2.testBit m = true) ∧ T.get x = T0.get x)

/-- What is made, what is hidden, what is in sight. -/
structure MemOK (listed : Array Bool) (E : Env) (past : Past) (h : Tr AO) (nx0 nx : Nat) (pend : List (Nat × Nat × AO)) (hid : List Hid) : Prop where
  ap : Apart pend
  pn : ∀ p ∈ pend, nx0 ≤ p.2.1 ∧ p.2.1 < nx ∧ h.get p.2.1 = none
  pmk : ∀ p ∈ pend, (∃ q ∈ past, q.1 = p.1) ∧ (Li listed p.1 → ∃ b, E.m p.2.1 = some b)
  pl : ∀ i o, h.get i = some o → ∃ b, E.m i = some b
  ah : ApartH hid
  out : ∀ e ∈ hid, e.2.1 < nx ∧ (lay pend h).get e.2.1 = none
  hmk : ∀ e ∈ hid, ∀ m, e.1 = some m → nx0 ≤ e.2.1 ∧ (∃ q ∈ past, q.1 = m) ∧ (Li listed m → ∃ b, E.m e.2.1 = some b)
  hpl : ∀ e ∈ hid, e.1 = none → ∃ b, E.m e.2.1 = some b
  ws : ∀ e ∈ hid, (e.2.2.2.map (·.1)).Nodup ∧ ∀ x ∈ e.2.2.2, ∃ q ∈ past, q.1 = x.1 ∧ ∀ m, e.1 = some m → q.2.2.testBit m = true
  sh : ∀ e ∈ hid, Shape e

theorem MemOK.sub {listed : Array Bool} {E : Env} {past : Past} {h : Tr AO} {nx0 nx : Nat} {pend : List (Nat × Nat × AO)} {hid : List Hid} (M : MemOK listed E past h nx0 nx pend hid) {i : Nat} {o : AO} (hi : (lay pend h).get i = some o) : (tot listed hid pend h).get i = some o :=
  tot_sub (fun e he => (M.out e he).2) hi

structure Inv (P : Program) (C : Cfg) (ih : Rec α) (Φ : α → Prop) (k : St → R α) (ops : Array Oper) (N : Nat) (U : Nat → Prop) (E0 : Env) (nx0 : Nat) (w0 : World) (T0 : Tr AV)
    (listed : Array Bool) (a : Act) (w : World) (E : Env) (s : St) (past : Past) (pend : List (Nat × Nat × AO)) (seen : List Seen) (hid : List Hid) (rest : List DOp) (lastE : Option Nat) : Prop where
  lsz : listed.size = ops.size
  closed : Closed ops (Li listed)
  pa : PastOK ops past
  okg : okG ops rest past lastE = true
  restO : ∀ d ∈ rest, ∀ o, ops[d.mark]? = some o → d.o = compOper P ops o ∧ (d.cls = clsOf d.o.op ∨ (d.cls = 3 ∧ freeW d.o.op = true))
  cover : ∀ i, i < ops.size → (∃ p ∈ past, p.1 = i) ∨ ∃ d ∈ rest, d.mark = i
  unl : ∀ d ∈ rest, ¬ Li listed d.mark
  ck : ∀ (i : Nat) (o : Oper) (d : Nat), ops[i]? = some o → o.dst = some d → d < N
  pastO : ∀ p ∈ past, ∃ o, ops[p.1]? = some o ∧ (∀ j ∈ depsL o, ∃ q ∈ past, q.1 = j) ∧
    (Li listed p.1 ∨ (Turned P ops o ∧ p.2.1 ≠ 2 ∧ ∃ T v, RecT ops past T0 s.t p.1 o T ∧ (∀ x, o.dst = some x → s.t.get x = some v) ∧ Prom P ops E (lay pend s.h) past pend seen hid p.1 p.2.1 o T v))
  uniq : ∀ p ∈ past, ∀ q ∈ past, ∀ (op oq : Oper) (x : Nat), ops[p.1]? = some op → ops[q.1]? = some oq → op.dst = some x → oq.dst = some x → p.1 = q.1
  rt : ∀ x, (∃ p ∈ past, ∃ o : Oper, ops[p.1]? = some o ∧ Li listed p.1 ∧ o.dst = some x ∧ VR E (evA s.t (.tmp x)) (a.eval (.tmp x))) ∨
    ((∀ p ∈ past, ∀ o : Oper, ops[p.1]? = some o → o.dst = some x → ¬ Li listed p.1) ∧ VR E (evA T0 (.tmp x)) (a.eval (.tmp x)))
  ct : ∀ x, (∀ p ∈ past, ∀ o : Oper, ops[p.1]? = some o → o.dst ≠ some x) → s.t.get x = T0.get x
  sr : WSR U E (tot listed hid pend s.h) s.nx s.pc w
  mem : MemOK listed E past s.h nx0 s.nx pend hid
  pd : PD ops past
  dr : DRs E s.d a.defers
  le : E0.le E
  old : ∀ i, i < nx0 → E.m i = E0.m i
  wr : WR U w0 w
  nx : nx0 ≤ s.nx
  sz : N ≤ a.tmps.size
  good : Good E.ρ E.β Φ (evD C ih rest s pend seen hid k)

section
variable {C : Cfg} {ih : Rec α} {Φ : α → Prop} {k : St → R α} {N : Nat} {U : Nat → Prop} {E0 : Env} {nx0 : Nat} {w0 : World} {T0 : Tr AV}
  {listed : Array Bool} {a : Act} {w : World} {E : Env} {s : St} {past : Past} {pend : List (Nat × Nat × AO)} {seen : List Seen} {hid : List Hid} {rest : List DOp} {lastE : Option Nat}

theorem Inv.looks (I : Inv P C ih Φ k ops N U E0 nx0 w0 T0 listed a w E s past pend seen hid rest lastE) {m : Nat} {o : Oper} {T : Tr AV} (hun : ¬ Li listed m) (hdl : ∀ j ∈ depsL o, Li listed j)
    (hr : RecT ops past T0 s.t m o T) : LooksR E T a ops o := by
  intro x hx
  rcases hr x hx with ⟨q, hq, oq, hoq, hdst, hqd, hT⟩ | ⟨hall, hT⟩
  · have hL := hdl _ hqd
    rcases I.rt x with ⟨_, _, _, _, _, _, hv⟩ | ⟨hno, _⟩
    · simp only [evA] at hv ⊢; rw [hT]; exact hv
    · exact absurd hL (hno q hq oq hoq hdst)
  · rcases I.rt x with ⟨q, hq, oq, hoq, hL, hdst, _⟩ | ⟨_, hv⟩
    · rcases hall q hq oq hoq hdst with e | e
      · exact absurd (e ▸ hL) hun
      · exact absurd (I.pa q hq _ I.closed hL _ e) hun
    · simp only [evA] at hv ⊢; rw [hT]; exact hv

theorem Li_set {i : Nat} (hi : i < listed.size) (j : Nat) : Li (listed.setIfInBounds i true) j ↔ j = i ∨ Li listed j := by
  unfold Li
  by_cases e : i = j
  · subst e
    simp [hi]
  · rw [getD_set_ne false e]
    constructor
    · exact .inr
    · rintro (h | h)
      · exact absurd h.symm e
      · exact h

theorem okG_rest_ne {ds : List DOp} : ∀ {past : Past} {lastE : Option Nat}, okG ops ds past lastE = true → ∀ p ∈ past, ∀ d ∈ ds, d.mark ≠ p.1 := by
  induction ds with
  | nil => intro _ _ _ p _ d hd; cases hd
  | cons d' ds ihd =>
    intro past lastE h p hp d hd
    obtain ⟨o', _, h1, _, _, _, _, h6⟩ := okG_cons h
    rcases List.mem_cons.1 hd with rfl | hd
    · exact (h1 p hp).symm
    · exact ihd h6 p (List.mem_cons_of_mem _ hp) d hd

/-- One that was due is listed. -/
theorem Inv.list (I : Inv P C ih Φ k ops N U E0 nx0 w0 T0 listed a w E s past pend seen hid rest lastE) {p : Nat × Nat × Nat} {o : Oper} {v : AV} {u : Value} {ds : List Deferred} {E' : Env} {w' : World} (hp : p ∈ past) (ho : ops[p.1]? = some o)
    (hdl : ∀ j ∈ depsL o, Li listed j) (hv : ∀ x, o.dst = some x → s.t.get x = some v) (hu : VR E' v u) (_ : ¬ Li listed p.1) (hds : DRs E' s.d ds)
    (hle : E.le E') (hold : ∀ i, i < nx0 → E'.m i = E.m i) (hsr : WSR U E' (tot (listed.setIfInBounds p.1 true) hid pend s.h) s.nx s.pc w') (hwr : WR U w w')
    (hmk : ∀ m id ob, m ≠ p.1 → Held pend hid m id ob → E.m id = none → E'.m id = none) (hpl : ∀ q ∈ pend, q.1 = p.1 → ∃ b, E'.m q.2.1 = some b) (hpl' : ∀ e ∈ hid, e.1 = some p.1 → ∃ b, E'.m e.2.1 = some b) :
    Inv P C ih Φ k ops N U E0 nx0 w0 T0 (listed.setIfInBounds p.1 true) (({ a with defers := ds } : Act).put o.dst u) w' E' s past pend seen hid rest lastE := by
  have hlt : p.1 < listed.size := by rw [I.lsz]; exact (Array.getElem?_eq_some_iff.1 ho).1
  have hL := fun j => Li_set (listed := listed) hlt j
  refine ⟨by simp [I.lsz], ?_, I.pa, I.okg, I.restO, I.cover, ?_, I.ck, ?_, I.uniq, ?_, I.ct, hsr, ?_, I.pd, ?_, I.le.trans hle, fun i hi => (hold i hi).trans (I.old i hi), I.wr.trans hwr, I.nx, by rw [put_size]; exact I.sz, I.good.env hle⟩
  · intro i o' ho' hi j hj
    rw [hL] at hi ⊢
    rcases hi with rfl | hi
    · rw [ho] at ho'; cases ho'; exact .inr (hdl j hj)
    · exact .inr (I.closed i o' ho' hi j hj)
  · intro d hd hl
    rw [hL] at hl
    rcases hl with e | hl
    · exact okG_rest_ne I.okg p hp d hd e
    · exact I.unl d hd hl
  · intro q hq
    obtain ⟨oq, hoq, hdq, hcase⟩ := I.pastO q hq
    refine ⟨oq, hoq, hdq, ?_⟩
    rw [hL]
    rcases hcase with hl | ⟨ht, hc, T, v', h1, h2, h3⟩
    · exact .inl (.inr hl)
    · by_cases e : q.1 = p.1
      · exact .inl (.inl e)
      · refine .inr ⟨ht, hc, T, v', h1, h2, ?_⟩
        cases h3 with
        | off hw hno hg hv => exact .off hw hno (hg.mono hle) hv
        | read hw hno hc hg hs H0 hsub he => exact .read hw hno hc (hg.mono hle) hs H0 hsub he
        | pick hw hno hg ca x y b hc hv hb => exact .pick hw hno (hg.mono hle) ca x y b hc hv (hb.mono hle)
        | mk hw hg id ob he hpm hn hu hu' => exact .mk hw (hg.mono hle) id ob he hpm (hmk _ _ _ e hpm hn) hu hu'
        | wr hno hg hv e he x hx hop hu => exact .wr hno (hg.mono hle) hv e he x hx hop hu
  · intro x
    by_cases hx : o.dst = some x
    · refine .inl ⟨p, hp, o, ho, (hL p.1).2 (.inl rfl), hx, ?_⟩
      have hxl : x < a.tmps.size := Nat.lt_of_lt_of_le (I.ck p.1 o x ho hx) I.sz
      simp only [evA, hv x hx, hx, Act.eval, Act.put]
      simp [hxl]; exact hu
    · have hev : (({ a with defers := ds } : Act).put o.dst u).eval (.tmp x) = a.eval (.tmp x) := by
        rw [Act.eval_put (fun d hd e => hx (by rw [hd]; cases e; rfl))]; rfl
      rw [hev]
      rcases I.rt x with ⟨q, hq, oq, hoq, hl, hdst, hv'⟩ | ⟨hno, hv'⟩
      · exact .inl ⟨q, hq, oq, hoq, (hL q.1).2 (.inr hl), hdst, VR_mono hle _ _ hv'⟩
      · refine .inr ⟨fun q hq oq hoq hdst hl => ?_, VR_mono hle _ _ hv'⟩
        rw [hL] at hl
        rcases hl with e | hl
        · rw [e, ho] at hoq; cases hoq; exact hx hdst
        · exact hno q hq oq hoq hdst hl
  · have M := I.mem
    refine ⟨M.ap, M.pn, fun q hq => ⟨(M.pmk q hq).1, fun hl => ?_⟩, fun i o hi => (let ⟨b, hb⟩ := M.pl i o hi; ⟨b, hle.m i b hb⟩), M.ah, M.out, fun e he m hm => ⟨(M.hmk e he m hm).1, (M.hmk e he m hm).2.1, fun hl => ?_⟩,
      fun e he hn => (let ⟨b, hb⟩ := M.hpl e he hn; ⟨b, hle.m _ b hb⟩), M.ws, M.sh⟩
    · rw [hL] at hl
      rcases hl with e | hl
      · exact hpl q hq e
      · obtain ⟨b, hb⟩ := (M.pmk q hq).2 hl
        exact ⟨b, hle.m _ b hb⟩
    · rw [hL] at hl
      rcases hl with e' | hl
      · exact hpl' e he (by rw [hm, e'])
      · obtain ⟨b, hb⟩ := (M.hmk e he m hm).2.2 hl
        exact ⟨b, hle.m _ b hb⟩
  · cases o.dst <;> exact hds

/-- What is made is made now. -/
theorem WSR.made {H : Tr AO} {nx : Nat} {pc : List (SB × Bool)} {id : Nat} {ob : AO} {obj : Obj} (h : WSR U E H nx pc w) (hi : H.get id = some ob) (hn : E.m id = none) (hr : OR (E.mk1 id w.heap.size 0) id ob obj) (hid : id < nx) :
    WSR U (E.mk1 id w.heap.size 0) H nx pc (w.alloc obj) := by
  have hle := Env.le_mk1 hn w.heap.size 0
  have hold : ∀ b, b < w.heap.size → (w.alloc obj).heap[b]? = w.heap[b]? := fun b hb => heap_alloc_old w obj hb
  refine ⟨⟨?_, ?_⟩, ?_, ?_, ?_, ?_, h.pc, ?_⟩
  · intro i o b hg hb
    by_cases e : i = id
    · subst e
      rw [Env.mk1_same] at hb; cases hb
      rw [hi] at hg; cases hg
      exact ⟨obj, heap_alloc_new w obj, hr⟩
    · rw [Env.mk1_other E _ _ e] at hb
      obtain ⟨x, hx, hor⟩ := h.hr.obj i o b hg hb
      exact ⟨x, by rw [hold b (h.known i b hb)]; exact hx, OR_mono hle hb hor⟩
  · intro i j o p b hgi hgj hbi hbj
    by_cases ei : i = id <;> by_cases ej : j = id
    · omega
    · subst ei
      rw [Env.mk1_same] at hbi; cases hbi
      rw [Env.mk1_other E _ _ ej] at hbj
      exact absurd (h.known j _ hbj) (Nat.lt_irrefl _)
    · subst ej
      rw [Env.mk1_same] at hbj; cases hbj
      rw [Env.mk1_other E _ _ ei] at hbi
      exact absurd (h.known i _ hbi) (Nat.lt_irrefl _)
    · rw [Env.mk1_other E _ _ ei] at hbi
      rw [Env.mk1_other E _ _ ej] at hbj
      exact h.hr.inj i j o p b hgi hgj hbi hbj
  · intro i o b hg hb
    by_cases e : i = id
    · subst e
      rw [Env.mk1_same] at hb; cases hb
      exact h.big _ (Nat.le_refl _)
    · rw [Env.mk1_other E _ _ e] at hb
      exact h.own i o b hg hb
  · intro i hge
    rw [Env.mk1_other E _ _ (by omega)]
    exact h.fresh i hge
  · intro b hb
    refine h.big b ?_
    have : (w.alloc obj).heap.size = w.heap.size + 1 := by simp
    omega
  · intro i b hb
    have hs : (w.alloc obj).heap.size = w.heap.size + 1 := by simp
    by_cases e : i = id
    · subst e
      rw [Env.mk1_same] at hb; cases hb; omega
    · rw [Env.mk1_other E _ _ e] at hb
      have := h.known i b hb; omega
  · intro g hg
    have e : g ≠ id := by rintro rfl; rw [(h.glob g hg).1] at hn; cases hn
    rw [Env.mk1_other E _ _ e]; exact h.glob g hg

theorem WR.alloc (h : ∀ b, w.heap.size ≤ b → U b) (obj : Obj) : WR U w (w.alloc obj) :=
  ⟨rfl, rfl, rfl, by simp, fun b hb => heap_alloc_old w obj (by
    rcases Nat.lt_or_ge b w.heap.size with h1 | h1
    · exact h1
    · exact absurd (h b h1) hb)⟩

/-- What stands ahead of one that is due, is listed. -/
theorem Inv.ahead (I : Inv P C ih Φ k ops N U E0 nx0 w0 T0 listed a w E s past pend seen hid rest lastE) {q : Nat × Nat × Nat} {o : Oper} (hq : q ∈ past) (ho : ops[q.1]? = some o) (hdl : ∀ j ∈ depsL o, Li listed j) {j : Nat} (hj : q.2.2.testBit j = true) (hne : j ≠ q.1) : Li listed j := by
  have hc : Closed ops (fun i => Li listed i ∨ i = q.1) := by
    intro i oi hoi hi l hl
    rcases hi with hi | rfl
    · exact .inl (I.closed i oi hoi hi l hl)
    · rw [ho] at hoi; cases hoi; exact .inl (hdl l hl)
  rcases I.pa q hq _ hc (.inr rfl) j hj with h | h
  · exact h
  · exact absurd h hne

/-- One that was due comes up. -/
theorem Inv.due (I : Inv P C ih Φ k ops N U E0 nx0 w0 T0 listed a w E s past pend seen hid rest lastE) {p : Nat × Nat × Nat} {o : Oper} (hp : p ∈ past) (ho : ops[p.1]? = some o) (hun : ¬ Li listed p.1)
    (hdl : ∀ j ∈ depsL o, Li listed j) {K : Act → World → Prop} {Q : Exit → Act → World → Prop}
    (hK : ∀ a' w' E', Inv P C ih Φ k ops N U E0 nx0 w0 T0 (listed.setIfInBounds p.1 true) a' w' E' s past pend seen hid rest lastE → K a' w') : wpOp P ops Q p.1 K a w := by
  obtain ⟨o', ho', _, hcase⟩ := I.pastO p hp
  rw [ho] at ho'; cases ho'
  rcases hcase with hl | ⟨ht, hc, T, v, hrec, hdst, hprom⟩
  · exact absurd hl hun
  · have hlooks := I.looks hun hdl hrec
    have hops := hlooks.rel I.sr.globm
    have M := I.mem
    have hlt : p.1 < listed.size := by rw [I.lsz]; exact (Array.getElem?_eq_some_iff.1 ho).1
    have quiet : ∀ {u : Value}, NoW hid p.1 → NoM pend hid p.1 → VR E v u → K (a.put o.dst u) w := by
      intro u hw hno hvu
      exact hK (a.put o.dst u) _ E (I.list (ds := a.defers) hp ho hdl hdst hvu hun I.dr (.refl E) (fun _ _ => rfl) (by rw [tot_set hw]; exact I.sr) (.refl U w) (fun _ _ _ _ _ h => h) (fun q hq e => absurd e (hno.1 q hq)) fun e he e' => absurd e' (hno.2 e he))
    unfold wpOp
    simp only [ho]
    cases hprom with
    | off hw hno hg hv =>
      rw [hg.wanted ht hlooks]
      simp only [Bool.false_eq_true, if_false]
      refine quiet hw hno ?_
      rw [hv]; exact VR_undef E
    | read hw hno hc0 hg hs H0 hsub he =>
      rw [hg.wanted ht hlooks]
      simp only [if_true]
      refine .inl ?_
      have hH0 : ∀ i o, H0.get i = some o → (tot listed hid pend s.h).get i = some o := by
        intro i o hi
        rcases hsub i o hi with h | ⟨e, he, rfl, rfl, hx⟩
        · exact M.sub h
        · rw [tot_hid M.ah he, filter_none fun x hxm hl => ?_]
          · rfl
          · obtain ⟨q, hq, e1, e2⟩ := hx x hxm
            exact hun (I.pa q hq _ I.closed (e1 ▸ hl) _ e2)
      obtain ⟨u, h1, h2⟩ := evPR_sound hops (I.sr.hr.sub hH0) he
      show Oper.upon P _ a K Q ((execOp a.eval o).run P w)
      rw [h1]
      exact quiet hw hno h2
    | pick hw hno hg ca x y b hcp hv hb =>
      rw [hg.wanted ht hlooks]
      simp only [if_true]
      refine .inl ?_
      obtain ⟨uc, h1, h2⟩ := pick_run (w := w) hcp hops
      obtain ⟨u, h3, h4⟩ := h2 b (hb.val h1)
      show Oper.upon P _ a K Q ((execOp a.eval o).run P w)
      rw [h3]
      refine quiet hw hno ?_
      rw [hv]; exact h4
    | mk hw hg id ob he hpm hn hu0 hu1 =>
      rw [hg.wanted ht hlooks]
      simp only [if_true]
      refine .inl ?_
      obtain ⟨obj, u, h1, h2⟩ := evNew_sound (w := w) hops he
      have hle := Env.le_mk1 hn w.heap.size 0
      obtain ⟨h3, h4⟩ := h2 (E.mk1 id w.heap.size 0) hle (Env.mk1_same _ _ _ _)
      show Oper.upon P _ a K Q ((execOp a.eval o).run P w)
      rw [h1]
      have hids : nx0 ≤ id ∧ id < s.nx ∧ (tot listed hid pend s.h).get id = some ob := by
        rcases hpm with hpm | ⟨ws, hpm⟩
        · have := M.pn _ hpm
          exact ⟨this.1, this.2.1, M.sub (lay_of M.ap hpm)⟩
        · refine ⟨(M.hmk _ hpm _ rfl).1, (M.out _ hpm).1, ?_⟩
          have := tot_hid (listed := listed) (pend := pend) (h := s.h) M.ah hpm
          simp only at this
          rw [this, filter_none fun x hxm hl => ?_]
          · rfl
          · obtain ⟨q, hq, e1, e2⟩ := (M.ws _ hpm).2 x hxm
            exact hun (I.pa q hq _ I.closed (e1 ▸ hl) _ (e2 _ rfl))
      have hsame : ∀ m' id' ob', Held pend hid m' id' ob' → id' = id → m' = p.1 := by
        rintro m' id' ob' (h | ⟨ws, h⟩) rfl <;> rcases hpm with h' | ⟨ws', h'⟩
        · have := M.ap _ h _ h' rfl; cases this; rfl
        · have h9 := (M.out _ h').2
          simp only at h9
          rw [lay_of M.ap h] at h9; cases h9
        · have h9 := (M.out _ h).2
          simp only at h9
          rw [lay_of M.ap h'] at h9; cases h9
        · have := M.ah _ h _ h' rfl; cases this; rfl
      refine hK (a.put o.dst u) _ (E.mk1 id w.heap.size 0) (I.list (ds := a.defers) hp ho hdl hdst h4 hun (DRs_mono hle _ _ I.dr) hle (fun i hi => Env.mk1_other E _ _ (by have := hids.1; omega)) (by rw [tot_set hw]; exact WSR.made I.sr hids.2.2 hn h3 hids.2.1) (WR.alloc I.sr.big obj)
        (fun m' id' ob' hne hh hqn => ?_) (fun q hq e => ⟨w.heap.size, by rw [hu0 q hq e]; exact Env.mk1_same _ _ _ _⟩) fun e he e' => ⟨w.heap.size, by rw [hu1 e he e']; exact Env.mk1_same _ _ _ _⟩)
      rw [Env.mk1_other E _ _ fun e => hne (hsame m' id' ob' hh e)]
      exact hqn
    | wr hno hg hv e he x hx hop hu =>
      rw [hg.wanted ht hlooks]
      simp only [if_true]
      refine .inl ?_
      obtain ⟨hnd, hws⟩ := M.ws e he
      have hb : ∃ b, E.m e.2.1 = some b := by
        cases hm : e.1 with
        | none => exact M.hpl e he hm
        | some mk =>
          obtain ⟨q, hq, e1, e2⟩ := hws _ hx
          simp only at e1
          exact (M.hmk e he mk hm).2.2 (I.ahead hq (by rw [e1]; exact ho) hdl (e2 mk hm) fun e3 => hno.2 e he (by rw [hm, e3, e1]))
      obtain ⟨b, hb⟩ := hb
      refine WSR.wrote I.sr M.ah he hnd (M.sh e he) hx hu hb hlt hun hops I.dr hop fun E' w' u ds g1 g2 g3 g4 g5 g6 => ?_
      refine hK _ _ E' (I.list hp ho hdl hdst (by rw [hv]; exact g5) hun g6 g1 (fun i hi => g2 i (Nat.lt_of_lt_of_le hi I.nx)) g3 g4 (fun m' id' ob' _ hh hn => ?_) (fun q hq e => absurd e (hno.1 q hq)) fun e he e' => absurd e' (hno.2 e he))
      rw [g2]
      · exact hn
      · rcases hh with h | ⟨ws', h⟩
        · exact (M.pn _ h).2.1
        · exact (M.out _ h).1
end
end Ct
