/- From an evaluation to a call: where it begins, what it leaves. -/
import Derived.Test.YtpcppjbjmdolnaaGreatDoorCtW
import Derived.Test.YtpcppjbjmdolnaaGreatDoorCtY
import Derived.ChangeSame
import Derived.RowKit3
namespace Ct
open Go Go.ChangeShapes Go.WideShapes
variable {P : Program}

theorem calls_of_ev {α : Type} {C : Cfg} (hC : Cok P C) {Φ : α → Prop} {n f : Nat} {args : List AV} {vs : Array Value} {h : Tr AO} {nx : Nat} {pc : List (SB × Bool)} {w : World} {U : Nat → Prop} {E : Env} {k : AV → Tr AO → Nat → List (SB × Bool) → R α}
    (hx : C.ext f = none) (hvr : VRs E args vs.toList) (hsr : SR U E h nx pc w) (hg : Good E.ρ E.β Φ (call C (ev C n) f args h nx pc k)) :
    Calls P f vs w fun e w' => ∃ v u E' h' nx' pc', e = .returned u ∧ Aft U E nx w E' h' nx' pc' w' ∧ VR E' v u ∧ Good E.ρ E.β Φ (k v h' nx' pc') := by
  obtain ⟨g, hgf⟩ : ∃ g, C.fn f = some g := by
    unfold call at hg
    rw [hx] at hg
    simp only at hg
    cases hf : C.fn f with
    | none => rw [hf] at hg; exact hg.elim
    | some g => exact ⟨g, rfl⟩
  obtain ⟨hcomp, hname⟩ := hC.fn f g hgf
  obtain ⟨fn, c, r, hf, hb, hr, hck, _⟩ := compF_some hcomp
  let o : Oper := { dst := none, op := .move (.tmp 0), type := 0, pos := "", after := #[], guard := none }
  let o1 : Oper := { o with dst := some 0 }
  let a : Act := { tmps := #[undef], defers := [] }
  have hcall := call_sound hC (Φ := Φ) n U E f args vs h nx pc w k o1 a
    (fun a' w' => ∃ v u E' h' nx' pc', a' = a.put (some 0) u ∧ Aft U E nx w E' h' nx' pc' w' ∧ VR E' v u ∧ Good E.ρ E.β Φ (k v h' nx' pc')) (fun _ _ _ => False) hvr hsr hg
    fun E' v u h' nx' pc' w' hA hv hg' => ⟨v, u, E', h', nx', pc', rfl, hA, hv, hg'⟩
  rw [run_callFunc hf hb (hname fn hf) vs w] at hcall
  have hcall' : Calls P f vs w _ := hcall
  refine hcall'.mono fun e w' he => ?_
  cases e with
  | returned u =>
    obtain ⟨v, u', E', h', nx', pc', h1, h2, h3, h4⟩ := he
    have : u = u' := by
      have h5 := congrArg (fun x : Act => x.tmps[0]?) h1
      simpa [a, o1, Act.put] using h5
    subst this
    exact ⟨v, u, E', h', nx', pc', rfl, h2, h3, h4⟩
  | panicked chain => exact he.elim
  | outgrown =>
    obtain ⟨_, _, hq⟩ := he
    exact hq.elim

/-! ## Tables of functions -/
def Tr.toL {α : Type} : Tr α → List (Nat × α)
  | .leaf => []
  | .node v l r => (match v with | some x => [(0, x)] | none => []) ++ ((l.toL.map fun p => (2 * p.1 + 1, p.2)) ++ (r.toL.map fun p => (2 * p.1 + 2, p.2)))
theorem Tr.toL_mem {α : Type} : ∀ {t : Tr α} {i : Nat} {x : α}, t.get i = some x → (i, x) ∈ t.toL
  | .leaf, i, x, h => by rw [Tr.get_leaf] at h; cases h
  | .node v l r, 0, x, h => by
    rw [Tr.get_zero] at h
    subst h
    simp [Tr.toL]
  | .node v l r, i + 1, x, h => by
    by_cases hi : i % 2 = 0
    · rw [Tr.get_even _ _ _ _ hi] at h
      have := Tr.toL_mem h
      simp only [Tr.toL, List.mem_append, List.mem_map]
      exact .inr (.inl ⟨_, this, by simp; omega⟩)
    · rw [Tr.get_odd _ _ _ _ hi] at h
      have := Tr.toL_mem h
      simp only [Tr.toL, List.mem_append, List.mem_map]
      exact .inr (.inr ⟨_, this, by simp; omega⟩)
inductive AllL (p : Nat → AFn → Prop) : List (Nat × AFn) → Prop
  | nil : AllL p []
  | cons {f : Nat} {g : AFn} {l : List (Nat × AFn)} (h : p f g) (t : AllL p l) : AllL p ((f, g) :: l)
theorem AllL.of_mem {p : Nat → AFn → Prop} {l : List (Nat × AFn)} (h : AllL p l) {f : Nat} {g : AFn} (hm : (f, g) ∈ l) : p f g := by
  induction h with
  | nil => cases hm
  | cons h _ ih =>
    rcases List.mem_cons.1 hm with e | hm
    · cases e; exact h
    · exact ih hm

/-! ## Where it begins -/
/-- Numbers of globals are their blocks'; one of them is known whole. -/
def env0 (ρ : Nat → Int) (β : Nat → Bool) (ty n : Nat) : Env := ⟨fun i => if i < gN then some i else none, fun _ => 0, ρ, β, fun _ => (ty, n)⟩
def heap0 (g n : Nat) (T : Tr AV) : Tr AO := Tr.leaf.set g (some (.cells n 0 1 T))

theorem heap0_get {g n : Nat} {T : Tr AV} {i : Nat} {o : AO} (h : (heap0 g n T).get i = some o) : i = g ∧ o = .cells n 0 1 T := by
  unfold heap0 at h
  rw [Tr.get_set] at h
  by_cases e : i = g
  · rw [if_pos e] at h; cases h; exact ⟨e, rfl⟩
  · rw [if_neg e, Tr.get_leaf] at h; cases h

theorem SR0 {w : World} {g n nx : Nat} {c : Array Value} {ty : TypeId} {T : Tr AV} {ρ : Nat → Int} {β : Nat → Bool} (hg : g < gN) (hw : w.heap[g]? = some (.cells c ty (0, 0))) (hn : c.size = n)
    (hT : ∀ j, j < n → ∃ a v, T.get j = some a ∧ c[j]? = some v ∧ VR (env0 ρ β ty n) a v ∧ oneA a = true) (hsz : gN ≤ w.heap.size) (hnx : gN ≤ nx) (hnt : n = tN) :
    SR (fun b => w.heap.size ≤ b ∨ b = g) (env0 ρ β ty n) (heap0 g n T) nx [] w := by
  have hm : ∀ i b, (env0 ρ β ty n).m i = some b → i < gN ∧ b = i := by
    intro i b h
    simp only [env0] at h
    split at h
    · rename_i hi; cases h; exact ⟨hi, rfl⟩
    · cases h
  refine ⟨⟨fun i o b hi hb => ?_, fun i j o p b hi hj _ _ => ?_⟩, fun i o b hi hb => ?_, fun i hi => ⟨?_, ?_⟩, fun b hb => .inl hb, fun i b hb => ?_, fun c b hc => (List.not_mem_nil hc).elim, fun i hi => ?_, fun i o hi => ?_⟩
  · obtain ⟨rfl, rfl⟩ := heap0_get hi
    obtain ⟨_, rfl⟩ := hm _ _ hb
    refine ⟨_, hw, c, ty, 0, 0, rfl, by omega, .inl (by omega), hT, fun h => absurd h (by omega), fun _ _ => ⟨by rw [hn]; rfl, rfl, rfl⟩⟩
  · rw [(heap0_get hi).1, (heap0_get hj).1]
  · obtain ⟨rfl, rfl⟩ := heap0_get hi
    exact .inr (hm _ _ hb).2
  · simp only [env0]
    rw [if_neg (by omega)]
  · cases h : (heap0 g n T).get i with
    | none => rfl
    | some o => have := (heap0_get h).1; omega
  · obtain ⟨h1, rfl⟩ := hm i b hb
    omega
  · exact ⟨by simp only [env0]; rw [if_pos hi], hnt⟩
  · obtain ⟨rfl, rfl⟩ := heap0_get hi
    exact ⟨i, by simp only [env0]; rw [if_pos hg]⟩

/-! ## What it leaves -/
/-- All that was there is as it was. -/
structure Kept (w w' : World) : Prop where
  os : w'.os = w.os
  output : w'.output = w.output
  size : w.heap.size ≤ w'.heap.size
  heap : ∀ b, b < w.heap.size → w'.heap[b]? = w.heap[b]?
  tape : w'.tape = w.tape

theorem Kept.frame {w w' : World} (h : Kept w w') (may : MemPlace → Prop) : w.keptBut w' may := by
  refine ⟨h.os, h.output, fun i hi => ?_⟩
  rw [h.heap i hi]
  cases w.heap[i]? with
  | none => rfl
  | some o =>
    cases o with
    | cells c t fr => exact ⟨rfl, rfl, rfl, fun _ _ => rfl⟩
    | map es clock => exact .inr ⟨rfl, rfl⟩
    | _ => rfl

theorem Kept.frozen {w w' : World} (h : Kept w w') (a : Addr) (ha : a.block < w.heap.size) : w'.frozen? a = w.frozen? a := by
  unfold World.frozen?
  rw [h.heap _ ha]

theorem kept_of {w w' : World} {g n nx nx' : Nat} {c : Array Value} {ty : TypeId} {T T' : Tr AV} {ρ : Nat → Int} {β : Nat → Bool} {E' : Env} {h' : Tr AO} {pc' : List (SB × Bool)} (hg : g < gN) (hw : w.heap[g]? = some (.cells c ty (0, 0))) (hn : c.size = n)
    (hA : Aft (fun b => w.heap.size ≤ b ∨ b = g) (env0 ρ β ty n) nx w E' h' nx' pc' w') (hh : h'.get g = some (.cells n 0 1 T'))
    (hT : ∀ j, j < n → ∃ k z, T.get j = some (.int k z) ∧ T'.get j = some (.int k z) ∧ c[j]? = some (.int k z)) : Kept w w' := by
  have hm : E'.m g = some g := hA.le.m g g (by simp only [env0]; rw [if_pos hg])
  obtain ⟨x, hx, c', ty', lo, hi, rfl, h1, _, h3, _, h5⟩ := hA.sr.hr.obj g _ g hh hm
  obtain ⟨h6, rfl, rfl⟩ := h5 rfl (by omega)
  rw [hA.le.ty] at h6
  simp only [env0, Prod.mk.injEq] at h6
  obtain ⟨rfl, h7⟩ := h6
  have hcc : c' = c := by
    apply Array.ext (by omega)
    intro j hj1 hj2
    obtain ⟨k, z, _, g2, g3⟩ := hT j (by omega)
    obtain ⟨a, v, g4, g5, g6, _⟩ := h3 j (by omega)
    rw [g2] at g4; cases g4
    simp only [VR] at g6
    subst g6
    rw [Array.getElem?_eq_getElem hj1] at g5
    rw [Array.getElem?_eq_getElem hj2] at g3
    rw [← g3] at g5
    exact Option.some.inj g5
  subst hcc
  refine ⟨hA.wr.os, hA.wr.output, hA.wr.size, fun b hb => ?_, hA.wr.tape⟩
  by_cases e : b = g
  · subst e; rw [hx, hw]
  · exact hA.wr.keep b (by rintro (h | h); omega; exact e h)

/-! ## A law's run -/
/-- What a run ends with: the answer, and what the known global holds then. -/
noncomputable def fin (g n : Nat) (v : AV) (h : Tr AO) (_ : Nat) (_ : List (SB × Bool)) : R AV :=
  getF (pathOf g) h (fun o => onCells o (fun m a b t => getAllF n 0 t (fun l => .done (.tup [v, .agg l, .int .i64 (.ofNat m), .int .i64 (.ofNat a), .int .i64 (.ofNat b)])) (.fail 99)) (.fail 98)) (.fail 97)

/-- True, as far as numbers are known. -/
def okV (ρ : Nat → Int) (β : Nat → Bool) (v : AV) : Prop := v = .bool true ∨ ∃ e, v = .sbool e ∧ e.den ρ β = true
def Fin (SP : List AV) (ρ : Nat → Int) (β : Nat → Bool) (x : AV) : Prop := ∃ v, x = .tup [v, .agg SP, .int .i64 (.ofNat SP.length), .int .i64 (.ofNat 0), .int .i64 (.ofNat 1)] ∧ okV ρ β v

theorem fin_spec {SP : List AV} {g : Nat} {v : AV} {h : Tr AO} {nx : Nat} {pc : List (SB × Bool)} {ρ ρ' : Nat → Int} {β β' : Nat → Bool} (hg : Good ρ β (Fin SP ρ' β') (fin g SP.length v h nx pc)) :
    okV ρ' β' v ∧ ∃ T, h.get g = some (.cells SP.length 0 1 T) ∧ ∀ j, j < SP.length → T.get j = SP[j]? := by
  simp only [fin, getF_eq] at hg
  cases hh : h.get g with
  | none => rw [hh] at hg; exact hg.elim
  | some o =>
    rw [hh] at hg
    simp only [onSome_some] at hg
    cases o with
    | cells m a b t =>
      simp only [onCells, getAllF_eq] at hg
      cases hl : t.getAll 0 SP.length with
      | none => rw [hl] at hg; exact hg.elim
      | some l =>
        rw [hl] at hg
        obtain ⟨v', h1, h2⟩ := hg
        simp only [AV.tup.injEq, List.cons.injEq, AV.agg.injEq, AV.int.injEq, Int.ofNat_eq_natCast, Int.natCast_inj, and_true, true_and] at h1
        obtain ⟨rfl, rfl, rfl, h3, h4⟩ := h1
        have h3' : a = 0 := by simpa using h3
        have h4' : b = 1 := by simpa using h4
        subst h3' h4'
        obtain ⟨_, h5⟩ := Tr.getAll_some _ _ _ _ hl
        exact ⟨h2, t, rfl, fun j hj => by have := h5 j hj; rwa [Nat.zero_add] at this⟩
    | _ => exact hg.elim

theorem law_of_run {C : Cfg} (hC : Cok P C) {n f g nx : Nat} {args : List AV} {vs : Array Value} {w : World} {SP : List AV} {c : Array Value} {ty : TypeId} {ρ : Nat → Int} {β : Nat → Bool} (hx : C.ext f = none) (hg : g < gN) (hnx : gN ≤ nx)
    (hsz : gN ≤ w.heap.size) (hnt : SP.length = tN) (hw : w.heap[g]? = some (.cells c ty (0, 0))) (hn : c.size = SP.length) (hSP : ∀ j, j < SP.length → ∃ k z, SP[j]? = some (.int k z) ∧ c[j]? = some (.int k z))
    (hvr : VRs (env0 ρ β ty SP.length) args vs.toList) (hrun : Good ρ β (Fin SP ρ β) (call C (ev C n) f args (heap0 g SP.length (Tr.setAll .leaf 0 SP)) nx [] (fin g SP.length))) :
    Calls P f vs w fun e w' => e = .returned (.bool true) ∧ Kept w w' := by
  have hT : ∀ j, j < SP.length → (Tr.setAll .leaf 0 SP : Tr AV).get j = SP[j]? := fun j hj => by
    rw [Tr.get_setAll, if_pos ⟨by omega, by omega⟩, Nat.sub_zero]
  have hs : SR (fun b => w.heap.size ≤ b ∨ b = g) (env0 ρ β ty SP.length) (heap0 g SP.length (Tr.setAll .leaf 0 SP)) nx [] w := by
    refine SR0 hg hw hn (fun j hj => ?_) hsz hnx hnt
    obtain ⟨k, z, h1, h2⟩ := hSP j hj
    exact ⟨.int k z, .int k z, by rw [hT j hj, h1], h2, by simp only [VR], rfl⟩
  refine (calls_of_ev hC hx hvr hs hrun).mono fun e w' he => ?_
  obtain ⟨v, u, E', h', nx', pc', rfl, hA, hv, hgd⟩ := he
  obtain ⟨h1, T, h2, h3⟩ := fin_spec hgd
  refine ⟨?_, kept_of hg hw hn hA h2 (T := Tr.setAll .leaf 0 SP) fun j hj => ?_⟩
  · rcases h1 with rfl | ⟨e, rfl, h1⟩
    · simp only [VR] at hv; rw [hv]
    · simp only [VR] at hv
      rw [hA.le.ρ, hA.le.β] at hv
      have h1' : e.den (env0 ρ β ty SP.length).ρ (env0 ρ β ty SP.length).β = true := h1
      rw [hv, h1']
  · obtain ⟨k, z, h4, h5⟩ := hSP j hj
    exact ⟨k, z, by rw [hT j hj, h4], by rw [h3 j hj, h4], h5⟩

/-- A run, laid out for the kernel. -/
noncomputable def runK (C : Cfg) (n f g nx : Nat) (args : List AV) (SP : List AV) : R AV :=
  fL fS SP fun SP => lenF SP fun q => setAllF SP 0 .leaf fun T => setF (some (.cells q 0 1 T)) (pathOf g) .leaf fun h => callGo C (evF C n) f args h nx [] (fin g q)
theorem runK_eq (C : Cfg) (n f g nx : Nat) (args : List AV) (SP : List AV) : runK C n f g nx args SP = call C (ev C n) f args (heap0 g SP.length (Tr.setAll .leaf 0 SP)) nx [] (fin g SP.length) := by
  unfold runK
  rw [fL_eq fS_eq, lenF_eq, setAllF_eq, setF_eq, callGo_eq, evF_eq]
  rfl

/-! ## A function that answers true, known so -/
def sameKind : IntKind → IntKind → Bool
  | .u8, .u8 => true
  | _, _ => false
def eqU8 : List AV → List Nat → Bool
  | [], [] => true
  | .int k (.ofNat z) :: l, n :: ns => ((sameKind k .u8).and (Nat.beq z n)).and (eqU8 l ns)
  | _, _ => false
theorem eqU8_spec : ∀ {l : List AV} {ns : List Nat}, eqU8 l ns = true → l = ns.map fun n => AV.int .u8 (.ofNat n)
  | [], [], _ => rfl
  | .int k (.ofNat z) :: l, n :: ns, h => by
    simp only [eqU8, Bool.and_eq_true] at h
    obtain ⟨⟨h1, h2⟩, h3⟩ := h
    have hk : k = .u8 := by cases k <;> simp_all [sameKind]
    rw [nbeq] at h2
    subst hk h2
    rw [List.map_cons, ← eqU8_spec h3]
  | [], _ :: _, h => by cases h
  | .int k (.negSucc z) :: l, [], h => by cases h
  | .int k (.ofNat z) :: l, [], h => by cases h
  | .int k (.negSucc z) :: l, n :: ns, h => by cases h

/-- Does the known global hold these? -/
noncomputable def holdsF (g : Nat) (ns : List Nat) (h : Tr AO) : Bool :=
  getF (pathOf g) h (fun o => onCells o (fun m a b t => ((Nat.beq m ns.length).and ((Nat.beq a 0).and (Nat.beq b 1))).and (getAllF m 0 t (fun l => eqU8 l ns) false)) false) false
theorem holdsF_spec {g : Nat} {ns : List Nat} {h : Tr AO} (hh : holdsF g ns h = true) : ∃ T, h.get g = some (.cells ns.length 0 1 T) ∧ T.getAll 0 ns.length = some (ns.map fun n => AV.int .u8 (.ofNat n)) := by
  simp only [holdsF, getF_eq] at hh
  cases hg : h.get g with
  | none => rw [hg] at hh; cases hh
  | some o =>
    rw [hg] at hh
    simp only [onSome_some] at hh
    cases o with
    | cells m a b t =>
      simp only [onCells, getAllF_eq, Bool.and_eq_true] at hh
      obtain ⟨⟨h1, h2, h3⟩, h4⟩ := hh
      rw [nbeq] at h1 h2 h3
      subst h1 h2 h3
      cases hl : t.getAll 0 ns.length with
      | none => rw [hl] at h4; cases h4
      | some l =>
        rw [hl] at h4
        exact ⟨t, rfl, by rw [← eqU8_spec h4]; exact hl⟩
    | _ => cases hh

/-- What the state says of the known global. -/
theorem known_of {U : Nat → Prop} {E : Env} {H : Tr AO} {nx g : Nat} {pc : List (SB × Bool)} {w : World} {ns : List Nat} (hs : SR U E H nx pc w) (hg : g < gN) (hns : ns.length = tN) (hh : holdsF g ns H = true) :
    g < w.heap.size ∧ ∃ c t, w.heap[g]? = some (.cells c t (0, 0)) ∧ c.size = ns.length ∧ ∀ j, j < ns.length → ∃ z, ns[j]? = some z ∧ c[j]? = some (.int .u8 (.ofNat z)) := by
  obtain ⟨T, h1, h2⟩ := holdsF_spec hh
  obtain ⟨hm, ht⟩ := hs.glob g hg
  refine ⟨hs.known g g hm, ?_⟩
  obtain ⟨x, hx, c', ty', lo, hi, rfl, h3, _, h5, _, h7⟩ := hs.hr.obj g _ g h1 hm
  obtain ⟨h8, rfl, rfl⟩ := h7 rfl (by omega)
  obtain ⟨_, h9⟩ := Tr.getAll_some _ _ _ _ h2
  have hsz : c'.size = tN := by rw [← ht, ← h8]
  refine ⟨c', ty', hx, by rw [hsz, hns], fun j hj => ?_⟩
  obtain ⟨a, v, g1, g2, g3, _⟩ := h5 j hj
  have h10 := h9 j hj
  rw [Nat.zero_add, g1] at h10
  rw [List.getElem?_map, List.getElem?_eq_getElem hj] at h10
  cases h10
  simp only [VR] at g3
  subst g3
  exact ⟨ns[j], List.getElem?_eq_getElem hj, g2⟩

/-! ## The statement's own form -/
theorem post_kept {H : Type} {enc : TypeId × Value → H} {f : Func} {s : ChangeSpec} {apart fresh handsOn again : Bool} {W W' : World} {args : Array Value} {v : Value} {ds gs : List (DataW H)} {before pa pv : List MemPlace}
    (hW : DataW.Whole enc P f.params.toList s.vars apart W args.toList ds gs before)
    (hres : ∀ (b : Nat) (sp : Nat → Bool) (hd : Bool), DataW.TrodAll enc P W' b sp hd f.resultTypes.toList (v.resultList f.resultTypes.size) (s.fn H (ds ++ gs)).results [])
    (hargs : ∀ sp : Nat → Bool, (∀ p ∈ before, sp p.block = true) → DataW.TrodAll enc P W' 0 sp true f.params.toList args.toList (s.fn H (ds ++ gs)).args pa)
    (hvars : ∀ sp : Nat → Bool, (∀ p ∈ before, sp p.block = true) → DataW.TrodVars enc P W' sp s.vars (s.fn H (ds ++ gs)).vars pv)
    (hps : before = pa ++ pv) (hk : Kept W W')
    (hok : ∀ (j : Nat) (t : TypeId) (r : Value), f.resultTypes[j]? = some t → (v.resultList f.resultTypes.size)[j]? = some r → Value.okWide P W' .any 0 t r) :
    s.post enc P f apart fresh handsOn again W args v W' := by
  have hlt : ∀ p ∈ before, p.block < W.heap.size := fun p hp => hW.lt p hp
  have hsp : ∀ p ∈ before, (fun b => decide (b < W.heap.size)) p.block = true := fun p hp => by simpa using hlt p hp
  refine ⟨ds, gs, before, [], pa, pv, hW, hres _ _ _, hargs _ hsp, hvars _ hsp, hk.frame _, fun _ => ?_⟩
  obtain ⟨_, _, _, _, _, hz, hn⟩ := hW
  have hmem : ∀ p, p ∈ ([] ++ pa) ++ pv → p ∈ before := fun p hp => by rw [hps]; simpa using hp
  refine ⟨hok, _, _, ([] ++ pa) ++ pv, ⟨[] ++ pa, pv, trodAll_append (hargs _ (fun _ _ => rfl)) (hres _ _ _), hvars _ (fun _ _ => rfl), rfl, ?_, ?_⟩, fun p hp _ => hmem p hp⟩
  · intro b off hp
    rw [hk.frozen _ (hlt _ (hmem _ hp))]
    exact hz b off (hmem _ hp)
  · intro ha
    have h9 := hn ha
    rw [hps] at h9
    simpa using h9
end Ct
