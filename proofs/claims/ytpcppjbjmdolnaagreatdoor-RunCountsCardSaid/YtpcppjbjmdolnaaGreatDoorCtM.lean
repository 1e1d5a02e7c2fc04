/- The state's relation, and what becomes of it. -/
import Derived.Test.YtpcppjbjmdolnaaGreatDoorCtL
namespace Ct
open Go
variable {P : Program}

/-! ## What an evaluation's answers say -/
def Good {α : Type} (ρ : Nat → Int) (β : Nat → Bool) (Φ : α → Prop) : R α → Prop
  | .fail _ => False
  | .done a => Φ a
  | .br c t f => (c.den ρ β = true → Good ρ β Φ t) ∧ (c.den ρ β = false → Good ρ β Φ f)
  | .both a b => Good ρ β Φ a ∧ Good ρ β Φ b

theorem chL_good {α γ : Type} {ρ : Nat → Int} {β : Nat → Bool} {Φ : α → Prop} : ∀ {l : List γ} {f : γ → R α}, Good ρ β Φ (chL l f) → ∀ x ∈ l, Good ρ β Φ (f x)
  | [], f, _, x, hx => by cases hx
  | y :: ys, f, h, x, hx => by
    cases ys with
    | nil =>
      rcases List.mem_cons.1 hx with rfl | hx
      · exact h
      · cases hx
    | cons z zs =>
      obtain ⟨h1, h2⟩ := h
      rcases List.mem_cons.1 hx with rfl | hx
      · exact h1
      · exact chL_good (l := z :: zs) h2 x hx

/-! ## Worlds -/
/-- What is not in U is as it was; the streams are as they were. -/
structure WR (U : Nat → Prop) (w w' : World) : Prop where
  os : w'.os = w.os
  tape : w'.tape = w.tape
  output : w'.output = w.output
  size : w.heap.size ≤ w'.heap.size
  keep : ∀ b, ¬ U b → w'.heap[b]? = w.heap[b]?

theorem WR.refl (U : Nat → Prop) (w : World) : WR U w w := ⟨rfl, rfl, rfl, Nat.le_refl _, fun _ _ => rfl⟩
theorem WR.trans {U : Nat → Prop} {a b c : World} (h : WR U a b) (k : WR U b c) : WR U a c :=
  ⟨k.os.trans h.os, k.tape.trans h.tape, k.output.trans h.output, Nat.le_trans h.size k.size, fun i hi => (k.keep i hi).trans (h.keep i hi)⟩
theorem WR.mono {U V : Nat → Prop} {a b : World} (h : WR U a b) (s : ∀ i, U i → V i) : WR V a b :=
  ⟨h.os, h.tape, h.output, h.size, fun i hi => h.keep i fun hu => hi (s i hu)⟩

structure SR (U : Nat → Prop) (E : Env) (H : Tr AO) (nx : Nat) (pc : List (SB × Bool)) (w : World) : Prop where
  hr : HR E H w
  own : ∀ i o b, H.get i = some o → E.m i = some b → U b
  fresh : ∀ i, nx ≤ i → E.m i = none ∧ H.get i = none
  big : ∀ b, w.heap.size ≤ b → U b
  known : ∀ i b, E.m i = some b → b < w.heap.size
  pc : ∀ c b, (c, b) ∈ pc → c.den E.ρ E.β = b
  glob : ∀ g, g < gN → E.m g = some g ∧ (E.ty g).2 = tN
  pl : ∀ i o, H.get i = some o → ∃ b, E.m i = some b

/-- What came of it. -/
structure Aft (U : Nat → Prop) (E : Env) (nx : Nat) (w : World) (E' : Env) (H' : Tr AO) (nx' : Nat) (pc' : List (SB × Bool)) (w' : World) : Prop where
  le : E.le E'
  old : ∀ i, i < nx → E'.m i = E.m i
  sr : SR U E' H' nx' pc' w'
  wr : WR U w w'
  nx : nx ≤ nx'

theorem Aft.trans {U : Nat → Prop} {E E1 E2 : Env} {nx nx1 nx2 : Nat} {w w1 w2 : World} {H1 H2 : Tr AO} {pc1 pc2 : List (SB × Bool)}
    (h : Aft U E nx w E1 H1 nx1 pc1 w1) (k : Aft U E1 nx1 w1 E2 H2 nx2 pc2 w2) : Aft U E nx w E2 H2 nx2 pc2 w2 :=
  ⟨h.le.trans k.le, fun i hi => (k.old i (Nat.lt_of_lt_of_le hi h.nx)).trans (h.old i hi), k.sr, h.wr.trans k.wr, Nat.le_trans h.nx k.nx⟩

section
variable {U : Nat → Prop} {E : Env} {H : Tr AO} {nx : Nat} {pc : List (SB × Bool)} {w : World}

theorem Aft.same (h : SR U E H nx pc w) : Aft U E nx w E H nx pc w := ⟨.refl E, fun _ _ => rfl, h, .refl U w, Nat.le_refl _⟩

/-- A world with the same heap. -/
structure Alike (w w' : World) : Prop where
  os : w'.os = w.os
  tape : w'.tape = w.tape
  output : w'.output = w.output
  heap : w'.heap = w.heap

theorem HR.alike {w' : World} (h : HR E H w) (k : w'.heap = w.heap) : HR E H w' := ⟨fun i o b hi hb => by rw [k]; exact h.obj i o b hi hb, h.inj⟩
theorem SR.alike {w' : World} (h : SR U E H nx pc w) (k : w'.heap = w.heap) : SR U E H nx pc w' :=
  ⟨h.hr.alike k, h.own, h.fresh, fun b hb => h.big b (by rwa [k] at hb), fun i b hb => by rw [k]; exact h.known i b hb, h.pc, h.glob, h.pl⟩
theorem Aft.alike {w' : World} (h : SR U E H nx pc w) (k : Alike w w') : Aft U E nx w E H nx pc w' :=
  ⟨.refl E, fun _ _ => rfl, h.alike k.heap, ⟨k.os, k.tape, k.output, by rw [k.heap]; exact Nat.le_refl _, fun b _ => by rw [k.heap]⟩, Nat.le_refl _⟩

theorem SR.globm (h : SR U E H nx pc w) : ∀ g, g < gN → E.m g = some g := fun g hg => (h.glob g hg).1
theorem SR.withPc (h : SR U E H nx pc w) {pc' : List (SB × Bool)} (hp : ∀ c b, (c, b) ∈ pc' → c.den E.ρ E.β = b) : SR U E H nx pc' w := ⟨h.hr, h.own, h.fresh, h.big, h.known, hp, h.glob, h.pl⟩
theorem Aft.withPc (h : SR U E H nx pc w) {pc' : List (SB × Bool)} (hp : ∀ c b, (c, b) ∈ pc' → c.den E.ρ E.β = b) : Aft U E nx w E H nx pc' w :=
  ⟨.refl E, fun _ _ => rfl, h.withPc hp, .refl U w, Nat.le_refl _⟩

/-- One id more. -/
def Env.mk1 (E : Env) (i b c : Nat) : Env := ⟨fun j => if j = i then some b else E.m j, fun j => if j = i then c else E.cap j, E.ρ, E.β, E.ty⟩
theorem Env.mk1_same (E : Env) (i b c : Nat) : (E.mk1 i b c).m i = some b := by simp [Env.mk1]
theorem Env.mk1_cap (E : Env) (i b c : Nat) : (E.mk1 i b c).cap i = c := by simp [Env.mk1]
theorem Env.mk1_other (E : Env) {i j : Nat} (b c : Nat) (h : j ≠ i) : (E.mk1 i b c).m j = E.m j := by simp [Env.mk1, h]
theorem Env.le_mk1 {i : Nat} (h : E.m i = none) (b c : Nat) : E.le (E.mk1 i b c) := by
  refine ⟨fun j x hj => ?_, fun j x hj => ?_, rfl, rfl, rfl⟩
  · have : j ≠ i := by rintro rfl; rw [h] at hj; cases hj
    rw [Env.mk1_other E b c this]; exact hj
  · have : j ≠ i := by rintro rfl; rw [h] at hj; cases hj
    simp [Env.mk1, this]

/-- A new block, and its object. -/
theorem Aft.new {w' : World} {ob : AO} {obj : Obj} {c : Nat} (h : SR U E H nx pc w) (ho : w'.os = w.os) (ht : w'.tape = w.tape) (hu : w'.output = w.output) (hh : w'.heap = w.heap.push obj)
    (hr : OR (E.mk1 nx w.heap.size c) nx ob obj) : Aft U E nx w (E.mk1 nx w.heap.size c) (H.set nx (some ob)) (Nat.succ nx) pc w' := by
  have hle := Env.le_mk1 (h.fresh nx (Nat.le_refl _)).1 w.heap.size c
  have hold : ∀ b, b < w.heap.size → w'.heap[b]? = w.heap[b]? := fun b hb => by
    rw [hh, Array.getElem?_push, if_neg (by omega)]
  refine ⟨hle, fun i hi => Env.mk1_other E _ _ (by omega), ⟨⟨?_, ?_⟩, ?_, ?_, ?_, ?_, h.pc, ?_, ?_⟩, ⟨ho, ht, hu, by rw [hh]; simp, ?_⟩, Nat.le_succ _⟩
  · intro i o b hi hb
    rw [Tr.get_set] at hi
    by_cases e : i = nx
    · subst e
      rw [if_pos rfl] at hi
      rw [Env.mk1_same] at hb
      cases hi; cases hb
      exact ⟨obj, by rw [hh]; simp, hr⟩
    · rw [if_neg e] at hi
      rw [Env.mk1_other E _ _ e] at hb
      obtain ⟨x, hx, hor⟩ := h.hr.obj i o b hi hb
      exact ⟨x, by rw [hold b (h.known i b hb)]; exact hx, OR_mono hle hb hor⟩
  · intro i j o p b hi hj hbi hbj
    rw [Tr.get_set] at hi hj
    by_cases ei : i = nx <;> by_cases ej : j = nx
    · omega
    · subst ei
      rw [Env.mk1_same] at hbi; cases hbi
      rw [Env.mk1_other E _ _ ej] at hbj
      exact absurd (h.known j _ hbj) (Nat.lt_irrefl _)
    · subst ej
      rw [Env.mk1_same] at hbj; cases hbj
      rw [Env.mk1_other E _ _ ei] at hbi
      exact absurd (h.known i _ hbi) (Nat.lt_irrefl _)
    · rw [if_neg ei] at hi
      rw [if_neg ej] at hj
      rw [Env.mk1_other E _ _ ei] at hbi
      rw [Env.mk1_other E _ _ ej] at hbj
      exact h.hr.inj i j o p b hi hj hbi hbj
  · intro i o b hi hb
    by_cases e : i = nx
    · subst e
      rw [Env.mk1_same] at hb; cases hb
      exact h.big _ (Nat.le_refl _)
    · rw [Tr.get_set, if_neg e] at hi
      rw [Env.mk1_other E _ _ e] at hb
      exact h.own i o b hi hb
  · intro i hi
    have e : i ≠ nx := by omega
    rw [Env.mk1_other E _ _ e, Tr.get_set, if_neg e]
    exact h.fresh i (by omega)
  · intro b hb
    rw [hh] at hb
    exact h.big b (by simp at hb; omega)
  · intro i b hb
    rw [hh]
    by_cases e : i = nx
    · subst e
      rw [Env.mk1_same] at hb; cases hb
      simp
    · rw [Env.mk1_other E _ _ e] at hb
      have := h.known i b hb
      simp; omega
  · intro g hg
    have e : g ≠ nx := by
      intro e
      have h1 := (h.fresh g (by omega)).1
      rw [(h.glob g hg).1] at h1; cases h1
    rw [Env.mk1_other E _ _ e]; exact h.glob g hg
  · intro i o hi
    by_cases e : i = nx
    · subst e; exact ⟨_, Env.mk1_same _ _ _ _⟩
    · rw [Tr.get_set, if_neg e] at hi
      rw [Env.mk1_other E _ _ e]; exact h.pl i o hi
  · intro b hb
    refine hold b ?_
    rcases Nat.lt_or_ge b w.heap.size with h1 | h1
    · exact h1
    · exact absurd (h.big b h1) hb

/-- An object that was there, changed. -/
theorem Aft.turn {w' : World} {i b : Nat} {o ob : AO} {obj : Obj} (h : SR U E H nx pc w) (hi : H.get i = some o) (hb : E.m i = some b)
    (ho : w'.os = w.os) (ht : w'.tape = w.tape) (hu : w'.output = w.output) (hsz : w'.heap.size = w.heap.size) (hk : ∀ c, c ≠ b → w'.heap[c]? = w.heap[c]?) (hn : w'.heap[b]? = some obj)
    (hr : OR E i ob obj) : Aft U E nx w E (H.set i (some ob)) nx pc w' := by
  refine ⟨.refl E, fun _ _ => rfl, ⟨⟨?_, ?_⟩, ?_, ?_, ?_, ?_, h.pc, h.glob, ?_⟩, ⟨ho, ht, hu, by omega, ?_⟩, Nat.le_refl _⟩
  · intro j p c hj hc
    rw [Tr.get_set] at hj
    by_cases e : j = i
    · subst e
      rw [if_pos rfl] at hj
      rw [hb] at hc
      cases hj; cases hc
      exact ⟨obj, hn, hr⟩
    · rw [if_neg e] at hj
      obtain ⟨x, hx, hor⟩ := h.hr.obj j p c hj hc
      have : c ≠ b := by rintro rfl; exact e (h.hr.inj j i p o c hj hi hc hb)
      exact ⟨x, by rw [hk c this]; exact hx, hor⟩
  · intro j k p q c hj hkk hcj hck
    have key : ∀ j p, (H.set i (some ob)).get j = some p → ∃ p', H.get j = some p' := by
      intro j p hj
      rw [Tr.get_set] at hj
      by_cases e : j = i
      · subst e; exact ⟨o, hi⟩
      · rw [if_neg e] at hj; exact ⟨p, hj⟩
    obtain ⟨p', hp⟩ := key j p hj
    obtain ⟨q', hq⟩ := key k q hkk
    exact h.hr.inj j k p' q' c hp hq hcj hck
  · intro j p c hj hc
    rw [Tr.get_set] at hj
    by_cases e : j = i
    · subst e; exact h.own j o c hi hc
    · rw [if_neg e] at hj; exact h.own j p c hj hc
  · intro j hj
    have e : j ≠ i := by
      rintro rfl
      rw [(h.fresh j hj).2] at hi; cases hi
    rw [Tr.get_set, if_neg e]; exact h.fresh j hj
  · intro c hc; exact h.big c (by omega)
  · intro j c hc; rw [hsz]; exact h.known j c hc
  · intro j p hj
    rw [Tr.get_set] at hj
    by_cases e : j = i
    · subst e; exact ⟨b, hb⟩
    · rw [if_neg e] at hj; exact h.pl j p hj
  · intro c hc
    refine hk c ?_
    rintro rfl
    exact hc (h.own i o c hi hb)
end

/-! ## Cells, written -/
theorem setCells_heap (b : Nat) : ∀ (us : List Value) (o : Nat) (w : World) (c : Array Value) (ty : TypeId) (fr : Nat × Nat), w.heap[b]? = some (.cells c ty fr) →
    ∃ c' : Array Value, (w.setCells b o us).heap[b]? = some (.cells c' ty fr) ∧ c'.size = c.size ∧ ∀ j, c'[j]? = if o ≤ j ∧ j < o + us.length ∧ j < c.size then us[j - o]? else c[j]?
  | [], o, w, c, ty, fr, h => ⟨c, h, rfl, fun j => by rw [if_neg (by simp; omega)]⟩
  | u :: us, o, w, c, ty, fr, h => by
    have h1 : (w.setCell ⟨b, o, none⟩ u).heap[b]? = some (.cells (c.setIfInBounds o u) ty fr) := by
      simp [World.setCell, Array.getElem?_modify, h]
    obtain ⟨c', g1, g2, g3⟩ := setCells_heap b us (o + 1) _ _ ty fr h1
    refine ⟨c', g1, by simpa using g2, fun j => ?_⟩
    rw [g3 j]
    simp only [Array.size_setIfInBounds, List.length_cons]
    by_cases h2 : o + 1 ≤ j ∧ j < o + 1 + us.length ∧ j < c.size
    · rw [if_pos h2, if_pos (by omega), show j - o = (j - (o + 1)) + 1 by omega, List.getElem?_cons_succ]
    · rw [if_neg h2]
      by_cases h3 : j = o
      · subst h3
        by_cases h4 : j < c.size
        · rw [if_pos (by omega)]
          simp [h4]
        · rw [if_neg (by omega)]
          simp [h4]
      · rw [if_neg (by omega)]
        rw [Array.getElem?_setIfInBounds_ne (by omega)]

theorem setCells_frame (b : Nat) : ∀ (us : List Value) (o : Nat) (w : World), (w.setCells b o us).os = w.os ∧ (w.setCells b o us).tape = w.tape ∧ (w.setCells b o us).output = w.output ∧
    (w.setCells b o us).heap.size = w.heap.size ∧ ∀ c, c ≠ b → (w.setCells b o us).heap[c]? = w.heap[c]?
  | [], o, w => ⟨rfl, rfl, rfl, rfl, fun _ _ => rfl⟩
  | u :: us, o, w => by
    obtain ⟨h1, h2, h3, h4, h5⟩ := setCells_frame b us (o + 1) (w.setCell ⟨b, o, none⟩ u)
    refine ⟨h1, h2, h3, by rw [World.setCells, h4]; simp [World.setCell], fun c hc => ?_⟩
    rw [World.setCells, h5 c hc]
    simp only [World.setCell, Array.getElem?_modify]
    rw [if_neg (by simpa using hc.symm)]

section
variable {U : Nat → Prop} {E : Env} {H : Tr AO} {nx : Nat} {pc : List (SB × Bool)} {w : World}

/-- The store itself, of cells that are there. -/
theorem run_cells {b o m : Nat} {c : Array Value} {ty : TypeId} {lo hi : Nat} (hb : w.heap[b]? = some (.cells c ty (lo, hi))) (hf : hi ≤ lo ∨ c.size ≤ lo) {us : List Value} (hm : m ≤ c.size) (hl : o + us.length ≤ m)
    (h1 : ∀ v ∈ us, v.oneCell' = true) : (storeCells ⟨b, o, none⟩ us).run P w = .ok () (w.setCells b o us) := by
  have h := run_storeCells_cells (P := P) b o us 0 w ?_ ?_ h1
  · simpa using h
  · intro j hj
    rw [cell_at hb]
    simp; omega
  · intro j hj
    simp only [World.frozen?, hb, Bool.and_eq_false_iff, decide_eq_false_iff_not]
    omega

theorem VRs_one {as : List AV} {vs : List Value} (h : VRs E as vs) (h1 : as.all oneA = true) : ∀ v ∈ vs, v.oneCell' = true := by
  intro v hv
  obtain ⟨j, hj⟩ := List.mem_iff_getElem?.1 hv
  have hl := VRs_length h
  have hjl : j < as.length := by
    have := (List.getElem?_eq_some_iff.1 hj).1
    omega
  obtain ⟨u, hu, hr⟩ := VRs_get h j as[j] (List.getElem?_eq_getElem hjl)
  rw [hj] at hu; cases hu
  refine VR_one hr ?_
  rw [List.all_eq_true] at h1
  exact h1 _ (List.getElem_mem _)

theorem st_sound {i o b : Nat} {vs : List AV} {us : List Value} {H' : Tr AO} (hs : SR U E H nx pc w) (hb : E.m i = some b) (hv : VRs E vs us) (h1 : vs.all oneA = true) (h : stCells H i o vs = some H') :
    (storeCells ⟨b, o, none⟩ us).run P w = .ok () (w.setCells b o us) ∧ Aft U E nx w E H' nx pc (w.setCells b o us) := by
  unfold stCells at h
  split at h
  · rename_i m g e t hi
    split at h
    · rename_i hle
      rw [nble, nadd] at hle
      cases h
      obtain ⟨x, hx, c, ty, lo, hi', rfl, hm, hf, hcs, hg⟩ := hs.hr.obj i _ b hi hb
      have hl := VRs_length hv
      refine ⟨run_cells hx hf hm (by omega) (VRs_one hv h1), ?_⟩
      obtain ⟨c', g1, g2, g3⟩ := setCells_heap b us o w c ty (lo, hi') hx
      obtain ⟨f1, f2, f3, f4, f5⟩ := setCells_frame b us o w
      refine Aft.turn hs hi hb f1 f2 f3 f4 f5 g1 ⟨c', ty, lo, hi', rfl, by omega, by omega, fun j hj => ?_, fun h0 => ?_, fun h0 he => ?_⟩
      · rw [Tr.get_setAll, g3 j, hl]
        by_cases hin : o ≤ j ∧ j < o + vs.length
        · rw [if_pos hin, if_pos (by omega)]
          have hjl : j - o < vs.length := by omega
          obtain ⟨u, hu, hr⟩ := VRs_get hv (j - o) vs[j - o] (List.getElem?_eq_getElem hjl)
          refine ⟨_, u, List.getElem?_eq_getElem hjl, hu, hr, ?_⟩
          rw [List.all_eq_true] at h1
          exact h1 _ (List.getElem_mem _)
        · rw [if_neg hin, if_neg (by omega)]
          exact hcs j hj
      · obtain ⟨h2, h3, h4, h5, h6⟩ := hg.1 h0
        exact ⟨h2, h3, h4, by omega, h6⟩
      · obtain ⟨h2, h3, h4⟩ := hg.2 h0 he
        exact ⟨by rw [g2]; exact h2, h3, h4⟩
    · cases h
  · cases h
end
end Ct
