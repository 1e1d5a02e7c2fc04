/- Regions that draw: heaps, where some of it is out of sight. -/
import Derived.Test.YtpcppjbjmdolnaaGreatDoorCtU
namespace Ct
open Go
variable {P : Program} {α : Type} {ops : Array Oper}

/-- The state's relation, where what is made may not be placed yet. -/
structure WSR (U : Nat → Prop) (E : Env) (H : Tr AO) (nx : Nat) (pc : List (SB × Bool)) (w : World) : Prop where
  hr : HR E H w
  own : ∀ i o b, H.get i = some o → E.m i = some b → U b
  fresh : ∀ i, nx ≤ i → E.m i = none ∧ H.get i = none
  big : ∀ b, w.heap.size ≤ b → U b
  known : ∀ i b, E.m i = some b → b < w.heap.size
  pc : ∀ c b, (c, b) ∈ pc → c.den E.ρ E.β = b
  glob : ∀ g, g < gN → E.m g = some g ∧ (E.ty g).2 = tN

section
variable {U : Nat → Prop} {E : Env} {H : Tr AO} {nx : Nat} {pc : List (SB × Bool)} {w : World}

theorem WSR.globm (h : WSR U E H nx pc w) : ∀ g, g < gN → E.m g = some g := fun g hg => (h.glob g hg).1
theorem SR.weak (h : SR U E H nx pc w) : WSR U E H nx pc w := ⟨h.hr, h.own, h.fresh, h.big, h.known, h.pc, h.glob⟩
theorem WSR.withPc (h : WSR U E H nx pc w) {pc' : List (SB × Bool)} (hp : ∀ c b, (c, b) ∈ pc' → c.den E.ρ E.β = b) : WSR U E H nx pc' w :=
  ⟨h.hr, h.own, h.fresh, h.big, h.known, hp, h.glob⟩

theorem WSR.sub {H' : Tr AO} (h : WSR U E H nx pc w) (sub : ∀ i o, H'.get i = some o → H.get i = some o) : WSR U E H' nx pc w := by
  refine ⟨h.hr.sub sub, fun i o b hi hb => h.own i o b (sub i o hi) hb, fun i hi => ⟨(h.fresh i hi).1, ?_⟩, h.big, h.known, h.pc, h.glob⟩
  cases hg : H'.get i with
  | none => rfl
  | some o =>
    have := sub i o hg
    rw [(h.fresh i hi).2] at this; cases this

/-- What a write does that sees but a part: the rest is as it was. -/
theorem WSR.frame {Hn X tot' H' : Tr AO} {E' : Env} {nx' : Nat} {pc' : List (SB × Bool)} {w' : World} (h : WSR U E H nx pc w) (hn : ∀ i o, Hn.get i = some o → H.get i = some o)
    (hx : ∀ i o, X.get i = some o → H.get i = some o ∧ Hn.get i = none) (hA : Aft (fun b => w.heap.size ≤ b ∨ ∃ i o, Hn.get i = some o ∧ E.m i = some b) E nx w E' H' nx' pc' w')
    (ht : ∀ i o, tot'.get i = some o → X.get i = some o ∨ (X.get i = none ∧ H'.get i = some o)) : WSR U E' tot' nx' pc' w' := by
  have hlt : ∀ i o, X.get i = some o → i < nx := by
    intro i o hi
    rcases Nat.lt_or_ge i nx with h1 | h1
    · exact h1
    · have := (h.fresh i h1).2
      rw [(hx i o hi).1] at this; cases this
  have hxm : ∀ i o b, X.get i = some o → E'.m i = some b → E.m i = some b ∧ ¬ (w.heap.size ≤ b ∨ ∃ j p, Hn.get j = some p ∧ E.m j = some b) := by
    intro i o b hi hb
    rw [hA.old i (hlt i o hi)] at hb
    refine ⟨hb, ?_⟩
    rintro (hge | ⟨j, p, hj, hbj⟩)
    · have := h.known i b hb; omega
    · have e := h.hr.inj i j o p b (hx i o hi).1 (hn j p hj) hb hbj
      have h0 := (hx i o hi).2
      rw [e, hj] at h0; cases h0
  have hUU : ∀ b, (w.heap.size ≤ b ∨ ∃ i o, Hn.get i = some o ∧ E.m i = some b) → U b := by
    rintro b (hb | ⟨i, o', hi, hb⟩)
    · exact h.big b hb
    · exact h.own i o' b (hn i o' hi) hb
  refine ⟨⟨fun i o' b hi hb => ?_, fun i j o1 o2 b hi hj hbi hbj => ?_⟩, fun i o' b hi hb => ?_, fun i hi => ?_, fun b hb => h.big b (Nat.le_trans hA.wr.size hb), hA.sr.known, hA.sr.pc, hA.sr.glob⟩
  · rcases ht i o' hi with hi | ⟨_, hi⟩
    · obtain ⟨hb0, hnu⟩ := hxm i o' b hi hb
      obtain ⟨x, hxx, hor⟩ := h.hr.obj i o' b (hx i o' hi).1 hb0
      exact ⟨x, by rw [hA.wr.keep b hnu]; exact hxx, OR_mono hA.le hb0 hor⟩
    · exact hA.sr.hr.obj i o' b hi hb
  · rcases ht i o1 hi with hi | ⟨_, hi⟩ <;> rcases ht j o2 hj with hj | ⟨_, hj⟩
    · exact h.hr.inj i j o1 o2 b (hx i o1 hi).1 (hx j o2 hj).1 (hxm i o1 b hi hbi).1 (hxm j o2 b hj hbj).1
    · exact absurd (hA.sr.own j o2 b hj hbj) (hxm i o1 b hi hbi).2
    · exact absurd (hA.sr.own i o1 b hi hbi) (hxm j o2 b hj hbj).2
    · exact hA.sr.hr.inj i j o1 o2 b hi hj hbi hbj
  · rcases ht i o' hi with hi | ⟨_, hi⟩
    · exact h.own i o' b (hx i o' hi).1 (hxm i o' b hi hb).1
    · exact hUU b (hA.sr.own i o' b hi hb)
  · refine ⟨(hA.sr.fresh i hi).1, ?_⟩
    cases hg : tot'.get i with
    | none => rfl
    | some o' =>
      rcases ht i o' hg with h1 | ⟨_, h1⟩
      · have h2 := hlt i o' h1
        have h3 := hA.nx
        omega
      · rw [(hA.sr.fresh i hi).2] at h1; cases h1

/-- Objects that read alike. -/
theorem OR_alike {i n g e : Nat} {t t' : Tr AV} {x : Obj} (h : OR E i (.cells n g e t) x) (ht : ∀ j, j < n → t'.get j = t.get j) : OR E i (.cells n g e t') x := by
  obtain ⟨c, ty, lo, hi, rfl, h1, h2, h3, h4⟩ := h
  exact ⟨c, ty, lo, hi, rfl, h1, h2, fun j hj => by rw [ht j hj]; exact h3 j hj, h4⟩
theorem OR_perm {i : Nat} {es es' : List (AV × AV)} {x : Obj} (h : OR E i (.umap es) x) (hp : List.Perm es es') : OR E i (.umap es') x := by
  obtain ⟨fs, clock, l, rfl, h1, h2⟩ := h
  exact ⟨fs, clock, l, rfl, h1.trans hp, h2⟩
end

/-! ## Objects out of sight -/
theorem layH_some {hid : List Hid} {h : Tr AO} {i : Nat} {o : AO} (hg : (layH hid h).get i = some o) : (∃ e ∈ hid, e.2.1 = i ∧ applyWs e.2.2.1 e.2.2.2 = o) ∨ ((∀ e ∈ hid, e.2.1 ≠ i) ∧ h.get i = some o) := by
  induction hid with
  | nil => exact .inr ⟨fun e he => (List.not_mem_nil he).elim, hg⟩
  | cons e es ih =>
    simp only [layH, Tr.get_set] at hg
    by_cases he : i = e.2.1
    · rw [if_pos he] at hg
      cases hg
      exact .inl ⟨e, by simp, he.symm, rfl⟩
    · rw [if_neg he] at hg
      rcases ih hg with ⟨e', h1, h2, h3⟩ | ⟨h1, h2⟩
      · exact .inl ⟨e', by simp [h1], h2, h3⟩
      · refine .inr ⟨fun e' he' => ?_, h2⟩
        rcases List.mem_cons.1 he' with rfl | he'
        · exact Ne.symm he
        · exact h1 e' he'

theorem layH_old {hid : List Hid} {h : Tr AO} {i : Nat} (hn : ∀ e ∈ hid, e.2.1 ≠ i) : (layH hid h).get i = h.get i := by
  induction hid with
  | nil => rfl
  | cons e es ih =>
    simp only [layH]
    rw [Tr.get_set_other _ _ (Ne.symm (hn e (by simp)))]
    exact ih fun e' he' => hn e' (by simp [he'])

def ApartH (hid : List Hid) : Prop := ∀ p ∈ hid, ∀ q ∈ hid, p.2.1 = q.2.1 → p = q

theorem layH_of {hid : List Hid} {h : Tr AO} (ha : ApartH hid) {e : Hid} (he : e ∈ hid) : (layH hid h).get e.2.1 = some (applyWs e.2.2.1 e.2.2.2) := by
  induction hid with
  | nil => cases he
  | cons e' es ih =>
    simp only [layH, Tr.get_set]
    by_cases hi : e.2.1 = e'.2.1
    · rw [if_pos hi, ha e he e' (by simp) hi]
    · rw [if_neg hi]
      rcases List.mem_cons.1 he with rfl | he
      · exact absurd rfl hi
      · exact ih (fun p hp q hq => ha p (by simp [hp]) q (by simp [hq])) he

/-! ## Writes that lie apart -/
theorem apartW_mem {o n : Nat} : ∀ {ws : List (Nat × HW)}, apartW o n ws = true → ∀ w ∈ ws, ∃ p vs, w.2 = .cells p vs ∧ (o + n ≤ p ∨ p + vs.length ≤ o)
  | [], _, w, hw => by cases hw
  | (m, .cells p vs) :: ws, h, w, hw => by
    simp only [apartW] at h
    rw [band] at h
    rcases List.mem_cons.1 hw with rfl | hw
    · refine ⟨p, vs, rfl, ?_⟩
      have h1 := h.1
      cases hb : Nat.ble (Nat.add o n) p with
      | true => rw [nble] at hb; exact .inl hb
      | false =>
        rw [hb] at h1
        have : Nat.ble (Nat.add p vs.length) o = true := by simpa using h1
        rw [nble] at this; exact .inr this
    · exact apartW_mem h.2 w hw
  | (m, .ins kk k v) :: ws, h, w, hw => by simp [apartW] at h

theorem otherK_mem {kk : KK} {k : AV} : ∀ {ws : List (Nat × HW)}, otherK kk k ws = true → ∀ w ∈ ws, ∃ jj j v, w.2 = .ins jj j v ∧ keyEq kk k j = some false ∧ keyEq jj j k = some false
  | [], _, w, hw => by cases hw
  | (m, .ins jj j v) :: ws, h, w, hw => by
    simp only [otherK] at h
    split at h
    · rename_i hk
      split at h
      · rename_i hk2
        rcases List.mem_cons.1 hw with rfl | hw
        · exact ⟨jj, j, v, rfl, hk, hk2⟩
        · exact otherK_mem h w hw
      · cases h
    · cases h
  | (m, .cells p vs) :: ws, h, w, hw => by simp [otherK] at h

/-! ## Objects with some of the writes -/
def trieW (t : Tr AV) : List (Nat × HW) → Tr AV
  | [] => t
  | (_, .cells o vs) :: ws => (trieW t ws).setAll o vs
  | (_, .ins ..) :: ws => trieW t ws
def insW : List (Nat × HW) → List (AV × AV)
  | [] => []
  | (_, .ins _ k v) :: ws => insW ws ++ [(k, v)]
  | (_, .cells ..) :: ws => insW ws

theorem applyWs_cells (n g e : Nat) (t : Tr AV) : ∀ ws : List (Nat × HW), applyWs (.cells n g e t) ws = .cells n g e (trieW t ws)
  | [] => rfl
  | (m, .cells o vs) :: ws => by simp only [applyWs, applyWs_cells n g e t ws, applyW, trieW]
  | (m, .ins kk k v) :: ws => by simp only [applyWs, applyWs_cells n g e t ws, applyW, trieW]
/-- A map that nothing lay in: its clock is lost with the first write. -/
theorem applyWs_map (c : Nat) : ∀ ws : List (Nat × HW), applyWs (.map [] c) ws = .umap (insW ws) ∨ (applyWs (.map [] c) ws = .map [] c ∧ insW ws = [])
  | [] => .inr ⟨rfl, rfl⟩
  | (m, .cells o vs) :: ws => by
    rcases applyWs_map c ws with h | ⟨h, h2⟩
    · exact .inl (by simp only [applyWs, h, applyW, insW])
    · exact .inr ⟨by simp only [applyWs, h, applyW], h2⟩
  | (m, .ins kk k v) :: ws => by
    rcases applyWs_map c ws with h | ⟨h, h2⟩
    · exact .inl (by simp only [applyWs, h, applyW, insW])
    · exact .inl (by simp only [applyWs, h, applyW, insW, h2, List.map_nil])

theorem trieW_add {t : Tr AV} {m o : Nat} {vs : List AV} {L L' : Nat → Bool} (hm : L m = false) (hm' : L' m = true) (hL : ∀ j, j ≠ m → L' j = L j) : ∀ (ws : List (Nat × HW)),
    (∀ w ∈ ws, w.1 = m → w.2 = .cells o vs) → (ws.map (·.1)).Nodup → (∀ w ∈ ws, w.1 ≠ m → ∃ p us, w.2 = .cells p us ∧ (o + vs.length ≤ p ∨ p + us.length ≤ o)) → (∃ w ∈ ws, w.1 = m) →
    ∀ j, (trieW t (ws.filter fun w => L' w.1)).get j = if o ≤ j ∧ j < o + vs.length then vs[j - o]? else (trieW t (ws.filter fun w => L w.1)).get j
  | [], _, _, _, h, _ => by obtain ⟨w, hw, _⟩ := h; cases hw
  | w :: ws, h1, h2, h3, h4, j => by
    obtain ⟨wm, ww⟩ := w
    simp only [List.map_cons, List.nodup_cons] at h2
    by_cases e : wm = m
    · subst e
      have hw : ww = .cells o vs := h1 (wm, ww) (by simp) rfl
      subst hw
      have hrest : (ws.filter fun w => L' w.1) = ws.filter fun w => L w.1 := by
        apply List.filter_congr
        intro x hx
        refine hL x.1 ?_
        rintro rfl
        exact h2.1 (List.mem_map.2 ⟨x, hx, rfl⟩)
      rw [List.filter_cons, List.filter_cons]
      simp only [hm, hm', if_true, Bool.false_eq_true, if_false, hrest, trieW]
      exact Tr.get_setAll _ _ _ _
    · have h4' : ∃ w ∈ ws, w.1 = m := by
        obtain ⟨x, hx, hxm⟩ := h4
        rcases List.mem_cons.1 hx with rfl | hx
        · exact absurd hxm e
        · exact ⟨x, hx, hxm⟩
      have ih := trieW_add (t := t) hm hm' hL ws (fun x hx => h1 x (by simp [hx])) h2.2 (fun x hx => h3 x (by simp [hx])) h4' j
      obtain ⟨p, us, hw, hap⟩ := h3 (wm, ww) (by simp) e
      simp only at hw
      subst hw
      rw [List.filter_cons, List.filter_cons]
      simp only [hL wm e]
      cases hl : L wm with
      | false => simpa using ih
      | true =>
        simp only [if_true, trieW]
        rw [Tr.get_setAll, Tr.get_setAll, ih]
        by_cases h5 : p ≤ j ∧ j < p + us.length
        · rw [if_pos h5, if_neg (by omega), if_pos h5]
        · rw [if_neg h5]
          split <;> rfl

theorem insW_add {m : Nat} {kk : KK} {k v : AV} {L L' : Nat → Bool} (hm : L m = false) (hm' : L' m = true) (hL : ∀ j, j ≠ m → L' j = L j) : ∀ (ws : List (Nat × HW)),
    (∀ w ∈ ws, w.1 = m → w.2 = .ins kk k v) → (ws.map (·.1)).Nodup → (∃ w ∈ ws, w.1 = m) → List.Perm (insW (ws.filter fun w => L' w.1)) (insW (ws.filter fun w => L w.1) ++ [(k, v)])
  | [], _, _, h => by obtain ⟨w, hw, _⟩ := h; cases hw
  | w :: ws, h1, h2, h4 => by
    obtain ⟨wm, ww⟩ := w
    simp only [List.map_cons, List.nodup_cons] at h2
    by_cases e : wm = m
    · subst e
      have hw : ww = .ins kk k v := h1 (wm, ww) (by simp) rfl
      subst hw
      have hrest : (ws.filter fun w => L' w.1) = ws.filter fun w => L w.1 := by
        apply List.filter_congr
        intro x hx
        refine hL x.1 ?_
        rintro rfl
        exact h2.1 (List.mem_map.2 ⟨x, hx, rfl⟩)
      rw [List.filter_cons, List.filter_cons]
      simp only [hm, hm', if_true, Bool.false_eq_true, if_false, hrest, insW]
      exact List.Perm.refl _
    · have h4' : ∃ w ∈ ws, w.1 = m := by
        obtain ⟨x, hx, hxm⟩ := h4
        rcases List.mem_cons.1 hx with rfl | hx
        · exact absurd hxm e
        · exact ⟨x, hx, hxm⟩
      have ih := insW_add hm hm' hL ws (fun x hx => h1 x (by simp [hx])) h2.2 h4'
      rw [List.filter_cons, List.filter_cons]
      simp only [hL wm e]
      cases hl : L wm with
      | false => simpa using ih
      | true =>
        simp only [if_true]
        cases ww with
        | cells p us => simpa only [insW] using ih
        | ins kk' k' v' =>
          simp only [insW]
          refine (ih.append_right [(k', v')]).trans ?_
          rw [List.append_assoc, List.append_assoc]
          exact List.Perm.append_left _ (List.Perm.swap _ _ [])

theorem findH_some {i : Nat} : ∀ {l : List Hid} {e : Hid}, findH i l = some e → e ∈ l ∧ e.2.1 = i
  | [], e, h => by simp [findH] at h
  | x :: l, e, h => by
    simp only [findH] at h
    split at h
    · rename_i hb; rw [nbeq] at hb; cases h; exact ⟨by simp, hb⟩
    · obtain ⟨h1, h2⟩ := findH_some h
      exact ⟨by simp [h1], h2⟩
theorem findH_none {i : Nat} : ∀ {l : List Hid}, findH i l = none → ∀ e ∈ l, e.2.1 ≠ i
  | [], _, e, he => by cases he
  | x :: l, h, e, he => by
    simp only [findH] at h
    split at h
    · cases h
    · rename_i hb
      rw [nbeqF] at hb
      rcases List.mem_cons.1 he with rfl | he
      · exact hb
      · exact findH_none h e he
theorem findP_some {i : Nat} : ∀ {l : List (Nat × Nat × AO)} {e : Nat × Nat × AO}, findP i l = some e → e ∈ l ∧ e.2.1 = i
  | [], e, h => by simp [findP] at h
  | x :: l, e, h => by
    simp only [findP] at h
    split at h
    · rename_i hb; rw [nbeq] at hb; cases h; exact ⟨by simp, hb⟩
    · obtain ⟨h1, h2⟩ := findP_some h
      exact ⟨by simp [h1], h2⟩
theorem findP_none {i : Nat} : ∀ {l : List (Nat × Nat × AO)}, findP i l = none → ∀ e ∈ l, e.2.1 ≠ i
  | [], _, e, he => by cases he
  | x :: l, h, e, he => by
    simp only [findP] at h
    split at h
    · cases h
    · rename_i hb
      rw [nbeqF] at hb
      rcases List.mem_cons.1 he with rfl | he
      · exact hb
      · exact findP_none h e he
theorem mem_dropH {i : Nat} {l : List Hid} {e : Hid} : e ∈ dropH i l ↔ e ∈ l ∧ e.2.1 ≠ i := by
  unfold dropH
  rw [List.mem_filter]
  constructor
  · rintro ⟨h1, h2⟩
    refine ⟨h1, fun e' => ?_⟩
    rw [nbeq.2 e'] at h2; cases h2
  · rintro ⟨h1, h2⟩
    exact ⟨h1, by rw [nbeqF.2 h2]; rfl⟩
theorem mem_dropP {i : Nat} {l : List (Nat × Nat × AO)} {e : Nat × Nat × AO} : e ∈ dropP i l ↔ e ∈ l ∧ e.2.1 ≠ i := by
  unfold dropP
  rw [List.mem_filter]
  constructor
  · rintro ⟨h1, h2⟩
    refine ⟨h1, fun e' => ?_⟩
    rw [nbeq.2 e'] at h2; cases h2
  · rintro ⟨h1, h2⟩
    exact ⟨h1, by rw [nbeqF.2 h2]; rfl⟩

/-- Where the object was. -/
theorem hideO_spec {mg : List Nat} {i : Nat} {h h' : Tr AO} {pend pend' : List (Nat × Nat × AO)} {hid hid' : List Hid} {e : Hid} (hh : hideO mg i h pend hid = some (e, h', pend', hid')) :
    e.2.1 = i ∧ ((e ∈ hid ∧ (∀ m, e.1 = some m → m ∈ mg) ∧ h' = h ∧ pend' = pend ∧ hid' = dropH i hid) ∨
      ((∀ x ∈ hid, x.2.1 ≠ i) ∧ ∃ p ∈ pend, p.2.1 = i ∧ p.1 ∈ mg ∧ e = (some p.1, i, p.2.2, []) ∧ h' = h ∧ pend' = dropP i pend ∧ hid' = hid) ∨
      ((∀ x ∈ hid, x.2.1 ≠ i) ∧ (∀ p ∈ pend, p.2.1 ≠ i) ∧ ∃ ob, h.get i = some ob ∧ e = (none, i, ob, []) ∧ h' = h.set i none ∧ pend' = pend ∧ hid' = hid)) := by
  unfold hideO at hh
  split at hh
  · rename_i x hx
    obtain ⟨h1, h2⟩ := findH_some hx
    split at hh
    · rename_i hc
      cases hh
      refine ⟨h2, .inl ⟨h1, fun m hm => ?_, rfl, rfl, rfl⟩⟩
      rw [hm] at hc
      exact memN_iff.1 hc
    · cases hh
  · rename_i hx
    have hno := findH_none hx
    split at hh
    · rename_i p hp
      obtain ⟨h1, h2⟩ := findP_some hp
      split at hh
      · rename_i hc
        cases hh
        exact ⟨rfl, .inr (.inl ⟨hno, p, h1, h2, memN_iff.1 hc, rfl, rfl, rfl, rfl⟩)⟩
      · cases hh
    · rename_i hp
      split at hh
      · rename_i ob hob
        cases hh
        exact ⟨rfl, .inr (.inr ⟨hno, findP_none hp, ob, hob, rfl, rfl, rfl, rfl⟩)⟩
      · cases hh
end Ct
