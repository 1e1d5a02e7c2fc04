/- Hidden objects, laid in; writes to them. -/
import Derived.Test.YtpcppjbjmdolnaaGreatDoorCtUb
namespace Ct
open Go
variable {P : Program} {α : Type} {ops : Array Oper}

/-- Listed. -/
def Li (listed : Array Bool) (i : Nat) : Prop := listed.getD i false = true

/-- The heap as it is: what is made and what is hidden laid in, with the writes that are listed. -/
def lw (listed : Array Bool) (hid : List Hid) : List Hid := hid.map fun e => (e.1, e.2.1, e.2.2.1, e.2.2.2.filter fun x => listed.getD x.1 false)
def tot (listed : Array Bool) (hid : List Hid) (pend : List (Nat × Nat × AO)) (h : Tr AO) : Tr AO := layH (lw listed hid) (lay pend h)

theorem tot_get {listed : Array Bool} {pend : List (Nat × Nat × AO)} {h : Tr AO} {i : Nat} : ∀ {hid : List Hid}, (tot listed hid pend h).get i = match findH i hid with
    | some e => some (applyWs e.2.2.1 (e.2.2.2.filter fun x => listed.getD x.1 false))
    | none => (lay pend h).get i
  | [] => rfl
  | e :: es => by
    have ih := tot_get (listed := listed) (pend := pend) (h := h) (i := i) (hid := es)
    unfold tot lw at ih ⊢
    simp only [List.map_cons, layH, Tr.get_set, findH]
    by_cases he : i = e.2.1
    · subst he
      rw [if_pos rfl, show Nat.beq e.2.1 e.2.1 = true from nbeq.2 rfl]
    · rw [if_neg he, show Nat.beq e.2.1 i = false from nbeqF.2 (Ne.symm he)]
      exact ih

theorem findH_of {hid : List Hid} (ha : ApartH hid) {e : Hid} (he : e ∈ hid) : findH e.2.1 hid = some e := by
  cases hf : findH e.2.1 hid with
  | none => exact absurd rfl (findH_none hf e he)
  | some x =>
    obtain ⟨h1, h2⟩ := findH_some hf
    rw [ha x h1 e he h2]

theorem tot_hid {listed : Array Bool} {hid : List Hid} {pend : List (Nat × Nat × AO)} {h : Tr AO} (ha : ApartH hid) {e : Hid} (he : e ∈ hid) :
    (tot listed hid pend h).get e.2.1 = some (applyWs e.2.2.1 (e.2.2.2.filter fun x => listed.getD x.1 false)) := by
  rw [tot_get, findH_of ha he]

theorem tot_old {listed : Array Bool} {hid : List Hid} {pend : List (Nat × Nat × AO)} {h : Tr AO} {i : Nat} (hn : ∀ e ∈ hid, e.2.1 ≠ i) : (tot listed hid pend h).get i = (lay pend h).get i := by
  rw [tot_get]
  cases hf : findH i hid with
  | none => rfl
  | some x =>
    obtain ⟨h1, h2⟩ := findH_some hf
    exact absurd h2 (hn x h1)

theorem tot_sub {listed : Array Bool} {hid : List Hid} {pend : List (Nat × Nat × AO)} {h : Tr AO} (hn : ∀ e ∈ hid, (lay pend h).get e.2.1 = none) {i : Nat} {o : AO} (hi : (lay pend h).get i = some o) : (tot listed hid pend h).get i = some o := by
  rw [tot_old fun e he ei => ?_]
  · exact hi
  · have := hn e he
    rw [ei, hi] at this; cases this

theorem filter_none {listed : Array Bool} {ws : List (Nat × HW)} (h : ∀ x ∈ ws, ¬ Li listed x.1) : (ws.filter fun x => listed.getD x.1 false) = [] := by
  rw [List.filter_eq_nil_iff]
  intro x hx hl
  exact h x hx hl

/-- One that writes nothing that is hidden turns nothing. -/
theorem lw_set {listed : Array Bool} {m : Nat} {hid : List Hid} (h : ∀ e ∈ hid, ∀ x ∈ e.2.2.2, x.1 ≠ m) : lw (listed.setIfInBounds m true) hid = lw listed hid := by
  unfold lw
  apply List.map_congr_left
  intro e he
  have : (e.2.2.2.filter fun x => (listed.setIfInBounds m true).getD x.1 false) = e.2.2.2.filter fun x => listed.getD x.1 false := by
    apply List.filter_congr
    intro x hx
    exact getD_set_ne false (Ne.symm (h e he x hx))
  rw [this]

theorem tot_set {listed : Array Bool} {m : Nat} {hid : List Hid} {pend : List (Nat × Nat × AO)} {h : Tr AO} (hn : ∀ e ∈ hid, ∀ x ∈ e.2.2.2, x.1 ≠ m) : tot (listed.setIfInBounds m true) hid pend h = tot listed hid pend h := by
  unfold tot; rw [lw_set hn]

/-! ## What is looked at otherwise -/
theorem WSR.imp {U : Nat → Prop} {E : Env} {H : Tr AO} {nx : Nat} {pc : List (SB × Bool)} {w : World} (S : WSR U E H nx pc w) {i : Nat} {o1 o2 : AO} (hi : H.get i = some o1) (h : ∀ x, OR E i o1 x → OR E i o2 x) : WSR U E (H.set i (some o2)) nx pc w := by
  have dom : ∀ j o, (H.set i (some o2)).get j = some o → ∃ o', H.get j = some o' := by
    intro j o hj
    rw [Tr.get_set] at hj
    by_cases e : j = i
    · rw [e]; exact ⟨o1, hi⟩
    · rw [if_neg e] at hj; exact ⟨o, hj⟩
  refine ⟨⟨fun j o b hj hb => ?_, fun j l o p b hj hl hbj hbl => ?_⟩, fun j o b hj hb => ?_, fun j hj => ⟨(S.fresh j hj).1, ?_⟩, S.big, S.known, S.pc, S.glob⟩
  · rw [Tr.get_set] at hj
    by_cases e : j = i
    · rw [if_pos e] at hj; cases hj
      subst e
      obtain ⟨x, hx, hor⟩ := S.hr.obj j o1 b hi hb
      exact ⟨x, hx, h x hor⟩
    · rw [if_neg e] at hj; exact S.hr.obj j o b hj hb
  · obtain ⟨o', ho'⟩ := dom j o hj
    obtain ⟨p', hp'⟩ := dom l p hl
    exact S.hr.inj j l o' p' b ho' hp' hbj hbl
  · obtain ⟨o', ho'⟩ := dom j o hj
    exact S.own j o' b ho' hb
  · rw [Tr.get_set, if_neg]
    · exact (S.fresh j hj).2
    · rintro rfl
      rw [(S.fresh j hj).2] at hi; cases hi

theorem findU_none {kk : KK} {k : AV} : ∀ {es : List (AV × AV)}, (∀ e ∈ es, keyEq kk k e.1 = some false) → findU kk k es = some none
  | [], _ => rfl
  | e :: es, h => by
    simp only [findU, h e (by simp)]
    exact findU_none fun x hx => h x (by simp [hx])

theorem insW_mem : ∀ {ws : List (Nat × HW)} {p : AV × AV}, p ∈ insW ws → ∃ x ∈ ws, ∃ kk, x.2 = .ins kk p.1 p.2
  | [], p, h => by cases h
  | (m, .cells o vs) :: ws, p, h => by
    simp only [insW] at h
    obtain ⟨x, h1, h2⟩ := insW_mem h
    exact ⟨x, by simp [h1], h2⟩
  | (m, .ins kk k v) :: ws, p, h => by
    simp only [insW, List.mem_append, List.mem_singleton] at h
    rcases h with h | rfl
    · obtain ⟨x, h1, h2⟩ := insW_mem h
      exact ⟨x, by simp [h1], h2⟩
    · exact ⟨_, List.mem_cons_self, kk, rfl⟩

/-! ## One write -/
/-- The operation writes so. -/
def WrOp (op : AI) (T : Tr AV) (i : Nat) : HW → Prop
  | .cells o vs => ∃ size a x, op = .store size a x ∧ evA T a = .ptr i o ∧ cellsO (evA T x) = some vs ∧ vs.length = size
  | .ins kk k v => ∃ mp kx vx, op = .mapUpd kk mp kx vx ∧ evA T mp = .map i ∧ evA T kx = k ∧ evA T vx = v

/-- What was hidden, and the writes to it: these are told apart. -/
def Shape (e : Hid) : Prop :=
  (∃ n g ty t, e.2.2.1 = .cells n g ty t ∧ ∀ x ∈ e.2.2.2, ∃ o vs, x.2 = .cells o vs ∧ o + vs.length ≤ n ∧ ∀ y ∈ e.2.2.2, y.1 ≠ x.1 → ∃ p us, y.2 = .cells p us ∧ (o + vs.length ≤ p ∨ p + us.length ≤ o)) ∨
  (∃ c, e.2.2.1 = .map [] c ∧ ∀ x ∈ e.2.2.2, ∃ kk k v, x.2 = .ins kk k v ∧ keyOk kk k = true ∧ ∀ y ∈ e.2.2.2, y.1 ≠ x.1 → ∃ jj j u, y.2 = .ins jj j u ∧ keyEq kk k j = some false)

def noCfg : Cfg := ⟨fun _ => none, fun _ => none, fun _ => false⟩
def noRec (β : Type) : Rec β := fun _ _ _ => .fail 0
theorem noCall {β : Type} (Φ : β → Prop) : CallOK P noCfg (noRec β) Φ := by
  intro U E f args vs h nx pc w k o a K Q _ _ hg _
  simp only [call, noCfg] at hg
  exact hg.elim

/-- A write of an object alone: what it does to the whole. -/
theorem WSR.write {U : Nat → Prop} {E : Env} {H : Tr AO} {nx : Nat} {pc : List (SB × Bool)} {w : World} (S : WSR U E H nx pc w) {i b : Nat} {o2 o3 : AO} (hi : H.get i = some o2) (hb : E.m i = some b)
    {T : Tr AV} {a : Act} {o : Oper} {d : List ADefer} (ho : OpsR E T a o.op.operands.toList) (hd : DRs E d a.defers)
    (he : evE noCfg (noRec St) (compI P o) ⟨T, d, Tr.leaf.set i (some o2), nx, pc⟩ (fun v s => match v with | .tup [] => .done s | _ => .fail 0) = .done ⟨T, d, (Tr.leaf.set i (some o2)).set i (some o3), nx, pc⟩)
    {K : Act → World → Prop} {Q : Exit → Act → World → Prop}
    (hK : ∀ E' w' u ds, E.le E' → (∀ j, j < nx → E'.m j = E.m j) → WSR U E' (H.set i (some o3)) nx pc w' → WR U w w' → VR E' AV.undef u → DRs E' d ds → K (({ a with defers := ds } : Act).put o.dst u) w') : o.wp P a w K Q := by
  let Hn : Tr AO := Tr.leaf.set i (some o2)
  have hHn : ∀ j o', Hn.get j = some o' → j = i ∧ o' = o2 := by
    intro j o' hj
    have hj' : (Tr.leaf.set i (some o2)).get j = some o' := hj
    rw [Tr.get_set] at hj'
    by_cases e : j = i
    · rw [if_pos e] at hj'; cases hj'; exact ⟨e, rfl⟩
    · rw [if_neg e, Tr.get_leaf] at hj'; cases hj'
  have hHi : Hn.get i = some o2 := Tr.get_set_same _ _ _
  let U' : Nat → Prop := fun b => w.heap.size ≤ b ∨ ∃ i o, Hn.get i = some o ∧ E.m i = some b
  have hs : SR U' E Hn nx pc w := by
    refine ⟨⟨fun j o' b' hj hb' => ?_, fun j l o' p b' hj hl _ _ => ?_⟩, fun j o' b' hj hb' => .inr ⟨j, o', hj, hb'⟩, fun j hj => ⟨(S.fresh j hj).1, ?_⟩, fun b hb => .inl hb, S.known, S.pc, S.glob, fun j o' hj => ?_⟩
    · obtain ⟨rfl, rfl⟩ := hHn j o' hj
      exact S.hr.obj j o' b' hi hb'
    · rw [(hHn j o' hj).1, (hHn l p hl).1]
    · cases hg : Hn.get j with
      | none => rfl
      | some o' =>
        have := (hHn j o' hg).1
        rw [this, ] at hj
        rw [(S.fresh i hj).2] at hi; cases hi
    · rw [(hHn j o' hj).1]; exact ⟨b, hb⟩
  refine evE_sound (C := noCfg) (ih := noRec St) (Φ := fun s => s = ⟨T, d, Hn.set i (some o3), nx, pc⟩) (s := ⟨T, d, Hn, nx, pc⟩) (U := U') (k := fun v s => match v with | .tup [] => .done s | _ => .fail 0) (noCall _) ho hs hd ?_ ?_
  · rw [he]; rfl
  · intro E' s' w' v u ds hA _ hv hds hg
    split at hg
    · have hg' : s' = ⟨T, d, Hn.set i (some o3), nx, pc⟩ := hg
      subst hg'
      refine hK E' w' u ds hA.le hA.old ?_ (hA.wr.mono ?_) hv hds
      · refine WSR.frame (Hn := Hn) (X := H.set i none) S (fun j o' hj => ?_) (fun j o' hj => ?_) hA (fun j o' hj => ?_)
        · obtain ⟨rfl, rfl⟩ := hHn j o' hj; exact hi
        · rw [Tr.get_set] at hj
          by_cases e : j = i
          · rw [if_pos e] at hj; cases hj
          · rw [if_neg e] at hj
            refine ⟨hj, ?_⟩
            cases hg : Hn.get j with
            | none => rfl
            | some o' => exact absurd (hHn j o' hg).1 e
        · rw [Tr.get_set] at hj ⊢
          by_cases e : j = i
          · rw [if_pos e] at hj ⊢
            refine .inr ⟨rfl, ?_⟩
            rw [e]
            simp only
            rw [Tr.get_set_same]; exact hj
          · rw [if_neg e] at hj ⊢
            exact .inl hj
      · rintro b' (hge | ⟨j, o', hj, hbj⟩)
        · exact S.big b' hge
        · obtain ⟨rfl, rfl⟩ := hHn j o' hj
          exact S.own j o' b' hi hbj
    · exact hg.elim

theorem evE_store {T : Tr AV} {d : List ADefer} {H : Tr AO} {nx : Nat} {pc : List (SB × Bool)} {size : Nat} {a x : AOp} {i o n g ty : Nat} {t : Tr AV} {vs : List AV} (ha : evA T a = .ptr i o) (hx : cellsO (evA T x) = some vs) (hl : vs.length = size)
    (hi : H.get i = some (.cells n g ty t)) (hle : o + vs.length ≤ n) :
    evE noCfg (noRec St) (.store size a x) ⟨T, d, H, nx, pc⟩ (fun v s => match v with | .tup [] => .done s | _ => .fail 0) = .done ⟨T, d, H.set i (some (.cells n g ty (t.setAll o vs))), nx, pc⟩ := by
  have h1 : Nat.beq vs.length size = true := nbeq.2 hl
  have h2 : Nat.ble (Nat.add o vs.length) n = true := nble.2 hle
  simp only [evE, ha, hx, h1, stCells, hi, h2, AV.undef]

theorem evE_ins {T : Tr AV} {d : List ADefer} {H : Tr AO} {nx : Nat} {pc : List (SB × Bool)} {kk : KK} {mp kx vx : AOp} {i : Nat} {es : List (AV × AV)} (hm : evA T mp = .map i) (hi : H.get i = some (.umap es)) (hk : keyOk kk (evA T kx) = true)
    (hf : findU kk (evA T kx) es = some none) :
    evE noCfg (noRec St) (.mapUpd kk mp kx vx) ⟨T, d, H, nx, pc⟩ (fun v s => match v with | .tup [] => .done s | _ => .fail 0) = .done ⟨T, d, H.set i (some (.umap (es ++ [(evA T kx, evA T vx)]))), nx, pc⟩ := by
  simp only [evE, hm, mapPut, hi, hk, hf, AV.undef]

theorem OR_umap {E : Env} {i c : Nat} {x : Obj} (h : OR E i (.map [] c) x) : OR E i (.umap []) x := by
  obtain ⟨fs, rfl, h⟩ := h
  exact ⟨fs, c, [], rfl, List.Perm.refl _, h⟩

theorem nodup_eq : ∀ {ws : List (Nat × HW)}, (ws.map (·.1)).Nodup → ∀ {m : Nat} {x y : HW}, (m, x) ∈ ws → (m, y) ∈ ws → x = y
  | [], _, _, _, _, hx, _ => by cases hx
  | w :: ws, h, m, x, y, hx, hy => by
    simp only [List.map_cons, List.nodup_cons] at h
    have hin : ∀ z : HW, (m, z) ∈ ws → m ∈ ws.map (·.1) := fun z hz => List.mem_map.2 ⟨(m, z), hz, rfl⟩
    rcases List.mem_cons.1 hx with h1 | h1 <;> rcases List.mem_cons.1 hy with h2 | h2
    · rw [← h1] at h2; cases h2; rfl
    · rw [← h1] at h; exact absurd (hin y h2) h.1
    · rw [← h2] at h; exact absurd (hin x h1) h.1
    · exact nodup_eq h.2 h1 h2

/-- A write of a hidden object is listed. -/
theorem WSR.wrote {U : Nat → Prop} {E : Env} {nx : Nat} {pc : List (SB × Bool)} {w : World} {listed : Array Bool} {hid : List Hid} {pend : List (Nat × Nat × AO)} {h : Tr AO} (S : WSR U E (tot listed hid pend h) nx pc w) (ha : ApartH hid)
    {e : Hid} (he : e ∈ hid) (hnd : (e.2.2.2.map (·.1)).Nodup) (hsh : Shape e) {m : Nat} {x : HW} (hx : (m, x) ∈ e.2.2.2) (hu : ∀ e2 ∈ hid, ∀ y ∈ e2.2.2.2, y.1 = m → e2 = e) {b : Nat} (hb : E.m e.2.1 = some b)
    (hm : m < listed.size) (hun : ¬ Li listed m)
    {T : Tr AV} {a : Act} {o : Oper} {d : List ADefer} (ho : OpsR E T a o.op.operands.toList) (hd : DRs E d a.defers) (hop : WrOp (compI P o) T e.2.1 x)
    {K : Act → World → Prop} {Q : Exit → Act → World → Prop}
    (hK : ∀ E' w' u ds, E.le E' → (∀ j, j < nx → E'.m j = E.m j) → WSR U E' (tot (listed.setIfInBounds m true) hid pend h) nx pc w' → WR U w w' → VR E' AV.undef u → DRs E' d ds → K (({ a with defers := ds } : Act).put o.dst u) w') : o.wp P a w K Q := by
  have hL0 : (fun j => listed.getD j false) m = false := by unfold Li at hun; simpa using hun
  have hL1 : (fun j => (listed.setIfInBounds m true).getD j false) m = true := by simp [hm]
  have hLn : ∀ j, j ≠ m → (fun j => (listed.setIfInBounds m true).getD j false) j = (fun j => listed.getD j false) j := fun j hj => getD_set_ne false (Ne.symm hj)
  have hsame : ∀ w ∈ e.2.2.2, w.1 = m → w.2 = x := by
    rintro ⟨wm, wx⟩ hw rfl
    exact nodup_eq hnd hw hx
  have hget := tot_hid (listed := listed) (pend := pend) (h := h) ha he
  have hget' := tot_hid (listed := listed.setIfInBounds m true) (pend := pend) (h := h) ha he
  have hoth : ∀ j, j ≠ e.2.1 → (tot (listed.setIfInBounds m true) hid pend h).get j = (tot listed hid pend h).get j := by
    intro j hj
    rw [tot_get, tot_get]
    cases hf : findH j hid with
    | none => rfl
    | some e2 =>
      obtain ⟨h1, h2⟩ := findH_some hf
      simp only
      congr 2
      apply List.filter_congr
      intro y hy
      refine hLn y.1 fun hym => ?_
      have := hu e2 h1 y hy hym
      rw [this] at h2
      exact hj h2.symm
  obtain ⟨mk, i, ob, ws⟩ := e
  simp only at hget hget' hoth hsame hnd hx hb hop
  have fin : ∀ (H : Tr AO) (o3 o4 : AO) (E' : Env) (w' : World), (∀ j, j ≠ i → H.get j = (tot listed hid pend h).get j) → WSR U E' (H.set i (some o3)) nx pc w' → (∀ z, OR E' i o3 z → OR E' i o4 z) → (tot (listed.setIfInBounds m true) hid pend h).get i = some o4 →
      WSR U E' (tot (listed.setIfInBounds m true) hid pend h) nx pc w' := by
    intro H o3 o4 E' w' hH S' himp h4
    refine WSR.sub (WSR.imp S' (Tr.get_set_same _ _ _) himp) fun j o' hj => ?_
    rw [Tr.get_set]
    by_cases ej : j = i
    · rw [if_pos ej]
      rw [ej, h4] at hj; exact hj
    · rw [if_neg ej, Tr.get_set, if_neg ej, hH j ej]
      rw [hoth j ej] at hj; exact hj
  rcases hsh with ⟨n, g, ty, t, hob, hsx⟩ | ⟨c, hob, hsx⟩
  · simp only at hob hsx
    subst hob
    obtain ⟨off, vs, hxe, hle, hap⟩ := hsx (m, x) hx
    simp only at hxe hap
    subst hxe
    rw [applyWs_cells] at hget hget'
    obtain ⟨size, ax, xx, hco, h1, h2, h3⟩ := hop
    refine WSR.write S hget hb (o3 := .cells n g ty ((trieW t (ws.filter fun x => listed.getD x.1 false)).setAll off vs)) ho hd ?_ fun E' w' u ds g1 g2 g3 g4 g5 g6 => ?_
    · rw [hco]
      exact evE_store h1 h2 h3 (Tr.get_set_same _ _ _) hle
    · refine hK E' w' u ds g1 g2 (fin _ _ _ E' w' (fun j hj => rfl) g3 (fun z hz => OR_alike hz fun j hj => ?_) hget') g4 g5 g6
      rw [trieW_add hL0 hL1 hLn ws hsame hnd (fun w hw hne => hap w hw hne) ⟨_, hx, rfl⟩ j, Tr.get_setAll]
  · simp only at hob hsx
    subst hob
    obtain ⟨kk, k, v, hxe, hke, hap⟩ := hsx (m, x) hx
    simp only at hxe hap
    subst hxe
    obtain ⟨mp, kx, vx, hco, h1, h2, h3⟩ := hop
    subst h2 h3
    have hS2 : WSR U E ((tot listed hid pend h).set i (some (.umap (insW (ws.filter fun x => listed.getD x.1 false))))) nx pc w := by
      refine WSR.imp S hget fun z hz => ?_
      rcases applyWs_map c (ws.filter fun x => listed.getD x.1 false) with h | ⟨h, h2⟩
      · rw [h] at hz; exact hz
      · rw [h] at hz
        rw [h2]; exact OR_umap hz
    have hfu : findU kk (evA T kx) (insW (ws.filter fun x => listed.getD x.1 false)) = some none := by
      refine findU_none fun p hp => ?_
      obtain ⟨y, hy, jj, hye⟩ := insW_mem hp
      rw [List.mem_filter] at hy
      obtain ⟨hy, hyl⟩ := hy
      have hne : y.1 ≠ m := by
        intro e
        rw [e] at hyl
        exact hun hyl
      obtain ⟨jj', j, u, g1, g2⟩ := hap y hy hne
      rw [hye] at g1
      cases g1
      exact g2
    refine WSR.write hS2 (Tr.get_set_same _ _ _) hb (o3 := .umap (insW (ws.filter fun x => listed.getD x.1 false) ++ [(evA T kx, evA T vx)])) ho hd ?_ fun E' w' u ds g1 g2 g3 g4 g5 g6 => ?_
    · rw [hco]
      exact evE_ins h1 (Tr.get_set_same _ _ _) hke hfu
    · have hperm := insW_add (kk := kk) (k := evA T kx) (v := evA T vx) hL0 hL1 hLn ws hsame hnd ⟨_, hx, rfl⟩
      refine hK E' w' u ds g1 g2 (fin _ _ (.umap (insW (ws.filter fun x => (listed.setIfInBounds m true).getD x.1 false))) E' w' (fun j hj => Tr.get_set_other _ _ hj) g3 (fun z hz => OR_perm hz hperm.symm) ?_) g4 g5 g6
      rw [hget']
      rcases applyWs_map c (ws.filter fun x => (listed.setIfInBounds m true).getD x.1 false) with h | ⟨h, h2⟩
      · rw [h]
      · have h9 := hperm.length_eq
        rw [h2] at h9
        simp at h9

/-- What stands directly ahead, stands behind in the list. -/
def PD (ops : Array Oper) : Past → Prop
  | [] => True
  | p :: ps => (∀ o, ops[p.1]? = some o → ∀ j ∈ depsL o, ∃ q ∈ ps, q.1 = j) ∧ PD ops ps
end Ct
