/- Regions that draw: what is fixed ahead. -/
import Derived.Test.YtpcppjbjmdolnaaGreatDoorCtT
namespace Ct
open Go
variable {P : Program} {α : Type} {ops : Array Oper}

/-! ## The same value -/
theorem ikBeq_refl' {a b : IntKind} (h : ikBeq a b = true) : a = b := ikBeq_eq h
theorem ibeq_true {a b : Int} (h : ibeq a b = true) : a = b := by rw [ibeq_eq] at h; simpa using h

theorem flat_eq {a b : AV} (h : AV.flat a b = true) : a = b := by
  unfold AV.flat at h
  split at h
  · rw [band] at h; rw [ikBeq_eq h.1, ibeq_true h.2]
  · simp only [beq_iff_eq] at h; rw [h]
  · rw [band, nbeq, nbeq] at h; rw [h.1, h.2]
  · rfl
  · rw [band, nbeq, nbeq] at h; rw [h.1, h.2]
  · rfl
  · rfl
  · rw [band, band, band, nbeq, nbeq, nbeq] at h
    obtain ⟨rfl, rfl, rfl, h4⟩ := h
    split at h4
    · rfl
    · rw [nbeq] at h4; rw [h4]
    · cases h4
  · rfl
  · rw [nbeq] at h; rw [h]
  · rfl
  · rw [nbeq] at h; rw [h]
  · rfl
  · rw [band] at h
    have := h.2
    simp only [decide_eq_true_eq] at this
    rw [ikBeq_eq h.1, this]
  · simp only [decide_eq_true_eq] at h; rw [h]
  · cases h

theorem flats_eq : ∀ {a b : List AV}, flats a b = true → a = b
  | [], [], _ => rfl
  | a :: as, b :: bs, h => by
    simp only [flats] at h
    split at h
    · rename_i h1; rw [flat_eq h1, flats_eq h]
    · cases h
  | [], _ :: _, h => by simp [flats] at h
  | _ :: _, [], h => by simp [flats] at h

theorem same_eq {a b : AV} (h : AV.same a b = true) : a = b := by
  unfold AV.same at h
  split at h
  · rw [flats_eq h]
  · rw [flats_eq h]
  · rw [band, nbeq] at h; rw [h.1, flats_eq h.2]
  · exact flat_eq h

theorem memN_iff {n : Nat} : ∀ {l : List Nat}, memN n l = true ↔ n ∈ l
  | [] => by simp [memN]
  | m :: ms => by
    simp only [memN]
    split
    · rename_i h; rw [nbeq] at h; simp [h]
    · rename_i h
      rw [nbeqF] at h
      rw [memN_iff]
      simp [Ne.symm h]

theorem again_sound {re : List Nat} {H : Tr AO} : ∀ {l : List Seen}, again re H l = true → ∀ m op t v, (m, op, t, v) ∈ l → m ∈ re → evPR t H op = some v
  | [], _, m, op, t, v, hm, _ => by cases hm
  | (m', op', t', v') :: l, h, m, op, t, v, hm, hre => by
    simp only [again] at h
    split at h
    · split at h
      · rename_i w hw
        split at h
        · rename_i hs
          rcases List.mem_cons.1 hm with he | hm
          · cases he
            rw [same_eq hs]; exact hw
          · exact again_sound h m op t v hm hre
        · cases h
      · cases h
    · rename_i hn
      rcases List.mem_cons.1 hm with he | hm
      · cases he
        rw [memN_iff.2 hre] at hn; cases hn
      · exact again_sound h m op t v hm hre

/-! ## Deps -/
theorem bindsE_eq (e : Edge) : bindsE e = Region.binds .any e := by
  unfold bindsE Region.binds
  split <;> simp_all <;> rfl

theorem mem_depsL {o : Oper} {j : Nat} : j ∈ depsL o ↔ ∃ e ∈ o.after, Region.binds .any e = true ∧ e.on = j := by
  unfold depsL
  rw [List.mem_filterMap]
  constructor
  · rintro ⟨e, he, h⟩
    rw [bindsE_eq] at h
    split at h
    · rename_i hb; cases h; exact ⟨e, by simpa using he, hb, rfl⟩
    · cases h
  · rintro ⟨e, he, hb, rfl⟩
    exact ⟨e, by simpa using he, by rw [bindsE_eq, hb]⟩

/-- Sets of operations that are closed. -/
def Closed (ops : Array Oper) (L : Nat → Prop) : Prop := ∀ i o, ops[i]? = some o → L i → ∀ j ∈ depsL o, L j

theorem testBit_maskL {f : Nat → Nat} : ∀ {l : List Nat} {j : Nat}, (maskL f l).testBit j = true → ∃ d ∈ l, j = d ∨ (f d).testBit j = true
  | [], j, h => by simp [maskL] at h
  | d :: l, j, h => by
    simp only [maskL] at h
    have h' : ((2 ^ d ||| f d) ||| maskL f l).testBit j = true := h
    rw [Nat.testBit_or, Nat.testBit_or, Bool.or_eq_true, Bool.or_eq_true] at h'
    rcases h' with (h' | h') | h'
    · rw [Nat.testBit_two_pow] at h'
      exact ⟨d, by simp, .inl (by simp at h'; exact h'.symm)⟩
    · exact ⟨d, by simp, .inr h'⟩
    · obtain ⟨d', hd, hx⟩ := testBit_maskL h'
      exact ⟨d', by simp [hd], hx⟩

def PastOK (ops : Array Oper) (past : Past) : Prop := ∀ p ∈ past, ∀ L, Closed ops L → L p.1 → ∀ j, p.2.2.testBit j = true → L j

theorem ancOf_mem : ∀ {past : Past} {d j : Nat}, (ancOf past d).testBit j = true → ∃ p ∈ past, p.1 = d ∧ p.2.2.testBit j = true
  | [], d, j, h => by simp [ancOf] at h
  | p :: ps, d, j, h => by
    simp only [ancOf] at h
    split at h
    · rename_i hb; rw [nbeq] at hb; exact ⟨p, by simp, hb, h⟩
    · obtain ⟨q, hq, h1, h2⟩ := ancOf_mem h
      exact ⟨q, by simp [hq], h1, h2⟩

/-- All that stands ahead is there, where all that stands directly ahead is. -/
theorem anc_listed {past : Past} (hp : PastOK ops past) {L : Nat → Prop} (hc : Closed ops L) {dl : List Nat} (hd : ∀ j ∈ dl, L j) {j : Nat} (h : (maskL (ancOf past) dl).testBit j = true) : L j := by
  obtain ⟨d, hdm, rfl | h⟩ := testBit_maskL h
  · exact hd _ hdm
  · obtain ⟨p, hpm, rfl, hb⟩ := ancOf_mem h
    exact hp p hpm L hc (hd _ hdm) j hb

theorem isPast_iff {j : Nat} : ∀ {past : Past}, isPast past j = true ↔ ∃ p ∈ past, p.1 = j
  | [] => by simp [isPast]
  | p :: ps => by
    simp only [isPast]
    split
    · rename_i h; rw [nbeq] at h; simp [h]
    · rename_i h
      rw [nbeqF] at h
      rw [isPast_iff]
      simp [h]

theorem slotsOk_spec {o : Oper} {dl : List Nat} {anc : Nat} : ∀ {past : Past}, slotsOk ops o dl anc past = true → ∀ p ∈ past, ∃ q, ops[p.1]? = some q ∧
    (∀ x, q.dst = some x → (x ∈ o.looksAt ops → p.1 ∈ dl) ∧ ∀ y, o.dst = some y → x ≠ y) ∧ (∀ y, o.dst = some y → y ∈ q.looksAt ops → anc.testBit p.1 = true)
  | [], _, p, hp => by cases hp
  | p' :: ps, h, p, hp => by
    simp only [slotsOk] at h
    rw [band] at h
    rcases List.mem_cons.1 hp with rfl | hp
    · have h1 := h.1
      split at h1
      · cases h1
      · rename_i q hq
        rw [band] at h1
        refine ⟨q, hq, fun x hx => ?_, fun y hy hm => ?_⟩
        · have h2 := h1.1
          rw [hx] at h2
          simp only at h2
          rw [band] at h2
          refine ⟨fun hm => ?_, fun y hy => ?_⟩
          · have h3 := h2.1
            rw [memN_iff.2 hm] at h3
            exact memN_iff.1 (by simpa using h3)
          · have h3 := h2.2
            rw [hy] at h3
            simp only at h3
            intro e
            rw [nbeq.2 e] at h3; cases h3
        · have h2 := h1.2
          rw [hy] at h2
          simp only at h2
          rw [memN_iff.2 hm] at h2
          simpa using h2
    · exact slotsOk_spec h.2 p hp

theorem okE_spec {d : DOp} {anc : Nat} : ∀ {past : Past}, okE d anc past = true → ∀ p ∈ past, (p.2.1 = 0 → p.1 ∈ d.re ∨ anc.testBit p.1 = true) ∧ (p.1 ∈ d.mg → anc.testBit p.1 = true)
  | [], _, p, hp => by cases hp
  | p' :: ps, h, p, hp => by
    simp only [okE] at h
    rw [band, band] at h
    rcases List.mem_cons.1 hp with rfl | hp
    · refine ⟨fun h0 => ?_, fun hm => ?_⟩
      · have h1 := h.1
        rw [nbeq.2 h0] at h1
        cases hb : memN p.1 d.re with
        | true => exact .inl (memN_iff.1 hb)
        | false => rw [hb] at h1; exact .inr (by simpa using h1)
      · have h1 := h.2.1
        rw [memN_iff.2 hm] at h1
        simpa using h1
    · exact okE_spec h.2.2 p hp

/-- What the check says of the next one. -/
theorem okG_cons {d : DOp} {ds : List DOp} {past : Past} {lastE : Option Nat} (h : okG ops (d :: ds) past lastE = true) : ∃ o, ops[d.mark]? = some o ∧
    (∀ p ∈ past, p.1 ≠ d.mark) ∧ (∀ j ∈ depsL o, ∃ p ∈ past, p.1 = j) ∧ slotsOk ops o (depsL o) (maskL (ancOf past) (depsL o)) past = true ∧
    (∀ e, lastE = some e → (maskL (ancOf past) (depsL o)).testBit e = true) ∧ (2 ≤ d.cls → okE d (maskL (ancOf past) (depsL o)) past = true) ∧
    okG ops ds ((d.mark, d.cls, maskL (ancOf past) (depsL o)) :: past) (match Nat.beq d.cls 2 with | true => some d.mark | false => lastE) = true := by
  simp only [okG] at h
  split at h
  · cases h
  · rename_i o ho
    rw [band, band, band, band, band] at h
    obtain ⟨h1, h2, h3, h4, h5, h6⟩ := h
    refine ⟨o, ho, fun p hp e => ?_, fun j hj => ?_, h3, fun e he => ?_, fun hc => ?_, h6⟩
    · rw [isPast_iff.2 ⟨p, hp, e⟩] at h1; cases h1
    · rw [List.all_eq_true] at h2
      exact isPast_iff.1 (h2 j hj)
    · rw [he] at h4; exact h4
    · rw [nble.2 hc] at h5; exact h5

theorem PastOK.cons {past : Past} (h : PastOK ops past) {m c : Nat} {o : Oper} (ho : ops[m]? = some o) : PastOK ops ((m, c, maskL (ancOf past) (depsL o)) :: past) := by
  intro p hp L hc hl j hj
  rcases List.mem_cons.1 hp with rfl | hp
  · exact anc_listed h hc (hc m o ho hl) hj
  · exact h p hp L hc hl j hj

/-- What stands behind one that is not there yet, is not there, and is not due. -/
theorem rest_unready {L : Nat → Prop} (hc : Closed ops L) : ∀ (ds : List DOp) (past : Past) (e : Nat), okG ops ds past (some e) = true → PastOK ops past → ¬ L e →
    ∀ d ∈ ds, ∀ o, ops[d.mark]? = some o → ¬ ∀ j ∈ depsL o, L j
  | [], _, _, _, _, _, d, hd, _, _ => by cases hd
  | d' :: ds, past, e, h, hp, he, d, hd, o, ho => by
    obtain ⟨o', ho', _, _, _, h4, _, h6⟩ := okG_cons h
    have hnot : ¬ ∀ j ∈ depsL o', L j := fun hall => he (anc_listed hp hc hall (h4 e rfl))
    rcases List.mem_cons.1 hd with rfl | hd
    · rw [ho] at ho'; cases ho'; exact hnot
    · split at h6
      · exact rest_unready hc ds _ d'.mark h6 (hp.cons ho') (fun hl => hnot (hc _ _ ho' hl)) d hd o ho
      · exact rest_unready hc ds _ e h6 (hp.cons ho') he d hd o ho

/-! ## What is drawn up -/
theorem mkDraw_mem {aops : List AOper} {bef cls : List Nat} : ∀ {l past : List Nat} {d : DOp}, d ∈ mkDraw aops bef cls l past → d.o = aops.getD d.mark default ∧ d.cls = cls.getD d.mark 0
  | [], past, d, h => by cases h
  | i :: is, past, d, h => by
    simp only [mkDraw] at h
    rcases List.mem_cons.1 h with rfl | h
    · exact ⟨rfl, rfl⟩
    · exact mkDraw_mem h

theorem clsOf_le (x : AI) : clsOf x ≤ 2 := by cases x <;> simp [clsOf]

theorem clsR_get {aops : List AOper} {bef cls : List Nat} {i : Nat} (h : i < cls.length) : (clsR aops bef cls).getD i 0 = cls.getD i 0 ∨
    ((clsR aops bef cls).getD i 0 = 3 ∧ cls.getD i 0 = 2 ∧ freeW (aops.getD i default).op = true) := by
  have e : (clsR aops bef cls).getD i 0 = match ((Nat.beq (cls.getD i 0) 2).and (freeW (aops.getD i default).op)).and (openOf bef cls i) with
    | true => 3
    | false => cls.getD i 0 := by
    unfold clsR
    rw [List.getD_eq_getElem?_getD, List.getElem?_map, List.getElem?_range h]
    rfl
  rw [e]
  split
  · rename_i hc
    rw [band, band, nbeq] at hc
    exact .inr ⟨rfl, hc.1.1, hc.1.2⟩
  · exact .inl rfl

theorem drawOf_mem {d : DOp} (h : d ∈ drawOf ops.toList (ops.toList.map (compOper P ops))) {o : Oper} (ho : ops[d.mark]? = some o) : d.o = compOper P ops o ∧ (d.cls = clsOf d.o.op ∨ (d.cls = 3 ∧ freeW d.o.op = true)) := by
  unfold drawOf at h
  obtain ⟨h1, h2⟩ := mkDraw_mem h
  have h3 : (ops.toList.map (compOper P ops)).getD d.mark default = compOper P ops o := by
    simp [List.getD_eq_getElem?_getD, ho]
  have h4 : ((ops.toList.map (compOper P ops)).map fun a => clsOf a.op).getD d.mark 0 = clsOf (compOper P ops o).op := by
    simp [List.getD_eq_getElem?_getD, ho]
  have hlt : d.mark < ((ops.toList.map (compOper P ops)).map fun a => clsOf a.op).length := by
    have := (Array.getElem?_eq_some_iff.1 ho).1
    simpa using this
  rw [h3] at h1
  refine ⟨h1, ?_⟩
  rw [h2]
  rcases clsR_get (aops := ops.toList.map (compOper P ops)) (bef := befM ops.toList []) hlt with e | ⟨e, _, hf⟩
  · rw [e, h4, h1]; exact .inl rfl
  · rw [h3] at hf
    exact .inr ⟨e, by rw [h1]; exact hf⟩

theorem markIn_iff {i : Nat} : ∀ {ds : List DOp}, markIn ds i = true → ∃ d ∈ ds, d.mark = i
  | [], h => by simp [markIn] at h
  | d :: ds, h => by
    simp only [markIn] at h
    split at h
    · rename_i hb; rw [nbeq] at hb; exact ⟨d, by simp, hb⟩
    · obtain ⟨d', h1, h2⟩ := markIn_iff h
      exact ⟨d', by simp [h1], h2⟩

/-! ## Heaps with what is made laid in -/
theorem lay_get : ∀ {pend : List (Nat × Nat × AO)} {h : Tr AO} {i : Nat}, (lay pend h).get i = match pend.find? (fun p => Nat.beq p.2.1 i) with | some p => some p.2.2 | none => h.get i
  | [], h, i => rfl
  | p :: ps, h, i => by
    simp only [lay, Tr.get_set, List.find?_cons]
    by_cases e : i = p.2.1
    · subst e
      rw [if_pos rfl, show Nat.beq p.2.1 p.2.1 = true from nbeq.2 rfl]
    · rw [if_neg e, show Nat.beq p.2.1 i = false from nbeqF.2 (Ne.symm e)]
      exact lay_get

theorem lay_some {pend : List (Nat × Nat × AO)} {h : Tr AO} {i : Nat} {o : AO} (hg : (lay pend h).get i = some o) : (∃ p ∈ pend, p.2.1 = i ∧ p.2.2 = o) ∨ ((∀ p ∈ pend, p.2.1 ≠ i) ∧ h.get i = some o) := by
  rw [lay_get] at hg
  split at hg
  · rename_i p hp
    have h1 := List.find?_some hp
    rw [nbeq] at h1
    cases hg
    exact .inl ⟨p, List.mem_of_find?_eq_some hp, h1, rfl⟩
  · rename_i hn
    rw [List.find?_eq_none] at hn
    exact .inr ⟨fun p hp e => hn p hp (nbeq.2 e), hg⟩

theorem lay_old {pend : List (Nat × Nat × AO)} {h : Tr AO} {i : Nat} (hn : ∀ p ∈ pend, p.2.1 ≠ i) : (lay pend h).get i = h.get i := by
  rw [lay_get]
  have : pend.find? (fun p => Nat.beq p.2.1 i) = none := by
    rw [List.find?_eq_none]
    intro p hp e
    exact hn p hp (nbeq.1 e)
  rw [this]

/-- Ids are told apart. -/
def Apart (pend : List (Nat × Nat × AO)) : Prop := ∀ p ∈ pend, ∀ q ∈ pend, p.2.1 = q.2.1 → p = q

theorem lay_of {pend : List (Nat × Nat × AO)} {h : Tr AO} (ha : Apart pend) {p : Nat × Nat × AO} (hp : p ∈ pend) : (lay pend h).get p.2.1 = some p.2.2 := by
  rw [lay_get]
  cases hf : pend.find? (fun q => Nat.beq q.2.1 p.2.1) with
  | none =>
    rw [List.find?_eq_none] at hf
    exact absurd (nbeq.2 rfl) (hf p hp)
  | some q =>
    have h1 := List.find?_some hf
    rw [nbeq] at h1
    rw [ha q (List.mem_of_find?_eq_some hf) p hp h1]

theorem splitP_mem {mg : List Nat} : ∀ {pend : List (Nat × Nat × AO)} {p : Nat × Nat × AO}, (p ∈ (splitP mg pend).1 ↔ p ∈ pend ∧ p.1 ∈ mg) ∧ (p ∈ (splitP mg pend).2 ↔ p ∈ pend ∧ p.1 ∉ mg)
  | [], p => by simp [splitP]
  | q :: ps, p => by
    have ih := splitP_mem (mg := mg) (pend := ps) (p := p)
    simp only [splitP]
    split
    · rename_i h
      rw [memN_iff] at h
      simp only [List.mem_cons]
      rw [ih.1, ih.2]
      constructor
      · constructor
        · rintro (rfl | ⟨h1, h2⟩)
          · exact ⟨.inl rfl, h⟩
          · exact ⟨.inr h1, h2⟩
        · rintro ⟨rfl | h1, h2⟩
          · exact .inl rfl
          · exact .inr ⟨h1, h2⟩
      · constructor
        · rintro ⟨h1, h2⟩; exact ⟨.inr h1, h2⟩
        · rintro ⟨rfl | h1, h2⟩
          · exact absurd h h2
          · exact ⟨h1, h2⟩
    · rename_i h
      have h : q.1 ∉ mg := fun hm => by rw [memN_iff.2 hm] at h; cases h
      simp only [List.mem_cons]
      rw [ih.1, ih.2]
      constructor
      · constructor
        · rintro ⟨h1, h2⟩; exact ⟨.inr h1, h2⟩
        · rintro ⟨rfl | h1, h2⟩
          · exact absurd h2 h
          · exact ⟨h1, h2⟩
      · constructor
        · rintro (rfl | ⟨h1, h2⟩)
          · exact ⟨.inl rfl, h⟩
          · exact ⟨.inr h1, h2⟩
        · rintro ⟨rfl | h1, h2⟩
          · exact .inl rfl
          · exact .inr ⟨h1, h2⟩
end Ct
