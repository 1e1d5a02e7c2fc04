/- Regions that draw: the walk. -/
import Derived.Test.YtpcppjbjmdolnaaGreatDoorCtV
namespace Ct
open Go
variable {P : Program} {α : Type} {ops : Array Oper}
variable {C : Cfg} {ih : Rec α} {Φ : α → Prop} {k : St → R α} {N : Nat} {U : Nat → Prop} {E0 : Env} {nx0 : Nat} {w0 : World} {T0 : Tr AV}
  {listed : Array Bool} {a : Act} {w : World} {E : Env} {s : St} {past : Past} {pend : List (Nat × Nat × AO)} {seen : List Seen} {hid : List Hid} {rest : List DOp} {lastE : Option Nat}

theorem put_other (t : Tr AV) {dst : Option Nat} (v : AV) {x : Nat} (h : dst ≠ some x) : (put t dst v).get x = t.get x := by
  cases dst with
  | none => rfl
  | some d =>
    simp only [put]
    rw [Tr.get_set_other]
    rintro rfl
    exact h rfl
theorem put_same (t : Tr AV) (v : AV) (x : Nat) : (put t (some x) v).get x = some v := Tr.get_set_same _ _ _

theorem RecT.push {m c anc : Nat} {o : Oper} {dl : List Nat} (hslots : slotsOk ops o dl anc past = true) (ho : ops[m]? = some o) {St : Tr AV} (v : AV) {p : Nat × Nat × Nat} (hp : p ∈ past) {op : Oper} (hop : ops[p.1]? = some op) {T : Tr AV}
    (h : RecT ops past T0 St p.1 op T) : RecT ops ((m, c, anc) :: past) T0 (put St o.dst v) p.1 op T := by
  intro x hx
  rcases h x hx with ⟨q, hq, oq, hoq, hdst, hqd, hT⟩ | ⟨hall, hT⟩
  · obtain ⟨oq', hoq', h1, _⟩ := slotsOk_spec hslots q hq
    rw [hoq] at hoq'; cases hoq'
    refine .inl ⟨q, List.mem_cons_of_mem _ hq, oq, hoq, hdst, hqd, ?_⟩
    rw [hT, put_other]
    intro e
    exact (h1 x hdst).2 x e rfl
  · refine .inr ⟨fun q hq oq hoq hdst => ?_, hT⟩
    rcases List.mem_cons.1 hq with rfl | hq
    · simp only at hoq
      rw [ho] at hoq; cases hoq
      obtain ⟨op', hop', _, h2⟩ := slotsOk_spec hslots p hp
      rw [hop] at hop'; cases hop'
      exact .inr (h2 x hdst hx)
    · exact hall q hq oq hoq hdst

theorem Prom.grow {HP HP' : Tr AO} {past' : Past} {pend' : List (Nat × Nat × AO)} {seen' : List Seen} {m c : Nat} {o : Oper} {T : Tr AV} {v : AV} (h : Prom P ops E HP past pend seen hid m c o T v) (h1 : ∀ i o, HP.get i = some o → HP'.get i = some o)
    (h2 : ∀ p ∈ pend, p ∈ pend') (h2' : ∀ q ∈ pend', q ∈ pend ∨ q.1 ≠ m) (h3 : ∀ x ∈ seen, x ∈ seen') (h4 : ∀ q ∈ past, q ∈ past') : Prom P ops E HP' past' pend' seen' hid m c o T v := by
  have no : NoM pend hid m → NoM pend' hid m := fun hno => ⟨fun q hq => (h2' q hq).elim (hno.1 q) id, hno.2⟩
  cases h with
  | off hw hno hg hv => exact .off hw (no hno) hg hv
  | read hw hno hc hg hs H0 hsub he =>
    refine .read hw (no hno) hc hg (h3 _ hs) H0 (fun i o hi => ?_) he
    rcases hsub i o hi with h | ⟨e, e1, e2, e3, e4⟩
    · exact .inl (h1 i o h)
    · exact .inr ⟨e, e1, e2, e3, fun x hx => let ⟨q, g1, g2⟩ := e4 x hx; ⟨q, h4 q g1, g2⟩⟩
  | pick hw hno hg ca x y b hc hv hb => exact .pick hw (no hno) hg ca x y b hc hv hb
  | mk hw hg id ob he hp hn hu hu' => exact .mk hw hg id ob he (hp.imp (h2 _) (fun h => h)) hn (fun q hq e => (h2' q hq).elim (fun h => hu q h e) fun h => absurd e h) hu'
  | wr hno hg hv e he x hx hop hu => exact .wr (no hno) hg hv e he x hx hop hu

/-- What an operation leaves in the list. -/
abbrev mark3 (past : Past) (d : DOp) (o : Oper) : Nat × Nat × Nat := (d.mark, d.cls, maskL (ancOf past) (depsL o))

/-- One that does not write now is taken in. -/
theorem Inv.push {d : DOp} (I : Inv P C ih Φ k ops N U E0 nx0 w0 T0 listed a w E s past pend seen hid (d :: rest) lastE) (hcls : d.cls ≠ 2) {o : Oper} (ho : ops[d.mark]? = some o) (ht : Turned P ops o) {v : AV}
    {h' : Tr AO} {pend' : List (Nat × Nat × AO)} {seen' : List Seen} {hid' : List Hid} {nx' : Nat} {pc' : List (SB × Bool)} (hprom : Prom P ops E (lay pend' h') (mark3 past d o :: past) pend' seen' hid' d.mark d.cls o s.t v)
    (hold : ∀ p ∈ past, ¬ Li listed p.1 → ∀ o2 T v2, Turned P ops o2 → Prom P ops E (lay pend s.h) past pend seen hid p.1 p.2.1 o2 T v2 → Prom P ops E (lay pend' h') (mark3 past d o :: past) pend' seen' hid' p.1 p.2.1 o2 T v2)
    (hsr : WSR U E (tot listed hid' pend' h') nx' pc' w) (hM : MemOK listed E (mark3 past d o :: past) h' nx0 nx' pend' hid') (hnx : nx0 ≤ nx') (hg : Good E.ρ E.β Φ (evD C ih rest ⟨put s.t o.dst v, s.d, h', nx', pc'⟩ pend' seen' hid' k)) :
    Inv P C ih Φ k ops N U E0 nx0 w0 T0 listed a w E ⟨put s.t o.dst v, s.d, h', nx', pc'⟩ (mark3 past d o :: past) pend' seen' hid' rest lastE := by
  obtain ⟨o', ho', h1, h2, h3, h4, h5, h6⟩ := okG_cons I.okg
  rw [ho] at ho'; cases ho'
  rw [show Nat.beq d.cls 2 = false from nbeqF.2 hcls] at h6
  have hspec := slotsOk_spec h3
  have hdne : ∀ p ∈ past, ∀ op, ops[p.1]? = some op → ∀ x, op.dst = some x → o.dst ≠ some x := by
    intro p hp op hop x hx e
    obtain ⟨op', hop', g1, _⟩ := hspec p hp
    rw [hop] at hop'; cases hop'
    exact (g1 x hx).2 x e rfl
  have hnew : ¬ Li listed d.mark := I.unl d (by simp)
  refine ⟨I.lsz, I.closed, I.pa.cons ho, h6, fun d' hd' => I.restO d' (List.mem_cons_of_mem _ hd'), ?_, fun d' hd' => I.unl d' (List.mem_cons_of_mem _ hd'), I.ck, ?_, ?_, ?_, ?_, hsr, hM, ⟨fun oo hoo j hj => by rw [ho] at hoo; cases hoo; exact h2 j hj, I.pd⟩, I.dr, I.le, I.old, I.wr, hnx, I.sz, hg⟩
  · intro i hi
    rcases I.cover i hi with ⟨p, hp, e⟩ | ⟨d', hd', e⟩
    · exact .inl ⟨p, List.mem_cons_of_mem _ hp, e⟩
    · rcases List.mem_cons.1 hd' with rfl | hd'
      · exact .inl ⟨_, List.mem_cons_self, e⟩
      · exact .inr ⟨d', hd', e⟩
  · intro p hp
    rcases List.mem_cons.1 hp with rfl | hp
    · refine ⟨o, ho, fun j hj => ?_, .inr ⟨ht, hcls, s.t, v, ?_, ?_, hprom⟩⟩
      · obtain ⟨q, hq, e⟩ := h2 j hj
        exact ⟨q, List.mem_cons_of_mem _ hq, e⟩
      · intro x hx
        by_cases hex : ∃ q ∈ past, ∃ oq : Oper, ops[q.1]? = some oq ∧ oq.dst = some x
        · obtain ⟨q, hq, oq, hoq, hdst⟩ := hex
          obtain ⟨oq', hoq', g1, _⟩ := hspec q hq
          rw [hoq] at hoq'; cases hoq'
          refine .inl ⟨q, List.mem_cons_of_mem _ hq, oq, hoq, hdst, (g1 x hdst).1 hx, ?_⟩
          rw [put_other _ _ (hdne q hq oq hoq x hdst)]
        · refine .inr ⟨fun q hq oq hoq hdst => ?_, I.ct x fun q hq oq hoq hdst => hex ⟨q, hq, oq, hoq, hdst⟩⟩
          rcases List.mem_cons.1 hq with rfl | hq
          · exact .inl rfl
          · exact absurd ⟨q, hq, oq, hoq, hdst⟩ hex
      · intro x hx
        simp only [hx]; exact put_same _ _ _
    · obtain ⟨op, hop, hdeps, hcase⟩ := I.pastO p hp
      refine ⟨op, hop, fun j hj => ?_, ?_⟩
      · obtain ⟨q, hq, e⟩ := hdeps j hj
        exact ⟨q, List.mem_cons_of_mem _ hq, e⟩
      · by_cases hpl : Li listed p.1
        · exact .inl hpl
        · rcases hcase with hl | ⟨ht', hc', T, v', g1, g2, g3⟩
          · exact .inl hl
          · refine .inr ⟨ht', hc', T, v', RecT.push h3 ho v hp hop g1, fun x hx => ?_, hold p hp hpl op T v' ht' g3⟩
            simp only
            rw [put_other _ _ (hdne p hp op hop x hx)]
            exact g2 x hx
  · intro p hp q hq op oq x hop hoq hx hy
    rcases List.mem_cons.1 hp with rfl | hp <;> rcases List.mem_cons.1 hq with rfl | hq
    · rfl
    · simp only at hop
      rw [ho] at hop; cases hop
      exact absurd hx (hdne q hq oq hoq x hy)
    · simp only at hoq
      rw [ho] at hoq; cases hoq
      exact absurd hy (hdne p hp op hop x hx)
    · exact I.uniq p hp q hq op oq x hop hoq hx hy
  · intro x
    rcases I.rt x with ⟨q, hq, oq, hoq, hl, hdst, hv'⟩ | ⟨hno, hv'⟩
    · refine .inl ⟨q, List.mem_cons_of_mem _ hq, oq, hoq, hl, hdst, ?_⟩
      simp only [evA] at hv' ⊢
      rw [put_other _ _ (hdne q hq oq hoq x hdst)]; exact hv'
    · refine .inr ⟨fun q hq oq hoq hdst => ?_, hv'⟩
      rcases List.mem_cons.1 hq with rfl | hq
      · exact hnew
      · exact hno q hq oq hoq hdst
  · intro x hx
    simp only
    rw [put_other _ _ (hx _ List.mem_cons_self o ho)]
    exact I.ct x fun q hq oq hoq => hx q (List.mem_cons_of_mem _ hq) oq hoq

theorem MemOK.wide {h : Tr AO} {nx : Nat} (M : MemOK listed E past h nx0 nx pend hid) {past' : Past} (hp : ∀ q ∈ past, q ∈ past') : MemOK listed E past' h nx0 nx pend hid := by
  refine ⟨M.ap, M.pn, fun p h => ⟨?_, (M.pmk p h).2⟩, M.pl, M.ah, M.out, fun e he m hm => ⟨(M.hmk e he m hm).1, ?_, (M.hmk e he m hm).2.2⟩, M.hpl, fun e he => ⟨(M.ws e he).1, fun x hx => ?_⟩, M.sh⟩
  · obtain ⟨q, h1, h2⟩ := (M.pmk p h).1; exact ⟨q, hp q h1, h2⟩
  · obtain ⟨q, h1, h2⟩ := (M.hmk e he m hm).2.1; exact ⟨q, hp q h1, h2⟩
  · obtain ⟨q, h1, h2⟩ := (M.ws e he).2 x hx; exact ⟨q, hp q h1, h2⟩

theorem MemOK.noW {h : Tr AO} {nx : Nat} (M : MemOK listed E past h nx0 nx pend hid) {m : Nat} (hm : ∀ p ∈ past, p.1 ≠ m) : NoW hid m := by
  intro e he x hx e'
  obtain ⟨q, h1, h2, _⟩ := (M.ws e he).2 x hx
  exact hm q h1 (h2.trans e')
theorem MemOK.noM {h : Tr AO} {nx : Nat} (M : MemOK listed E past h nx0 nx pend hid) {m : Nat} (hm : ∀ p ∈ past, p.1 ≠ m) : NoM pend hid m := by
  refine ⟨fun q hq e => ?_, fun e he e' => ?_⟩
  · obtain ⟨⟨r, h1, h2⟩, _⟩ := M.pmk q hq
    exact hm r h1 (h2.trans e)
  · obtain ⟨_, ⟨r, h1, h2⟩, _⟩ := M.hmk e he m e'
    exact hm r h1 h2

theorem WSR.held {H : Tr AO} {nx : Nat} {pc : List (SB × Bool)} (h : WSR U E H nx pc w) (ob : AO) : WSR U E (H.set nx (some ob)) (Nat.succ nx) pc w := by
  have hn := (h.fresh nx (Nat.le_refl _)).1
  have hne : ∀ i b, E.m i = some b → i ≠ nx := by rintro i b hb rfl; rw [hn] at hb; cases hb
  refine ⟨⟨fun i o b hi hb => ?_, fun i j o p b hi hj hbi hbj => ?_⟩, fun i o b hi hb => ?_, fun i hi => ?_, h.big, h.known, h.pc, h.glob⟩
  · rw [Tr.get_set, if_neg (hne i b hb)] at hi
    exact h.hr.obj i o b hi hb
  · rw [Tr.get_set, if_neg (hne i b hbi)] at hi
    rw [Tr.get_set, if_neg (hne j b hbj)] at hj
    exact h.hr.inj i j o p b hi hj hbi hbj
  · rw [Tr.get_set, if_neg (hne i b hb)] at hi
    exact h.own i o b hi hb
  · have e : i ≠ nx := by omega
    rw [Tr.get_set, if_neg e]
    exact h.fresh i (by omega)

theorem turned_of {o : Oper} (h : clsOf (compOper P ops o).op ≠ 2 ∨ freeW (compOper P ops o).op = true) : Turned P ops o := by
  obtain ⟨_, ⟨h1, _⟩ | h2⟩ := compOper_cases (P := P) ops o
  · rw [h1] at h
    rcases h with h | h
    · exact absurd rfl h
    · cases h
  · exact h2


/-! ## A write that is put out of sight -/
theorem hideW_spec {mg : List Nat} {m : Nat} {op : AI} {t : Tr AV} {h h' : Tr AO} {hid' : List Hid} {pend' : List (Nat × Nat × AO)} (hh : hideW mg m op t h pend hid = some (h', pend', hid')) :
    ∃ i e hid0 x, hideO mg i h pend hid = some (e, h', pend', hid0) ∧ hid' = (e.1, e.2.1, e.2.2.1, (m, x) :: e.2.2.2) :: hid0 ∧ WrOp op t e.2.1 x ∧
      ((∃ n g ty tt o vs, e.2.2.1 = .cells n g ty tt ∧ x = .cells o vs ∧ o + vs.length ≤ n ∧ apartW o vs.length e.2.2.2 = true) ∨
       (∃ c kk k v, e.2.2.1 = .map [] c ∧ x = .ins kk k v ∧ keyOk kk k = true ∧ otherK kk k e.2.2.2 = true)) := by
  unfold hideW at hh
  split at hh
  · rename_i size a x
    split at hh
    · rename_i i o ha
      split at hh
      · rename_i vs hvs
        split at hh
        · rename_i hl
          rw [nbeq] at hl
          split at hh
          · rename_i mk i' ob ws h2 pend2 hid2 hho
            split at hh
            · rename_i n g ty tt
              split at hh
              · rename_i hc
                rw [band, nble, nadd] at hc
                cases hh
                have hi := (hideO_spec hho).1
                simp only at hi
                subst hi
                exact ⟨_, _, _, .cells o vs, hho, rfl, ⟨size, a, x, rfl, ha, hvs, hl⟩, .inl ⟨n, g, ty, tt, o, vs, rfl, rfl, hc.1, hc.2⟩⟩
              · cases hh
            · cases hh
          · cases hh
        · cases hh
      · cases hh
    · cases hh
  · rename_i kk mp kx vx
    split at hh
    · rename_i i ha
      split at hh
      · rename_i mk i' ob ws h2 pend2 hid2 hho
        split at hh
        · rename_i c
          split at hh
          · rename_i hc
            rw [band] at hc
            cases hh
            have hi := (hideO_spec hho).1
            simp only at hi
            subst hi
            exact ⟨_, _, _, .ins kk (evA t kx) (evA t vx), hho, rfl, ⟨mp, kx, vx, rfl, ha, rfl, rfl⟩, .inr ⟨c, kk, evA t kx, evA t vx, rfl, rfl, hc.1, hc.2⟩⟩
          · cases hh
        · cases hh
      · cases hh
    · cases hh
  · cases hh

theorem shape_add {mk : Option Nat} {i m : Nat} {ob : AO} {x : HW} {ws : List (Nat × HW)} (hm : ∀ y ∈ ws, y.1 ≠ m) (h0 : ws = [] ∨ Shape (mk, i, ob, ws))
    (h : (∃ n g ty tt o vs, ob = .cells n g ty tt ∧ x = .cells o vs ∧ o + vs.length ≤ n ∧ apartW o vs.length ws = true) ∨ (∃ c kk k v, ob = .map [] c ∧ x = .ins kk k v ∧ keyOk kk k = true ∧ otherK kk k ws = true)) :
    Shape (mk, i, ob, (m, x) :: ws) := by
  rcases h with ⟨n, g, ty, tt, o, vs, rfl, rfl, hle, hap⟩ | ⟨c, kk, k, v, rfl, rfl, hke, hot⟩
  · refine .inl ⟨n, g, ty, tt, rfl, fun y hy => ?_⟩
    simp only at hy ⊢
    rcases List.mem_cons.1 hy with rfl | hy
    · refine ⟨o, vs, rfl, hle, fun z hz hne => ?_⟩
      rcases List.mem_cons.1 hz with rfl | hz
      · exact absurd rfl hne
      · exact apartW_mem hap z hz
    · rcases h0 with rfl | h0
      · cases hy
      · rcases h0 with ⟨n', g', ty', t', e1, h1⟩ | ⟨c, e1, _⟩
        · simp only at e1 h1
          cases e1
          obtain ⟨p, us, e2, h2, h3⟩ := h1 y hy
          refine ⟨p, us, e2, h2, fun z hz hne => ?_⟩
          rcases List.mem_cons.1 hz with rfl | hz
          · obtain ⟨p', us', e3, h4⟩ := apartW_mem hap y hy
            rw [e2] at e3; cases e3
            exact ⟨o, vs, rfl, h4.symm⟩
          · exact h3 z hz hne
        · cases e1
  · refine .inr ⟨c, rfl, fun y hy => ?_⟩
    simp only at hy ⊢
    rcases List.mem_cons.1 hy with rfl | hy
    · refine ⟨kk, k, v, rfl, hke, fun z hz hne => ?_⟩
      rcases List.mem_cons.1 hz with rfl | hz
      · exact absurd rfl hne
      · obtain ⟨jj, j, u, e1, e2, _⟩ := otherK_mem hot z hz
        exact ⟨jj, j, u, e1, e2⟩
    · rcases h0 with rfl | h0
      · cases hy
      · rcases h0 with ⟨n', g', ty', t', e1, h1⟩ | ⟨c', e1, h1⟩
        · cases e1
        · simp only at h1
          obtain ⟨k1, k2, k3, e2, h2, h3⟩ := h1 y hy
          refine ⟨k1, k2, k3, e2, h2, fun z hz hne => ?_⟩
          rcases List.mem_cons.1 hz with rfl | hz
          · obtain ⟨jj, j, u, e3, _, e4⟩ := otherK_mem hot y hy
            rw [e2] at e3; cases e3
            exact ⟨kk, k, v, rfl, e4⟩
          · exact h3 z hz hne

/-- What comes out of sight: all that the rest asks of it. -/
theorem hide_all {mg : List Nat} {i nx : Nat} {h h' : Tr AO} {pend' : List (Nat × Nat × AO)} {hid0 : List Hid} {e : Hid} (M : MemOK listed E past h nx0 nx pend hid) (hfr : ∀ j, nx ≤ j → (lay pend h).get j = none)
    (hh : hideO mg i h pend hid = some (e, h', pend', hid0)) :
    e.2.1 = i ∧ (lay pend' h').get i = none ∧ (∀ j, j ≠ i → (lay pend' h').get j = (lay pend h).get j) ∧ (∀ o, (lay pend h).get i = some o → e.2.2.1 = o ∧ e.2.2.2 = []) ∧ (∀ p ∈ pend', p ∈ pend) ∧ (∀ j o, h'.get j = some o → h.get j = some o) ∧
    (∀ x, x ∈ hid0 ↔ x ∈ hid ∧ x.2.1 ≠ i) ∧ (∀ x ∈ hid, x.2.1 = i → x = e) ∧ (e ∈ hid ∨ (e.2.2.2 = [] ∧ (∀ x ∈ hid, x.2.1 ≠ i) ∧ (lay pend h).get i = some e.2.2.1)) ∧
    (∀ mk, e.1 = some mk → mk ∈ mg ∧ (e ∈ hid ∨ (mk, i, e.2.2.1) ∈ pend)) ∧ (e.1 = none → e ∈ hid ∨ h.get i = some e.2.2.1) ∧ (∀ p ∈ pend, p.2.1 = i → e.1 = some p.1) ∧ (∀ p ∈ pend, p.2.1 ≠ i → p ∈ pend') ∧ i < nx := by
  obtain ⟨h1, h2⟩ := hideO_spec hh
  refine ⟨h1, ?_⟩
  subst h1
  have lt : ∀ o, (lay pend h).get e.2.1 = some o → e.2.1 < nx := by
    intro o ho
    rcases Nat.lt_or_ge e.2.1 nx with g | g
    · exact g
    · rw [hfr _ g] at ho; cases ho
  rcases h2 with ⟨he, hmg, e1, e2, e3⟩ | ⟨hno, p, hp, hpi, hmg, he, e1, e2, e3⟩ | ⟨hno, hnp, ob, hob, he, e1, e2, e3⟩ <;> replace e1 := e1.symm <;> replace e2 := e2.symm <;> replace e3 := e3.symm <;> subst e1 e2 e3
  · have ho := (M.out e he).2
    refine ⟨ho, fun _ _ => rfl, fun o h => (by rw [ho] at h; cases h), fun _ h => h, fun _ _ h => h, fun x => mem_dropH, fun x hx hxi => M.ah x hx e he hxi, .inl he, fun mk hm => ⟨hmg mk hm, .inl he⟩, fun _ => .inl he, fun p hp hpi => ?_, fun p hp _ => hp, (M.out e he).1⟩
    rw [← hpi, lay_of M.ap hp] at ho; cases ho
  · have hget : (lay pend h).get e.2.1 = some e.2.2.1 := by rw [← hpi, lay_of M.ap hp, he]
    have hdrop : ∀ j, j ≠ e.2.1 → (lay (dropP e.2.1 pend) h).get j = (lay pend h).get j := by
      intro j hj
      rcases hq : pend.find? (fun p => Nat.beq p.2.1 j) with _ | q
      · have hn : ∀ q ∈ pend, q.2.1 ≠ j := fun q hqm hqe => (List.find?_eq_none.1 hq) q hqm (nbeq.2 hqe)
        rw [lay_old hn, lay_old fun q hqm => hn q (mem_dropP.1 hqm).1]
      · have g1 := List.find?_some hq
        rw [nbeq] at g1
        have g2 := List.mem_of_find?_eq_some hq
        subst g1
        rw [lay_of M.ap g2, lay_of (fun a ha b hb => M.ap a (mem_dropP.1 ha).1 b (mem_dropP.1 hb).1) (mem_dropP.2 ⟨g2, hj⟩)]
    refine ⟨?_, hdrop, fun o ho => ?_, fun q hq => (mem_dropP.1 hq).1, fun _ _ h => h, fun x => ⟨fun h => ⟨h, hno x h⟩, fun h => h.1⟩, fun x hx hxi => absurd hxi (hno x hx), .inr ⟨by rw [he], hno, hget⟩, fun mk hm => ?_, fun hn => ?_, fun q hq hqi => ?_, fun q hq hqi => mem_dropP.2 ⟨hq, hqi⟩, lt _ hget⟩
    · rw [lay_old fun q hq => (mem_dropP.1 hq).2, ← hpi]
      exact (M.pn p hp).2.2
    · rw [hget] at ho; cases ho
      exact ⟨rfl, by rw [he]⟩
    · rw [he] at hm
      cases hm
      refine ⟨hmg, .inr ?_⟩
      rw [he]
      simp only
      rw [← hpi]; exact hp
    · rw [he] at hn; cases hn
    · have := M.ap q hq p hp (hqi.trans hpi.symm)
      rw [this, he]
  · have hget : (lay pend h).get e.2.1 = some e.2.2.1 := by rw [lay_old hnp, hob, he]
    refine ⟨?_, fun j hj => ?_, fun o ho => ?_, fun q hq => hq, fun j o hj => ?_, fun x => ⟨fun h => ⟨h, hno x h⟩, fun h => h.1⟩, fun x hx hxi => absurd hxi (hno x hx), .inr ⟨by rw [he], hno, hget⟩, fun mk hm => ?_, fun _ => .inr ?_, fun p hp hpi => absurd hpi (hnp p hp), fun p hp _ => hp, lt _ hget⟩
    · rw [lay_old hnp, Tr.get_set_same]
    · rw [lay_get, lay_get]
      split
      · rfl
      · rw [Tr.get_set_other _ _ hj]
    · rw [hget] at ho; cases ho
      exact ⟨rfl, by rw [he]⟩
    · rw [Tr.get_set] at hj
      split at hj
      · cases hj
      · exact hj
    · rw [he] at hm; cases hm
    · rw [hob, he]

/-- A write whose place is open is taken in. -/
theorem Inv.pushW {d : DOp} (I : Inv P C ih Φ k ops N U E0 nx0 w0 T0 listed a w E s past pend seen hid (d :: rest) lastE) (hcls : d.cls = 3) {o : Oper} (ho : ops[d.mark]? = some o) (ht : Turned P ops o)
    {h' : Tr AO} {pend' : List (Nat × Nat × AO)} {hid' : List Hid} {pc' : List (SB × Bool)} (hgd : Gd E s.t (compOper P ops o).guard true) (hpc : ∀ c b, (c, b) ∈ pc' → c.den E.ρ E.β = b)
    (hh : hideW d.mg d.mark (compI P o) s.t s.h pend hid = some (h', pend', hid')) (hag : again d.re (lay pend' h') seen = true) (hg : Good E.ρ E.β Φ (evD C ih rest ⟨put s.t o.dst AV.undef, s.d, h', s.nx, pc'⟩ pend' seen hid' k)) :
    Inv P C ih Φ k ops N U E0 nx0 w0 T0 listed a w E ⟨put s.t o.dst AV.undef, s.d, h', s.nx, pc'⟩ (mark3 past d o :: past) pend' seen hid' rest lastE := by
  obtain ⟨o', ho', h1, h2, h3, h4, h5, h6⟩ := okG_cons I.okg
  rw [ho] at ho'; cases ho'
  have hE := okE_spec (h5 (by omega))
  have M := I.mem
  obtain ⟨i, e, hid0, x, hho, rfl, hwr, hshp⟩ := hideW_spec hh
  have hfr : ∀ j, s.nx ≤ j → (lay pend s.h).get j = none := by
    intro j hj
    cases hq : (lay pend s.h).get j with
    | none => rfl
    | some ob =>
      have := M.sub hq
      rw [(I.sr.fresh j hj).2] at this; cases this
  obtain ⟨hei, q1, q2, q3, q4, q5, q6, q7, q8, q9, q10, q11, q12, q13⟩ := hide_all M hfr hho
  subst hei
  have hmw : ∀ y ∈ e.2.2.2, y.1 ≠ d.mark := by
    intro y hy ey
    rcases q8 with he | ⟨hw, _⟩
    · obtain ⟨r, g1, g2, _⟩ := (M.ws e he).2 y hy
      exact h1 r g1 (g2.trans ey)
    · rw [hw] at hy; cases hy
  have hnew : ¬ Li listed d.mark := I.unl d (by simp)
  have hin : ∀ y ∈ hid0, y ∈ hid := fun y hy => ((q6 y).1 hy).1
  have hnoW : ∀ m, m ≠ d.mark → NoW hid m → NoW ((e.1, e.2.1, e.2.2.1, (d.mark, x) :: e.2.2.2) :: hid0) m := by
    intro m hm hn y hy z hz
    rcases List.mem_cons.1 hy with rfl | hy
    · rcases List.mem_cons.1 hz with rfl | hz
      · exact Ne.symm hm
      · rcases q8 with he | ⟨hw, _⟩
        · exact hn e he z hz
        · rw [hw] at hz; cases hz
    · exact hn y (hin y hy) z hz
  have hnoM : ∀ m, NoM pend hid m → NoM pend' ((e.1, e.2.1, e.2.2.1, (d.mark, x) :: e.2.2.2) :: hid0) m := by
    intro m hn
    refine ⟨fun q hq => hn.1 q (q4 q hq), fun y hy ey => ?_⟩
    rcases List.mem_cons.1 hy with rfl | hy
    · rcases (q9 m ey).2 with he | hp
      · exact hn.2 e he ey
      · exact hn.1 _ hp rfl
    · exact hn.2 y (hin y hy) ey
  have hanc : ∀ q ∈ past, q.1 ∈ d.mg → (maskL (ancOf past) (depsL o)).testBit q.1 = true := fun q hq hm => (hE q hq).2 hm
  have hmkp : ∀ mk, e.1 = some mk → nx0 ≤ e.2.1 ∧ (∃ q ∈ past, q.1 = mk) ∧ (Li listed mk → ∃ b, E.m e.2.1 = some b) := by
    intro mk hm
    rcases (q9 mk hm).2 with he | hp
    · exact M.hmk e he mk hm
    · exact ⟨(M.pn _ hp).1, (M.pmk _ hp).1, (M.pmk _ hp).2⟩
  have htot : ∀ j, (tot listed ((e.1, e.2.1, e.2.2.1, (d.mark, x) :: e.2.2.2) :: hid0) pend' h').get j = (tot listed hid pend s.h).get j := by
    intro j
    by_cases ej : j = e.2.1
    · subst ej
      rw [tot_get]
      simp only [findH, show Nat.beq e.2.1 e.2.1 = true from nbeq.2 rfl]
      rw [List.filter_cons_of_neg (by unfold Li at hnew; simpa using hnew)]
      rcases q8 with he | ⟨hw, hno, hgt⟩
      · rw [tot_hid M.ah he]
      · rw [tot_old hno, hgt, hw]; rfl
    · rw [tot_get]
      simp only [findH, show Nat.beq e.2.1 j = false from nbeqF.2 (Ne.symm ej)]
      rw [tot_get]
      have hf : findH j hid0 = findH j hid := by
        cases hf : findH j hid with
        | none =>
          cases hf0 : findH j hid0 with
          | none => rfl
          | some y =>
            obtain ⟨g1, g2⟩ := findH_some hf0
            exact absurd g2 (findH_none hf y (hin y g1))
        | some y =>
          obtain ⟨g1, g2⟩ := findH_some hf
          subst g2
          refine findH_of (fun p hp q hq => M.ah p (hin p hp) q (hin q hq)) ((q6 y).2 ⟨g1, ej⟩)
      rw [hf]
      split
      · rfl
      · exact q2 j ej
  refine I.push (by omega) ho ht ?_ ?_ (WSR.sub (I.sr.withPc hpc) fun j oo hj => by rw [htot] at hj; exact hj) ?_ I.nx hg
  · refine .wr (hnoM _ (M.noM h1)) hgd rfl _ List.mem_cons_self x List.mem_cons_self hwr fun e2 he2 y hy ey => ?_
    rcases List.mem_cons.1 he2 with rfl | he2
    · rfl
    · exact absurd ey (M.noW h1 e2 (hin e2 he2) y hy)
  · intro p hp hpl o2 T v2 ht2 hpr
    have hpm : p.1 ≠ d.mark := h1 p hp
    cases hpr with
    | off hw hno hg hv => exact .off (hnoW _ hpm hw) (hnoM _ hno) hg hv
    | read hw hno hc hg hs H0 hsub he =>
      rcases (hE p hp).1 hc with hre | hbit
      · refine .read (hnoW _ hpm hw) (hnoM _ hno) hc hg hs (lay pend' h') (fun _ _ h => .inl h) ?_
        have := again_sound hag _ _ _ _ hs hre
        rw [ht2.1] at this; exact this
      · refine .read (hnoW _ hpm hw) (hnoM _ hno) hc hg hs H0 (fun j oo hj => ?_) he
        rcases hsub j oo hj with g | ⟨e2, g1, g2, g3, g4⟩
        · by_cases ej : j = e.2.1
          · subst ej
            obtain ⟨g5, g6⟩ := q3 oo g
            refine .inr ⟨_, List.mem_cons_self, rfl, g5, fun y hy => ?_⟩
            simp only [g6] at hy
            rcases List.mem_cons.1 hy with rfl | hy
            · exact ⟨_, List.mem_cons_self, rfl, hbit⟩
            · cases hy
          · exact .inl (by rw [q2 j ej]; exact g)
        · have g4' : ∀ x ∈ e2.2.2.2, ∃ q ∈ mark3 past d o :: past, q.1 = x.1 ∧ q.2.2.testBit p.1 = true := fun x hx => let ⟨q, r1, r2⟩ := g4 x hx; ⟨q, List.mem_cons_of_mem _ r1, r2⟩
          by_cases ej : e2.2.1 = e.2.1
          · have := q7 e2 g1 ej
            subst this
            refine .inr ⟨_, List.mem_cons_self, g2, g3, fun y hy => ?_⟩
            rcases List.mem_cons.1 hy with rfl | hy
            · exact ⟨_, List.mem_cons_self, rfl, hbit⟩
            · exact g4' y hy
          · exact .inr ⟨e2, List.mem_cons_of_mem _ ((q6 e2).2 ⟨g1, ej⟩), g2, g3, g4'⟩
    | pick hw hno hg ca x' y b hc hv hb => exact .pick (hnoW _ hpm hw) (hnoM _ hno) hg ca x' y b hc hv hb
    | mk hw hg id ob he hpm' hn hu hu' =>
      refine .mk (hnoW _ hpm hw) hg id ob he ?_ hn (fun q hq => hu q (q4 q hq)) fun e2 he2 ey => ?_
      · rcases hpm' with hq | ⟨ws, hq⟩
        · by_cases ei : id = e.2.1
          · have g1 := q11 _ hq ei
            have g2 := (q3 ob (by rw [← ei]; exact lay_of M.ap hq)).1
            refine .inr ⟨(d.mark, x) :: e.2.2.2, ?_⟩
            rw [ei, ← g1, ← g2]
            exact List.mem_cons_self
          · exact .inl (q12 _ hq ei)
        · by_cases ei : id = e.2.1
          · have := q7 _ hq ei
            refine .inr ⟨(d.mark, x) :: e.2.2.2, ?_⟩
            rw [← this]
            exact List.mem_cons_self
          · exact .inr ⟨ws, List.mem_cons_of_mem _ ((q6 _).2 ⟨hq, ei⟩)⟩
      · rcases List.mem_cons.1 he2 with rfl | he2
        · rcases (q9 _ ey).2 with hq | hq
          · exact hu' e hq ey
          · exact hu _ hq rfl
        · exact hu' e2 (hin e2 he2) ey
    | wr hno hgq hv e2 he2 x2 hx2 hop hu =>
      by_cases ei : e2.2.1 = e.2.1
      · have := q7 e2 he2 ei
        subst this
        refine .wr (hnoM _ hno) hgq hv _ List.mem_cons_self x2 (List.mem_cons_of_mem _ hx2) hop fun e3 he3 y hy ey => ?_
        rcases List.mem_cons.1 he3 with rfl | he3
        · rfl
        · have := hu e3 (hin e3 he3) y hy ey
          exact absurd (by rw [this]) ((q6 e3).1 he3).2
      · refine .wr (hnoM _ hno) hgq hv e2 (List.mem_cons_of_mem _ ((q6 e2).2 ⟨he2, ei⟩)) x2 hx2 hop fun e3 he3 y hy ey => ?_
        rcases List.mem_cons.1 he3 with rfl | he3
        · rcases List.mem_cons.1 hy with rfl | hy
          · exact absurd ey.symm hpm
          · rcases q8 with he | ⟨hw, _⟩
            · have := hu e he y hy ey
              exact absurd (by rw [this]) ei
            · rw [hw] at hy; cases hy
        · exact hu e3 (hin e3 he3) y hy ey
  · have pm : ∀ q ∈ past, q ∈ mark3 past d o :: past := fun q hq => List.mem_cons_of_mem _ hq
    have pex : ∀ {m : Nat}, (∃ q ∈ past, q.1 = m) → ∃ q ∈ mark3 past d o :: past, q.1 = m := fun ⟨q, g1, g2⟩ => ⟨q, pm q g1, g2⟩
    refine ⟨fun p hp q hq => M.ap p (q4 p hp) q (q4 q hq), fun p hp => ?_, fun p hp => ⟨pex (M.pmk p (q4 p hp)).1, (M.pmk p (q4 p hp)).2⟩, fun j oo hj => M.pl j oo (q5 j oo hj), ?_, fun y hy => ?_, fun y hy m hm => ?_, fun y hy hn => ?_, fun y hy => ?_, fun y hy => ?_⟩
    · obtain ⟨g1, g2, g3⟩ := M.pn p (q4 p hp)
      refine ⟨g1, g2, ?_⟩
      cases hq : h'.get p.2.1 with
      | none => rfl
      | some ob => rw [q5 _ _ hq] at g3; cases g3
    · intro p hp q hq epq
      rcases List.mem_cons.1 hp with rfl | hp <;> rcases List.mem_cons.1 hq with rfl | hq
      · rfl
      · exact absurd epq.symm ((q6 q).1 hq).2
      · exact absurd epq ((q6 p).1 hp).2
      · exact M.ah p (hin p hp) q (hin q hq) epq
    · rcases List.mem_cons.1 hy with rfl | hy
      · exact ⟨q13, q1⟩
      · refine ⟨(M.out y (hin y hy)).1, ?_⟩
        rw [q2 _ ((q6 y).1 hy).2]
        exact (M.out y (hin y hy)).2
    · rcases List.mem_cons.1 hy with rfl | hy
      · obtain ⟨g1, g2, g3⟩ := hmkp m hm
        exact ⟨g1, pex g2, g3⟩
      · obtain ⟨g1, g2, g3⟩ := M.hmk y (hin y hy) m hm
        exact ⟨g1, pex g2, g3⟩
    · rcases List.mem_cons.1 hy with rfl | hy
      · rcases q10 hn with he | hp
        · exact M.hpl e he hn
        · exact M.pl _ _ hp
      · exact M.hpl y (hin y hy) hn
    · rcases List.mem_cons.1 hy with rfl | hy
      · have hold : (e.2.2.2.map (·.1)).Nodup ∧ ∀ x ∈ e.2.2.2, ∃ q ∈ past, q.1 = x.1 ∧ ∀ m, e.1 = some m → q.2.2.testBit m = true := by
          rcases q8 with he | ⟨hw, _⟩
          · exact M.ws e he
          · rw [hw]; exact ⟨List.nodup_nil, fun x hx => by cases hx⟩
        refine ⟨?_, fun y hy => ?_⟩
        · simp only [List.map_cons, List.nodup_cons]
          refine ⟨fun hm => ?_, hold.1⟩
          obtain ⟨y, g1, g2⟩ := List.mem_map.1 hm
          exact hmw y g1 g2
        · rcases List.mem_cons.1 hy with rfl | hy
          · refine ⟨_, List.mem_cons_self, rfl, fun m hm => ?_⟩
            obtain ⟨_, ⟨q, g1, g2⟩, _⟩ := hmkp m hm
            have := hanc q g1 (by rw [g2]; exact (q9 m hm).1)
            rw [g2] at this; exact this
          · obtain ⟨q, g1, g2⟩ := hold.2 y hy
            exact ⟨q, pm q g1, g2⟩
      · obtain ⟨g0, g⟩ := M.ws y (hin y hy)
        refine ⟨g0, fun z hz => ?_⟩
        obtain ⟨q, g1, g2⟩ := g z hz
        exact ⟨q, pm q g1, g2⟩
    · rcases List.mem_cons.1 hy with rfl | hy
      · refine shape_add hmw ?_ hshp
        rcases q8 with he | ⟨hw, _⟩
        · exact .inr (M.sh e he)
        · exact .inl hw
      · exact M.sh y (hin y hy)

/-- The next that does not write now. -/
theorem Inv.adv {d : DOp} (I : Inv P C ih Φ k ops N U E0 nx0 w0 T0 listed a w E s past pend seen hid (d :: rest) lastE) (hcls : d.cls ≠ 2) :
    ∃ s' past' pend' seen' hid', Inv P C ih Φ k ops N U E0 nx0 w0 T0 listed a w E s' past' pend' seen' hid' rest lastE := by
  obtain ⟨o, ho, h1, _⟩ := okG_cons I.okg
  obtain ⟨hdo, hdc⟩ := I.restO d (by simp) o ho
  have ht : Turned P ops o := turned_of (by
    rw [← hdo]
    rcases hdc with h | h
    · rw [← h]; exact .inl hcls
    · exact .inr h.2)
  have hdst : d.o.dst = o.dst := by rw [hdo]; exact (compOper_cases (P := P) ops o).1
  have hop : d.o.op = compI P o := by rw [hdo]; exact ht.1
  have M := I.mem
  have hnoW := M.noW h1
  have hnoM := M.noM h1
  have M' : MemOK listed E (mark3 past d o :: past) s.h nx0 s.nx pend hid := M.wide fun q hq => List.mem_cons_of_mem _ hq
  have pm : ∀ q ∈ past, q ∈ mark3 past d o :: past := fun q hq => List.mem_cons_of_mem _ hq
  have hg := I.good
  simp only [evD] at hg
  obtain ⟨pc', b, hgd, hpc', hg'⟩ := guarded_can I.sr.pc hg
  have hgd' : Gd E s.t (compOper P ops o).guard b := by rw [← hdo]; exact hgd
  cases b with
  | false =>
    rw [hdst] at hg'
    exact ⟨_, _, _, _, _, I.push hcls ho ht (.off hnoW hnoM hgd' rfl) (fun p hp _ o2 T v2 _ h => h.grow (fun _ _ h => h) (fun _ h => h) (fun _ h => .inl h) (fun _ h => h) pm) (I.sr.withPc hpc') M' I.nx hg'⟩
  | true =>
    simp only at hg'
    have h013 : d.cls = 0 ∨ d.cls = 1 ∨ d.cls = 3 := by
      rcases hdc with h | h
      · have := clsOf_le d.o.op
        omega
      · exact .inr (.inr h.1)
    rcases h013 with h0 | h1' | h3
    · rw [h0] at hg'
      simp only at hg'
      split at hg'
      · rename_i v hv
        rw [hdst] at hg'
        rw [hop] at hv
        exact ⟨_, _, _, _, _, I.push (v := v) (pend' := pend) (seen' := (d.mark, d.o.op, s.t, v) :: seen) hcls ho ht (.read hnoW hnoM h0 hgd' (by rw [hdo]; simp) (lay pend s.h) (fun _ _ h => .inl h) hv)
          (fun p hp _ o2 T v2 _ h => h.grow (fun _ _ h => h) (fun _ h => h) (fun _ h => .inl h) (fun _ h => List.mem_cons_of_mem _ h) pm) (I.sr.withPc hpc') M' I.nx hg'⟩
      · split at hg'
        · rename_i ca x y hc
          rw [hop] at hc
          obtain ⟨b, pc2, hb, hpc2, hg2⟩ := withB_can (pc := pc') hpc' hg'
          rw [hdst] at hg2
          exact ⟨_, _, _, _, _, I.push hcls ho ht (.pick hnoW hnoM hgd' ca x y b hc rfl hb) (fun p hp _ o2 T v2 _ h => h.grow (fun _ _ h => h) (fun _ h => h) (fun _ h => .inl h) (fun _ h => h) pm) (I.sr.withPc hpc2) M' I.nx hg2⟩
        · exact hg'.elim
    · rw [h1'] at hg'
      simp only at hg'
      split at hg'
      · rename_i ob v hv
        rw [hdst] at hg'
        rw [hop] at hv
        have hfr := I.sr.fresh s.nx (Nat.le_refl _)
        have hne : ∀ p ∈ pend, p.2.1 ≠ s.nx := fun p hp e => by have := (M.pn p hp).2.1; omega
        have hneh : ∀ e ∈ hid, e.2.1 ≠ s.nx := fun e he e' => by have := (M.out e he).1; omega
        have hln : (lay pend s.h).get s.nx = none := by rw [← tot_old (listed := listed) hneh]; exact hfr.2
        have hsh : s.h.get s.nx = none := by rw [← lay_old hne]; exact hln
        have hpromise : Prom P ops E (lay ((d.mark, s.nx, ob) :: pend) s.h) (mark3 past d o :: past) ((d.mark, s.nx, ob) :: pend) seen hid d.mark d.cls o s.t v := .mk hnoW hgd' s.nx ob hv (.inl (by simp)) hfr.1 (fun q hq e => by
          rcases List.mem_cons.1 hq with rfl | hq
          · rfl
          · exact absurd e (hnoM.1 q hq)) fun e he e' => absurd e' (hnoM.2 e he)
        have q1 : ∀ i o', (lay pend s.h).get i = some o' → (lay ((d.mark, s.nx, ob) :: pend) s.h).get i = some o' := by
          intro i o' hi
          show ((lay pend s.h).set s.nx (some ob)).get i = some o'
          rw [Tr.get_set_other]
          · exact hi
          · rintro rfl
            rw [hln] at hi; cases hi
        have hwsr : WSR U E (tot listed hid ((d.mark, s.nx, ob) :: pend) s.h) (Nat.succ s.nx) pc' w := by
          refine WSR.sub ((I.sr.withPc hpc').held ob) fun i o' hi => ?_
          rw [Tr.get_set]
          by_cases e : i = s.nx
          · subst e
            rw [if_pos rfl]
            rw [tot_old hneh] at hi
            show some ob = some o'
            rw [← hi]
            exact (Tr.get_set_same _ _ _).symm
          · rw [if_neg e]
            rw [tot_get] at hi ⊢
            split at hi
            · exact hi
            · rw [← hi]
              exact (Tr.get_set_other _ _ e).symm
        have hMem : MemOK listed E (mark3 past d o :: past) s.h nx0 (Nat.succ s.nx) ((d.mark, s.nx, ob) :: pend) hid := by
          refine ⟨fun p hp q hq e => ?_, fun p hp => ?_, fun p hp => ?_, M'.pl, M'.ah, fun e he => ⟨Nat.lt_succ_of_lt (M'.out e he).1, ?_⟩, M'.hmk, M'.hpl, M'.ws, M'.sh⟩
          · rcases List.mem_cons.1 hp with rfl | hp <;> rcases List.mem_cons.1 hq with rfl | hq
            · rfl
            · exact absurd e.symm (hne q hq)
            · exact absurd e (hne p hp)
            · exact M.ap p hp q hq e
          · rcases List.mem_cons.1 hp with rfl | hp
            · exact ⟨I.nx, Nat.lt_succ_self _, hsh⟩
            · obtain ⟨g1, g2, g3⟩ := M.pn p hp
              exact ⟨g1, Nat.lt_succ_of_lt g2, g3⟩
          · rcases List.mem_cons.1 hp with rfl | hp
            · exact ⟨⟨_, List.mem_cons_self, rfl⟩, fun hl => absurd hl (I.unl d (by simp))⟩
            · exact M'.pmk p hp
          · show ((lay pend s.h).set s.nx (some ob)).get e.2.1 = none
            rw [Tr.get_set_other _ _ (hneh e he)]
            exact (M.out e he).2
        exact ⟨_, _, _, _, _, I.push (nx' := Nat.succ s.nx) hcls ho ht hpromise (fun p hp _ o2 T v2 _ h => h.grow q1 (fun _ h => List.mem_cons_of_mem _ h) (fun q hq => (List.mem_cons.1 hq).elim (fun e => .inr (by rw [e]; exact (h1 p hp).symm)) .inl) (fun _ h => h) pm) hwsr hMem (Nat.le_succ_of_le I.nx) hg'⟩
      · exact hg'.elim
    · rw [h3] at hg'
      simp only at hg'
      split at hg'
      · rename_i h' pend' hid' hw
        split at hg'
        · rename_i hag
          rw [hop] at hw
          rw [hdst] at hg'
          exact ⟨_, _, _, _, _, I.pushW h3 ho ht hgd' hpc' hw hag hg'⟩
        · exact hg'.elim
      · exact hg'.elim

/-- All that do not write now are taken in. -/
theorem Inv.front : ∀ {rest : List DOp} {s : St} {past : Past} {pend : List (Nat × Nat × AO)} {seen : List Seen} {hid : List Hid} {lastE : Option Nat}, Inv P C ih Φ k ops N U E0 nx0 w0 T0 listed a w E s past pend seen hid rest lastE →
    ∃ s' past' pend' seen' hid' rest', Inv P C ih Φ k ops N U E0 nx0 w0 T0 listed a w E s' past' pend' seen' hid' rest' lastE ∧ (rest' = [] ∨ ∃ d ds, rest' = d :: ds ∧ d.cls = 2)
  | [], s, past, pend, seen, hid, _, I => ⟨s, past, pend, seen, hid, [], I, .inl rfl⟩
  | d :: ds, s, past, pend, seen, hid, _, I => by
    by_cases h : d.cls = 2
    · exact ⟨s, past, pend, seen, hid, d :: ds, I, .inr ⟨d, ds, rfl, h⟩⟩
    · obtain ⟨s', past', pend', seen', hid', I'⟩ := I.adv h
      exact Inv.front I'

/-- The one that writes comes up. -/
theorem Inv.pushE {d : DOp} (I : Inv P C ih Φ k ops N U E0 nx0 w0 T0 listed a w E s past pend seen hid (d :: rest) lastE) (hcls : d.cls = 2) {o : Oper} (ho : ops[d.mark]? = some o) (hdl : ∀ j ∈ depsL o, Li listed j) {v : AV} {u : Value}
    {E' : Env} {w' : World} {pend' : List (Nat × Nat × AO)} {ds : List Deferred} {d' : List ADefer} {h' : Tr AO} {nx' : Nat} {pc' : List (SB × Bool)} (hle : E.le E') (hold : ∀ i, i < nx0 → E'.m i = E.m i) (hwr : WR U w w') (hv : VR E' v u) (hds : DRs E' d' ds)
    (hsr : WSR U E' (tot (listed.setIfInBounds d.mark true) hid pend' h') nx' pc' w') (hM : MemOK (listed.setIfInBounds d.mark true) E' (mark3 past d o :: past) h' nx0 nx' pend' hid) (hnx : nx0 ≤ nx')
    (hprom : ∀ p ∈ past, ¬ Li listed p.1 → ∀ o2 T v2, Turned P ops o2 → Prom P ops E (lay pend s.h) past pend seen hid p.1 p.2.1 o2 T v2 → (maskL (ancOf past) (depsL o)).testBit p.1 = false → Prom P ops E' (lay pend' h') (mark3 past d o :: past) pend' seen hid p.1 p.2.1 o2 T v2)
    (hg : Good E'.ρ E'.β Φ (evD C ih rest ⟨put s.t o.dst v, d', h', nx', pc'⟩ pend' seen hid k)) :
    Inv P C ih Φ k ops N U E0 nx0 w0 T0 (listed.setIfInBounds d.mark true) (({ a with defers := ds } : Act).put o.dst u) w' E' ⟨put s.t o.dst v, d', h', nx', pc'⟩ (mark3 past d o :: past) pend' seen hid rest (some d.mark) := by
  obtain ⟨o', ho', h1, h2, h3, h4, h5, h6⟩ := okG_cons I.okg
  rw [ho] at ho'; cases ho'
  rw [show Nat.beq d.cls 2 = true from nbeq.2 hcls] at h6
  have hspec := slotsOk_spec h3
  have hlt : d.mark < listed.size := by rw [I.lsz]; exact (Array.getElem?_eq_some_iff.1 ho).1
  have hL := fun j => Li_set (listed := listed) hlt j
  have hdne : ∀ p ∈ past, ∀ op, ops[p.1]? = some op → ∀ x, op.dst = some x → o.dst ≠ some x := by
    intro p hp op hop x hx e
    obtain ⟨op', hop', g1, _⟩ := hspec p hp
    rw [hop] at hop'; cases hop'
    exact (g1 x hx).2 x e rfl
  have hnew : ¬ Li listed d.mark := I.unl d (by simp)
  have hanc : ∀ j, (maskL (ancOf past) (depsL o)).testBit j = true → Li listed j := fun j hj => anc_listed I.pa I.closed hdl hj
  refine ⟨by simp [I.lsz], ?_, I.pa.cons ho, h6, fun d' hd' => I.restO d' (List.mem_cons_of_mem _ hd'), ?_, ?_, I.ck, ?_, ?_, ?_, ?_, hsr, hM, ⟨fun oo hoo j hj => by rw [ho] at hoo; cases hoo; exact h2 j hj, I.pd⟩, ?_, I.le.trans hle,
    fun i hi => (hold i hi).trans (I.old i hi), I.wr.trans hwr, hnx, by rw [put_size]; exact I.sz, hg⟩
  · intro i oi hoi hi j hj
    rw [hL] at hi ⊢
    rcases hi with rfl | hi
    · rw [ho] at hoi; cases hoi; exact .inr (hdl j hj)
    · exact .inr (I.closed i oi hoi hi j hj)
  · intro i hi
    rcases I.cover i hi with ⟨p, hp, e⟩ | ⟨d', hd', e⟩
    · exact .inl ⟨p, List.mem_cons_of_mem _ hp, e⟩
    · rcases List.mem_cons.1 hd' with rfl | hd'
      · exact .inl ⟨_, List.mem_cons_self, e⟩
      · exact .inr ⟨d', hd', e⟩
  · intro d2 hd2 hl
    rw [hL] at hl
    rcases hl with e | hl
    · exact okG_rest_ne h6 _ List.mem_cons_self d2 hd2 e
    · exact I.unl d2 (List.mem_cons_of_mem _ hd2) hl
  · intro p hp
    rcases List.mem_cons.1 hp with rfl | hp
    · refine ⟨o, ho, fun j hj => ?_, .inl ((hL _).2 (.inl rfl))⟩
      obtain ⟨q, hq, e⟩ := h2 j hj
      exact ⟨q, List.mem_cons_of_mem _ hq, e⟩
    · obtain ⟨op, hop, hdeps, hcase⟩ := I.pastO p hp
      refine ⟨op, hop, fun j hj => ?_, ?_⟩
      · obtain ⟨q, hq, e⟩ := hdeps j hj
        exact ⟨q, List.mem_cons_of_mem _ hq, e⟩
      · rw [hL]
        by_cases hpl' : Li listed p.1
        · exact .inl (.inr hpl')
        · rcases hcase with hl | ⟨ht', hc', T, v', g1, g2, g3⟩
          · exact absurd hl hpl'
          · refine .inr ⟨ht', hc', T, v', RecT.push h3 ho v hp hop g1, fun x hx => ?_, hprom p hp hpl' op T v' ht' g3 ?_⟩
            · simp only
              rw [put_other _ _ (hdne p hp op hop x hx)]
              exact g2 x hx
            · cases hb : (maskL (ancOf past) (depsL o)).testBit p.1 with
              | false => rfl
              | true => exact absurd (hanc _ hb) hpl'
  · intro p hp q hq op oq x hop hoq hx hy
    rcases List.mem_cons.1 hp with rfl | hp <;> rcases List.mem_cons.1 hq with rfl | hq
    · rfl
    · simp only at hop
      rw [ho] at hop; cases hop
      exact absurd hx (hdne q hq oq hoq x hy)
    · simp only at hoq
      rw [ho] at hoq; cases hoq
      exact absurd hy (hdne p hp op hop x hx)
    · exact I.uniq p hp q hq op oq x hop hoq hx hy
  · intro x
    by_cases hx : o.dst = some x
    · refine .inl ⟨_, List.mem_cons_self, o, ho, (hL _).2 (.inl rfl), hx, ?_⟩
      have hxl : x < a.tmps.size := Nat.lt_of_lt_of_le (I.ck d.mark o x ho hx) I.sz
      simp only [evA, hx, Act.eval, Act.put, put_same]
      simp [hxl]; exact hv
    · have hev : (({ a with defers := ds } : Act).put o.dst u).eval (.tmp x) = a.eval (.tmp x) := by
        rw [Act.eval_put (fun d hd e => hx (by rw [hd]; cases e; rfl))]; rfl
      rw [hev]
      rcases I.rt x with ⟨q, hq, oq, hoq, hl, hdst, hv'⟩ | ⟨hno, hv'⟩
      · refine .inl ⟨q, List.mem_cons_of_mem _ hq, oq, hoq, (hL _).2 (.inr hl), hdst, ?_⟩
        have := VR_mono hle _ _ hv'
        simp only [evA] at this ⊢
        rw [put_other _ _ hx]; exact this
      · refine .inr ⟨fun q hq oq hoq hdst hl => ?_, VR_mono hle _ _ hv'⟩
        rcases List.mem_cons.1 hq with rfl | hq
        · simp only at hoq
          rw [ho] at hoq; cases hoq; exact hx hdst
        · rw [hL] at hl
          rcases hl with e | hl
          · exact h1 q hq e
          · exact hno q hq oq hoq hdst hl
  · intro x hx
    simp only
    rw [put_other _ _ (hx _ List.mem_cons_self o ho)]
    exact I.ct x fun q hq oq hoq => hx q (List.mem_cons_of_mem _ hq) oq hoq
  · cases o.dst <;> exact hds

theorem Inv.looksE {d : DOp} (I : Inv P C ih Φ k ops N U E0 nx0 w0 T0 listed a w E s past pend seen hid (d :: rest) lastE) {o : Oper} (ho : ops[d.mark]? = some o) (hdl : ∀ j ∈ depsL o, Li listed j) : LooksR E s.t a ops o := by
  obtain ⟨o', ho', h1, h2, h3, h4, h5, h6⟩ := okG_cons I.okg
  rw [ho] at ho'; cases ho'
  intro x hx
  rcases I.rt x with ⟨q, hq, oq, hoq, hl, hdst, hv'⟩ | ⟨hno, hv'⟩
  · exact hv'
  · have : s.t.get x = T0.get x := I.ct x fun q hq oq hoq hdst => by
      obtain ⟨oq', hoq', g1, _⟩ := slotsOk_spec h3 q hq
      rw [hoq] at hoq'; cases hoq'
      exact hno q hq oq hoq hdst (hdl _ ((g1 x hdst).1 hx))
    simp only [evA] at hv' ⊢
    rw [this]; exact hv'

theorem Inv.stepE (hcall : CallOK P C ih Φ) {d : DOp} (I : Inv P C ih Φ k ops N U E0 nx0 w0 T0 listed a w E s past pend seen hid (d :: rest) lastE) (hcls : d.cls = 2) {o : Oper} (ho : ops[d.mark]? = some o) (hdl : ∀ j ∈ depsL o, Li listed j)
    {K : Act → World → Prop} {Q : Exit → Act → World → Prop}
    (hK : ∀ a' w' E' s' past' pend', Inv P C ih Φ k ops N U E0 nx0 w0 T0 (listed.setIfInBounds d.mark true) a' w' E' s' past' pend' seen hid rest (some d.mark) → K a' w') : wpOp P ops Q d.mark K a w := by
  obtain ⟨hdo, hdc⟩ := I.restO d (by simp) o ho
  have hdst : d.o.dst = o.dst := by rw [hdo]; exact (compOper_cases (P := P) ops o).1
  have hlooks := I.looksE ho hdl
  have M := I.mem
  obtain ⟨o', ho', hh1, _, _, _, h5, _⟩ := okG_cons I.okg
  rw [ho] at ho'; cases ho'
  have hE := okE_spec (h5 (by omega))
  have hnoW := M.noW hh1
  have hnoM := M.noM hh1
  have hlt : d.mark < listed.size := by rw [I.lsz]; exact (Array.getElem?_eq_some_iff.1 ho).1
  have hL := fun j => Li_set (listed := listed) hlt j
  have pm : ∀ q ∈ past, q ∈ mark3 past d o :: past := fun q hq => List.mem_cons_of_mem _ hq
  have pex : ∀ {m : Nat}, (∃ q ∈ past, q.1 = m) → ∃ q ∈ mark3 past d o :: past, q.1 = m := fun ⟨q, g1, g2⟩ => ⟨q, pm q g1, g2⟩
  have hg := I.good
  simp only [evD] at hg
  rcases (compOper_cases (P := P) ops o).2 with ⟨hb, hgn⟩ | ht
  · rw [hdo, hgn, hb] at hg
    simp only [guarded] at hg
    rw [hcls] at hg
    exact hg.elim
  · have hop : d.o.op = compI P o := by rw [hdo]; exact ht.1
    obtain ⟨pc', b, hgd, hpc', hg'⟩ := guarded_can I.sr.pc hg
    have hgd' : Gd E s.t (compOper P ops o).guard b := by rw [← hdo]; exact hgd
    have hw := hgd'.wanted ht hlooks
    unfold wpOp
    simp only [ho]
    rw [hw]
    cases b with
    | false =>
      simp only [Bool.false_eq_true, if_false]
      rw [hdst] at hg'
      refine hK _ _ _ _ _ _ (I.pushE (E' := E) (w' := w) (ds := a.defers) (d' := s.d) (h' := s.h) (nx' := s.nx) (pc' := pc') (pend' := pend) hcls ho hdl (.refl E) (fun _ _ => rfl) (.refl U w) (VR_undef E) I.dr
        (by rw [tot_set hnoW]; exact I.sr.withPc hpc') ?_ I.nx (fun p hp hl o T v _ h _ => h.grow (fun _ _ h => h) (fun _ h => h) (fun _ h => .inl h) (fun _ h => h) pm) hg')
      have M' := M.wide pm
      refine ⟨M'.ap, M'.pn, fun p hp => ⟨(M'.pmk p hp).1, fun hl => ?_⟩, M'.pl, M'.ah, M'.out, fun e he m hm => ⟨(M'.hmk e he m hm).1, (M'.hmk e he m hm).2.1, fun hl => ?_⟩, M'.hpl, M'.ws, M'.sh⟩
      · rw [hL] at hl
        rcases hl with e | hl
        · exact absurd e (hnoM.1 p hp)
        · exact (M'.pmk p hp).2 hl
      · rw [hL] at hl
        rcases hl with e' | hl
        · exact absurd (by rw [hm, e']) (hnoM.2 e he)
        · exact (M'.hmk e he m hm).2.2 hl
    | true =>
      simp only [if_true]
      refine .inl ?_
      simp only at hg'
      rw [hcls] at hg'
      simp only at hg'
      -- what is laid in, what is held back
      generalize hsp : splitP d.mg pend = nl at hg'
      obtain ⟨now, later⟩ := nl
      simp only at hg'
      have hnow : ∀ p, p ∈ now ↔ p ∈ pend ∧ p.1 ∈ d.mg := fun p => by have := (splitP_mem (mg := d.mg) (pend := pend) (p := p)).1; rw [hsp] at this; exact this
      have hlater : ∀ p, p ∈ later ↔ p ∈ pend ∧ p.1 ∉ d.mg := fun p => by have := (splitP_mem (mg := d.mg) (pend := pend) (p := p)).2; rw [hsp] at this; exact this
      have hsubn0 : ∀ i o, (lay now s.h).get i = some o → (lay pend s.h).get i = some o := by
        intro i o' hi
        rcases lay_some hi with ⟨p, hp, rfl, rfl⟩ | ⟨hno, hi⟩
        · exact lay_of M.ap ((hnow p).1 hp).1
        · have hne : ∀ p ∈ pend, p.2.1 ≠ i := by
            rintro p hp rfl
            rw [(M.pn p hp).2.2] at hi; cases hi
          rw [lay_old hne]; exact hi
      have hsubn : ∀ i o, (lay now s.h).get i = some o → (tot listed hid pend s.h).get i = some o := fun i o hi => M.sub (hsubn0 i o hi)
      let U' : Nat → Prop := fun b => w.heap.size ≤ b ∨ ∃ i o, (lay now s.h).get i = some o ∧ E.m i = some b
      have hsrp := I.sr.withPc hpc'
      have hsrn : WSR U E (lay now s.h) s.nx pc' w := WSR.sub hsrp hsubn
      have hpln : ∀ i o, (lay now s.h).get i = some o → ∃ b, E.m i = some b := by
        intro i o' hi
        rcases lay_some hi with ⟨p, hp, rfl, rfl⟩ | ⟨_, hi⟩
        · have hpp := (hnow p).1 hp
          obtain ⟨⟨r, hr, er⟩, hl⟩ := M.pmk p hpp.1
          refine hl (anc_listed I.pa I.closed hdl ?_)
          rw [← er]
          exact (hE r hr).2 (er ▸ hpp.2)
        · exact M.pl i o' hi
      have hs' : SR U' E (lay now s.h) s.nx pc' w := ⟨hsrn.hr, fun i o b hi hb => .inr ⟨i, o, hi, hb⟩, hsrn.fresh, fun b hb => .inl hb, hsrn.known, hsrn.pc, hsrn.glob, hpln⟩
      have hUU : ∀ b, U' b → U b := by
        rintro b (hb | ⟨i, o', hi, hb⟩)
        · exact I.sr.big b hb
        · exact hsrn.own i o' b hi hb
      rw [hop] at hg'
      refine evE_sound (s := ⟨s.t, s.d, lay now s.h, s.nx, pc'⟩) (U := U') hcall (hlooks.rel I.sr.globm) hs' I.dr hg' fun E' s' w' v u ds hA hst hv hds hg2 => ?_
      simp only at hA hst
      split at hg2
      · rename_i hag
        rw [hdst, hst] at hg2
        -- what is held back, or hidden, is told apart from all that was there
        have hlid : ∀ p ∈ later, (lay now s.h).get p.2.1 = none := by
          intro p hp
          have hpp := (hlater p).1 hp
          rw [lay_old (fun q hq e => ?_)]
          · exact (M.pn p hpp.1).2.2
          · have hqq := (hnow q).1 hq
            have := M.ap q hqq.1 p hpp.1 e
            rw [this] at hqq
            exact hpp.2 hqq.2
        have hhid : ∀ e ∈ hid, (lay now s.h).get e.2.1 = none := by
          intro e he
          cases hq : (lay now s.h).get e.2.1 with
          | none => rfl
          | some ob =>
            have := hsubn0 _ _ hq
            rw [(M.out e he).2] at this; cases this
        have hold' : ∀ i, i < s.nx → E'.m i = E.m i := hA.old
        have hgone : ∀ i ob, i < s.nx → (tot listed hid pend s.h).get i = some ob → (lay now s.h).get i = none → s'.h.get i = none := by
          intro i ob hi hti hni
          cases hq : s'.h.get i with
          | none => rfl
          | some ob2 =>
            obtain ⟨b, hb⟩ := hA.sr.pl _ ob2 hq
            have hb0 : E.m i = some b := by rw [← hold' i hi]; exact hb
            rcases hA.sr.own _ ob2 b hq hb with hge | ⟨j, o', hj, hbj⟩
            · have := I.sr.known _ _ hb0; omega
            · have := I.sr.hr.inj i j ob o' b hti (hsubn j o' hj) hb0 hbj
              subst this
              rw [hni] at hj; cases hj
        have hsh' : ∀ p ∈ later, s'.h.get p.2.1 = none := fun p hp => hgone _ _ (M.pn p ((hlater p).1 hp).1).2.1 (M.sub (lay_of M.ap ((hlater p).1 hp).1)) (hlid p hp)
        have hhh' : ∀ e ∈ hid, s'.h.get e.2.1 = none := fun e he => hgone _ _ (M.out e he).1 (tot_hid M.ah he) (hhid e he)
        have hapl : Apart later := fun p hp q hq e => M.ap p ((hlater p).1 hp).1 q ((hlater q).1 hq).1 e
        have hhl : ∀ e ∈ hid, ∀ p ∈ later, p.2.1 ≠ e.2.1 := by
          intro e he p hp e'
          have := (M.out e he).2
          rw [← e', lay_of M.ap ((hlater p).1 hp).1] at this; cases this
        have hsr2 : WSR U E' (tot (listed.setIfInBounds d.mark true) hid later s'.h) s'.nx s'.pc w' := by
          rw [tot_set hnoW]
          refine WSR.frame (Hn := lay now s.h) (X := tot listed hid later .leaf) hsrp hsubn (fun i ob hi => ?_) hA fun i ob hi => ?_
          · rw [tot_get] at hi
            split at hi
            · rename_i e hf
              obtain ⟨g1, g2⟩ := findH_some hf
              subst g2
              refine ⟨?_, hhid e g1⟩
              rw [tot_hid M.ah g1]; exact hi
            · rcases lay_some hi with ⟨p, hp, rfl, rfl⟩ | ⟨_, hi⟩
              · exact ⟨M.sub (lay_of M.ap ((hlater p).1 hp).1), hlid p hp⟩
              · rw [Tr.get_leaf] at hi; cases hi
          · rw [tot_get] at hi
            rw [tot_get]
            split at hi
            · exact .inl hi
            · rcases lay_some hi with ⟨p, hp, rfl, rfl⟩ | ⟨hno, hi⟩
              · exact .inl (lay_of hapl hp)
              · exact .inr ⟨(lay_old hno).trans (Tr.get_leaf _), hi⟩
        have hMem : MemOK (listed.setIfInBounds d.mark true) E' (mark3 past d o :: past) s'.h nx0 s'.nx later hid := by
          refine ⟨hapl, fun p hp => ⟨(M.pn p ((hlater p).1 hp).1).1, Nat.lt_of_lt_of_le (M.pn p ((hlater p).1 hp).1).2.1 hA.nx, hsh' p hp⟩, fun p hp => ⟨pex (M.pmk p ((hlater p).1 hp).1).1, fun hl => ?_⟩, hA.sr.pl, M.ah, fun e he => ⟨Nat.lt_of_lt_of_le (M.out e he).1 hA.nx, ?_⟩,
            fun e he m hm => ⟨(M.hmk e he m hm).1, pex (M.hmk e he m hm).2.1, fun hl => ?_⟩, fun e he hn => (let ⟨b, hb⟩ := M.hpl e he hn; ⟨b, hA.le.m _ b hb⟩), fun e he => ⟨(M.ws e he).1, fun x hx => let ⟨q, g1, g2⟩ := (M.ws e he).2 x hx; ⟨q, pm q g1, g2⟩⟩, M.sh⟩
          · rw [hL] at hl
            rcases hl with e | hl
            · exact absurd e (hnoM.1 p ((hlater p).1 hp).1)
            · obtain ⟨b, hb⟩ := (M.pmk p ((hlater p).1 hp).1).2 hl
              exact ⟨b, hA.le.m _ b hb⟩
          · rw [lay_old (hhl e he)]; exact hhh' e he
          · rw [hL] at hl
            rcases hl with e' | hl
            · exact absurd (by rw [hm, e']) (hnoM.2 e he)
            · obtain ⟨b, hb⟩ := (M.hmk e he m hm).2.2 hl
              exact ⟨b, hA.le.m _ b hb⟩
        have qp : ∀ p ∈ past, ¬ Li listed p.1 → ∀ o2 T v2, Turned P ops o2 → Prom P ops E (lay pend s.h) past pend seen hid p.1 p.2.1 o2 T v2 → (maskL (ancOf past) (depsL o)).testBit p.1 = false → Prom P ops E' (lay later s'.h) (mark3 past d o :: past) later seen hid p.1 p.2.1 o2 T v2 := by
          intro p hp hpl o2 T v2 ht2 hpr hanc
          obtain ⟨e1, e2⟩ := hE p hp
          have no : NoM pend hid p.1 → NoM later hid p.1 := fun hno => ⟨fun q hq => hno.1 q ((hlater q).1 hq).1, hno.2⟩
          cases hpr with
          | off hw hno hg hv => exact .off hw (no hno) (hg.mono hA.le) hv
          | read hw hno hc hg hs H0 hsub he =>
            refine .read hw (no hno) hc (hg.mono hA.le) hs (lay later s'.h) (fun _ _ h => .inl h) ?_
            rcases e1 hc with hre | hbit
            · have := again_sound hag _ _ _ _ hs hre
              rw [ht2.1] at this; exact this
            · rw [hbit] at hanc; cases hanc
          | pick hw hno hg ca x y b hc hv hb => exact .pick hw (no hno) (hg.mono hA.le) ca x y b hc hv (hb.mono hA.le)
          | mk hw hg id ob he hpm hn hu hu' =>
            have hid1 : id < s.nx := by
              rcases hpm with hq | ⟨ws, hq⟩
              · exact (M.pn _ hq).2.1
              · exact (M.out _ hq).1
            refine .mk hw (hg.mono hA.le) id ob he (hpm.imp (fun hq => (hlater _).2 ⟨hq, fun hmg => ?_⟩) fun h => h) ?_ (fun q hq e => hu q ((hlater q).1 hq).1 e) hu'
            · rw [e2 hmg] at hanc; cases hanc
            · rw [hold' id hid1]; exact hn
          | wr hno hg hv e he x hx hop hu => exact .wr (no hno) (hg.mono hA.le) hv e he x hx hop hu
        exact hK _ _ _ _ _ _ (I.pushE (E' := E') (w' := w') (ds := ds) (d' := s'.d) (h' := s'.h) (nx' := s'.nx) (pc' := s'.pc) (pend' := later) hcls ho hdl hA.le (fun i hi => hold' i (Nat.lt_of_lt_of_le hi I.nx)) (hA.wr.mono hUU) hv hds hsr2 hMem (Nat.le_trans I.nx hA.nx) qp (hg2.env hA.le))
      · exact hg2.elim

/-! ## All orders -/
theorem countP_le {p q : Nat → Bool} : ∀ {l : List Nat}, (∀ x ∈ l, q x = true → p x = true) → l.countP q ≤ l.countP p
  | [], _ => Nat.le_refl _
  | x :: l, h => by
    have ih := countP_le (p := p) (q := q) (l := l) fun y hy => h y (List.mem_cons_of_mem _ hy)
    rw [List.countP_cons, List.countP_cons]
    have := h x (by simp)
    cases hq : q x with
    | false => simp; omega
    | true => rw [this hq]; simp; exact ih

theorem countP_lt {p q : Nat → Bool} : ∀ {l : List Nat}, (∀ x ∈ l, q x = true → p x = true) → ∀ i ∈ l, p i = true → q i = false → l.countP q < l.countP p
  | [], _, i, hi, _, _ => by cases hi
  | x :: l, h, i, hi, hp, hq => by
    have hl := fun y (hy : y ∈ l) => h y (List.mem_cons_of_mem _ hy)
    rw [List.countP_cons, List.countP_cons]
    rcases List.mem_cons.1 hi with rfl | hi
    · rw [hp, hq]
      have := countP_le hl
      simp; omega
    · have ih := countP_lt hl i hi hp hq
      have := h x (by simp)
      cases hqx : q x with
      | false => simp; omega
      | true => rw [this hqx]; simp; exact ih

def left (ops : Array Oper) (listed : Array Bool) : Nat := (List.range ops.size).countP fun i => !listed.getD i false

theorem left_set {i : Nat} (hs : listed.size = ops.size) (hi : i < ops.size) (hu : ¬ Li listed i) : left ops (listed.setIfInBounds i true) < left ops listed := by
  refine countP_lt (fun x _ hx => ?_) i (by simpa using hi) ?_ ?_
  · cases hl : listed.getD x false with
    | false => rfl
    | true =>
      have := (Li_set (listed := listed) (i := i) (by omega) x).2 (.inr hl)
      unfold Li at this
      rw [this] at hx; cases hx
  · unfold Li at hu
    simpa using hu
  · have := (Li_set (listed := listed) (i := i) (by omega) i).2 (.inl rfl)
    unfold Li at this
    rw [this]; rfl

theorem ready_iff (hs : listed.size = ops.size) {i : Nat} : i ∈ Region.ready .any ops listed ↔ ¬ Li listed i ∧ ∃ o, ops[i]? = some o ∧ ∀ j ∈ depsL o, Li listed j := by
  rw [mem_ready]
  have hg : ∀ o, ops[i]? = some o → (listed.getD i true = false ↔ ¬ Li listed i) := by
    intro o ho
    have hlt : i < listed.size := by rw [hs]; exact (Array.getElem?_eq_some_iff.1 ho).1
    unfold Li
    simp [hlt]
  constructor
  · rintro ⟨h1, o, ho, h2⟩
    refine ⟨(hg o ho).1 h1, o, ho, fun j hj => ?_⟩
    obtain ⟨e, he, hb, rfl⟩ := mem_depsL.1 hj
    exact h2 e he hb
  · rintro ⟨h1, o, ho, h2⟩
    refine ⟨(hg o ho).2 h1, o, ho, fun e he hb => ?_⟩
    exact h2 e.on (mem_depsL.2 ⟨e, he, hb, rfl⟩)

theorem PD.allLi (hnone : ∀ i o, ops[i]? = some o → (∀ j ∈ depsL o, Li listed j) → Li listed i) : ∀ {past : Past}, PD ops past → (∀ p ∈ past, ∃ o, ops[p.1]? = some o) → ∀ p ∈ past, Li listed p.1
  | [], _, _, p, hp => by cases hp
  | p' :: ps, h, ho, p, hp => by
    have ih := PD.allLi hnone h.2 fun q hq => ho q (List.mem_cons_of_mem _ hq)
    rcases List.mem_cons.1 hp with rfl | hp
    · obtain ⟨o, hoo⟩ := ho p (by simp)
      refine hnone p.1 o hoo fun j hj => ?_
      obtain ⟨q, hq, rfl⟩ := h.1 o hoo j hj
      exact ih q hq
    · exact ih p hp

theorem Inv.fin {Q : Exit → Act → World → Prop} (hQ : ∀ E' s' a' w', Aft U E0 nx0 w0 E' s'.h s'.nx s'.pc w' → ST U E' s' a' w' N → Good E0.ρ E0.β Φ (k s') → Q .normal a' w')
    (I : Inv P C ih Φ k ops N U E0 nx0 w0 T0 listed a w E s past pend seen hid [] lastE) (hall : ∀ p ∈ past, Li listed p.1) : Q .normal a w := by
  have M := I.mem
  have hg : Good E.ρ E.β Φ (k ⟨s.t, s.d, layH hid (lay pend s.h), s.nx, s.pc⟩) := I.good
  have hlw : lw listed hid = hid := by
    unfold lw
    rw [List.map_congr_left (g := id)]
    · simp
    · intro e he
      have : (e.2.2.2.filter fun x => listed.getD x.1 false) = e.2.2.2 := by
        rw [List.filter_eq_self]
        intro x hx
        obtain ⟨q, hq, e1, _⟩ := (M.ws e he).2 x hx
        have := hall q hq
        rw [e1] at this; exact this
      rw [this]; rfl
  have hsr0 := I.sr
  unfold tot at hsr0
  rw [hlw] at hsr0
  have hsr : SR U E (layH hid (lay pend s.h)) s.nx s.pc w := ⟨hsr0.hr, hsr0.own, hsr0.fresh, hsr0.big, hsr0.known, hsr0.pc, hsr0.glob, fun i o hi => by
    rcases layH_some hi with ⟨e, he, rfl, _⟩ | ⟨_, hi⟩
    · cases hm : e.1 with
      | none => exact M.hpl e he hm
      | some m =>
        obtain ⟨_, ⟨q, hq, e1⟩, hl⟩ := M.hmk e he m hm
        exact hl (e1 ▸ hall q hq)
    · rcases lay_some hi with ⟨p, hp, rfl, rfl⟩ | ⟨_, hi⟩
      · obtain ⟨⟨q, hq, e⟩, hl⟩ := M.pmk p hp
        exact hl (e ▸ hall q hq)
      · exact M.pl i o hi⟩
  refine hQ E ⟨s.t, s.d, layH hid (lay pend s.h), s.nx, s.pc⟩ a w ⟨I.le, I.old, hsr, I.wr, I.nx⟩ ⟨fun x => ?_, I.sz, hsr, I.dr⟩ (hg.back I.le)
  rcases I.rt x with ⟨_, _, _, _, _, _, hv⟩ | ⟨hno, hv⟩
  · exact hv
  · have : s.t.get x = T0.get x := I.ct x fun q hq oq hoq hdst => hno q hq oq hoq hdst (hall q hq)
    simp only [evA] at hv ⊢
    rw [this]; exact hv

theorem Inv.all (hcall : CallOK P C ih Φ) {Q : Exit → Act → World → Prop}
    (hQ : ∀ E' s' a' w', Aft U E0 nx0 w0 E' s'.h s'.nx s'.pc w' → ST U E' s' a' w' N → Good E0.ρ E0.β Φ (k s') → Q .normal a' w') :
    ∀ (fuel : Nat) (listed : Array Bool) (a : Act) (w : World) (E : Env) (s : St) (past : Past) (pend : List (Nat × Nat × AO)) (seen : List Seen) (hid : List Hid) (rest : List DOp) (lastE : Option Nat),
    left ops listed ≤ fuel → Inv P C ih Φ k ops N U E0 nx0 w0 T0 listed a w E s past pend seen hid rest lastE → wpAny P .any ops Q fuel listed a w := by
  intro fuel
  have done : ∀ (listed : Array Bool) (a : Act) (w : World) (E : Env) (s : St) (past : Past) (pend : List (Nat × Nat × AO)) (seen : List Seen) (hid : List Hid) (rest : List DOp) (lastE : Option Nat),
      Inv P C ih Φ k ops N U E0 nx0 w0 T0 listed a w E s past pend seen hid rest lastE → (rest = [] ∨ ∃ d ds, rest = d :: ds ∧ d.cls = 2) → Region.ready .any ops listed = [] → Q .normal a w := by
    intro listed a w E s past pend seen hid rest lastE I hr hready
    have hnone : ∀ i o, ops[i]? = some o → (∀ j ∈ depsL o, Li listed j) → Li listed i := by
      intro i o ho hd
      by_cases hl : Li listed i
      · exact hl
      · have : i ∈ Region.ready .any ops listed := (ready_iff I.lsz).2 ⟨hl, o, ho, hd⟩
        rw [hready] at this; cases this
    have hall := PD.allLi hnone I.pd fun p hp => let ⟨o, ho, _⟩ := I.pastO p hp; ⟨o, ho⟩
    rcases hr with rfl | ⟨d, ds, rfl, _⟩
    · exact I.fin hQ hall
    · obtain ⟨o, ho, _, h2, _⟩ := okG_cons I.okg
      refine absurd (hnone _ o ho fun j hj => ?_) (I.unl d (by simp))
      obtain ⟨q, hq, rfl⟩ := h2 j hj
      exact hall q hq
  induction fuel with
  | zero =>
    intro listed a w E s past pend seen hid rest lastE hf I
    obtain ⟨s', past', pend', seen', hid', rest', I', hr⟩ := I.front
    have hready : Region.ready .any ops listed = [] := by
      rw [List.eq_nil_iff_forall_not_mem]
      intro i hi
      obtain ⟨hu, o, ho, _⟩ := (ready_iff I.lsz).1 hi
      have hlt : i < ops.size := (Array.getElem?_eq_some_iff.1 ho).1
      have : 0 < left ops listed := List.countP_pos_iff.2 ⟨i, by simpa using hlt, by unfold Li at hu; simpa using hu⟩
      omega
    exact ⟨hready, done _ _ _ _ _ _ _ _ _ _ _ I' hr hready⟩
  | succ fuel ihf =>
    intro listed a w E s past pend seen hid rest lastE hf I
    obtain ⟨s', past', pend', seen', hid', rest', I', hr⟩ := I.front
    refine ⟨done _ _ _ _ _ _ _ _ _ _ _ I' hr, fun i hi => ?_⟩
    obtain ⟨hu, o, ho, hdl⟩ := (ready_iff I.lsz).1 hi
    have hlt : i < ops.size := (Array.getElem?_eq_some_iff.1 ho).1
    have hlf : left ops (listed.setIfInBounds i true) ≤ fuel := by have := left_set I.lsz hlt hu; omega
    rcases I'.cover i hlt with ⟨p, hp, rfl⟩ | ⟨d, hd, rfl⟩
    · exact I'.due hp ho hu hdl fun a' w' E' I2 => ihf _ _ _ _ _ _ _ _ _ _ _ hlf I2
    · rcases hr with rfl | ⟨d0, ds, rfl, hc⟩
      · cases hd
      · rcases List.mem_cons.1 hd with rfl | hd
        · exact I'.stepE hcall hc ho hdl fun a' w' E' s2 past2 pend2 I2 => ihf _ _ _ _ _ _ _ _ _ _ _ hlf I2
        · obtain ⟨o0, ho0, _, _, _, _, _, h6⟩ := okG_cons I'.okg
          rw [show Nat.beq d0.cls 2 = true from nbeq.2 hc] at h6
          exact absurd hdl (rest_unready I'.closed ds _ d0.mark h6 (I'.pa.cons ho0) (I'.unl d0 (by simp)) d hd o ho)

theorem checkOps_spec {n : Nat} : ∀ {l : List Oper}, checkOps n l = true → ∀ o ∈ l, ∀ d, o.dst = some d → d < n
  | [], _, o, ho, _, _ => by cases ho
  | o' :: os, h, o, ho, d, hd => by
    simp only [checkOps] at h
    rw [band] at h
    rcases List.mem_cons.1 ho with rfl | ho
    · have h1 := h.1
      rw [hd] at h1
      exact nblt.1 h1
    · exact checkOps_spec h.2 o ho d hd

theorem drawOK (hm : P.follows .mixedOrders = true) (hcall : CallOK P C ih Φ) : DrawOK P C ih Φ := by
  intro id ops U E s k a w Q N hck hok hst hg hQ
  refine wp_region_any hm ?_
  unfold okD at hok
  rw [band] at hok
  have hw : Alike w { w with drawn := w.drawn + 1 } := ⟨rfl, rfl, rfl, rfl⟩
  have hsr := hst.sr.alike hw.heap
  have hun : ∀ i, ¬ Li (Array.replicate ops.size false) i := by
    intro i h
    unfold Li at h
    by_cases hi : i < ops.size <;> simp [hi] at h
  refine Inv.all (ih := ih) (Φ := Φ) (C := C) (k := k) (N := N) (U := U) (E0 := E) (nx0 := s.nx) (w0 := { w with drawn := w.drawn + 1 }) (T0 := s.t) hcall (fun E' s' a' w' hA hst' hg' => hQ E' s' a' w' (Aft.trans (Aft.alike hst.sr hw) hA) hst' hg') ops.size
    (Array.replicate ops.size false) a _ E s [] [] [] [] (drawOf ops.toList (ops.toList.map (compOper P ops))) none ?_ ?_
  · unfold left
    exact Nat.le_trans List.countP_le_length (by simp)
  · have e0 : ∀ {β : Type} {Φ : β → Prop}, ∀ p ∈ ([] : List β), Φ p := fun p hp => (List.not_mem_nil hp).elim
    refine ⟨by simp, fun i o _ h => absurd h (hun i), e0, hok.2, fun d hd o ho => drawOf_mem hd ho, fun i hi => ?_, fun d _ => hun _, fun i o d ho hd => ?_, e0, e0,
      fun x => .inr ⟨e0, hst.tr x⟩, fun _ _ => rfl, hsr.weak, ⟨e0, e0, e0, hst.sr.pl, e0, e0, e0, e0, e0, e0⟩, trivial, hst.dr, .refl E, fun _ _ => rfl, .refl U _, Nat.le_refl _, hst.sz, hg⟩
    · have h1 := hok.1
      rw [List.all_eq_true] at h1
      exact .inr (markIn_iff (h1 i (by simpa using hi)))
    · refine checkOps_spec hck o ?_ d hd
      rw [Array.mem_toList_iff]
      exact Array.mem_of_getElem? ho

/-- THE EVALUATOR IS SOUND. -/
theorem code_sound (hC : Cok P C) {Φ : α → Prop} (n : Nat) : CodeOK P (ev C n) Φ := code_all hC (fun _ h => drawOK hC.mixed h) n

theorem call_sound (hC : Cok P C) {Φ : α → Prop} (n : Nat) : CallOK P C (ev C n) Φ := callOK_of hC (code_sound hC n)
end Ct
