/- What writes, calls, defers. -/
import Derived.Test.YtpcppjbjmdolnaaGreatDoorCtP
namespace Ct
open Go
variable {P : Program} {α : Type}

theorem VR_undef (E : Env) : VR E AV.undef undef := by simp only [AV.undef, VR]; exact ⟨#[], rfl, VRs_nil⟩

/-- Calls do as the evaluator says. -/
def CallOK (P : Program) (C : Cfg) (ih : Rec α) (Φ : α → Prop) : Prop :=
  ∀ (U : Nat → Prop) (E : Env) (f : Nat) (args : List AV) (vs : Array Value) (h : Tr AO) (nx : Nat) (pc : List (SB × Bool)) (w : World) (k : AV → Tr AO → Nat → List (SB × Bool) → R α)
    (o : Oper) (a : Act) (K : Act → World → Prop) (Q : Exit → Act → World → Prop),
    VRs E args vs.toList → SR U E h nx pc w → Good E.ρ E.β Φ (call C ih f args h nx pc k) →
    (∀ E' v u h' nx' pc' w', Aft U E nx w E' h' nx' pc' w' → VR E' v u → Good E.ρ E.β Φ (k v h' nx' pc') → K (a.put o.dst u) w') → o.upon P a K Q ((callFunc f vs).run P w)

theorem evE_sound {C : Cfg} {ih : Rec α} {Φ : α → Prop} (hcall : CallOK P C ih Φ) {U : Nat → Prop} {E : Env} {w : World} {a : Act} {o : Oper} {s : St} {k : AV → St → R α} {K : Act → World → Prop} {Q : Exit → Act → World → Prop}
    (ho : OpsR E s.t a o.op.operands.toList) (hs : SR U E s.h s.nx s.pc w) (hd : DRs E s.d a.defers) (hg : Good E.ρ E.β Φ (evE C ih (compI P o) s k))
    (hK : ∀ E' s' w' v u ds, Aft U E s.nx w E' s'.h s'.nx s'.pc w' → s'.t = s.t → VR E' v u → DRs E' s'.d ds → Good E.ρ E.β Φ (k v s') → K (({ a with defers := ds } : Act).put o.dst u) w') : o.wp P a w K Q := by
  obtain ⟨dst, op, ty, pos, after, guard⟩ := o
  obtain ⟨T, D, H, nx, pc⟩ := s
  simp only at ho hs hd
  cases op with
  | store t x y =>
    simp only [compI] at hg
    split at hg
    · rename_i yt hyt
      obtain ⟨i, hi, _, hsz, _, _⟩ := tyI_some hyt
      rcases c2_cases x y (.store yt.size) with ⟨x', y', hx, hy, e⟩ | ⟨n, e⟩
      · rw [e] at hg
        have hxv := ho x (by simp [Op.operands]) x' hx
        have hyv := ho y (by simp [Op.operands]) y' hy
        simp only [evE] at hg
        split at hg
        · rename_i j o hq
          rw [hq] at hxv
          simp only [VR] at hxv
          obtain ⟨b, hb, hxv⟩ := hxv
          split at hg
          · rename_i vs hvs
            split at hg
            · rename_i hlen
              rw [nbeq] at hlen
              split at hg
              · rename_i h' hst
                obtain ⟨h2, h3⟩ := VR_cells hyv hvs
                obtain ⟨g1, g2⟩ := st_sound (P := P) hs hb h2 h3 hst
                have hcs : (a.eval y).cells.size = i.size := by have := VRs_length h2; simp at this; omega
                show Oper.upon P _ a K Q ((execOp a.eval _).run P w)
                have hrun : (execOp a.eval ⟨dst, .store t x y, ty, pos, after, guard⟩).run P w = .ok .skip (w.setCells b o (a.eval y).cells.toList) := by
                  simp [execOp, Instr.storeAt, hxv, Instr.sureAddr, storeVar, run_size hi, hcs, g1]
                rw [hrun]
                exact hK E ⟨T, D, h', nx, pc⟩ _ AV.undef undef a.defers g2 rfl (VR_undef E) hd hg
              · exact hg.elim
            · exact hg.elim
          · exact hg.elim
        · exact hg.elim
      · rw [e] at hg; exact hg.elim
    · exact hg.elim
  | insert t m k' v | mapUpdate t m k' v =>
    simp only [compI] at hg
    split at hg
    · rename_i kt et ht
      split at hg
      · rename_i kk hkk
        rcases c3_cases m k' v (.mapUpd kk) with ⟨m', k2, v', hm, hk, hv, e⟩ | ⟨n, e⟩
        · rw [e] at hg
          have hmv := ho m (by simp [Op.operands]) m' hm
          have hkv := ho k' (by simp [Op.operands]) k2 hk
          have hvv := ho v (by simp [Op.operands]) v' hv
          simp only [evE] at hg
          split at hg
          · rename_i h' hp
            obtain ⟨w', g1, g2⟩ := put_sound (P := P) ht hkk hmv hkv hvv hs hp
            show Oper.upon P _ a K Q ((execOp a.eval _).run P w)
            have hrun : ∀ op, (op = .insert t m k' v ∨ op = .mapUpdate t m k' v) → (execOp a.eval ⟨dst, op, ty, pos, after, guard⟩).run P w = .ok .skip w' := by
              rintro op (rfl | rfl) <;> simp [execOp, g1]
            rw [hrun _ (by simp)]
            exact hK E ⟨T, D, h', nx, pc⟩ _ AV.undef undef a.defers g2 rfl (VR_undef E) hd hg
          · exact hg.elim
        · rw [e] at hg; exact hg.elim
      · exact hg.elim
    · exact hg.elim
  | mapEntry t m k' =>
    simp only [compI] at hg
    split at hg
    · rename_i kt et ht
      split at hg
      · rename_i z hz
        rw [Option.bind_eq_some_iff] at hz
        obtain ⟨ye, hye, hz⟩ := hz
        split at hg
        · rename_i kk hkk
          rcases c2_cases m k' (.mapEntry kk z) with ⟨m', k2, hm, hk, e⟩ | ⟨n, e⟩
          · rw [e] at hg
            have hmv := ho m (by simp [Op.operands]) m' hm
            have hkv := ho k' (by simp [Op.operands]) k2 hk
            simp only [evE] at hg
            split at hg
            · rename_i v h' hp
              obtain ⟨u, w', g1, g2, g3⟩ := slot_sound (P := P) ht hkk hye hz hmv hkv hs hp
              show Oper.upon P _ a K Q ((execOp a.eval _).run P w)
              have hrun : (execOp a.eval ⟨dst, .mapEntry t m k', ty, pos, after, guard⟩).run P w = .ok (.value u) w' := vrun g1
              rw [hrun]
              exact hK E ⟨T, D, h', nx, pc⟩ _ v u a.defers g3 rfl g2 hd hg
            · exact hg.elim
          · rw [e] at hg; exact hg.elim
        · exact hg.elim
      · exact hg.elim
    · exact hg.elim
  | entryStore t m st v =>
    simp only [compI] at hg
    rcases c3_cases m st v .entryStore with ⟨m', k2, v', hm, hk, hv, e⟩ | ⟨n, e⟩
    · rw [e] at hg
      have hmv := ho m (by simp [Op.operands]) m' hm
      have hkv := ho st (by simp [Op.operands]) k2 hk
      have hvv := ho v (by simp [Op.operands]) v' hv
      simp only [evE] at hg
      split at hg
      · rename_i h' hp
        obtain ⟨w', g1, g2⟩ := slotPut_sound (P := P) (t := t) hmv hkv hvv hs hp
        show Oper.upon P _ a K Q ((execOp a.eval _).run P w)
        have hrun : (execOp a.eval ⟨dst, .entryStore t m st v, ty, pos, after, guard⟩).run P w = .ok .skip w' := by simp [execOp, g1]
        rw [hrun]
        exact hK E ⟨T, D, h', nx, pc⟩ _ AV.undef undef a.defers g2 rfl (VR_undef E) hd hg
      · exact hg.elim
    · rw [e] at hg; exact hg.elim
  | convert src d x =>
    simp only [compI] at hg
    split at hg
    · rcases c1_cases x (.convInt _) with ⟨x', hx, e⟩ | ⟨n, e⟩ <;> (rw [e] at hg; exact hg.elim)
    · rcases c1_cases x .convSame with ⟨x', hx, e⟩ | ⟨n, e⟩ <;> (rw [e] at hg; exact hg.elim)
    · rcases c1_cases x .intToStr with ⟨x', hx, e⟩ | ⟨n, e⟩ <;> (rw [e] at hg; exact hg.elim)
    · rename_i e1 hsrc hdst
      split at hg
      · rename_i hu8
        rcases c1_cases x .strToBytes with ⟨x', hx, e⟩ | ⟨n, e⟩
        · rw [e] at hg
          have hxv := ho x (by simp [Op.operands]) x' hx
          simp only [evE] at hg
          split at hg
          · rename_i n y hq
            rw [hq] at hxv
            simp only [VR] at hxv
            obtain ⟨hlt, hxv⟩ := hxv
            obtain ⟨u, E', w', g1, g2, g3⟩ := bytes_sound (P := P) (e := e1) hlt hs
            show Oper.upon P _ a K Q ((execOp a.eval _).run P w)
            have hrun : (execOp a.eval ⟨dst, .convert src d x, ty, pos, after, guard⟩).run P w = .ok (.value u) w' := by
              refine vrun ?_
              simp [convert, run_underlying hsrc, run_underlying hdst, hxv, run_underlying hu8, g1]
            rw [hrun]
            exact hK E' ⟨T, D, _, _, pc⟩ _ _ u a.defers g2 rfl g3 (DRs_mono g2.le _ _ hd) hg
          · exact hg.elim
        · rw [e] at hg; exact hg.elim
      · exact hg.elim
    · exact hg.elim
  | range t x =>
    simp only [compI] at hg
    split at hg
    · rcases c1_cases x .rangeStr with ⟨x', hx, e⟩ | ⟨n, e⟩ <;> (rw [e] at hg; exact hg.elim)
    · rename_i kt et ht
      rcases c1_cases x .rangeMap with ⟨x', hx, e⟩ | ⟨n, e⟩
      · rw [e] at hg
        have hxv := ho x (by simp [Op.operands]) x' hx
        simp only [evE] at hg
        split at hg
        · rename_i hq
          rw [hq] at hxv
          simp only [VR] at hxv
          obtain ⟨u, E', w', g1, g2, g3⟩ := rangeNil_sound (P := P) ht hs
          show Oper.upon P _ a K Q ((execOp a.eval _).run P w)
          have hrun : (execOp a.eval ⟨dst, .range t x, ty, pos, after, guard⟩).run P w = .ok (.value u) w' := by
            refine vrun ?_
            rw [hxv]; exact g1
          rw [hrun]
          exact hK E' ⟨T, D, _, _, pc⟩ _ _ u a.defers g2 rfl g3 (DRs_mono g2.le _ _ hd) hg
        · rename_i i hq
          rw [hq] at hxv
          simp only [VR] at hxv
          obtain ⟨b, hb, hxv⟩ := hxv
          split at hg
          · rename_i es clock hi
            obtain ⟨u, E', w', g1, g2, g3⟩ := range_sound (P := P) ht hs hi hb
            show Oper.upon P _ a K Q ((execOp a.eval _).run P w)
            have hrun : (execOp a.eval ⟨dst, .range t x, ty, pos, after, guard⟩).run P w = .ok (.value u) w' := by
              refine vrun ?_
              rw [hxv]; exact g1
            rw [hrun]
            exact hK E' ⟨T, D, _, _, pc⟩ _ _ u a.defers g2 rfl g3 (DRs_mono g2.le _ _ hd) hg
          · exact hg.elim
        · exact hg.elim
      · rw [e] at hg; exact hg.elim
    · exact hg.elim
  | next x isS =>
    cases isS with
    | true =>
      simp only [compI] at hg
      rcases c1_cases x .nextStr with ⟨x', hx, e⟩ | ⟨n, e⟩
      · rw [e] at hg
        have hxv := ho x (by simp [Op.operands]) x' hx
        simp only [evE] at hg
        split at hg
        · rename_i i hq
          rw [hq] at hxv
          simp only [VR] at hxv
          obtain ⟨b, hb, hxv⟩ := hxv
          split at hg
          · rename_i n y ps hi
            obtain ⟨q1, q2⟩ := nextStr_sound (P := P) (ty := ty) hs hi hb
            split at hg
            · rename_i hp
              show Oper.upon P _ a K Q ((execOp a.eval _).run P w)
              have hrun : (execOp a.eval ⟨dst, .next x true, ty, pos, after, guard⟩).run P w = .ok (.value (.tuple #[.bool false])) w := by
                refine vrun ?_
                rw [hxv]; exact q1 hp
              rw [hrun]
              refine hK E ⟨T, D, H, nx, pc⟩ _ _ _ a.defers (.same hs) rfl ?_ hd hg
              rw [VR]; exact ⟨_, rfl, VRs_cons.2 ⟨by rw [VR], VRs_nil⟩⟩
            · rename_i hp
              split at hg
              · rename_i hc
                obtain ⟨w', g1, g2⟩ := q2 hp hc
                show Oper.upon P _ a K Q ((execOp a.eval _).run P w)
                have hrun : (execOp a.eval ⟨dst, .next x true, ty, pos, after, guard⟩).run P w = .ok (.value (.tuple #[.bool true, goInt ps, .int .i32 (strByte y ps : Nat)])) w' := by
                  refine vrun ?_
                  rw [hxv]; exact g1
                rw [hrun]
                refine hK E ⟨T, D, _, nx, pc⟩ _ _ _ a.defers g2 rfl ?_ hd hg
                rw [VR]; exact ⟨_, rfl, VRs_cons.2 ⟨by rw [VR], VRs_cons.2 ⟨by rw [VR]; rfl, VRs_cons.2 ⟨by rw [VR]; rfl, VRs_nil⟩⟩⟩⟩
              · exact hg.elim
          · exact hg.elim
        · exact hg.elim
      · rw [e] at hg; exact hg.elim
    | false =>
      simp only [compI] at hg
      rcases c1_cases x .nextMap with ⟨x', hx, e⟩ | ⟨n, e⟩
      · rw [e] at hg
        have hxv := ho x (by simp [Op.operands]) x' hx
        simp only [evE] at hg
        split at hg
        · rename_i i hq
          rw [hq] at hxv
          simp only [VR] at hxv
          obtain ⟨b, hb, hxv⟩ := hxv
          split at hg
          · rename_i s1 s2 s3 hi
            have q1 := nextMapNil_sound (P := P) (ty := ty) hs hi hb
            show Oper.upon P _ a K Q ((execOp a.eval _).run P w)
            have hrun : (execOp a.eval ⟨dst, .next x false, ty, pos, after, guard⟩).run P w = .ok (.value (.tuple #[.bool false])) w := by
              refine vrun ?_
              rw [hxv]; exact q1
            rw [hrun]
            refine hK E ⟨T, D, H, nx, pc⟩ _ _ _ a.defers (.same hs) rfl ?_ hd hg
            rw [VR]; exact ⟨_, rfl, VRs_cons.2 ⟨by rw [VR], VRs_nil⟩⟩
          · rename_i m since seen last hi
            split at hg
            · rename_i es clock hmap
              split at hg
              · exact hg.elim
              · rename_i hok
                obtain ⟨j, hj, u, w', g1, g2⟩ := nextMap_sound (P := P) (ty := ty) hs hi hb hmap hok
                obtain ⟨c, hc⟩ : ∃ c, (cands es since seen)[j]? = some c := ⟨_, List.getElem?_eq_getElem hj⟩
                have hgj := chL_good hg c (List.mem_of_getElem? hc)
                show Oper.upon P _ a K Q ((execOp a.eval _).run P w)
                have hrun : (execOp a.eval ⟨dst, .next x false, ty, pos, after, guard⟩).run P w = .ok (.value u) w' := by
                  refine vrun ?_
                  rw [hxv]; exact g1
                rw [hrun]
                rw [hc] at g2
                cases c with
                | some e => exact hK E ⟨T, D, _, nx, pc⟩ _ _ u a.defers g2.2 rfl g2.1 hd hgj
                | none =>
                  obtain ⟨rfl, g2⟩ := g2
                  refine hK E ⟨T, D, H, nx, pc⟩ _ _ _ a.defers g2 rfl ?_ hd hgj
                  rw [VR]; exact ⟨_, rfl, VRs_cons.2 ⟨by rw [VR], VRs_nil⟩⟩
            · exact hg.elim
          · exact hg.elim
        · exact hg.elim
      · rw [e] at hg; exact hg.elim
  | call c =>
    obtain ⟨callee, args, argTypes⟩ := c
    cases callee with
    | value f =>
      have hoa : OpsR E T a args.toList := ho.sub (by intro z hz; simp [Op.operands, Call.operands]; exact .inr (by simpa using hz))
      have viaV : ∀ (hcomp : compI P ⟨dst, .call ⟨.value f, args, argTypes⟩, ty, pos, after, guard⟩ = (match compO f with | some g => cs args.toList (.callV g) | none => .bad 47)),
          Oper.wp P ⟨dst, .call ⟨.value f, args, argTypes⟩, ty, pos, after, guard⟩ a w K Q := by
        intro hcomp
        rw [hcomp] at hg
        split at hg
        · rename_i g hgc
          rcases cs_cases args.toList (.callV g) with ⟨ys, hys, e⟩ | ⟨n, e⟩
          · rw [e] at hg
            have hfv := ho f (by simp [Op.operands, Call.operands]) g hgc
            have hav := compOs_sound hys hoa
            simp only [evE] at hg
            split at hg
            · rename_i fid caps hq
              rw [hq] at hfv
              simp only [VR] at hfv
              obtain ⟨cs', hfe, hcr⟩ := hfv
              show Oper.upon P _ a K Q ((execOp a.eval _).run P w)
              have hrun : (execOp a.eval ⟨dst, .call ⟨.value f, args, argTypes⟩, ty, pos, after, guard⟩).run P w = (callFunc fid (args.map a.eval ++ cs')).run P w := by
                simp [execOp, resolve, hfe, Deferred.ofValue, invoke]
              rw [hrun]
              refine hcall U E fid _ _ H nx pc w _ _ a K Q (by simpa using VRs_append hav hcr) hs hg fun E' v u h' nx' pc' w' g1 g2 g3 => ?_
              exact hK E' ⟨T, D, h', nx', pc'⟩ w' v u a.defers g1 rfl g2 (DRs_mono g1.le _ _ hd) g3
            · exact hg.elim
          · rw [e] at hg; exact hg.elim
        · exact hg.elim
      cases f with
      | func f =>
        simp only [compI] at hg
        rcases cs_cases args.toList (.callF f) with ⟨ys, hys, e⟩ | ⟨n, e⟩
        · rw [e] at hg
          have hav := compOs_sound hys hoa
          simp only [evE] at hg
          show Oper.upon P _ a K Q ((execOp a.eval _).run P w)
          have hrun : (execOp a.eval ⟨dst, .call ⟨.value (.func f), args, argTypes⟩, ty, pos, after, guard⟩).run P w = (callFunc f (args.map a.eval)).run P w := by
            simp [execOp, resolve, Act.eval, Deferred.ofValue, invoke]
          rw [hrun]
          refine hcall U E f _ _ H nx pc w _ _ a K Q (by simpa using hav) hs hg fun E' v u h' nx' pc' w' g1 g2 g3 => ?_
          exact hK E' ⟨T, D, h', nx', pc'⟩ w' v u a.defers g1 rfl g2 (DRs_mono g1.le _ _ hd) g3
        · rw [e] at hg; exact hg.elim
      | tmp t => exact viaV rfl
      | const v => exact viaV rfl
      | global g => exact viaV rfl
    | invoke r m => simp only [compI] at hg; exact hg.elim
    | builtin b =>
      have hargs : OpsR E T a args.toList := ho.sub (by intro z hz; simpa [Op.operands, Call.operands] using hz)
      cases b with
      | append =>
        simp only [compI] at hg
        split at hg
        · rename_i t u s x hts hax
          have ha1 : argTypes = #[t, u] := by rw [← Array.toArray_toList (xs := argTypes), hts]
          have ha2 : args = #[s, x] := by rw [← Array.toArray_toList (xs := args), hax]
          subst ha1 ha2
          split at hg
          · rename_i e ht hut
            rw [beq_iff_eq] at hut
            subst hut
            split at hg
            · rename_i y hy
              split at hg
              · rename_i z hz
                split at hg
                · rename_i hzl
                  rw [beq_iff_eq] at hzl
                  rcases c2_cases s x (.append y.size y.bytes e) with ⟨s', x', hs', hx', e1⟩ | ⟨n, e1⟩
                  · rw [e1] at hg
                    have hsv := hargs s (by simp) s' hs'
                    have hxv := hargs x (by simp) x' hx'
                    simp only [evE] at hg
                    split at hg
                    · rename_i v h' nx' hp
                      obtain ⟨u1, E', w', g1, g2, g3⟩ := app_sound (P := P) (ty := ty) ht hy hz hzl hsv hxv hs hp
                      show Oper.upon P _ a K Q ((execOp a.eval _).run P w)
                      have hrun : (execOp a.eval ⟨dst, .call ⟨.builtin .append, #[s, x], #[u, u]⟩, ty, pos, after, guard⟩).run P w = .ok (.value u1) w' := by
                        simp [execOp, resolve, invoke, builtin, g1]
                      rw [hrun]
                      exact hK E' ⟨T, D, h', nx', pc⟩ _ v u1 a.defers g2 rfl g3 (DRs_mono g2.le _ _ hd) hg
                    · exact hg.elim
                  · rw [e1] at hg; exact hg.elim
                · exact hg.elim
              · exact hg.elim
            · exact hg.elim
          · exact hg.elim
        · exact hg.elim
      | copy =>
        simp only [compI] at hg
        split at hg
        · rename_i t u x y hts hax
          have ha2 : args = #[x, y] := by rw [← Array.toArray_toList (xs := args), hax]
          have ha1 : argTypes[0]? = some t := by rw [← Array.getElem?_toList, hts]; rfl
          subst ha2
          split at hg
          · rename_i e ht
            split at hg
            · rename_i yt hyt
              rcases c2_cases x y (.copy yt.size) with ⟨x', y', hx', hy', e1⟩ | ⟨n, e1⟩
              · rw [e1] at hg
                have hxv := hargs x (by simp) x' hx'
                have hyv := hargs y (by simp) y' hy'
                simp only [evE] at hg
                split at hg
                · rename_i v h' hp
                  obtain ⟨u1, w', g1, g2, g3⟩ := copy_sound (P := P) (ty := ty) ha1 ht hyt hxv hyv hs hp
                  show Oper.upon P _ a K Q ((execOp a.eval _).run P w)
                  have hrun : (execOp a.eval ⟨dst, .call ⟨.builtin .copy, #[x, y], argTypes⟩, ty, pos, after, guard⟩).run P w = .ok (.value u1) w' := by
                    simp [execOp, resolve, invoke, builtin, g1]
                  rw [hrun]
                  exact hK E ⟨T, D, h', nx, pc⟩ _ v u1 a.defers g2 rfl g3 hd hg
                · exact hg.elim
              · rw [e1] at hg; exact hg.elim
            · exact hg.elim
          · exact hg.elim
        · exact hg.elim
      | delete =>
        simp only [compI] at hg
        split at hg
        · rename_i t u x y hts hax
          have ha2 : args = #[x, y] := by rw [← Array.toArray_toList (xs := args), hax]
          have ha1 : argTypes[0]? = some t := by rw [← Array.getElem?_toList, hts]; rfl
          subst ha2
          split at hg
          · rename_i kt et ht
            split at hg
            · rename_i kk hkk
              rcases c2_cases x y (.delete kk) with ⟨x', y', hx', hy', e1⟩ | ⟨n, e1⟩
              · rw [e1] at hg
                have hxv := hargs x (by simp) x' hx'
                have hyv := hargs y (by simp) y' hy'
                simp only [evE] at hg
                split at hg
                · rename_i h' hp
                  obtain ⟨w', g1, g2⟩ := del_sound (P := P) (ty := ty) ha1 ht hkk hxv hyv hs hp
                  show Oper.upon P _ a K Q ((execOp a.eval _).run P w)
                  have hrun : (execOp a.eval ⟨dst, .call ⟨.builtin .delete, #[x, y], argTypes⟩, ty, pos, after, guard⟩).run P w = .ok (.value (.tuple #[])) w' := by
                    simp [execOp, resolve, invoke, builtin, g1]
                  rw [hrun]
                  exact hK E ⟨T, D, h', nx, pc⟩ _ (.tup []) (.tuple #[]) a.defers g2 rfl (by rw [VR]; exact ⟨_, rfl, VRs_nil⟩) hd hg
                · exact hg.elim
              · rw [e1] at hg; exact hg.elim
            · exact hg.elim
          · exact hg.elim
        · exact hg.elim
      | len | max | min | recover | println =>
        simp only [compI] at hg
        repeat' (split at hg)
        all_goals first
          | (exact hg.elim)
          | (rcases c1_cases _ _ with ⟨x', hx, e⟩ | ⟨n, e⟩ <;> (rw [e] at hg; exact hg.elim))
          | (rcases c2_cases _ _ _ with ⟨x', y', hx, hy, e⟩ | ⟨n, e⟩ <;> (rw [e] at hg; exact hg.elim))
      | _ => simp only [compI] at hg; exact hg.elim
  | defer c =>
    obtain ⟨callee, args, argTypes⟩ := c
    cases callee with
    | value f =>
      have hoa : OpsR E T a args.toList := ho.sub (by intro z hz; simp [Op.operands, Call.operands]; exact .inr (by simpa using hz))
      simp only [compI] at hg
      split at hg
      · rename_i g hgc
        rcases cs_cases args.toList (.deferF g) with ⟨ys, hys, e⟩ | ⟨n, e⟩
        · rw [e] at hg
          have hfv := ho f (by simp [Op.operands, Call.operands]) g hgc
          have hav := compOs_sound hys hoa
          simp only [evE] at hg
          split at hg
          · rename_i fid caps hq
            rw [hq] at hfv
            simp only [VR] at hfv
            obtain ⟨cs', hfe, hcr⟩ := hfv
            show Oper.upon P _ a K Q ((execOp a.eval _).run P w)
            have hrun : (execOp a.eval ⟨dst, .defer ⟨.value f, args, argTypes⟩, ty, pos, after, guard⟩).run P w = .ok (.defer { target := .fn (.func fid) cs', args := args.map a.eval }) w := by
              simp [execOp, resolve, hfe, Deferred.ofValue]
            rw [hrun]
            refine hK E ⟨T, ⟨fid, evAs T ys ++ caps⟩ :: D, H, nx, pc⟩ w AV.undef undef ({ target := .fn (.func fid) cs', args := args.map a.eval } :: a.defers) (.same hs) rfl (VR_undef E) ?_ hg
            exact ⟨_, _, rfl, ⟨cs', _, rfl, by simpa using VRs_append hav hcr⟩, hd⟩
          · exact hg.elim
        · rw [e] at hg; exact hg.elim
      · exact hg.elim
    | _ => simp only [compI] at hg; exact hg.elim
  | makeFunc fn first caps =>
    cases fn with
    | func f =>
      simp only [compI] at hg
      split at hg
      · rcases cs_cases caps.toList (.mkFunc f []) with ⟨x', hx, e⟩ | ⟨n, e⟩ <;> (rw [e] at hg; exact hg.elim)
      · exact hg.elim
    | _ => simp only [compI] at hg; exact hg.elim
  | makeMap t r => cases r <;> (simp only [compI] at hg; exact hg.elim)
  | move | assign | pick | alloc | box | build | buildSlice | load | nilCheck | binOp | unOp | makeInterface | makeSlice | slice | fieldAddr | field | indexAddr | index | lookup | typeAssert | entry | extract | panic =>
    simp only [compI] at hg
    repeat' (split at hg)
    all_goals first
      | (exact hg.elim)
      | (rcases c1_cases _ _ with ⟨x', hx, e⟩ | ⟨n, e⟩ <;> (rw [e] at hg; exact hg.elim))
      | (rcases c2_cases _ _ _ with ⟨x', y', hx, hy, e⟩ | ⟨n, e⟩ <;> (rw [e] at hg; exact hg.elim))
      | (rcases c3_cases _ _ _ _ with ⟨x', y', z', hx, hy, hz, e⟩ | ⟨n, e⟩ <;> (rw [e] at hg; exact hg.elim))
  | _ => simp only [compI] at hg; exact hg.elim
end Ct
