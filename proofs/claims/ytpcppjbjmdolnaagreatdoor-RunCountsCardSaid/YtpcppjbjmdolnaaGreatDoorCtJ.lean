/- What only reckons or reads: every operation. -/
import Derived.Test.YtpcppjbjmdolnaaGreatDoorCtI
namespace Ct
open Go
section
variable {P : Program} {E : Env} {w : World} {H : Tr AO} {a : Act} {T : Tr AV} {r : AV}

theorem zero_rel {t : TypeId} {y : TI} (ht : tyI P t = some y) {z : AV} (hz : y.zero = some z) (E : Env) (w : World) : ∃ v, (zeroValue t).run P w = .ok v w ∧ VR E z v := by
  obtain ⟨i, hi, _, _, _, h5⟩ := tyI_some ht
  rw [h5] at hz
  cases hzi : i.zero with
  | none => rw [hzi] at hz; cases hz
  | some v =>
    rw [hzi] at hz
    exact ⟨v, run_zero hi hzi w, ofVal_sound E 4 v z hz⟩

theorem parts_rel {fs : Array Field} : ∀ {ps : List (Nat × Operand)} {qs : List (Nat × Nat × AOp)}, parts P fs ps = some qs → qs.length = ps.length ∧
    ∀ (i : Nat) (p : Nat × Operand) (q : Nat × Nat × AOp), ps[i]? = some p → qs[i]? = some q → (∃ f y, fs[p.1]? = some f ∧ tyI P f.type = some y ∧ q.1 = f.offset ∧ q.2.1 = y.size) ∧ compO p.2 = some q.2.2
  | [], qs, h => by simp only [parts, Option.some.injEq] at h; subst h; exact ⟨rfl, fun i p q hp => by simp at hp⟩
  | (j, x) :: ps, qs, h => by
    simp only [parts] at h
    split at h
    · rename_i f hf
      split at h
      · rename_i y hy
        split at h
        · rename_i b hb
          split at h
          · rename_i l hl
            cases h
            obtain ⟨h1, h2⟩ := parts_rel hl
            refine ⟨by simp [h1], fun i p q hp hq => ?_⟩
            cases i with
            | zero => simp at hp hq; subst hp; subst hq; exact ⟨⟨f, y, hf, hy, rfl, rfl⟩, hb⟩
            | succ i => exact h2 i p q (by simpa using hp) (by simpa using hq)
          · cases h
        · cases h
      · cases h
    · cases h

theorem partsOf_rel {size : Nat} : ∀ {ps : List (Nat × Operand)} {qs : List (Nat × Nat × AOp)}, partsOf size ps = some qs → qs.length = ps.length ∧
    ∀ (i : Nat) (p : Nat × Operand) (q : Nat × Nat × AOp), ps[i]? = some p → qs[i]? = some q → some (p.1 * size, size) = some (q.1, q.2.1) ∧ compO p.2 = some q.2.2
  | [], qs, h => by simp only [partsOf, Option.some.injEq] at h; subst h; exact ⟨rfl, fun i p q hp => by simp at hp⟩
  | (j, x) :: ps, qs, h => by
    simp only [partsOf] at h
    split at h
    · rename_i b hb
      split at h
      · rename_i l hl
        cases h
        obtain ⟨h1, h2⟩ := partsOf_rel hl
        refine ⟨by simp [h1], fun i p q hp hq => ?_⟩
        cases i with
        | zero => simp at hp hq; subst hp; subst hq; exact ⟨rfl, hb⟩
        | succ i => exact h2 i p q (by simpa using hp) (by simpa using hq)
      · cases h
    · cases h

/-- The places of a struct's fields. -/
theorem run_places {fs : Array Field} (h : fieldsOk P fs = true) : ∃ pl : Array (Nat × Nat), (fs.mapM fun f => do pure (f.offset, ← Go.sizeOf f.type) : Sem (Array (Nat × Nat))).run P w = .ok pl w ∧
    ∀ (i : Nat) (f : Field) (y : TI), fs[i]? = some f → tyI P f.type = some y → pl[i]? = some (f.offset, y.size) := by
  have key : ∀ (l : List Field), (l.all fun f => (tyI P f.type).isSome) = true → ∃ pl : List (Nat × Nat), (l.mapM fun f => do pure (f.offset, ← Go.sizeOf f.type) : Sem (List (Nat × Nat))).run P w = .ok pl w ∧
      ∀ (i : Nat) (f : Field) (y : TI), l[i]? = some f → tyI P f.type = some y → pl[i]? = some (f.offset, y.size) := by
    intro l
    induction l with
    | nil => intro _; exact ⟨[], by simp, fun i f y hf => by simp at hf⟩
    | cons f l ih =>
      intro hl
      rw [List.all_cons, Bool.and_eq_true] at hl
      obtain ⟨pl, h1, h2⟩ := ih hl.2
      obtain ⟨y, hy⟩ := Option.isSome_iff_exists.1 hl.1
      obtain ⟨i, hi, _, hs, _, _⟩ := tyI_some hy
      refine ⟨(f.offset, y.size) :: pl, ?_, ?_⟩
      · rw [List.mapM_cons]
        simp only [Sem.run_bind, run_size hi, Result.andThen_ok, Sem.run_pure, hs, h1]
      · intro j g z hg hz
        cases j with
        | zero => simp at hg; subst hg; rw [hy] at hz; cases hz; simp
        | succ j => simpa using h2 j g z (by simpa using hg) hz
  obtain ⟨pl, h1, h2⟩ := key fs.toList h
  refine ⟨pl.toArray, ?_, fun i f y hf hy => by simpa using h2 i f y (by simpa using hf) hy⟩
  rw [Array.mapM_eq_mapM_toList]
  simp only [Sem.run_map, h1, Result.andThen_ok]

theorem build_sound {t : TypeId} {ps : Array (Nat × Operand)} {y : TI} {z : List AV} {l : List (Nat × Nat × AOp)} {out : List AV} (ht : tyI P t = some y) (hz : y.zero = some (.agg z))
    (hl : (∃ fs, y.d = .struct fs ∧ fieldsOk P fs = true ∧ parts P fs ps.toList = some l) ∨ (∃ n e ye, y.d = .array n e ∧ tyI P e = some ye ∧ partsOf ye.size ps.toList = some l))
    (ho : OpsR E T a (ps.toList.map (·.2))) (h : fillZ T z l = some out) :
    ∃ u, (Instr.build t (ps.map fun (i, x) => (i, a.eval x))).run P w = .ok u w ∧ VR E (.agg out) u := by
  obtain ⟨i, hi, hu, hs, _, _⟩ := tyI_some ht
  obtain ⟨zv, hzv, hzr⟩ := zero_rel ht hz E w
  have hzr' := hzr
  simp only [VR] at hzr
  obtain ⟨cs, rfl, hcs, h1⟩ := hzr
  have e : (ps.map fun (i, x) => (i, a.eval x)).toList = ps.toList.map fun (i, x) => (i, a.eval x) := by simp
  rcases hl with ⟨fs, hd, hf, hp⟩ | ⟨n, el, ye, hd, hye, hp⟩
  · obtain ⟨pl, hpl, hplace⟩ := run_places (w := w) hf
    obtain ⟨hlen, hpr⟩ := parts_rel hp
    obtain ⟨ys, h2, h3, h4⟩ := fill_sound (fun i => pl[i]?) ps.toList l hlen (fun i p q hpi hqi => by
      obtain ⟨⟨f, yf, g1, g2, g3, g4⟩, g5⟩ := hpr i p q hpi hqi
      exact ⟨by rw [hplace p.1 f yf g1 g2, g3, g4], g5⟩) ho z out cs hcs h1 h
    refine ⟨.agg ys, ?_, by simp only [VR]; exact ⟨ys, rfl, h3, h4⟩⟩
    simp only [Instr.build, Sem.run_bind, hzv, run_underlying hu, hd, Result.andThen_ok, hpl, e]
    have h2' : Instr.fill (fun x => pl[x]?) (Value.agg cs).cells (List.map (fun x => (x.fst, a.eval x.snd)) ps.toList) = some ys := h2
    rw [h2']; rfl
  · obtain ⟨ie, hie, _, hse, _, _⟩ := tyI_some hye
    obtain ⟨hlen, hpr⟩ := partsOf_rel hp
    obtain ⟨ys, h2, h3, h4⟩ := fill_sound (fun i => some (i * ye.size, ye.size)) ps.toList l hlen hpr ho z out cs hcs h1 h
    refine ⟨.agg ys, ?_, by simp only [VR]; exact ⟨ys, rfl, h3, h4⟩⟩
    simp only [Instr.build, Sem.run_bind, hzv, run_underlying hu, hd, Result.andThen_ok, run_size hie, hse, e]
    have h2' : Instr.fill (fun i => some (i * ye.size, ye.size)) (Value.agg cs).cells (List.map (fun x => (x.fst, a.eval x.snd)) ps.toList) = some ys := h2
    rw [h2']; rfl

/-! ### one by one -/
theorem ret {s : Sem Value} {u : Value} {r : AV} (h : s.run P w = .ok u w) (hr : VR E r u) : ∃ u, (do pure (Next.value (← s)) : Sem Next).run P w = .ok (.value u) w ∧ VR E r u := ⟨u, vrun h, hr⟩

theorem slice_sound {t : TypeId} {x : Operand} {l h m : Option Operand} {y : AOp} {l' h' m' : Option AOp} (hx : compO x = some y) (hl : optO l = some l') (hh : optO h = some h') (hm : optO m = some m')
    (ho : OpsR E T a ([x] ++ l.toList ++ h.toList ++ m.toList))
    (hc : (P.underlying t = some .string ∧ m' = none ∧ evPR T H (.sliceStr y l' h') = some r) ∨
      (∃ e ye, P.underlying t = some (.slice e) ∧ tyI P e = some ye ∧ evPR T H (.sliceSl ye.size y l' h' m') = some r) ∨
      (∃ n e ye, P.underlying t = some (.array n e) ∧ tyI P e = some ye ∧ evPR T H (.sliceArr ye.size n y l' h' m') = some r)) :
    ∃ u, (Instr.sliceAt t (a.eval x) (l.map a.eval) (h.map a.eval) (m.map a.eval)).run P w = .ok u w ∧ VR E r u := by
  have hxr : VR E (evA T y) (a.eval x) := ho x (by simp) y hx
  have hlo : OpsR E T a l.toList := ho.sub (by intro z hz; simp; exact .inr (.inl (by simpa using hz)))
  have hho : OpsR E T a h.toList := ho.sub (by intro z hz; simp; exact .inr (.inr (.inl (by simpa using hz))))
  have hmo : OpsR E T a m.toList := ho.sub (by intro z hz; simp; exact .inr (.inr (.inr (by simpa using hz))))
  have mnone : m' = none → m.map a.eval = none := by
    intro e
    cases m with
    | none => rfl
    | some m => simp only [optO, Option.map_eq_some_iff] at hm; obtain ⟨_, _, e2⟩ := hm; rw [e] at e2; cases e2
  have hnone : h' ≠ none → h.map a.eval ≠ none := by
    intro e
    cases h with
    | none => simp only [optO, Option.some.injEq] at hh; exact absurd hh.symm e
    | some h => simp
  rcases hc with ⟨ht, hmn, he⟩ | ⟨e, ye, ht, hye, he⟩ | ⟨n, e, ye, ht, hye, he⟩
  · -- a string
    simp only [evPR] at he
    split at he
    · rename_i n s hs
      rw [hs] at hxr
      simp only [VR] at hxr
      obtain ⟨hlt, hxv⟩ := hxr
      split at he
      · rename_i hi hhi
        split at he
        · rename_i lo hlo'
          split at he
          · rename_i hcond
            rw [band, nble, nble] at hcond
            cases he
            have hb := sliceBounds_run (P := P) (w := w) (isSlice := false) (len := n) (cap := n) (mx := none) (bnd_low hl hlo hlo')
              (by rcases bnd_high hh hho hhi with ⟨h1, h2⟩ | h1
                  · exact .inl ⟨h1, rfl, h2⟩
                  · exact .inr h1) (.inl ⟨rfl, rfl⟩) hcond.1 (fun _ => hcond.2) (Nat.le_refl _)
            refine ⟨.string ((strV n s).extract lo hi), ?_, ?_⟩
            · rw [hxv, mnone hmn]
              simp only [Instr.sliceAt, Sem.run_bind, run_underlying ht, Result.andThen_ok, Instr.slice, strV_size]
              simp only [Option.isSome_none, Bool.false_eq_true, if_false]
              rw [Sem.run_bind, hb]; rfl
            · simp only [VR]
              exact ⟨strCut_lt _ _ _, by rw [strV_extract n s lo hi hcond.1 hcond.2]; rfl⟩
          · cases he
        · cases he
      · cases he
    · cases he
  · -- a slice
    obtain ⟨ie, hie, _, hse, _, _⟩ := tyI_some hye
    have go : ∀ (base : Option Addr) (len cap : Nat) (mx : Option Value) (lo hi mm : Nat), a.eval x = .slice base len cap → m.map a.eval = mx →
        (Instr.sliceBounds true len cap (l.map a.eval) (h.map a.eval) mx).run P w = .ok (lo, hi, mm) w →
        (Instr.sliceAt t (a.eval x) (l.map a.eval) (h.map a.eval) (m.map a.eval)).run P w = .ok (.slice (if mm = lo then base else base.map (·.add (lo * ye.size))) (hi - lo) (mm - lo)) w := by
      intro base len cap mx lo hi mm hv hmx hb
      rw [hv, hmx]
      simp only [Instr.sliceAt, Sem.run_bind, run_underlying ht, Result.andThen_ok, Instr.slice]
      rw [hb]
      simp only [Result.andThen_ok, run_size hie, hse, Sem.run_pure]
    simp only [evPR] at he
    split at he
    · -- an empty one
      rename_i hs
      rw [hs] at hxr
      simp only [VR] at hxr
      obtain ⟨a0, k, hxv⟩ := hxr
      split at he
      · rename_i h1 h2 
        cases he
        have hb := sliceBounds_run (P := P) (w := w) (isSlice := true) (len := 0) (cap := k) (mx := none) (bnd_low hl hlo h2)
          (by rcases bnd_high hh hho h1 with ⟨h1, h2⟩ | h1
              · exact .inl ⟨h1, rfl, h2⟩
              · exact .inr h1) (.inl ⟨rfl, rfl⟩) (Nat.le_refl _) (fun _ => Nat.zero_le _) (Nat.le_refl _)
        refine ⟨_, go _ _ _ none 0 0 k hxv (mnone rfl) hb, ?_⟩
        simp only [VR]
        by_cases hk : k = 0
        · exact ⟨a0, 0, by simp [hk]⟩
        · exact ⟨a0.add (0 * ye.size), k, by simp [hk]⟩
      · cases he
    · -- nil
      rename_i hs
      rw [hs] at hxr
      simp only [VR] at hxr
      split at he
      · rename_i h1 h2
        cases he
        have hb := sliceBounds_run (P := P) (w := w) (isSlice := true) (len := 0) (cap := 0) (mx := none) (bnd_low hl hlo h2)
          (by rcases bnd_high hh hho h1 with ⟨h1, h2⟩ | h1
              · exact .inl ⟨h1, rfl, h2⟩
              · exact .inr h1) (.inl ⟨rfl, rfl⟩) (Nat.le_refl _) (fun _ => Nat.zero_le _) (Nat.le_refl _)
        refine ⟨_, go _ _ _ none 0 0 0 hxr (mnone rfl) hb, ?_⟩
        simp [VR]
      · cases he
    · rename_i i o n c hs
      rw [hs] at hxr
      simp only [VR] at hxr
      obtain ⟨b, k, hb0, hxv, hnk, hck, hcn⟩ := hxr
      split at he
      · rename_i hi hhi
        split at he
        · rename_i lo hlo'
          have hlow := bnd_low hl hlo hlo'
          have hhigh := bnd_high hh hho hhi
          split at he
          · -- no third bound
            have hmn := mnone rfl
            have hb : lo ≤ hi → hi ≤ k → (Instr.sliceBounds true n k (l.map a.eval) (h.map a.eval) none).run P w = .ok (lo, hi, k) w := fun h1 h2 =>
              sliceBounds_run hlow (by rcases hhigh with ⟨h1, h2⟩ | h1
                                       · exact .inl ⟨h1, rfl, h2⟩
                                       · exact .inr h1) (.inl ⟨rfl, rfl⟩) h1 (fun _ => h2) (Nat.le_refl _)
            split at he
            · rename_i c'
              have hkc : k = c' := hck c' rfl
              split at he
              · rename_i hcond
                rw [band, nble, nble] at hcond
                have hr := go _ _ _ none lo hi k hxv hmn (hb hcond.1 (by omega))
                split at he
                · rename_i hlc
                  cases he
                  have hlc' : lo = c' := nbeq.1 hlc
                  refine ⟨_, hr, ?_⟩
                  simp only [VR]
                  exact ⟨⟨b, o, none⟩, k - lo, by rw [if_pos (by omega), show hi - lo = 0 from by omega]⟩
                · rename_i hlc
                  cases he
                  have hlc' : lo ≠ c' := nbeqF.1 hlc
                  refine ⟨_, hr, ?_⟩
                  simp only [VR, nadd, nmul, nsub]
                  refine ⟨b, k - lo, hb0, ?_, by omega, fun k' hk' => by cases hk'; omega, fun hk' => by cases hk'⟩
                  rw [if_neg (by omega)]
                  simp only [Option.map_some, addr_add]
              · cases he
            · split at he
              · rename_i hcond
                rw [band, band, nble, nble, nble] at hcond
                have hr := go _ _ _ none lo hi k hxv hmn (hb hcond.1.1 (by omega))
                split at he
                · rename_i hlt
                  cases he
                  have hlt' : lo < n := nblt.1 hlt
                  refine ⟨_, hr, ?_⟩
                  simp only [VR, nadd, nmul, nsub]
                  refine ⟨b, k - lo, hb0, ?_, by omega, fun k' hk' => (by cases hk'), fun _ ho0 => ?_⟩
                  · rw [if_neg (by omega)]
                    simp only [Option.map_some, addr_add]
                  · have h1 : o = 0 := by omega
                    have h2 : lo * ye.size = 0 := by omega
                    have h3 : lo = 0 := by
                      rcases Nat.mul_eq_zero.1 h2 with h | h
                      · exact h
                      · omega
                    subst h3
                    rw [Nat.sub_zero]; exact hcn rfl h1
                · rename_i hlt
                  cases he
                  have hlt' : n ≤ lo := nbltF.1 hlt
                  refine ⟨_, hr, ?_⟩
                  simp only [VR]
                  by_cases hkl : k = lo
                  · exact ⟨⟨b, o, none⟩, k - lo, by rw [if_pos hkl, show hi - lo = 0 from by omega]⟩
                  · exact ⟨⟨b, o + lo * ye.size, none⟩, k - lo, by rw [if_neg hkl, show hi - lo = 0 from by omega]; simp only [Option.map_some, addr_add]⟩
              · cases he
          · -- a third bound
            rename_i mm
            split at he
            · cases he
            · rename_i hx'
              split at he
              · rename_i mx hmx
                have hm3 : ∃ km, m.map a.eval = some (.int km (mx : Int)) := by
                  cases m with
                  | none => simp only [optO, Option.some.injEq] at hm; cases hm
                  | some m0 =>
                    simp only [optO, Option.map_eq_some_iff] at hm
                    obtain ⟨z, hz, hz2⟩ := hm
                    cases hz2
                    obtain ⟨km, hkm⟩ := natOf_some hmx (hmo m0 (by simp) _ hz)
                    exact ⟨km, by simp [hkm]⟩
                obtain ⟨km, hm3⟩ := hm3
                split at he
                · rename_i hcond
                  rw [band, band, nble, nble, nble] at hcond
                  have hmk : mx ≤ k := by
                    have h3 := hcond.2.2
                    cases c with
                    | none => simp only at h3; omega
                    | some c' => simp only at h3; have := hck c' rfl; omega
                  have hb := sliceBounds_run (P := P) (w := w) (isSlice := true) (len := n) (cap := k) hlow
                    (hi := h.map a.eval) (h := hi) (by
                      rcases hhigh with ⟨h1, h2⟩ | h1
                      · exact absurd h1 (hnone (by simp))
                      · exact .inr h1) (mx := some (.int km (mx : Int))) (.inr ⟨km, rfl⟩) hcond.1 (fun _ => hcond.2.1) hmk
                  have hr := go _ _ _ _ lo hi mx hxv hm3 hb
                  split at he
                  · rename_i hlm
                    cases he
                    have hlm' : lo = mx := nbeq.1 hlm
                    refine ⟨_, hr, ?_⟩
                    simp only [VR]
                    exact ⟨⟨b, o, none⟩, mx - lo, by rw [if_pos hlm'.symm, show hi - lo = 0 from by omega]⟩
                  · rename_i hlm
                    cases he
                    have hlm' : lo ≠ mx := nbeqF.1 hlm
                    refine ⟨_, hr, ?_⟩
                    simp only [VR, nadd, nmul, nsub]
                    refine ⟨b, mx - lo, hb0, ?_, by omega, fun k' hk' => by cases hk'; rfl, fun hk' => by cases hk'⟩
                    rw [if_neg (by omega)]
                    simp only [Option.map_some, addr_add]
                · cases he
              · cases he
        · cases he
      · cases he
    · cases he
  · -- an array behind a pointer
    obtain ⟨ie, hie, _, hse, _, _⟩ := tyI_some hye
    simp only [evPR] at he
    split at he
    · cases he
    · have hmn := mnone rfl
      split at he
      · rename_i i o hs
        rw [hs] at hxr
        simp only [VR] at hxr
        obtain ⟨b, hb0, hxv⟩ := hxr
        split at he
        · rename_i hi hhi
          split at he
          · rename_i lo hlo'
            split at he
            · rename_i hcond
              rw [band, band, nble, nble, nblt] at hcond
              cases he
              have hb := sliceBounds_run (P := P) (w := w) (isSlice := false) (len := n) (cap := n) (mx := none) (bnd_low hl hlo hlo')
                (by rcases bnd_high hh hho hhi with ⟨h1, h2⟩ | h1
                    · exact .inl ⟨h1, rfl, h2⟩
                    · exact .inr h1) (.inl ⟨rfl, rfl⟩) hcond.1 (fun _ => hcond.2.1) (Nat.le_refl _)
              refine ⟨.slice (some ⟨b, o + lo * ye.size, none⟩) (hi - lo) (n - lo), ?_, ?_⟩
              · rw [hxv, hmn]
                simp only [Instr.sliceAt, Sem.run_bind, run_underlying ht, Result.andThen_ok, Instr.sureAddr, Sem.run_pure]
                rw [hb]
                simp only [Result.andThen_ok, run_size hie, hse]
                rw [if_neg (by omega), addr_add]
              · simp only [VR, nadd, nmul, nsub]
                exact ⟨b, n - lo, hb0, rfl, by omega, fun k' hk' => by cases hk'; rfl, fun hk' => by cases hk'⟩
            · cases he
          · cases he
        · cases he
      · cases he
end
end Ct
