/- 'append', 'copy'. -/
import Derived.Test.YtpcppjbjmdolnaaGreatDoorCtM
import Derived.Laws.AppendOwn
namespace Ct
open Go
variable {P : Program} {U : Nat → Prop} {E : Env} {H : Tr AO} {nx : Nat} {pc : List (SB × Bool)} {w : World}

theorem oneCells_zero {z : List AV} {v : Value} {size : Nat} (h : VRs E z v.cells.toList) (hz : z.length = size) : v.cells.size = size := by
  have := VRs_length h
  simpa [hz] using this

/-- A row that has grown: what is known of it, and room behind. -/
theorem OR_grown {l : List AV} {us rest : List Value} {i e g : Nat} {tt : Tr AV} (htt : ∀ j, j < l.length → tt.get j = l[j]?) (h : VRs E l us) (h1 : l.all oneA = true) (hc : us.length + rest.length = E.cap i * g) (hm : E.cap i ≤ maxLen) (hg1 : 1 ≤ g) :
    OR E i (.cells l.length g e tt) (.cells (us ++ rest).toArray e (0, 0)) := by
  have hl := VRs_length h
  refine ⟨_, e, 0, 0, rfl, by simp; omega, .inl (by omega), fun j hj => ?_, fun _ => ⟨rfl, rfl, rfl, by simpa using hc, hm⟩, fun h0 => absurd h0 (by omega)⟩
  obtain ⟨v, hv, hr⟩ := VRs_get h j l[j] (List.getElem?_eq_getElem hj)
  refine ⟨l[j], v, ?_, ?_, hr, ?_⟩
  · rw [htt j hj]; exact List.getElem?_eq_getElem hj
  · simp only [List.getElem?_toArray]
    rw [List.getElem?_append_left (by omega)]; exact hv
  · rw [List.all_eq_true] at h1; exact h1 _ (List.getElem_mem _)

theorem setAll_leaf {l : List AV} (j : Nat) (hj : j < l.length) : (Tr.setAll .leaf 0 l).get j = l[j]? := by
  rw [Tr.get_setAll, if_pos ⟨by omega, by omega⟩, Nat.sub_zero]

theorem getAll_of : ∀ (n : Nat) (t : Tr AV) (k : Nat), (∀ j, j < n → ∃ a, t.get (k + j) = some a) → ∃ l, t.getAll k n = some l
  | 0, t, k, _ => ⟨[], rfl⟩
  | n + 1, t, k, h => by
    obtain ⟨a, ha⟩ := h 0 (by omega)
    obtain ⟨l, hl⟩ := getAll_of n t (k + 1) (fun j hj => by
      obtain ⟨b, hb⟩ := h (j + 1) (by omega)
      exact ⟨b, by rw [← hb]; congr 1; omega⟩)
    refine ⟨a :: l, ?_⟩
    simp only [Tr.getAll]
    rw [show t.get k = some a from ha]
    simp only []
    rw [show t.getAll (Nat.succ k) n = some l from hl]

/-- An array goes on under a new number: the old one is not known any more. -/
theorem Aft.moved {w' : World} {i b c : Nat} {o ob : AO} {obj : Obj} (h : SR U E H nx pc w) (hi : H.get i = some o) (hb : E.m i = some b)
    (ho : w'.os = w.os) (ht : w'.tape = w.tape) (hu : w'.output = w.output) (hsz : w'.heap.size = w.heap.size) (hk : ∀ c, c ≠ b → w'.heap[c]? = w.heap[c]?) (hn : w'.heap[b]? = some obj)
    (hr : OR (E.mk1 nx b c) nx ob obj) : Aft U E nx w (E.mk1 nx b c) ((H.set i none).set nx (some ob)) (Nat.succ nx) pc w' := by
  have hle := Env.le_mk1 (h.fresh nx (Nat.le_refl _)).1 b c
  have hin : i ≠ nx := by
    rintro rfl
    rw [(h.fresh i (Nat.le_refl _)).2] at hi; cases hi
  have sub : ∀ j p, j ≠ nx → ((H.set i none).set nx (some ob)).get j = some p → j ≠ i ∧ H.get j = some p := by
    intro j p hj hp
    rw [Tr.get_set, if_neg hj, Tr.get_set] at hp
    split at hp
    · cases hp
    · rename_i hji; exact ⟨hji, hp⟩
  have hbs := h.known i b hb
  refine ⟨hle, fun j hj => Env.mk1_other E _ _ (by omega), ⟨⟨?_, ?_⟩, ?_, ?_, ?_, ?_, h.pc, ?_, ?_⟩, ⟨ho, ht, hu, by omega, ?_⟩, Nat.le_succ _⟩
  · intro j p d hj hd
    by_cases e : j = nx
    · subst e
      rw [Tr.get_set_same] at hj
      rw [Env.mk1_same] at hd
      cases hj; cases hd
      exact ⟨obj, hn, hr⟩
    · obtain ⟨hji, hp⟩ := sub j p e hj
      rw [Env.mk1_other E _ _ e] at hd
      obtain ⟨x, hx, hor⟩ := h.hr.obj j p d hp hd
      have : d ≠ b := by rintro rfl; exact hji (h.hr.inj j i p o d hp hi hd hb)
      exact ⟨x, by rw [hk d this]; exact hx, OR_mono hle hd hor⟩
  · intro j k p q d hj hkk hdj hdk
    by_cases ej : j = nx <;> by_cases ek : k = nx
    · omega
    · subst ej
      rw [Env.mk1_same] at hdj; cases hdj
      rw [Env.mk1_other E _ _ ek] at hdk
      obtain ⟨hki, hq⟩ := sub k q ek hkk
      exact absurd (h.hr.inj k i q o _ hq hi hdk hb) hki
    · subst ek
      rw [Env.mk1_same] at hdk; cases hdk
      rw [Env.mk1_other E _ _ ej] at hdj
      obtain ⟨hji, hp⟩ := sub j p ej hj
      exact absurd (h.hr.inj j i p o _ hp hi hdj hb) hji
    · rw [Env.mk1_other E _ _ ej] at hdj
      rw [Env.mk1_other E _ _ ek] at hdk
      exact h.hr.inj j k p q d (sub j p ej hj).2 (sub k q ek hkk).2 hdj hdk
  · intro j p d hj hd
    by_cases e : j = nx
    · subst e
      rw [Env.mk1_same] at hd; cases hd
      exact h.own i o _ hi hb
    · rw [Env.mk1_other E _ _ e] at hd
      exact h.own j p d (sub j p e hj).2 hd
  · intro j hj
    have e : j ≠ nx := by omega
    rw [Env.mk1_other E _ _ e, Tr.get_set, if_neg e, Tr.get_set]
    refine ⟨(h.fresh j (by omega)).1, ?_⟩
    split
    · rfl
    · exact (h.fresh j (by omega)).2
  · intro d hd; exact h.big d (by omega)
  · intro j d hd
    rw [hsz]
    by_cases e : j = nx
    · subst e
      rw [Env.mk1_same] at hd; cases hd
      exact hbs
    · rw [Env.mk1_other E _ _ e] at hd
      exact h.known j d hd
  · intro g hg
    have e : g ≠ nx := by
      intro e
      have h1 := (h.fresh g (by omega)).1
      rw [(h.glob g hg).1] at h1; cases h1
    rw [Env.mk1_other E _ _ e]; exact h.glob g hg
  · intro j p hj
    by_cases e : j = nx
    · subst e; exact ⟨_, Env.mk1_same _ _ _ _⟩
    · rw [Env.mk1_other E _ _ e]; exact h.pl j p (sub j p e hj).2
  · intro d hd
    refine hk d ?_
    rintro rfl
    exact hd (h.own i o d hi hb)

theorem run_append_in {t ty e : TypeId} {i : TypeInfo} (ht : P.underlying t = some (.slice e)) (hi : P.info? e = some i) {b o sLen sCap n c : Nat} {a : Addr} {news : List Value} {w' : World}
    (hl : news.length = n * i.size) (hnews : ∀ j u, news[j]? = some u → w.cell? (a.add j) = some u) (hroom : sLen + n ≤ sCap)
    (hst : (storeCells ⟨b, o + sLen * i.size, none⟩ news).run P w = .ok () w') :
    (Builtin.append_ #[t, t] ty #[.slice (some ⟨b, o, none⟩) sLen sCap, .slice (some a) n c]).run P w = .ok (.slice (some ⟨b, o, none⟩) (sLen + n) sCap) w' := by
  have hf := run_firstCells_some (P := P) w i.size n a n c news hl hnews
  simp [Builtin.append_, run_underlying ht, run_size hi, Builtin.lenOf, hroom, hf, Addr.add_lit, hst]

theorem run_append_0 {t ty e : TypeId} {i : TypeInfo} (ht : P.underlying t = some (.slice e)) (hi : P.info? e = some i) {base : Option Addr} {sLen sCap : Nat} (hle : sLen ≤ sCap) {xv : Value}
    (hx : (∃ s : ByteArray, xv = .string s ∧ s.size = 0) ∨ ∃ b c, xv = .slice b 0 c) :
    (Builtin.append_ #[t, t] ty #[.slice base sLen sCap, xv]).run P w = .ok (.slice base sLen sCap) w := by
  rcases hx with ⟨s, rfl, hs⟩ | ⟨b, c, rfl⟩
  · cases base <;> simp [Builtin.append_, run_underlying ht, run_size hi, Builtin.lenOf, hs, hle, Builtin.firstCells, storeCells]
  · cases base <;> cases b <;> simp [Builtin.append_, run_underlying ht, run_size hi, Builtin.lenOf, hle, Builtin.firstCells, storeCells, loadCells, loadCellsFrom]

theorem srcLen_zero {x : AV} {xv : Value} (h : srcLen x = some 0) (hx : VR E x xv) : (∃ s : ByteArray, xv = .string s ∧ s.size = 0) ∨ ∃ b c, xv = .slice b 0 c := by
  cases x <;> simp only [srcLen, Option.some.injEq] at h <;> first | (cases h; done) | skip
  · subst h
    simp only [VR] at hx
    exact .inl ⟨_, hx.2, strV_size 0 _⟩
  · simp only [VR] at hx; exact .inr ⟨_, _, hx⟩
  · subst h
    simp only [VR] at hx
    obtain ⟨b, k, _, rfl, _⟩ := hx
    exact .inr ⟨_, _, rfl⟩
  · simp only [VR] at hx
    obtain ⟨a, k, rfl⟩ := hx
    exact .inr ⟨_, _, rfl⟩

theorem app_sound {t ty e : TypeId} {y : TI} {z : List AV} (ht : P.underlying t = some (.slice e)) (hy : tyI P e = some y) (hz : y.cells = some z) (hzl : z.length = y.size)
    {s x v : AV} {sv xv : Value} {H' : Tr AO} {nx' : Nat} (hsv : VR E s sv) (hxv : VR E x xv) (hs : SR U E H nx pc w) (h : appendE y.size y.bytes e H nx s x = some (v, H', nx')) :
    ∃ u E' w', (Builtin.append_ #[t, t] ty #[sv, xv]).run P w = .ok u w' ∧ Aft U E nx w E' H' nx' pc w' ∧ VR E' v u := by
  obtain ⟨i, hi, hu, hsz, hby, _⟩ := tyI_some hy
  unfold appendE at h
  split at h
  · cases h
  · rename_i hx0
    have hx := srcLen_zero hx0 hxv
    split at h
    · cases h
      simp only [VR] at hsv
      subst hsv
      exact ⟨_, E, w, run_append_0 ht hi (Nat.le_refl _) hx, .same hs, by simp only [VR]⟩
    · cases h
      simp only [VR] at hsv
      obtain ⟨a, k, rfl⟩ := hsv
      exact ⟨_, E, w, run_append_0 ht hi (Nat.zero_le _) hx, .same hs, by simp only [VR]; exact ⟨_, _, rfl⟩⟩
    · cases h
      have hsv' := hsv
      simp only [VR] at hsv
      obtain ⟨b, k, hb, rfl, hk, _⟩ := hsv
      exact ⟨_, E, w, run_append_0 ht hi hk hx, .same hs, hsv'⟩
    · cases h
  · rename_i k hxk
    split at h
    · cases h
    · rename_i new hnew
      -- the source
      unfold srcRow at hnew
      split at hnew
      · rename_i xi xo xn xc
        simp only [srcLen, Option.some.injEq] at hxk
        subst hxk
        simp only [VR] at hxv
        obtain ⟨xb, xk, hxb, rfl, hxk, _⟩ := hxv
        obtain ⟨us, hul, hur, hu1, hucell⟩ := ld_row hs.hr hxb hnew
        rw [nmul, nsucc] at hul
        have hnl : new.length = (k + 1) * y.size := by rw [← VRs_length hur, hul]
        obtain ⟨zv, hzv, hzr, _⟩ := zero_cells hy hz E w
        have hzs : zv.cells.size = y.size := oneCells_zero hzr hzl
        have hzi : i.zero = some zv := by
          have h1 : (zeroValue e).run P w = .ok zv w := hzv
          cases hq : i.zero with
          | none => simp [zeroValue, typeInfo, hi, hq] at h1
          | some q => simp [zeroValue, typeInfo, hi, hq] at h1; rw [h1]
        -- a new row
        have grown : 1 ≤ y.size → ∀ (H : Tr AO), SR U E H nx pc w → ∀ (olds : List Value) (old : List AV) (sLen sCap cnt : Nat) (tt : Tr AV), VRs E old olds → old.all oneA = true → olds.length = sLen * y.size → (sLen + (k + 1)) ≤ maxLen →
            cnt = (old ++ new).length → (∀ j, j < (old ++ new).length → tt.get j = (old ++ new)[j]?) →
            Aft U E nx w (E.mk1 nx w.heap.size (grownCap w (sLen + (k + 1)) sCap e)) (H.set nx (some (.cells cnt y.size e tt))) (Nat.succ nx) pc
              (w.drew.alloc (.cells (olds.toArray ++ us.toArray ++ Builtin.zeroCells zv.cells (grownCap w (sLen + (k + 1)) sCap e - (sLen + (k + 1)))) e)) ∧
            VR (E.mk1 nx w.heap.size (grownCap w (sLen + (k + 1)) sCap e)) (.slice nx 0 (sLen + (k + 1)) none) (.slice (some ⟨w.heap.size, 0, none⟩) (sLen + (k + 1)) (grownCap w (sLen + (k + 1)) sCap e)) := by
          intro hg1 H hs olds old sLen sCap cnt tt hor ho1 hol hmax hcnt htt
          subst hcnt
          have hge := grownCap_ge w (sLen + (k + 1)) sCap e
          have hcm := grownCap_le_maxLen w (sLen + (k + 1)) sCap e hmax
          have hle := Env.le_mk1 (E := E) (hs.fresh nx (Nat.le_refl _)).1 w.heap.size (grownCap w (sLen + (k + 1)) sCap e)
          have hor' : OR (E.mk1 nx w.heap.size (grownCap w (sLen + (k + 1)) sCap e)) nx (.cells (old ++ new).length y.size e tt)
              (.cells (olds.toArray ++ us.toArray ++ Builtin.zeroCells zv.cells (grownCap w (sLen + (k + 1)) sCap e - (sLen + (k + 1)))) e (0, 0)) := by
            have h3 := OR_grown (E := E.mk1 nx w.heap.size (grownCap w (sLen + (k + 1)) sCap e)) (i := nx) (e := e) (g := y.size) (l := old ++ new) (us := olds ++ us)
              (rest := (Builtin.zeroCells zv.cells (grownCap w (sLen + (k + 1)) sCap e - (sLen + (k + 1)))).toList) htt (VRs_mono hle _ _ (VRs_append hor hur))
              (by rw [List.all_append, ho1, hu1]; rfl) (by
                rw [Env.mk1_cap, List.length_append, hol, hul]
                have := size_zeroCells zv.cells (grownCap w (sLen + (k + 1)) sCap e - (sLen + (k + 1)))
                rw [Array.length_toList, this, hzs, ← Nat.add_mul, ← Nat.add_mul]
                congr 1
                omega) (by rw [Env.mk1_cap]; exact hcm) hg1
            have e3 : (olds ++ us ++ (Builtin.zeroCells zv.cells (grownCap w (sLen + (k + 1)) sCap e - (sLen + (k + 1)))).toList).toArray =
                olds.toArray ++ us.toArray ++ Builtin.zeroCells zv.cells (grownCap w (sLen + (k + 1)) sCap e - (sLen + (k + 1))) := by
              apply Array.ext'; simp
            rw [e3] at h3; exact h3
          refine ⟨Aft.new (w' := w.drew.alloc _) (c := grownCap w (sLen + (k + 1)) sCap e) hs rfl rfl rfl rfl hor', ?_⟩
          rw [VR]
          exact ⟨w.heap.size, _, Env.mk1_same _ _ _ _, rfl, hge, (fun k' hk => by cases hk), fun _ _ => (Env.mk1_cap _ _ _ _).symm⟩
        split at h
        · -- nil
          simp only [VR] at hsv
          subst hsv
          split at h
          · rename_i hcond
            rw [band, band, nble, nble, nble, nmul, nsucc] at hcond
            obtain ⟨⟨hb1, hs1⟩, hbig⟩ := hcond
            cases h
            have hsmall : k + 1 ≤ 35184372088832 := Nat.le_trans (Nat.le_mul_of_pos_right _ hb1) hbig
            obtain ⟨g1, g2⟩ := grown hs1 H hs [] [] 0 0 _ _ VRs_nil rfl (by simp) (by simp only [maxLen]; omega) rfl setAll_leaf
            refine ⟨_, E.mk1 nx w.heap.size (grownCap w (k + 1) 0 e), _, run_append_nil (P := P) w t ty e i zv ht hi hzi ⟨xb, xo, none⟩ (k + 1) xk us (by rw [hul, hsz]) hucell (by omega) (by omega) (by rw [hby]; omega), ?_, ?_⟩
            · simpa using g1
            · simpa using g2
          · cases h
        · -- there
          rename_i si so sn sc
          simp only [VR] at hsv
          obtain ⟨sb, sk, hsb, rfl, hsk, hsc, hsn⟩ := hsv
          split at h
          · cases h
          · rename_i hcond
            rw [band, band, nble, nble, nble, nmul, nsucc, nadd] at hcond
            obtain ⟨⟨hb1, hs1⟩, hbig⟩ := hcond
            have hsmall : sn + (k + 1) ≤ 35184372088832 := Nat.le_trans (Nat.le_mul_of_pos_right _ hb1) hbig
            split at h
            · rename_i c
              have hck : sk = c := hsc c rfl
              subst hck
              split at h
              · rename_i hroom
                rw [nble, nadd, nsucc] at hroom
                split at h
                · rename_i h' hst
                  cases h
                  rw [nadd, nmul] at hst
                  obtain ⟨g1, g2⟩ := st_sound (P := P) hs hsb hur hu1 hst
                  refine ⟨_, E, _, run_append_in ht hi (by rw [hul, hsz]) hucell hroom (by rw [hsz]; exact g1), g2, ?_⟩
                  rw [VR]
                  exact ⟨sb, sk, hsb, rfl, hroom, (fun k' hk => Option.some.inj hk), fun hk => by cases hk⟩
                · cases h
              · rename_i hroom
                rw [nbleF, nadd, nsucc] at hroom
                split at h
                · rename_i old hold
                  cases h
                  rw [nmul] at hold
                  obtain ⟨os, hol, hor, ho1, hocell⟩ := ld_row hs.hr hsb hold
                  obtain ⟨g1, g2⟩ := grown hs1 H hs os old sn sk _ _ hor ho1 hol (by simp only [maxLen]; omega) rfl setAll_leaf
                  exact ⟨_, _, _, run_append_grow (P := P) w t ty e i zv ht hi hzi ⟨sb, so, none⟩ sn sk os (by rw [hol, hsz]) hocell ⟨xb, xo, none⟩ (k + 1) xk us (by rw [hul, hsz]) hucell (by omega) (by omega)
                    (growslice_fits (by omega) (by rw [hby]; omega)), g1, g2⟩
                · cases h
            · split at h
              · rename_i hso
                have hskc : sk = E.cap si := hsn rfl rfl
                split at h
                · rename_i m g e' t' hobj
                  split at h
                  · rename_i hc2
                    rw [band, band, nbeq, nbeq, nble, nmul] at hc2
                    obtain ⟨⟨rfl, rfl⟩, hm⟩ := hc2
                    cases h
                    obtain ⟨xo', hxo, c, ty', lo, hi', rfl, hmc, hf, hcs, hg⟩ := hs.hr.obj si _ sb hobj hsb
                    obtain ⟨rfl, rfl, rfl, hcsz, hcm⟩ := hg.1 hs1
                    have hs' : SR U E (H.set si none) nx pc w := by
                      have sub : ∀ j o, (H.set si none).get j = some o → H.get j = some o := by
                        intro j o hj
                        rw [Tr.get_set] at hj
                        split at hj
                        · cases hj
                        · exact hj
                      refine ⟨hs.hr.sub sub, fun j o b hj hb => hs.own j o b (sub j o hj) hb, fun j hj => ⟨(hs.fresh j hj).1, ?_⟩, hs.big, hs.known, hs.pc, hs.glob, fun j o hj => hs.pl j o (sub j o hj)⟩
                      rw [Tr.get_set]
                      split
                      · rfl
                      · exact (hs.fresh j hj).2
                    have hcnt : Nat.mul (Nat.add sn (Nat.succ k)) y.size = sn * y.size + new.length := by rw [nmul, nadd, nsucc, hnl, ← Nat.add_mul]
                    by_cases hroom : sn + (k + 1) ≤ sk
                    · have hfit : (sn + (k + 1)) * y.size ≤ c.size := by rw [hcsz, ← hskc]; exact Nat.mul_le_mul_right _ hroom
                      have hst := run_cells (P := P) (o := sn * y.size) (m := c.size) hxo hf (us := us) (Nat.le_refl _) (by rw [hul, ← Nat.add_mul]; exact hfit) (VRs_one hur hu1)
                      obtain ⟨c', g1, g2, g3⟩ := setCells_heap sb us (sn * y.size) w c ty' (0, 0) hxo
                      obtain ⟨f1, f2, f3, f4, f5⟩ := setCells_frame sb us (sn * y.size) w
                      have hle := Env.le_mk1 (E := E) (hs.fresh nx (Nat.le_refl _)).1 sb (E.cap si)
                      refine ⟨_, _, _, run_append_in (o := 0) (w' := w.setCells sb (sn * y.size) us) ht hi (by rw [hul, hsz]) hucell hroom (by rw [hsz, Nat.zero_add]; exact hst),
                        Aft.moved (c := E.cap si) hs hobj hsb f1 f2 f3 f4 f5 g1 ?_, ?_⟩
                      · refine ⟨c', ty', 0, 0, rfl, by rw [hcnt, g2, hnl, ← Nat.add_mul]; exact hfit, .inl (by omega), fun j hj => ?_, fun _ => ⟨rfl, rfl, rfl, by rw [g2, Env.mk1_cap]; exact hcsz, by rw [Env.mk1_cap]; exact hcm⟩, fun h0 => absurd h0 (by omega)⟩
                        rw [hcnt] at hj
                        rw [Tr.get_setAll, g3 j, nmul]
                        have hul' : us.length = new.length := VRs_length hur
                        by_cases hin : sn * y.size ≤ j
                        · rw [if_pos ⟨hin, hj⟩, if_pos ⟨hin, by omega, by rw [hnl, ← Nat.add_mul] at hj; omega⟩]
                          have hjl : j - sn * y.size < new.length := by omega
                          obtain ⟨u, hu, hr⟩ := VRs_get hur (j - sn * y.size) new[j - sn * y.size] (List.getElem?_eq_getElem hjl)
                          refine ⟨_, u, List.getElem?_eq_getElem hjl, hu, VR_mono hle _ _ hr, ?_⟩
                          rw [List.all_eq_true] at hu1
                          exact hu1 _ (List.getElem_mem _)
                        · rw [if_neg (by omega), if_neg (by omega)]
                          obtain ⟨a', v', q1, q2, q3, q4⟩ := hcs j (by omega)
                          exact ⟨a', v', q1, q2, VR_mono hle _ _ q3, q4⟩
                      · rw [VR]
                        exact ⟨sb, sk, Env.mk1_same _ _ _ _, rfl, hroom, (fun k' hk => by cases hk), fun _ _ => by rw [Env.mk1_cap]; exact hskc⟩
                    · obtain ⟨old, hold⟩ := getAll_of (sn * y.size) t' 0 (fun j hj => by
                        obtain ⟨a', v', q1, _⟩ := hcs j (by omega)
                        exact ⟨a', by rw [Nat.zero_add]; exact q1⟩)
                      obtain ⟨hol1, hol2⟩ := Tr.getAll_some _ _ _ _ hold
                      have hld : ldCells H si 0 (sn * y.size) = some old := by
                        unfold ldCells
                        rw [hobj]
                        simp only []
                        rw [show Nat.ble (Nat.add 0 (sn * y.size)) m = true from nble.2 (by rw [nadd, Nat.zero_add]; exact hm)]
                        exact hold
                      obtain ⟨os, hol, hor, ho1, hocell⟩ := ld_row hs.hr hsb hld
                      obtain ⟨g1, g2⟩ := grown hs1 (H.set si none) hs' os old sn sk (Nat.mul (Nat.add sn (Nat.succ k)) y.size) (t'.setAll (sn * y.size) new) hor ho1 hol (by simp only [maxLen]; omega) (by rw [hcnt, List.length_append, hol1]) (fun j hj => by
                        rw [List.length_append, hol1] at hj
                        rw [Tr.get_setAll]
                        by_cases hin : sn * y.size ≤ j
                        · rw [if_pos ⟨hin, hj⟩, List.getElem?_append_right (by omega), hol1]
                        · rw [if_neg (by omega), List.getElem?_append_left (by omega), ← hol2 j (by omega), Nat.zero_add])
                      exact ⟨_, _, _, run_append_grow (P := P) w t ty ty' i zv ht hi hzi ⟨sb, 0, none⟩ sn sk os (by rw [hol, hsz]) hocell ⟨xb, xo, none⟩ (k + 1) xk us (by rw [hul, hsz]) hucell (by omega) (by omega)
                        (growslice_fits (by omega) (by rw [hby]; omega)), g1, g2⟩
                  · cases h
                · cases h
              · cases h
        · cases h
      · cases hnew
end Ct
