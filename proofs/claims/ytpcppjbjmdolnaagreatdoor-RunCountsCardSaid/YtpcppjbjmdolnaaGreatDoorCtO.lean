/- Maps, strings, iterators: what writes. -/
import Derived.Test.YtpcppjbjmdolnaaGreatDoorCtN
namespace Ct
open Go
variable {P : Program} {U : Nat → Prop} {E : Env} {H : Tr AO} {nx : Nat} {pc : List (SB × Bool)} {w : World}

theorem run_set {b : Nat} {o o' : Obj} (h : w.heap[b]? = some o) (hc : ∀ c e f, o ≠ .cells c e f) : (setObj b o').run P w = .ok () { w with heap := w.heap.setIfInBounds b o' } := by
  cases o <;> simp [setObj, Sem.run, h]
  exact absurd rfl (hc _ _ _)

theorem Aft.setObj {i b : Nat} {o ob : AO} {obj : Obj} (h : SR U E H nx pc w) (hi : H.get i = some o) (hb : E.m i = some b) (hr : OR E i ob obj) :
    Aft U E nx w E (H.set i (some ob)) nx pc { w with heap := w.heap.setIfInBounds b obj } := by
  have hlt := h.known i b hb
  refine Aft.turn h hi hb rfl rfl rfl (by simp) (fun c hc => ?_) ?_ hr
  · exact Array.getElem?_setIfInBounds_ne (by omega)
  · simp [hlt]

/-! ## Keys -/
theorem scal_same {c : CK} {a b : AV} {u v : Value} (hu : VR E a u) (hv : VR E b v) (h : scalEq c a b = some true) (n : Nat) : Instr.sameBits n v u = true := by
  unfold scalEq at h
  split at h
  · split at h
    · rename_i hk
      have := ikBeq_eq hk
      subst this
      simp only [Option.some.injEq, ibeq_eq, beq_iff_eq] at h
      subst h
      simp only [VR] at hu hv
      subst hu; subst hv
      cases n <;> simp [Instr.sameBits]
    · cases h
  · simp only [Option.some.injEq, beq_iff_eq] at h
    subst h
    simp only [VR] at hu hv
    subst hu; subst hv
    cases n <;> simp [Instr.sameBits]
  · simp only [Option.some.injEq] at h
    rw [band, nbeq, nbeq] at h
    obtain ⟨rfl, rfl⟩ := h
    simp only [VR] at hu hv
    obtain ⟨_, rfl⟩ := hu
    obtain ⟨_, rfl⟩ := hv
    cases n <;> (simp only [Instr.sameBits]; rw [beq_toListBytes]; simp)
  · cases h

theorem cells_same : ∀ {ks : List CK} {as bs : List AV} {us vs : List Value}, VRs E as us → VRs E bs vs → cellsEq ks as bs = some true → ∀ n, us.length = vs.length ∧ ((vs.zip us).all fun (x, y) => Instr.sameBits n x y) = true
  | [], [], [], us, vs, hu, hv, _, n => by rw [VRs_inv_nil hu, VRs_inv_nil hv]; exact ⟨rfl, rfl⟩
  | c :: ks, a :: as, b :: bs, us, vs, hu, hv, h, n => by
    obtain ⟨u, us, rfl, hu1, hu2⟩ := VRs_inv hu
    obtain ⟨v, vs, rfl, hv1, hv2⟩ := VRs_inv hv
    simp only [cellsEq] at h
    split at h
    · rename_i hs
      obtain ⟨g1, g2⟩ := cells_same hu2 hv2 h n
      refine ⟨by simp [g1], ?_⟩
      rw [List.zip_cons_cons, List.all_cons, g2]; show (Instr.sameBits n v u && true) = true; rw [scal_same hu1 hv1 hs n]; rfl
    · split at h <;> cases h
    · cases h
  | [], [], _ :: _, _, _, _, _, h, _ => by simp [cellsEq] at h
  | [], _ :: _, _, _, _, _, _, h, _ => by simp [cellsEq] at h
  | _ :: _, [], _, _, _, _, _, h, _ => by simp [cellsEq] at h
  | _ :: _, _ :: _, [], _, _, _, _, h, _ => by simp [cellsEq] at h

theorem key_same {kk : KK} {k e : AV} {u v : Value} (hu : VR E k u) (hv : VR E e v) (h : keyEq kk k e = some true) : Instr.sameBits 10000 v u = true := by
  unfold keyEq at h
  split at h
  · exact scal_same hu hv h _
  · split at h
    · rename_i ks x y
      simp only [VR] at hu hv
      obtain ⟨cu, rfl, hu, _⟩ := hu
      obtain ⟨cv, rfl, hv, _⟩ := hv
      obtain ⟨g1, g2⟩ := cells_same hu hv h 9999
      simp only [Array.length_toList] at g1
      rw [show (10000 : Nat) = 9999 + 1 from rfl]
      simp only [Instr.sameBits, Bool.and_eq_true, beq_iff_eq]
      exact ⟨g1.symm, g2⟩
    · cases h

theorem findIn_at {kk : KK} {k : AV} : ∀ (es : List (AV × AV × Nat)) (j : Nat) {i : Nat} {v : AV}, findIn kk k es j = some (some (i, v)) → ∃ e, j ≤ i ∧ es[i - j]? = some e ∧ keyEq kk k e.1 = some true ∧ v = e.2.1
  | [], j, i, v, h => by simp [findIn] at h
  | e :: es, j, i, v, h => by
    simp only [findIn] at h
    split at h
    · rename_i hk
      cases h
      exact ⟨e, Nat.le_refl _, by simp, hk, rfl⟩
    · obtain ⟨e', h1, h2, h3, h4⟩ := findIn_at es (j + 1) h
      refine ⟨e', by omega, ?_, h3, h4⟩
      rw [show i - j = (i - (j + 1)) + 1 by omega, List.getElem?_cons_succ]; exact h2
    · cases h

theorem findK_at {kk : KK} {k : AV} {es : List (AV × AV × Nat)} {i : Nat} {v : AV} (h : findK kk k es = some (some (i, v))) : ∃ e, es[i]? = some e ∧ keyEq kk k e.1 = some true ∧ v = e.2.1 := by
  unfold findK at h
  split at h
  · obtain ⟨e, _, h2, h3, h4⟩ := findIn_at es 0 h
    exact ⟨e, by simpa using h2, h3, h4⟩
  · cases h

/-- The new key is the old one to the bit: nothing is asked. -/
theorem run_stays {u v : Value} (h : Instr.sameBits 10000 v u = true) : (Instr.keyThatStays v u).run P w = .ok u w := by
  simp [Instr.keyThatStays, h]

def ER (E : Env) (e : AV × AV × Nat) (f : MapEntry) : Prop := VR E e.1 f.key ∧ VR E e.2.1 f.val ∧ f.born = e.2.2

theorem MapRel_modify {es : List (AV × AV × Nat)} {fs : List MapEntry} (h : MapRel E es fs) (j : Nat) {F : AV × AV × Nat → AV × AV × Nat} {G : MapEntry → MapEntry}
    (hfg : ∀ e f, es[j]? = some e → fs[j]? = some f → ER E e f → ER E (F e) (G f)) : MapRel E (es.modify j F) (fs.modify j G) := by
  refine ⟨by simp [h.1], fun i e f he hf => ?_⟩
  rw [List.getElem?_modify] at he hf
  cases hes : es[i]? with
  | none => rw [hes] at he; simp at he
  | some e0 =>
    cases hfs : fs[i]? with
    | none => rw [hfs] at hf; simp at hf
    | some f0 =>
      rw [hes] at he
      rw [hfs] at hf
      have h0 := h.2 i e0 f0 hes hfs
      by_cases hji : j = i
      · subst hji
        simp at he hf
        subst he; subst hf
        exact hfg e0 f0 hes hfs h0
      · simp [hji] at he hf
        subst he; subst hf
        exact h0

theorem MapRel_push {es : List (AV × AV × Nat)} {fs : List MapEntry} (h : MapRel E es fs) {e : AV × AV × Nat} {f : MapEntry} (hef : ER E e f) : MapRel E (es ++ [e]) (fs ++ [f]) := by
  refine ⟨by simp [h.1], fun i x y hx hy => ?_⟩
  have hl := h.1
  rcases Nat.lt_or_ge i es.length with hlt | hge
  · rw [List.getElem?_append_left hlt] at hx
    rw [List.getElem?_append_left (by omega)] at hy
    exact h.2 i x y hx hy
  · rw [List.getElem?_append_right hge] at hx
    rw [List.getElem?_append_right (by omega)] at hy
    rw [hl] at hy
    cases hi : i - es.length with
    | zero => rw [hi] at hx hy; simp at hx hy; subst hx; subst hy; exact hef
    | succ n => rw [hi] at hx; simp at hx

theorem MapRel_erase {es : List (AV × AV × Nat)} {fs : List MapEntry} (h : MapRel E es fs) (j : Nat) : MapRel E (es.eraseIdx j) (fs.eraseIdx j) := by
  refine ⟨by simp [List.length_eraseIdx, h.1], fun i x y hx hy => ?_⟩
  rw [List.getElem?_eraseIdx] at hx hy
  split at hx
  · rename_i hlt; rw [if_pos hlt] at hy; exact h.2 _ x y hx hy
  · rename_i hlt; rw [if_neg hlt] at hy; exact h.2 _ x y hx hy

variable {t kt et : TypeId} {kk : KK} {m k v : AV} {mv kv vv : Value} {H' : Tr AO}

theorem put_sound (ht : P.underlying t = some (.map kt et)) (hk : keyT P kt = some kk) (hm : VR E m mv) (hkv : VR E k kv) (hv : VR E v vv) (hs : SR U E H nx pc w) (h : mapPut kk H m k v = some H') :
    ∃ w', (Instr.mapUpdate t mv kv vv).run P w = .ok () w' ∧ Aft U E nx w E H' nx pc w' := by
  unfold mapPut at h
  split at h
  · rename_i i
    simp only [VR] at hm
    obtain ⟨b, hb, rfl⟩ := hm
    split at h
    · rename_i es clock hi
      obtain ⟨x, hx, fs, rfl, hfs⟩ := hs.hr.obj i _ b hi hb
      split at h
      · rename_i j w0 hf
        cases h
        obtain ⟨hck, y, hy, hr⟩ := findK_sound (w := w) hk hkv hfs hf false
        obtain ⟨u, rfl, hu⟩ := hr
        obtain ⟨e, he, hke, _⟩ := findK_at hf
        have hfe : ∃ f, fs[j]? = some f := by
          have h1 := (List.getElem?_eq_some_iff.1 he).1
          have h2 : j < fs.size := by have := hfs.1; simp at this; omega
          exact ⟨fs[j], Array.getElem?_eq_getElem h2⟩
        obtain ⟨f, hf'⟩ := hfe
        have hef := hfs.2 j e f he (by simpa using hf')
        have hst := run_stays (P := P) (w := w) (key_same hkv hef.1 hke)
        refine ⟨_, ?_, Aft.setObj hs hi hb (obj := .map (fs.modify j fun e => { e with key := kv, val := vv }) clock) ⟨_, rfl, ?_⟩⟩
        · have hset := run_set (P := P) (o' := .map (fs.modify j fun e => { e with key := kv, val := vv }) clock) hx (by simp)
          simp only [Instr.mapUpdate, Sem.run_bind, run_underlying ht, Result.andThen_ok, run_getMap hx, hck, hy, hf', Option.map_some, Option.getD_some, hst, hset]
        · rw [Array.toList_modify]
          exact MapRel_modify hfs j fun e0 f0 _ _ h0 => ⟨hkv, hv, h0.2.2⟩
      · rename_i hf
        cases h
        obtain ⟨hck, y, hy, hr⟩ := findK_sound (w := w) hk hkv hfs hf false
        have hr' : y = none := hr
        subst hr'
        refine ⟨_, ?_, Aft.setObj hs hi hb (obj := .map (fs.push { key := kv, val := vv, born := clock }) (clock + 1)) ⟨_, rfl, ?_⟩⟩
        · have hset := run_set (P := P) (o' := .map (fs.push { key := kv, val := vv, born := clock }) (clock + 1)) hx (by simp)
          simp only [Instr.mapUpdate, Sem.run_bind, run_underlying ht, Result.andThen_ok, run_getMap hx, hck, hy, hset]
        · rw [Array.toList_push]
          exact MapRel_push hfs ⟨hkv, hv, rfl⟩
      · cases h
    · rename_i es hi
      obtain ⟨x, hx, fs, clock, es', rfl, hp, hfs⟩ := hs.hr.obj i _ b hi hb
      split at h
      · rename_i hok
        split at h
        · rename_i hf
          cases h
          have hmem : ∀ e ∈ es', keyEq kk k e.1 = some false ∨ (keyEq kk k e.1 = some true ∧ (none : Option AV) = some e.2.1) := fun e he =>
            findU_spec hf (e.1, e.2.1) (hp.mem_iff.1 (List.mem_map.2 ⟨e, he, rfl⟩))
          obtain ⟨g, hg, hgr⟩ := findIn_of es' 0 hmem fun hne => absurd rfl hne
          have hg' : g = none := hgr
          subst hg'
          have hfk : findK kk k es' = some none := by unfold findK; rw [hok]; exact hg
          obtain ⟨hck, y, hy, hr⟩ := findK_sound (w := w) hk hkv hfs hfk false
          have hr' : y = none := hr
          subst hr'
          refine ⟨_, ?_, Aft.setObj hs hi hb (obj := .map (fs.push { key := kv, val := vv, born := clock }) (clock + 1)) ⟨_, _, es' ++ [(k, v, clock)], rfl, ?_, ?_⟩⟩
          · have hset := run_set (P := P) (o' := .map (fs.push { key := kv, val := vv, born := clock }) (clock + 1)) hx (by simp)
            simp only [Instr.mapUpdate, Sem.run_bind, run_underlying ht, Result.andThen_ok, run_getMap hx, hck, hy, hset]
          · rw [List.map_append]; exact hp.append_right _
          · rw [Array.toList_push]
            exact MapRel_push hfs ⟨hkv, hv, rfl⟩
        · cases h
      · cases h
    · cases h
  · cases h

theorem slot_sound (ht : P.underlying t = some (.map kt et)) (hk : keyT P kt = some kk) {ye : TI} (hye : tyI P et = some ye) {z : AV} (hz : ye.zero = some z) (hm : VR E m mv) (hkv : VR E k kv) (hs : SR U E H nx pc w)
    (h : mapSlot kk z H m k = some (v, H')) : ∃ u w', (Instr.mapEntry t mv kv).run P w = .ok u w' ∧ VR E v u ∧ Aft U E nx w E H' nx pc w' := by
  obtain ⟨zv, hzv, hzr⟩ := zero_rel hye hz E w
  unfold mapSlot at h
  split at h
  · rename_i i
    simp only [VR] at hm
    obtain ⟨b, hb, rfl⟩ := hm
    split at h
    · rename_i es clock hi
      obtain ⟨x, hx, fs, rfl, hfs⟩ := hs.hr.obj i _ b hi hb
      split at h
      · rename_i j w0 hf
        split at h
        · rename_i e he
          cases h
          obtain ⟨hck, y, hy, hr⟩ := findK_sound (w := w) hk hkv hfs hf false
          obtain ⟨u, rfl, hu⟩ := hr
          obtain ⟨e', he', hke, _⟩ := findK_at hf
          rw [he] at he'; cases he'
          have hfe : ∃ f, fs[j]? = some f := by
            have h1 := (List.getElem?_eq_some_iff.1 he).1
            have h2 : j < fs.size := by have := hfs.1; simp at this; omega
            exact ⟨fs[j], Array.getElem?_eq_getElem h2⟩
          obtain ⟨f, hf'⟩ := hfe
          have hef := hfs.2 j e f he (by simpa using hf')
          have hst := run_stays (P := P) (w := w) (key_same hkv hef.1 hke)
          refine ⟨.tuple #[u, goInt f.born], _, ?_, ?_, Aft.setObj hs hi hb (obj := .map (fs.modify j fun e => { e with key := kv }) clock) ⟨_, rfl, ?_⟩⟩
          · have hset := run_set (P := P) (o' := .map (fs.modify j fun e => { e with key := kv }) clock) hx (by simp)
            simp only [Instr.mapEntry, Sem.run_bind, run_underlying ht, Result.andThen_ok, run_getMap hx, hck, hy, hf', Option.map_some, Option.getD_some, hst, hset, Sem.run_pure]
          · rw [VR]
            refine ⟨_, rfl, VRs_cons.2 ⟨hu, VRs_cons.2 ⟨?_, VRs_nil⟩⟩⟩
            rw [VR, hef.2.2]; rfl
          · rw [Array.toList_modify]
            exact MapRel_modify hfs j fun e0 f0 _ _ h0 => ⟨hkv, h0.2.1, h0.2.2⟩
        · cases h
      · rename_i hf
        cases h
        obtain ⟨hck, y, hy, hr⟩ := findK_sound (w := w) hk hkv hfs hf false
        have hr' : y = none := hr
        subst hr'
        refine ⟨.tuple #[zv, goInt clock], _, ?_, ?_, Aft.setObj hs hi hb (obj := .map (fs.push { key := kv, val := zv, born := clock }) (clock + 1)) ⟨_, rfl, ?_⟩⟩
        · have hset := run_set (P := P) (o' := .map (fs.push { key := kv, val := zv, born := clock }) (clock + 1)) hx (by simp)
          simp only [Instr.mapEntry, Sem.run_bind, run_underlying ht, Result.andThen_ok, run_getMap hx, hck, hy, hzv, hset, Sem.run_pure]
        · rw [VR]
          refine ⟨_, rfl, VRs_cons.2 ⟨hzr, VRs_cons.2 ⟨?_, VRs_nil⟩⟩⟩
          rw [VR]; rfl
        · rw [Array.toList_push]
          exact MapRel_push hfs ⟨hkv, hzr, rfl⟩
      · cases h
    · cases h
  · cases h

theorem find_born : ∀ {es : List (AV × AV × Nat)} {fs : List MapEntry}, MapRel E es fs → ∀ (b : Nat), fs.findIdx? (fun f => (f.born : Int) == (b : Int)) = es.findIdx? (fun e => Nat.beq e.2.2 b)
  | [], fs, h, b => by
    have : fs = [] := List.eq_nil_of_length_eq_zero (by simpa using h.1)
    subst this; rfl
  | e :: es, [], h, b => by have := h.1; simp at this
  | e :: es, f :: fs, h, b => by
    obtain ⟨⟨_, _, h3⟩, hm⟩ := MapRel_cons h
    rw [List.findIdx?_cons, List.findIdx?_cons, find_born hm b, h3]
    have : ((e.2.2 : Int) == (b : Int)) = Nat.beq e.2.2 b := by
      cases hb : Nat.beq e.2.2 b with
      | true => rw [nbeq] at hb; simp [hb]
      | false => rw [nbeqF] at hb; simp; omega
    rw [this]

theorem slotPut_sound {s : AV} {sv : Value} (hm : VR E m mv) (hsv : VR E s sv) (hv : VR E v vv) (hs : SR U E H nx pc w) (h : slotPut H m s v = some H') :
    ∃ w', (Instr.entryStore t mv sv vv).run P w = .ok () w' ∧ Aft U E nx w E H' nx pc w' := by
  unfold slotPut at h
  split at h
  · rename_i i
    simp only [VR] at hm
    obtain ⟨b, hb, rfl⟩ := hm
    split at h
    · rename_i es clock hi
      obtain ⟨x, hx, fs, rfl, hfs⟩ := hs.hr.obj i _ b hi hb
      split at h
      · rename_i n hn
        obtain ⟨kd, rfl⟩ := natOf_some hn hsv
        split at h
        · rename_i j hj
          cases h
          have hj' : fs.findIdx? (fun f => (f.born : Int) == (n : Int)) = some j := by
            rw [← hj, ← find_born hfs n]; cases fs; simp [List.findIdx?_toArray]
          refine ⟨_, ?_, Aft.setObj hs hi hb (obj := .map (fs.modify j fun e => { e with val := vv }) clock) ⟨_, rfl, ?_⟩⟩
          · have hset := run_set (P := P) (o' := .map (fs.modify j fun e => { e with val := vv }) clock) hx (by simp)
            simp only [Instr.entryStore, Sem.run_bind, Result.andThen_ok, run_getMap hx, asInt, asIntOf, Sem.run_pure, hj', hset]
          · rw [Array.toList_modify]
            exact MapRel_modify hfs j fun e0 f0 _ _ h0 => ⟨h0.1, hv, h0.2.2⟩
        · cases h
      · cases h
    · cases h
  · cases h

theorem del_sound {ty : TypeId} {ats : Array TypeId} (ha : ats[0]? = some t) (ht : P.underlying t = some (.map kt et)) (hk : keyT P kt = some kk) (hm : VR E m mv) (hkv : VR E k kv) (hs : SR U E H nx pc w) (h : mapDel kk H m k = some H') :
    ∃ w', (Builtin.delete_ ats ty #[mv, kv]).run P w = .ok (.tuple #[]) w' ∧ Aft U E nx w E H' nx pc w' := by
  unfold mapDel at h
  split at h
  · rename_i i
    simp only [VR] at hm
    obtain ⟨b, hb, rfl⟩ := hm
    split at h
    · rename_i es clock hi
      obtain ⟨x, hx, fs, rfl, hfs⟩ := hs.hr.obj i _ b hi hb
      split at h
      · rename_i j w0 hf
        cases h
        obtain ⟨hck, y, hy, hr⟩ := findK_sound (w := w) hk hkv hfs hf fs.isEmpty
        obtain ⟨u, rfl, hu⟩ := hr
        refine ⟨_, ?_, Aft.setObj hs hi hb (obj := .map (fs.eraseIdxIfInBounds j) clock) ⟨_, rfl, ?_⟩⟩
        · have hset := run_set (P := P) (o' := .map (fs.eraseIdxIfInBounds j) clock) hx (by simp)
          simp [Builtin.delete_, ha, run_underlying ht, run_getMap hx, hck, hy, hset]
        · have : (fs.eraseIdxIfInBounds j).toList = fs.toList.eraseIdx j := by
            unfold Array.eraseIdxIfInBounds
            split
            · simp
            · rename_i hlt; rw [List.eraseIdx_of_length_le (by simpa using hlt)]
          rw [this]
          exact MapRel_erase hfs j
      · rename_i hf
        cases h
        obtain ⟨hck, y, hy, hr⟩ := findK_sound (w := w) hk hkv hfs hf fs.isEmpty
        have hr' : y = none := hr
        subst hr'
        have hset := run_set (P := P) (o' := .map fs clock) hx (by simp)
        refine ⟨_, by simp [Builtin.delete_, ha, run_underlying ht, run_getMap hx, hck, hy, hset]; rfl, ?_⟩
        have hself : w.heap.setIfInBounds b (.map fs clock) = w.heap := by
          apply Array.ext_getElem?
          intro c
          rw [Array.getElem?_setIfInBounds]
          split
          · rename_i e
            subst e
            rw [hx]
            split
            · rfl
            · rename_i hlt
              exact absurd (Array.getElem?_eq_some_iff.1 hx).1 (by simpa using hlt)
          · rfl
        exact Aft.alike hs ⟨rfl, rfl, rfl, hself⟩
      · cases h
    · cases h
  · cases h
end Ct
