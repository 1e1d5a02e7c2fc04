/- What only reckons or reads: every operation. -/
import Derived.Test.YtpcppjbjmdolnaaGreatDoorCtJ
namespace Ct
open Go
section
variable {P : Program} {E : Env} {w : World} {H : Tr AO} {a : Act} {T : Tr AV} {r : AV}

theorem keyOk_shape {kk : KK} {k : AV} (h : keyOk kk k = true) : kk = .scal .int ∨ kk = .scal .bool ∨ kk = .scal .str ∨ ∃ ks l, kk = .agg ks ∧ k = .agg l ∧ l.length = ks.length := by
  cases kk with
  | scal c => cases c <;> simp
  | agg ks =>
    simp only [keyOk] at h
    split at h
    · rename_i l; exact .inr (.inr (.inr ⟨ks, l, rfl, rfl, nbeq.1 h⟩))
    · cases h

theorem findK_sound {t : TypeId} {kk : KK} (hk : keyT P t = some kk) {k : AV} {u : Value} (hu : VR E k u) {es : List (AV × AV × Nat)} {fs : List MapEntry} {r : Option (Nat × AV)} (hm : MapRel E es fs) (h : findK kk k es = some r) (em : Bool) :
    (Instr.checkKey em 10000 t u).run P w = .ok () w ∧ ∃ y, (Instr.findKey t u fs).run P w = .ok y w ∧ FoundR E r y := by
  unfold findK at h
  split at h
  · rename_i hok
    exact ⟨check_sound hk hu (keyOk_shape hok) em, find_sound hk hu hm h⟩
  · cases h

theorem run_getMap {b : Nat} {fs : Array MapEntry} {c : Nat} (h : w.heap[b]? = some (.map fs c)) : (getObj b).run P w = .ok (.map fs c) w := by
  simp [getObj, Sem.run, h]

theorem lookup_sound {t : TypeId} {kt e : TypeId} (ht : P.underlying t = some (.map kt e)) {ye : TI} (hye : tyI P e = some ye) {z : AV} (hz : ye.zero = some z) {kk : KK} (hk : keyT P kt = some kk)
    (hH : HR E H w) {m k : AV} {vm vk : Value} (hm : VR E m vm) (hv : VR E k vk) {es : List (AV × AV × Nat)} (he : mapEs H m = some es) {f : Option (Nat × AV)} (hf : findK kk k es = some f) (ok : Bool) :
    ∃ u, (Instr.lookup t vm vk ok).run P w = .ok u w ∧ VR E (match f with | some (_, v) => (match ok with | true => .tup [v, .bool true] | false => v) | none => (match ok with | true => .tup [z, .bool false] | false => z)) u := by
  obtain ⟨zv, hzv, hzr⟩ := zero_rel hye hz E w
  have fin : ∀ (fs : Array MapEntry), MapRel E es fs.toList → (∀ y : Option (Nat × Value), (Instr.checkKey fs.isEmpty 10000 kt vk).run P w = .ok () w → (Instr.findKey kt vk fs.toList).run P w = .ok y w →
      (Instr.lookup t vm vk ok).run P w = .ok (match y with | some (_, v) => (if ok then .tuple #[v, .bool true] else v) | none => (if ok then .tuple #[zv, .bool false] else zv)) w) →
      ∃ u, (Instr.lookup t vm vk ok).run P w = .ok u w ∧ VR E (match f with | some (_, v) => (match ok with | true => .tup [v, .bool true] | false => v) | none => (match ok with | true => .tup [z, .bool false] | false => z)) u := by
    intro fs hfs hrun
    obtain ⟨hck, y, hy, hr⟩ := findK_sound (w := w) hk hv hfs hf fs.isEmpty
    refine ⟨_, hrun y hck hy, ?_⟩
    cases f with
    | none =>
      have hr' : y = none := hr
      subst hr'
      cases ok with
      | true => simp only [if_true, VR]; exact ⟨_, rfl, VRs_cons.2 ⟨hzr, VRs_cons.2 ⟨by simp [VR], VRs_nil⟩⟩⟩
      | false => exact hzr
    | some p =>
      obtain ⟨i, v⟩ := p
      obtain ⟨u, rfl, hu⟩ := hr
      cases ok with
      | true => simp only [if_true, VR]; exact ⟨_, rfl, VRs_cons.2 ⟨hu, VRs_cons.2 ⟨by simp [VR], VRs_nil⟩⟩⟩
      | false => exact hu
  unfold mapEs at he
  split at he
  · cases he
    simp only [VR] at hm
    subst hm
    refine fin #[] ⟨rfl, fun i e f h => by simp at h⟩ fun y h1 h2 => ?_
    simp only [List.isEmpty_toArray] at h1
    have h1' : (Instr.checkKey true 10000 kt vk).run P w = .ok () w := h1
    cases y with
    | none => cases ok <;> simp [Instr.lookup, run_underlying ht, h1', h2, hzv]
    | some p => obtain ⟨i, v⟩ := p; cases ok <;> simp [Instr.lookup, run_underlying ht, h1', h2]
  · rename_i i
    simp only [VR] at hm
    obtain ⟨b, hb, rfl⟩ := hm
    split at he
    · rename_i es' clock hi
      cases he
      obtain ⟨x, hx, fs, rfl, hfs⟩ := hH.obj i _ b hi hb
      refine fin fs hfs fun y h1 h2 => ?_
      cases y with
      | none => cases ok <;> simp [Instr.lookup, run_underlying ht, run_getMap hx, h1, h2, hzv]
      | some p => obtain ⟨i, v⟩ := p; cases ok <;> simp [Instr.lookup, run_underlying ht, run_getMap hx, h1, h2]
    · cases he
  · cases he

theorem findU_spec {kk : KK} {k : AV} : ∀ {es : List (AV × AV)} {r : Option AV}, findU kk k es = some r → ∀ e ∈ es, keyEq kk k e.1 = some false ∨ (keyEq kk k e.1 = some true ∧ r = some e.2)
  | [], r, h, e, he => by cases he
  | e' :: es, r, h, e, he => by
    simp only [findU] at h
    split at h
    · rename_i hk
      split at h
      · rename_i hr
        cases h
        rcases List.mem_cons.1 he with rfl | he
        · exact .inr ⟨hk, rfl⟩
        · rcases findU_spec hr e he with h1 | ⟨h1, h2⟩
          · exact .inl h1
          · cases h2
      · cases h
    · rename_i hk
      rcases List.mem_cons.1 he with rfl | he
      · exact .inl hk
      · exact findU_spec h e he
    · cases h

theorem findU_some {kk : KK} {k : AV} : ∀ {es : List (AV × AV)} {v : AV}, findU kk k es = some (some v) → ∃ e ∈ es, keyEq kk k e.1 = some true
  | [], v, h => by simp [findU] at h
  | e' :: es, v, h => by
    simp only [findU] at h
    split at h
    · rename_i hk; exact ⟨e', by simp, hk⟩
    · obtain ⟨e, he, hk⟩ := findU_some h
      exact ⟨e, by simp [he], hk⟩
    · cases h

/-- Whatever the order. -/
theorem findIn_of {kk : KK} {k : AV} {r : Option AV} : ∀ (es : List (AV × AV × Nat)) (i : Nat), (∀ e ∈ es, keyEq kk k e.1 = some false ∨ (keyEq kk k e.1 = some true ∧ r = some e.2.1)) →
    (r ≠ none → ∃ e ∈ es, keyEq kk k e.1 = some true) → ∃ f, findIn kk k es i = some f ∧ (match r with | none => f = none | some v => ∃ j, f = some (j, v))
  | [], i, h, hr => by
    refine ⟨none, rfl, ?_⟩
    cases r with
    | none => rfl
    | some v => obtain ⟨e, he, _⟩ := hr (by simp); cases he
  | e :: es, i, h, hr => by
    simp only [findIn]
    rcases h e (by simp) with h1 | ⟨h1, rfl⟩
    · rw [h1]
      refine findIn_of es (i + 1) (fun e' he' => h e' (by simp [he'])) fun hne => ?_
      obtain ⟨e', he', hk⟩ := hr hne
      rcases List.mem_cons.1 he' with rfl | he'
      · rw [h1] at hk; cases hk
      · exact ⟨e', he', hk⟩
    · rw [h1]
      exact ⟨some (i, e.2.1), rfl, i, rfl⟩

theorem lookupU_sound {t : TypeId} {kt e : TypeId} (ht : P.underlying t = some (.map kt e)) {ye : TI} (hye : tyI P e = some ye) {z : AV} (hz : ye.zero = some z) {kk : KK} (hk : keyT P kt = some kk)
    (hH : HR E H w) {m k : AV} {vm vk : Value} (hm : VR E m vm) (hv : VR E k vk) {es : List (AV × AV)} (he : umapEs H m = some es) (hok : keyOk kk k = true) {f : Option AV} (hf : findU kk k es = some f) (ok : Bool) :
    ∃ u, (Instr.lookup t vm vk ok).run P w = .ok u w ∧ VR E (match f with | some v => (match ok with | true => .tup [v, .bool true] | false => v) | none => (match ok with | true => .tup [z, .bool false] | false => z)) u := by
  obtain ⟨zv, hzv, hzr⟩ := zero_rel hye hz E w
  unfold umapEs at he
  split at he
  · rename_i i
    simp only [VR] at hm
    obtain ⟨b, hb, rfl⟩ := hm
    split at he
    · rename_i es0 hi
      cases he
      obtain ⟨x, hx, fs, clock, es', rfl, hp, hfs⟩ := hH.obj i _ b hi hb
      have hmem : ∀ e ∈ es', keyEq kk k e.1 = some false ∨ (keyEq kk k e.1 = some true ∧ f = some e.2.1) := fun e he =>
        findU_spec hf (e.1, e.2.1) (hp.mem_iff.1 (List.mem_map.2 ⟨e, he, rfl⟩))
      obtain ⟨g, hg, hgr⟩ := findIn_of es' 0 hmem fun hne => by
        cases f with
        | none => exact absurd rfl hne
        | some v =>
          obtain ⟨e, he, hke⟩ := findU_some hf
          obtain ⟨e', he', rfl⟩ := List.mem_map.1 (hp.mem_iff.2 he)
          exact ⟨e', he', hke⟩
      have hfk : findK kk k es' = some g := by unfold findK; rw [hok]; exact hg
      obtain ⟨hck, y, hy, hr⟩ := findK_sound (w := w) hk hv hfs hfk fs.isEmpty
      cases f with
      | none =>
        have hg' : g = none := hgr
        subst hg'
        have hr' : y = none := hr
        subst hr'
        cases ok with
        | true => exact ⟨.tuple #[zv, .bool false], by simp [Instr.lookup, run_underlying ht, run_getMap hx, hck, hy, hzv], by simp only [VR]; exact ⟨_, rfl, VRs_cons.2 ⟨hzr, VRs_cons.2 ⟨by simp [VR], VRs_nil⟩⟩⟩⟩
        | false => exact ⟨zv, by simp [Instr.lookup, run_underlying ht, run_getMap hx, hck, hy, hzv], hzr⟩
      | some v =>
        obtain ⟨j, hg'⟩ : ∃ j, g = some (j, v) := hgr
        subst hg'
        obtain ⟨u, rfl, hu⟩ := hr
        cases ok with
        | true => exact ⟨.tuple #[u, .bool true], by simp [Instr.lookup, run_underlying ht, run_getMap hx, hck, hy], by simp only [VR]; exact ⟨_, rfl, VRs_cons.2 ⟨hu, VRs_cons.2 ⟨by simp [VR], VRs_nil⟩⟩⟩⟩
        | false => exact ⟨u, by simp [Instr.lookup, run_underlying ht, run_getMap hx, hck, hy], hu⟩
    · cases he
  · cases he

theorem toNat_lit (n : Nat) : Int.toNat (n : Int) = n := rfl

theorem c3_some {x x2 x3 : Operand} {f : AOp → AOp → AOp → AI} {T : Tr AV} {H : Tr AO} {r : AV} (h : evPR T H (c3 x x2 x3 f) = some r) :
    ∃ y y2 y3, compO x = some y ∧ compO x2 = some y2 ∧ compO x3 = some y3 ∧ evPR T H (f y y2 y3) = some r := by
  unfold c3 at h
  split at h
  · rename_i y hy
    obtain ⟨y2, y3, h2, h3, h⟩ := c2_some h
    exact ⟨y, y2, y3, hy, h2, h3, h⟩
  · cases h

theorem evPR_sound {o : Oper} (ho : OpsR E T a o.op.operands.toList) (hH : HR E H w) (h : evPR T H (compI P o) = some r) :
    ∃ u, (execOp a.eval o).run P w = .ok (.value u) w ∧ VR E r u := by
  obtain ⟨dst, op, ty, pos, after, guard⟩ := o
  cases op with
  | move x =>
    simp only [compI] at h
    obtain ⟨y, hy, h⟩ := c1_some h
    simp only [evPR, Option.some.injEq] at h
    subst h
    exact ⟨a.eval x, rfl, ho x (by simp [Op.operands]) y hy⟩
  | assign x =>
    simp only [compI] at h
    obtain ⟨y, hy, h⟩ := c1_some h
    simp only [evPR, Option.some.injEq] at h
    subst h
    exact ⟨a.eval x, rfl, ho x (by simp [Op.operands]) y hy⟩
  | build t ps =>
    have ho' : OpsR E T a (ps.toList.map (·.2)) := ho.sub (by intro z hz; simpa [Op.operands] using hz)
    simp only [compI] at h
    split at h
    · rename_i y hy
      split at h
      · rename_i z hz
        split at h
        · rename_i fs hd
          split at h
          · rename_i hf
            split at h
            · rename_i l hl
              simp only [evPR] at h
              split at h
              · rename_i cs hcs
                cases h
                obtain ⟨u, h1, h2⟩ := build_sound (w := w) hy hz (.inl ⟨fs, hd, hf, hl⟩) ho' hcs
                exact ret h1 h2
              · cases h
            · cases h
          · cases h
        · rename_i n e hd
          split at h
          · rename_i ye hye
            split at h
            · rename_i l hl
              simp only [evPR] at h
              split at h
              · rename_i cs hcs
                cases h
                obtain ⟨u, h1, h2⟩ := build_sound (w := w) hy hz (.inr ⟨n, e, ye, hd, hye, hl⟩) ho' hcs
                exact ret h1 h2
              · cases h
            · cases h
          · cases h
        · cases h
      · cases h
    · cases h
  | load t x =>
    simp only [compI] at h
    split at h
    · rename_i y hy
      obtain ⟨x', hx, h⟩ := c1_some h
      simp only [evPR] at h
      obtain ⟨u, h1, h2⟩ := ld_sound hy hH (ho x (by simp [Op.operands]) x' hx) h
      exact ret h1 h2
    · cases h
  | nilCheck x =>
    simp only [compI] at h
    obtain ⟨y, hy, h⟩ := c1_some h
    have hv := ho x (by simp [Op.operands]) y hy
    simp only [evPR] at h
    simp only [execOp]
    split at h
    · rename_i i o hs
      cases h
      rw [hs] at hv
      refine ⟨a.eval x, ?_, hv⟩
      simp only [VR] at hv
      obtain ⟨b, _, e⟩ := hv
      rw [e]; rfl
    · rename_i f cs hs
      cases h
      rw [hs] at hv
      refine ⟨a.eval x, ?_, hv⟩
      simp only [VR] at hv
      obtain ⟨cs', e, _⟩ := hv
      rw [e]; rfl
    · rename_i t v hs
      cases h
      rw [hs] at hv
      refine ⟨a.eval x, ?_, hv⟩
      simp only [VR] at hv
      obtain ⟨u, e, _⟩ := hv
      rw [e]; rfl
    · rename_i i hs
      cases h
      rw [hs] at hv
      refine ⟨a.eval x, ?_, hv⟩
      simp only [VR] at hv
      obtain ⟨b, _, e⟩ := hv
      rw [e]; rfl
    · cases h
  | binOp op t x y yt =>
    simp only [compI] at h
    obtain ⟨x', y', hx, hy, h⟩ := c2_some h
    simp only [evPR] at h
    obtain ⟨u, h1, h2⟩ := bin_sound (P := P) (w := w) (ho x (by simp [Op.operands]) x' hx) (ho y (by simp [Op.operands]) y' hy) x y h
    exact ret h1 h2
  | unOp op t x =>
    simp only [compI] at h
    obtain ⟨y, hy, h⟩ := c1_some h
    have hv := ho x (by simp [Op.operands]) y hy
    cases op with
    | not =>
      simp only [evPR] at h
      cases hq : evA T y <;> rw [hq] at h <;> simp only [] at h <;> try (cases h; done)
      · cases h; rw [hq] at hv; simp only [VR] at hv
        exact ret (s := Op.unary .not (a.eval x)) (u := .bool !_) (by rw [hv]; rfl) (by simp only [VR])
      · cases h; rw [hq] at hv; simp only [VR] at hv
        exact ret (s := Op.unary .not (a.eval x)) (u := .bool !_) (by rw [hv]; rfl) (by simp only [VR, SB.den])
    | neg =>
      simp only [evPR] at h
      cases hq : evA T y <;> rw [hq] at h <;> simp only [] at h <;> try (cases h; done)
      · rename_i k n
        cases h; rw [hq] at hv; simp only [VR] at hv
        exact ret (s := Op.unary .neg (a.eval x)) (u := .int k (k.wrap (0 - n))) (by rw [hv]; rfl) (by simp only [VR, wrapF_eq]; try rfl)
      · rename_i k e
        cases h; rw [hq] at hv; simp only [VR] at hv
        exact ret (s := Op.unary .neg (a.eval x)) (u := .int k (k.wrap (0 - e.den E.ρ))) (by rw [hv]; rfl) (by simp only [VR, SI.den])
    | xor =>
      simp only [evPR] at h
      cases hq : evA T y <;> rw [hq] at h <;> simp only [] at h <;> try (cases h; done)
      rename_i k n
      split at h
      · rename_i hk
        split at h
        · rename_i m hm
          cases h; rw [hq] at hv; simp only [VR] at hv
          have hs : k.signed = true := by cases k <;> first | rfl | cases hk
          exact ret (s := Op.unary .xor (a.eval x)) (u := .int k m) (by rw [hv]; simp only [Op.unary, hs, if_true]; exact bits_sound hm) (by simp only [VR])
        · cases h
      · cases h
    | plus =>
      simp only [evPR] at h
      cases h
  | convert s d x =>
    simp only [compI] at h
    split at h
    · rename_i k1 k2 hs hd
      obtain ⟨y, hy, h⟩ := c1_some h
      have hv := ho x (by simp [Op.operands]) y hy
      simp only [evPR] at h
      split at h
      · rename_i k n hq
        cases h; rw [hq] at hv; simp only [VR] at hv
        refine ret (s := convert s d (a.eval x)) (u := .int k2 (k2.wrap n)) (by rw [hv]; simp [convert, run_underlying hs, run_underlying hd, Conv.intToInt]) (by simp only [VR, wrapF_eq])
      · rename_i k n hq
        cases h; rw [hq] at hv; simp only [VR] at hv
        refine ret (s := convert s d (a.eval x)) (u := .int k2 (k2.wrap (n.den E.ρ))) (by rw [hv]; simp [convert, run_underlying hs, run_underlying hd, Conv.intToInt]) (by simp only [VR, SI.den])
      · cases h
    · rename_i hs hd
      obtain ⟨y, hy, h⟩ := c1_some h
      have hv := ho x (by simp [Op.operands]) y hy
      simp only [evPR] at h
      split at h
      · rename_i n z hq
        cases h; rw [hq] at hv; 
        refine ret (s := convert s d (a.eval x)) (u := a.eval x) ?_ hv
        simp only [VR] at hv
        obtain ⟨_, hv⟩ := hv
        rw [hv]; simp [convert, run_underlying hs, run_underlying hd]
      · cases h
    · rename_i k hs hd
      obtain ⟨y, hy, h⟩ := c1_some h
      have hv := ho x (by simp [Op.operands]) y hy
      simp only [evPR] at h
      split at h
      · rename_i k n hq
        split at h
        · rename_i hlt
          have hlt' : n < 128 := nblt.1 hlt
          cases h; rw [hq] at hv; simp only [VR] at hv
          refine ret (s := convert s d (a.eval x)) (u := .string (Utf8.encode n)) (by rw [hv]; simp [convert, run_underlying hs, run_underlying hd, Conv.intToString]) ?_
          simp only [VR]
          refine ⟨by omega, ?_⟩
          have hval : Utf8.valid (n : Int) = true := by simp [Utf8.valid]; left; omega
          simp only [Utf8.encode, hval, if_true]
          rw [if_pos (by simpa using hlt')]
          have h256 : n % 256 = n := by omega
          simp [strV, strL, h256]
        · cases h
      · cases h
    · split at h
      · obtain ⟨y, hy, h⟩ := c1_some h
        simp only [evPR] at h; cases h
      · cases h
    · cases h
  | makeInterface t x =>
    simp only [compI] at h
    split at h
    · cases h
    · rename_i d hn hd
      obtain ⟨y, hy, h⟩ := c1_some h
      have hv := ho x (by simp [Op.operands]) y hy
      simp only [evPR, Option.some.injEq] at h
      subst h
      refine ret (s := Instr.makeInterface t (a.eval x)) (u := .iface t (a.eval x)) ?_ (by simp only [VR]; exact ⟨_, rfl, hv⟩)
      simp only [Instr.makeInterface, Sem.run_bind, run_underlying hd, Result.andThen_ok]
      cases d <;> first | rfl | exact absurd rfl (hn _)
    · cases h
  | typeAssert x xt at' ok =>
    simp only [compI] at h
    split at h
    · rename_i y hy
      obtain ⟨i, hi, hu, _, _, _⟩ := tyI_some hy
      split at h
      · cases h
      · rename_i hni
        split at h
        · rename_i z hz
          obtain ⟨zv, hzv, hzr⟩ := zero_rel hy hz E w
          obtain ⟨x', hx, h⟩ := c1_some h
          have hv := ho x (by simp [Op.operands]) x' hx
          have run : ∀ u : Value, (Instr.typeAssert u xt at' ok).run P w = ((match u with
              | .nilIface => (if ok then (do pure (.tuple #[← zeroValue at', .bool false])) else runtimePanic (.typeAssertion (some xt) none at' ""))
              | .iface t v => (if t = at' then (pure (if ok then .tuple #[v, .bool true] else v)) else (if ok then (do pure (.tuple #[← zeroValue at', .bool false])) else runtimePanic (.typeAssertion (some xt) (some t) at' "")))
              | _ => stuck "TypeAssert: interface value expected") : Sem Value).run P w := by
            intro u
            simp only [Instr.typeAssert, Sem.run_bind, run_underlying hu, Result.andThen_ok]
            cases hd : y.d <;> first
              | exact absurd hd (hni _)
              | (cases u <;> rfl)
          simp only [evPR] at h
          split at h
          · rename_i t v hq
            rw [hq] at hv; simp only [VR] at hv
            obtain ⟨u, hv, hur⟩ := hv
            split at h
            · rename_i hta
              have hta' : t = at' := nbeq.1 hta
              split at h
              · cases h
                refine ret (s := Instr.typeAssert (a.eval x) xt at' true) (u := .tuple #[u, .bool true]) (by rw [hv, run]; simp [hta']) (by simp only [VR]; exact ⟨_, rfl, VRs_cons.2 ⟨hur, VRs_cons.2 ⟨by simp [VR], VRs_nil⟩⟩⟩)
              · cases h
                refine ret (s := Instr.typeAssert (a.eval x) xt at' false) (u := u) (by rw [hv, run]; simp [hta']) hur
            · rename_i hta
              have hta' : t ≠ at' := nbeqF.1 hta
              split at h
              · cases h
                refine ret (s := Instr.typeAssert (a.eval x) xt at' true) (u := .tuple #[zv, .bool false]) (by rw [hv, run]; simp [hta', hzv]) (by simp only [VR]; exact ⟨_, rfl, VRs_cons.2 ⟨hzr, VRs_cons.2 ⟨by simp [VR], VRs_nil⟩⟩⟩)
              · cases h
          · rename_i hq
            rw [hq] at hv; simp only [VR] at hv
            split at h
            · cases h
              refine ret (s := Instr.typeAssert (a.eval x) xt at' true) (u := .tuple #[zv, .bool false]) (by rw [hv, run]; simp [hzv]) (by simp only [VR]; exact ⟨_, rfl, VRs_cons.2 ⟨hzr, VRs_cons.2 ⟨by simp [VR], VRs_nil⟩⟩⟩)
            · cases h
          · cases h
        · cases h
    · cases h
  | makeFunc fn first caps =>
    cases fn with
    | func f =>
      simp only [compI] at h
      split at h
      · rename_i hf
        obtain ⟨ys, hys, h⟩ := cs_some h
        have hr := compOs_sound hys (ho.sub (by intro z hz; simp [Op.operands]; exact .inr (by simpa using hz)))
        simp only [evPR, Option.some.injEq] at h
        subst h
        have hf' : first = #[] := by simpa using hf
        refine ret (s := Instr.makeFunc (.func f) (first.map a.eval) (caps.map a.eval)) (u := .func (.func f) #[] (caps.map a.eval)) (by rw [hf']; simp [Instr.makeFunc]) ?_
        simp only [VR]
        exact ⟨_, rfl, by simpa using hr⟩
      · cases h
    | _ => simp only [compI] at h; cases h
  | slice t x l h' m =>
    have ho' : OpsR E T a ([x] ++ l.toList ++ h'.toList ++ m.toList) := ho.sub (by intro z hz; simpa [Op.operands] using hz)
    simp only [compI] at h
    split at h
    · rename_i l1 h1 ht hl hh hm
      obtain ⟨y, hy, h⟩ := c1_some h
      obtain ⟨u, g1, g2⟩ := slice_sound (w := w) hy hl hh hm ho' (.inl ⟨ht, rfl, h⟩)
      exact ret g1 g2
    · rename_i e l1 h1 m1 ht hl hh hm
      split at h
      · rename_i ye hye
        obtain ⟨y, hy, h⟩ := c1_some h
        obtain ⟨u, g1, g2⟩ := slice_sound (w := w) hy hl hh hm ho' (.inr (.inl ⟨e, ye, ht, hye, h⟩))
        exact ret g1 g2
      · cases h
    · rename_i n e l1 h1 m1 ht hl hh hm
      split at h
      · rename_i ye hye
        obtain ⟨y, hy, h⟩ := c1_some h
        obtain ⟨u, g1, g2⟩ := slice_sound (w := w) hy hl hh hm ho' (.inr (.inr ⟨n, e, ye, ht, hye, h⟩))
        exact ret g1 g2
      · cases h
    · cases h
  | fieldAddr t x f =>
    simp only [compI] at h
    split at h
    · rename_i fs ht
      split at h
      · rename_i g hg
        split at h
        · rename_i y hy
          split at h
          · rename_i hsz
            have hsz' : ¬ y.size = 0 := by simpa using hsz
            obtain ⟨i, hi, _, hs, _, _⟩ := tyI_some hy
            obtain ⟨x', hx, h⟩ := c1_some h
            have hv := ho x (by simp [Op.operands]) x' hx
            simp only [evPR] at h
            split at h
            · rename_i j o hq
              cases h; rw [hq] at hv; simp only [VR] at hv
              obtain ⟨b, hb, hv⟩ := hv
              refine ret (s := Instr.fieldAt t (a.eval x) f) (u := .pointer (some ⟨b, o + g.offset, none⟩)) ?_ (by simp only [VR, nadd]; exact ⟨b, hb, rfl⟩)
              rw [hv]
              simp only [Instr.fieldAt, Sem.run_bind, run_underlying ht, Result.andThen_ok, hg, Instr.sureAddr, Sem.run_pure, fieldPlace, run_size hi, hs, if_neg hsz', addr_add]
            · cases h
          · cases h
        · cases h
      · cases h
    · cases h
  | field t x f =>
    simp only [compI] at h
    split at h
    · rename_i fs ht
      split at h
      · rename_i g hg
        split at h
        · rename_i y hy
          obtain ⟨x', hx, h⟩ := c1_some h
          have hv := ho x (by simp [Op.operands]) x' hx
          simp only [evPR] at h
          split at h
          · rename_i cs hq
            rw [hq] at hv; simp only [VR] at hv
            obtain ⟨vs, hv, hr, h1⟩ := hv
            obtain ⟨u, g1, g2⟩ := part_sound (w := w) hy hr h1 h
            refine ret (s := Instr.field t (a.eval x) f) (u := u) ?_ g2
            rw [hv]
            simp only [Instr.field, Sem.run_bind, run_underlying ht, Result.andThen_ok, hg, asAgg, Sem.run_pure, g1]
          · cases h
        · cases h
      · cases h
    · cases h
  | indexAddr t x ix =>
    simp only [compI] at h
    split at h
    · rename_i e ht
      split at h
      · rename_i y hy
        obtain ⟨i, hi, _, hs, _, _⟩ := tyI_some hy
        obtain ⟨x', ix', hx, hix, h⟩ := c2_some h
        have hv := ho x (by simp [Op.operands]) x' hx
        have hiv := ho ix (by simp [Op.operands]) ix' hix
        simp only [evPR] at h
        split at h
        · rename_i b o n c hq
          split at h
          · rename_i j hj
            split at h
            · rename_i hlt
              have hlt' : j < n := nblt.1 hlt
              cases h; rw [hq] at hv; simp only [VR] at hv
              obtain ⟨bb, k, hb, hv, _⟩ := hv
              obtain ⟨kk, hiv⟩ := natOf_some hj hiv
              refine ret (s := Instr.indexAt t (a.eval x) (a.eval ix)) (u := .pointer (some ⟨bb, o + j * y.size, none⟩)) ?_ (by simp only [VR, nadd, nmul]; exact ⟨bb, hb, rfl⟩)
              rw [hv, hiv]
              have hb2 : (0 : Int) ≤ (j : Int) ∧ (j : Int) < (n : Int) := by omega
              simp [Instr.indexAt, asIntOf, run_underlying ht, run_size hi, hs, addr_add]
              try (intro hh; omega)
            · cases h
          · cases h
        · cases h
      · cases h
    · rename_i n e ht
      split at h
      · rename_i y hy
        obtain ⟨i, hi, _, hs, _, _⟩ := tyI_some hy
        obtain ⟨x', ix', hx, hix, h⟩ := c2_some h
        have hv := ho x (by simp [Op.operands]) x' hx
        have hiv := ho ix (by simp [Op.operands]) ix' hix
        simp only [evPR] at h
        split at h
        · rename_i b o hq
          split at h
          · rename_i j hj
            split at h
            · rename_i hlt
              have hlt' : j < n := nblt.1 hlt
              cases h; rw [hq] at hv; simp only [VR] at hv
              obtain ⟨bb, hb, hv⟩ := hv
              obtain ⟨kk, hiv⟩ := natOf_some hj hiv
              refine ret (s := Instr.indexAt t (a.eval x) (a.eval ix)) (u := .pointer (some ⟨bb, o + j * y.size, none⟩)) ?_ (by simp only [VR, nadd, nmul]; exact ⟨bb, hb, rfl⟩)
              rw [hv, hiv]
              have hb2 : (0 : Int) ≤ (j : Int) ∧ (j : Int) < (n : Int) := by omega
              simp [Instr.indexAt, asIntOf, run_underlying ht, Instr.sureAddr, run_size hi, hs, addr_add]
              try (intro hh; omega)
            · cases h
          · cases h
        · cases h
      · cases h
    · cases h
  | index t x ix =>
    simp only [compI] at h
    split at h
    · rename_i ht
      obtain ⟨x', ix', hx, hix, h⟩ := c2_some h
      have hv := ho x (by simp [Op.operands]) x' hx
      have hiv := ho ix (by simp [Op.operands]) ix' hix
      simp only [evPR] at h
      split at h
      · rename_i n s hq
        split at h
        · rename_i j hj
          split at h
          · rename_i hlt
            have hlt' : j < n := nblt.1 hlt
            cases h; rw [hq] at hv; simp only [VR] at hv
            obtain ⟨hsl, hv⟩ := hv
            obtain ⟨kk, hiv⟩ := natOf_some hj hiv
            refine ret (s := Instr.index t (a.eval x) (a.eval ix)) (u := .int .u8 (strByte s j : Nat)) ?_ (by simp only [VR]; rfl)
            rw [hv, hiv, run_index_string w t (strV n s) kk (j : Int) ht]
            rw [dif_pos ⟨by omega, by rw [strV_size]; omega⟩]
            congr 2
            have h1 : (strV n s)[(j : Int).toNat]'(by rw [strV_size]; simpa using hlt') = UInt8.ofNat (s / 256 ^ j % 256) := by
              have h2 := strL_get n s j hlt'
              rw [List.getElem?_eq_some_iff] at h2
              obtain ⟨h3, h4⟩ := h2
              exact h4
            rw [h1]
            simp [strByte, nmod, ndiv]
          · cases h
        · cases h
      · cases h
    · rename_i n e ht
      split at h
      · rename_i y hy
        obtain ⟨i, hi, _, hs, _, _⟩ := tyI_some hy
        obtain ⟨x', ix', hx, hix, h⟩ := c2_some h
        have hv := ho x (by simp [Op.operands]) x' hx
        have hiv := ho ix (by simp [Op.operands]) ix' hix
        simp only [evPR] at h
        split at h
        · rename_i cs hq
          split at h
          · rename_i j hj
            split at h
            · rename_i hlt
              have hlt' : j < n := nblt.1 hlt
              rw [hq] at hv; simp only [VR] at hv
              obtain ⟨vs, hv, hr, h1⟩ := hv
              obtain ⟨kk, hiv⟩ := natOf_some hj hiv
              obtain ⟨u, g1, g2⟩ := part_sound (w := w) hy hr h1 h
              refine ret (s := Instr.index t (a.eval x) (a.eval ix)) (u := u) ?_ g2
              rw [hv, hiv]
              have hb2 : (0 : Int) ≤ (j : Int) ∧ (j : Int) < (n : Int) := by omega
              simp only [nmul] at g1
              simp [Instr.index, asIntOf, run_underlying ht, run_size hi, hs, g1]
              try (intro hh; omega)
            · cases h
          · cases h
        · cases h
      · cases h
    · cases h
  | lookup t m k ok =>
    simp only [compI] at h
    split at h
    · rename_i kt e ht
      split at h
      · rename_i z hz
        rw [Option.bind_eq_some_iff] at hz
        obtain ⟨ye, hye, hz⟩ := hz
        split at h
        · rename_i kk hk
          obtain ⟨m', k', hm, hk', h⟩ := c2_some h
          have hmv := ho m (by simp [Op.operands]) m' hm
          have hkv := ho k (by simp [Op.operands]) k' hk'
          simp only [evPR] at h
          split at h
          · rename_i es hes
            split at h
            · rename_i i v hf
              obtain ⟨u, g1, g2⟩ := lookup_sound ht hye hz hk hH hmv hkv hes hf ok
              refine ret g1 ?_
              cases ok <;> (cases h; exact g2)
            · rename_i hf
              obtain ⟨u, g1, g2⟩ := lookup_sound ht hye hz hk hH hmv hkv hes hf ok
              refine ret g1 ?_
              cases ok <;> (cases h; exact g2)
            · cases h
          · split at h
            · cases h
            · rename_i es hes
              split at h
              · cases h
              · rename_i hok
                split at h
                · rename_i v hf
                  obtain ⟨u, g1, g2⟩ := lookupU_sound ht hye hz hk hH hmv hkv hes hok hf ok
                  refine ret g1 ?_
                  cases ok <;> (cases h; exact g2)
                · rename_i hf
                  obtain ⟨u, g1, g2⟩ := lookupU_sound ht hye hz hk hH hmv hkv hes hok hf ok
                  refine ret g1 ?_
                  cases ok <;> (cases h; exact g2)
                · cases h
        · cases h
      · cases h
    · cases h
  | entry x =>
    simp only [compI] at h
    obtain ⟨x', hx, h⟩ := c1_some h
    have hv := ho x (by simp [Op.operands]) x' hx
    simp only [evPR] at h
    split at h
    · rename_i i o hq
      rw [hq] at hv; simp only [VR] at hv
      obtain ⟨b, hb, hv⟩ := hv
      split at h
      · split at h
        · rename_i m since seen stepped hi
          obtain ⟨x1, hx1, m', rfl, bm, hbm, rfl⟩ := hH.obj i _ b hi hb
          split at h
          · rename_i stamp hst
            split at h
            · rename_i es clock hm
              obtain ⟨x2, hx2, fs, rfl, hfs⟩ := hH.obj m _ bm hm hbm
              split at h
              · rename_i hcl
                have hcl' : clock = stepped := nbeq.1 hcl
                split at h
                · rename_i e he
                  cases h
                  have hfind : ∀ (es : List (AV × AV × Nat)) (fs : List MapEntry), MapRel E es fs → ∀ e, es.find? (fun e => Nat.beq e.2.2 stamp) = some e →
                      ∃ f, fs.find? (fun f => f.born == stamp) = some f ∧ VR E e.1 f.key ∧ VR E e.2.1 f.val := by
                    intro es
                    induction es with
                    | nil => intro fs _ e h; simp at h
                    | cons e0 es ih =>
                      intro fs hm e h
                      cases fs with
                      | nil => have := hm.1; simp at this
                      | cons f fs =>
                        obtain ⟨⟨h1, h2, h3⟩, hm'⟩ := MapRel_cons hm
                        rw [List.find?_cons] at h ⊢
                        cases hb : Nat.beq e0.2.2 stamp with
                        | true =>
                          rw [hb] at h
                          cases h
                          have : f.born = stamp := by rw [h3]; exact nbeq.1 hb
                          exact ⟨f, by simp [this], h1, h2⟩
                        | false =>
                          rw [hb] at h
                          have : ¬ f.born = stamp := by rw [h3]; exact nbeqF.1 hb
                          obtain ⟨g, hg, hg2⟩ := ih fs hm' e h
                          refine ⟨g, ?_, hg2⟩
                          have hb2 : (f.born == stamp) = false := by simpa using this
                          rw [hb2]; exact hg
                  obtain ⟨f, hf, hk1, hk2⟩ := hfind es fs.toList hfs e he
                  have hf' : fs.find? (fun f => f.born == stamp) = some f := by rw [← Array.find?_toList]; exact hf
                  have hback : seen.toArray.back? = some stamp := by simpa [Array.back?, List.getLast?_eq_getElem?] using hst
                  refine ret (s := Instr.entry (a.eval x)) (u := .tuple #[f.key, f.val]) ?_ (by simp only [VR]; exact ⟨_, rfl, VRs_cons.2 ⟨hk1, VRs_cons.2 ⟨hk2, VRs_nil⟩⟩⟩)
                  rw [hv]
                  have g1 : (getObj b).run P w = .ok (.mapIter (some bm) since seen.toArray stepped) w := by simp [getObj, Sem.run, hx1]
                  simp [Instr.entry, g1, hback, run_getMap hx2, hcl', hf']
                · cases h
              · cases h
            · cases h
          · cases h
        · cases h
      · cases h
    · cases h
  | extract x i =>
    simp only [compI] at h
    obtain ⟨x', hx, h⟩ := c1_some h
    have hv := ho x (by simp [Op.operands]) x' hx
    simp only [evPR] at h
    split at h
    · rename_i l hq
      rw [hq] at hv; simp only [VR] at hv
      obtain ⟨vs, hv, hr⟩ := hv
      obtain ⟨u, hu, hur⟩ := VRs_get hr i r h
      refine ret (s := Instr.extract (a.eval x) i) (u := u) ?_ hur
      rw [hv]
      have : vs[i]? = some u := by rw [← Array.getElem?_toList]; exact hu
      simp [Instr.extract, this]
    · cases h
  | call c =>
    obtain ⟨callee, args, argTypes⟩ := c
    cases callee with
    | value f =>
      simp only [compI] at h
      cases f <;> simp only [] at h <;> first
        | (obtain ⟨_, _, h⟩ := cs_some h; cases h)
        | (split at h
           · obtain ⟨_, _, h⟩ := cs_some h; cases h
           · cases h)
    | invoke r m => simp only [compI] at h; cases h
    | builtin b =>
      have hargs : ∀ z ∈ args.toList, z ∈ (Op.call ⟨.builtin b, args, argTypes⟩).operands.toList := by intro z hz; simpa [Op.operands, Call.operands] using hz
      cases b with
      | len =>
        simp only [compI] at h
        split at h
        · rename_i t x ht hx
          have hargs' : args = #[x] := by
            have : args.toList = [x] := hx
            rw [← Array.toArray_toList (xs := args), this]
          subst hargs'
          have run : ∀ u : Value, (Builtin.len_ argTypes ty #[a.eval x]).run P w = .ok u w → (execOp a.eval ⟨dst, .call ⟨.builtin .len, #[x], argTypes⟩, ty, pos, after, guard⟩).run P w = .ok (.value u) w := by
            intro u hu
            simp [execOp, resolve, invoke, builtin, hu]
          split at h
          · rename_i hd
            obtain ⟨x', hx', h⟩ := c1_some h
            have hv := ho x (hargs x (by simp)) x' hx'
            simp only [evPR] at h
            split at h
            · rename_i n s hq
              cases h; rw [hq] at hv; simp only [VR] at hv
              refine ⟨goInt n, run _ ?_, by simp only [VR]; rfl⟩
              rw [hv.2]; simp [Builtin.len_, ht, run_underlying hd, strV_size]
            · cases h
          · rename_i e hd
            obtain ⟨x', hx', h⟩ := c1_some h
            have hv := ho x (hargs x (by simp)) x' hx'
            simp only [evPR] at h
            split at h
            · rename_i hq
              cases h; rw [hq] at hv; simp only [VR] at hv
              refine ⟨goInt 0, run _ ?_, by simp only [VR]; rfl⟩
              rw [hv]; simp [Builtin.len_, ht, run_underlying hd]
            · rename_i hq
              cases h; rw [hq] at hv; simp only [VR] at hv
              obtain ⟨a0, k, hv⟩ := hv
              refine ⟨goInt 0, run _ ?_, by simp only [VR]; rfl⟩
              rw [hv]; simp [Builtin.len_, ht, run_underlying hd]
            · rename_i i o n c hq
              cases h; rw [hq] at hv; simp only [VR] at hv
              obtain ⟨b, k, _, hv, _⟩ := hv
              refine ⟨goInt n, run _ ?_, by simp only [VR]; rfl⟩
              rw [hv]; simp [Builtin.len_, ht, run_underlying hd]
            · rename_i i o n hq
              cases h; rw [hq] at hv; simp only [VR] at hv
              obtain ⟨b, k, _, hv, h0, _⟩ := hv
              refine ⟨goInt (n.den E.ρ), run _ ?_, by simp only [VR]; rfl⟩
              rw [hv]
              have : (((n.den E.ρ).toNat : Nat) : Int) = n.den E.ρ := Int.toNat_of_nonneg h0
              simp [Builtin.len_, ht, run_underlying hd, this]
            · cases h
          · rename_i kt e hd
            obtain ⟨x', hx', h⟩ := c1_some h
            have hv := ho x (hargs x (by simp)) x' hx'
            simp only [evPR] at h
            split at h
            · rename_i es hes
              cases h
              unfold mapEs at hes
              split at hes
              · rename_i hq
                cases hes
                rw [hq] at hv
                simp only [VR] at hv
                refine ⟨goInt 0, run _ ?_, by simp only [VR]; rfl⟩
                rw [hv]; simp [Builtin.len_, ht, run_underlying hd]
              · rename_i i hq
                rw [hq] at hv
                simp only [VR] at hv
                obtain ⟨b, hb, hv⟩ := hv
                split at hes
                · rename_i es' clock hi
                  cases hes
                  obtain ⟨x1, hx1, fs, rfl, hfs⟩ := hH.obj i _ b hi hb
                  refine ⟨goInt fs.size, run _ ?_, by simp only [VR]; rw [← hfs.1]; simp [goInt]⟩
                  rw [hv]; simp [Builtin.len_, ht, run_underlying hd, run_getMap hx1]
                · cases hes
              · cases hes
            · cases h
          · rename_i n e hd
            simp only [evPR, Option.some.injEq] at h
            subst h
            refine ⟨goInt n, run _ ?_, by simp only [VR]; rfl⟩
            simp [Builtin.len_, ht, run_underlying hd]
          · cases h
        · cases h
      | max =>
        simp only [compI] at h
        split at h
        · rename_i x y hx
          obtain ⟨x', y', hx', hy', h⟩ := c2_some h
          have hargs' : args = #[x, y] := by
            have : args.toList = [x, y] := hx
            rw [← Array.toArray_toList (xs := args), this]
          subst hargs'
          have hv := ho x (hargs x (by simp)) x' hx'
          have hw := ho y (hargs y (by simp)) y' hy'
          simp only [evPR] at h
          split at h
          · rename_i k n hq
            split at h
            · rename_i j m hq2
              cases h
              rw [hq] at hv; rw [hq2] at hw
              simp only [VR] at hv hw
              refine ⟨.int k (if m > n then m else n), ?_, ?_⟩
              · simp [execOp, resolve, invoke, builtin, Builtin.max_, hv, hw, Builtin.max2]
              · simp only [VR, ilt_eq]
                by_cases hlt : n < m
                · simp [hlt]
                · simp [hlt]
            · cases h
          · cases h
        · cases h
      | min =>
        simp only [compI] at h
        split at h
        · rename_i x y hx
          obtain ⟨x', y', hx', hy', h⟩ := c2_some h
          have hargs' : args = #[x, y] := by
            have : args.toList = [x, y] := hx
            rw [← Array.toArray_toList (xs := args), this]
          subst hargs'
          have hv := ho x (hargs x (by simp)) x' hx'
          have hw := ho y (hargs y (by simp)) y' hy'
          simp only [evPR] at h
          split at h
          · rename_i k n hq
            split at h
            · rename_i j m hq2
              cases h
              rw [hq] at hv; rw [hq2] at hw
              simp only [VR] at hv hw
              refine ⟨.int k (if m < n then m else n), ?_, ?_⟩
              · simp [execOp, resolve, invoke, builtin, Builtin.min_, hv, hw, Builtin.min2]
              · simp only [VR, ilt_eq]
                by_cases hlt : m < n
                · simp [hlt]
                · simp [hlt]
            · cases h
          · cases h
        · cases h
      | append | copy | delete | recover | println =>
        simp only [compI] at h
        repeat (split at h)
        all_goals first
          | (obtain ⟨_, _, _, _, h⟩ := c2_some h; cases h)
          | cases h
      | _ => simp only [compI] at h; cases h
  | alloc t => simp only [compI] at h; split at h <;> cases h
  | next x b => cases b <;> (simp only [compI] at h; obtain ⟨_, _, h⟩ := c1_some h; cases h)
  | makeMap t r => cases r <;> (simp only [compI] at h; cases h)
  | box t x => simp only [compI] at h; obtain ⟨_, _, h⟩ := c1_some h; cases h
  | buildSlice | mapUpdate | insert | pick | store | makeSlice | mapEntry | entryStore | range | defer | panic =>
    simp only [compI] at h
    repeat (split at h)
    all_goals first
      | (obtain ⟨_, _, _, _, _, _, h⟩ := c3_some h; cases h)
      | (obtain ⟨_, _, _, _, h⟩ := c2_some h; cases h)
      | (obtain ⟨_, _, h⟩ := c1_some h; cases h)
      | (obtain ⟨_, _, h⟩ := cs_some h; cases h)
      | cases h
  | _ => simp only [compI] at h; cases h
end
end Ct
