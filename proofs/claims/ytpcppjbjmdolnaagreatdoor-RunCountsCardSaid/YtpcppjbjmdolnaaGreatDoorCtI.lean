/- What only reckons or reads: the operations one by one. -/
import Derived.Test.YtpcppjbjmdolnaaGreatDoorCtH
namespace Ct
open Go
section
variable {P : Program} {E : Env} {w : World} {H : Tr AO} {a : Act} {T : Tr AV} {r : AV}

theorem vrun {s : Sem Value} {u : Value} {w' : World} (h : s.run P w = .ok u w') : (do pure (Next.value (← s)) : Sem Next).run P w = .ok (.value u) w' := by
  rw [Sem.run_bind, h]; rfl

theorem natOf_some {x : AV} {n : Nat} (h : natOf x = some n) {v : Value} (hv : VR E x v) : ∃ k, v = .int k (n : Int) := by
  unfold natOf at h
  split at h
  · cases h; simp only [VR] at hv; exact ⟨_, hv⟩
  · cases h

theorem run_bound (k : IntKind) (n y : Nat) (c : BoundsCode) (h : n ≤ y) : (Instr.sliceBound (.int k (n : Int)) y c).run P w = .ok n w := by
  have : (0 : Int) ≤ (n : Int) ∧ (n : Int) ≤ (y : Int) := by omega
  simp [Instr.sliceBound, asIntOf, this]

theorem sliceBounds_run {isSlice : Bool} {len cap : Nat} {lo hi mx : Option Value} {l h m : Nat} (hl : (lo = none ∧ l = 0) ∨ ∃ k, lo = some (.int k (l : Int)))
    (hh : (hi = none ∧ mx = none ∧ h = len) ∨ ∃ k, hi = some (.int k (h : Int))) (hm : (mx = none ∧ m = cap) ∨ ∃ k, mx = some (.int k (m : Int))) (h1 : l ≤ h) (h2 : hi ≠ none → h ≤ m) (h3 : m ≤ cap) :
    (Instr.sliceBounds isSlice len cap lo hi mx).run P w = .ok (l, h, m) w := by
  unfold Instr.sliceBounds
  rcases hm with ⟨rfl, rfl⟩ | ⟨km, rfl⟩
  · rcases hh with ⟨rfl, _, rfl⟩ | ⟨kh, rfl⟩
    · rcases hl with ⟨rfl, rfl⟩ | ⟨kl, rfl⟩
      · simp
      · simp [run_bound _ _ _ _ h1]
    · have h2' := h2 (by simp)
      rcases hl with ⟨rfl, rfl⟩ | ⟨kl, rfl⟩
      · simp [run_bound _ _ _ _ h2']
      · simp [run_bound _ _ _ _ h1, run_bound _ _ _ _ h2']
  · rcases hh with ⟨_, he, _⟩ | ⟨kh, rfl⟩
    · cases he
    · have h2' := h2 (by simp)
      rcases hl with ⟨rfl, rfl⟩ | ⟨kl, rfl⟩
      · simp [run_bound _ _ _ _ h2', run_bound _ _ _ _ h3]
      · simp [run_bound _ _ _ _ h1, run_bound _ _ _ _ h2', run_bound _ _ _ _ h3]

/-- A bound that is there, or not. -/
theorem bnd_low {x : Option Operand} {y : Option AOp} {n : Nat} (hx : optO x = some y) (ho : OpsR E T a x.toList) (h : bnd T 0 y = some n) :
    (x.map a.eval = none ∧ n = 0) ∨ ∃ k, x.map a.eval = some (.int k (n : Int)) := by
  cases x with
  | none => simp only [optO, Option.some.injEq] at hx; subst hx; simp only [bnd, Option.some.injEq] at h; exact .inl ⟨rfl, h.symm⟩
  | some x =>
    simp only [optO, Option.map_eq_some_iff] at hx
    obtain ⟨z, hz, rfl⟩ := hx
    simp only [bnd] at h
    obtain ⟨k, hk⟩ := natOf_some h (ho x (by simp) z hz)
    exact .inr ⟨k, by simp [hk]⟩
theorem bnd_high {x : Option Operand} {y : Option AOp} {n d : Nat} (hx : optO x = some y) (ho : OpsR E T a x.toList) (h : bnd T d y = some n) :
    (x.map a.eval = none ∧ n = d) ∨ ∃ k, x.map a.eval = some (.int k (n : Int)) := by
  cases x with
  | none => simp only [optO, Option.some.injEq] at hx; subst hx; simp only [bnd, Option.some.injEq] at h; exact .inl ⟨rfl, h.symm⟩
  | some x =>
    simp only [optO, Option.map_eq_some_iff] at hx
    obtain ⟨z, hz, rfl⟩ := hx
    simp only [bnd] at h
    obtain ⟨k, hk⟩ := natOf_some h (ho x (by simp) z hz)
    exact .inr ⟨k, by simp [hk]⟩

theorem strV_extract (n x l h : Nat) (h1 : l ≤ h) (h2 : h ≤ n) : (strV n x).extract l h = strV (h - l) (strCut x l (h - l)) := by
  have e : ((strV n x).extract l h).data.toList = (strV (h - l) (strCut x l (h - l))).data.toList := by
    rw [strV_toList, ← strL_cut n x l (h - l) (by omega)]
    simp [ByteArray.data_extract, strV_toList, List.extract]
  cases hq : (strV n x).extract l h with
  | mk d =>
    cases hp : strV (h - l) (strCut x l (h - l)) with
    | mk d' =>
      rw [hq, hp] at e
      simp only at e
      rw [Array.toList_inj.1 e]

/-! ### maps, read -/
theorem sameNow_sound {c : CK} {k e : AV} {u v : Value} {b : Bool} (hu : VR E k u) (hv : VR E e v) (h : scalEq c k e = some b) {d : TypeDesc} (hd : c.of d) : Instr.sameNow d u v = some b := by
  unfold scalEq at h
  split at h
  · split at h
    · rename_i hk
      have := ikBeq_eq hk
      subst this
      cases h
      obtain ⟨k', rfl⟩ := hd
      simp only [VR] at hu hv
      subst hu; subst hv
      simp [Instr.sameNow, ibeq_eq]
    · cases h
  · cases h
    cases hd
    simp only [VR] at hu hv
    subst hu; subst hv
    rfl
  · cases h
    cases hd
    simp only [VR] at hu hv
    obtain ⟨hx, rfl⟩ := hu
    obtain ⟨hy, rfl⟩ := hv
    show some ((strV _ _) == (strV _ _)) = _
    rw [beq_toListBytes, strEq hx hy]
  · cases h

theorem MapRel_cons {e : AV × AV × Nat} {es : List (AV × AV × Nat)} {f : MapEntry} {fs : List MapEntry} (h : MapRel E (e :: es) (f :: fs)) :
    (VR E e.1 f.key ∧ VR E e.2.1 f.val ∧ f.born = e.2.2) ∧ MapRel E es fs :=
  ⟨h.2 0 e f rfl rfl, by simpa using h.1, fun i x y hx hy => h.2 (i + 1) x y (by simpa using hx) (by simpa using hy)⟩

/-- What looking for a key comes to. -/
def FoundR (E : Env) : Option (Nat × AV) → Option (Nat × Value) → Prop
  | none, y => y = none
  | some (i, a), y => ∃ v, y = some (i, v) ∧ VR E a v

theorem findNow_sound {c : CK} {k : AV} {u : Value} (hu : VR E k u) {d : TypeDesc} (hd : c.of d) : ∀ (es : List (AV × AV × Nat)) (fs : List MapEntry) (i : Nat) (r : Option (Nat × AV)),
    MapRel E es fs → findIn (.scal c) k es i = some r → ∃ y, Instr.findNow d u fs i = some y ∧ FoundR E r y
  | [], fs, i, r, hm, h => by
    have : fs = [] := List.eq_nil_of_length_eq_zero (by simpa using hm.1)
    subst this
    simp only [findIn, Option.some.injEq] at h
    subst h
    exact ⟨none, rfl, rfl⟩
  | e :: es, [], i, r, hm, h => by have := hm.1; simp at this
  | e :: es, f :: fs, i, r, hm, h => by
    obtain ⟨⟨h1, h2, h3⟩, hm'⟩ := MapRel_cons hm
    simp only [findIn, keyEq] at h
    split at h
    · rename_i hs
      cases h
      exact ⟨_, by simp only [Instr.findNow, sameNow_sound hu h1 hs hd], _, rfl, h2⟩
    · rename_i hs
      obtain ⟨y, hy, hr⟩ := findNow_sound hu hd es fs (i + 1) r hm' h
      exact ⟨y, by simp only [Instr.findNow, sameNow_sound hu h1 hs hd]; exact hy, hr⟩
    · cases h

theorem findAsking_sound {t : TypeId} {ks : List CK} (hks : flatT P t = some ks) {k : AV} {u : Value} (hu : VR E k u) : ∀ (es : List (AV × AV × Nat)) (fs : List MapEntry) (i : Nat) (r : Option (Nat × AV)),
    MapRel E es fs → findIn (.agg ks) k es i = some r → ∃ y, (Instr.findAsking t u fs i).run P w = .ok y w ∧ FoundR E r y
  | [], fs, i, r, hm, h => by
    have : fs = [] := List.eq_nil_of_length_eq_zero (by simpa using hm.1)
    subst this
    simp only [findIn, Option.some.injEq] at h
    subst h
    exact ⟨none, rfl, rfl⟩
  | e :: es, [], i, r, hm, h => by have := hm.1; simp at this
  | e :: es, f :: fs, i, r, hm, h => by
    obtain ⟨⟨h1, h2, h3⟩, hm'⟩ := MapRel_cons hm
    have key : ∀ b, keyEq (.agg ks) k e.1 = some b → (Op.equal t u f.key).run P w = .ok b w := by
      intro b hb
      simp only [keyEq] at hb
      split at hb
      · rename_i y hx hy
        rw [hy] at h1
        simp only [VR] at hu h1
        obtain ⟨xs, rfl, hxs, l1⟩ := hu
        obtain ⟨ys, hk, hys, m1⟩ := h1
        rw [hk]
        exact (flatT_sound (w := w) hks hxs hys l1 m1 hb (9999 + 1) (by omega)).1
      · cases hb
    simp only [findIn] at h
    split at h
    · rename_i hs
      cases h
      exact ⟨_, by simp [Instr.findAsking, key _ hs], _, rfl, h2⟩
    · rename_i hs
      obtain ⟨y, hy, hr⟩ := findAsking_sound hks hu es fs (i + 1) r hm' h
      exact ⟨y, by simp [Instr.findAsking, key _ hs, hy], hr⟩
    · cases h

/-- A key that may be asked for. -/
theorem check_part : ∀ (d : Nat) (t : TypeId) (ks : List CK), flatKs P d t = some ks → ∀ (n : Nat), d ≤ n → ∀ {y : TI}, tyI P t = some y → y.size = ks.length →
    ∀ (l : List AV) (xs : Array Value), VRs E l xs.toList → l.all oneA = true → ∀ (off : Nat) (em : Bool), off + ks.length ≤ l.length →
    ∃ u, (part t xs off).run P w = .ok u w ∧ (Instr.checkKey em n t u).run P w = .ok () w
  | 0, _, _, h, _, _, _, _, _, _, _, _, _, _, _, _ => by simp [flatKs] at h
  | d + 1, t, ks, h, n, hn, y, ht, hy, l, xs, hl, l1, off, em, hle => by
    obtain ⟨n, rfl⟩ : ∃ k, n = k + 1 := ⟨n - 1, by omega⟩
    obtain ⟨i, hi, hu, hs, _, _⟩ := tyI_some ht
    have one : ∀ c, ks = [c] → c.of y.d → isAggD y.d = false → ∃ u, (part t xs off).run P w = .ok u w ∧ (Instr.checkKey em (n + 1) t u).run P w = .ok () w := by
      intro c hk hd hag
      subst hk
      simp only [List.length_singleton] at hle
      obtain ⟨u, hu1, hu2⟩ := part_sound (w := w) ht hl l1 (off := off) (r := l[off]'(by omega)) (by simp [partOf, hag])
      refine ⟨u, hu1, ?_⟩
      simp only [Instr.checkKey, Sem.run_bind, run_underlying hu, Result.andThen_ok]
      cases c with
      | int => obtain ⟨k, hk⟩ := hd; rw [hk]; rfl
      | bool => have hk : y.d = .bool := hd; rw [hk]; rfl
      | str => have hk : y.d = .string := hd; rw [hk]; rfl
    unfold flatKs at h
    split at h
    · rename_i hd; cases h; rw [hu] at hd; have hd := Option.some.inj hd; exact one _ rfl hd (by rw [hd]; rfl)
    · rename_i hd; cases h; rw [hu] at hd; have hd := Option.some.inj hd; exact one _ rfl hd (by rw [hd]; rfl)
    · rename_i hd; cases h; rw [hu] at hd; have hd := Option.some.inj hd; exact one _ rfl ⟨_, hd⟩ (by rw [hd]; rfl)
    · rename_i fs hd
      split at h
      · cases h
      · rw [hu] at hd
        have hd' : y.d = .struct fs := Option.some.inj hd
        have hag : isAggD y.d = true := by rw [hd']; rfl
        obtain ⟨u, hu1, hu2⟩ := part_sound (w := w) ht hl l1 (off := off) (r := .agg ((l.drop off).take y.size)) (by simp [partOf, hag])
        refine ⟨u, hu1, ?_⟩
        simp only [VR] at hu2
        obtain ⟨us, rfl, hus, ul⟩ := hu2
        rw [hy] at hus ul
        have hAl : ((l.drop off).take ks.length).length = ks.length := by simp; omega
        generalize (l.drop off).take ks.length = A at hus ul hAl
        have key : ∀ (fl : List Field) (acc : List CK), flatGo P (flatKs P d) fl acc = some ks →
            (forIn (m := Sem) fl PUnit.unit fun f _ => (if f.name = "_" then pure (ForInStep.yield PUnit.unit) else do
                let v ← part f.type us f.offset
                (fun _ => ForInStep.yield PUnit.unit) <$> Instr.checkKey em n f.type v : Sem (ForInStep PUnit))).run P w = .ok PUnit.unit w := by
          intro fl
          induction fl with
          | nil => intro acc _; rfl
          | cons f fl ih =>
            intro acc hg
            simp only [flatGo] at hg
            split at hg
            · rename_i hname
              rw [Bool.and_eq_true] at hname
              obtain ⟨hn1, hn2⟩ := hname
              have hn1' : f.name ≠ "_" := by simpa using hn1
              have hoff : f.offset = acc.length := by simpa using hn2
              split at hg
              · rename_i lf hlf
                split at hg
                · rename_i yf hyf
                  split at hg
                  · rename_i hsz
                    have hsz' : yf.size = lf.length := by simpa using hsz
                    have pre : ∀ (fl : List Field) (a b : List CK), flatGo P (flatKs P d) fl a = some b → a.length ≤ b.length := by
                      intro fl
                      induction fl with
                      | nil => intro a b h; simp only [flatGo, Option.some.injEq] at h; rw [h]; exact Nat.le_refl _
                      | cons g fl ih2 =>
                        intro a b h
                        simp only [flatGo] at h
                        split at h
                        · split at h
                          · split at h
                            · split at h
                              · have := ih2 _ _ h; simp at this; omega
                              · cases h
                            · cases h
                          · cases h
                        · cases h
                    have hacc := pre _ _ _ hg
                    rw [List.length_append] at hacc
                    obtain ⟨p, hp, he⟩ := check_part d f.type lf hlf n (by omega) hyf hsz' A us hus ul acc.length em (by omega)
                    simp only [List.forIn_cons, Sem.run_bind, if_neg hn1', hoff, hp, he, Result.andThen_ok, Sem.run_map]
                    exact ih _ hg
                  · cases hg
                · cases hg
              · cases hg
            · cases hg
        have hkey := key fs.toList [] h
        simp [Instr.checkKey, run_underlying hu, hd']
        rw [← Array.forIn_toList, hkey]
    · cases h

theorem check_sound {t : TypeId} {kk : KK} (hk : keyT P t = some kk) {k : AV} {u : Value} (hu : VR E k u) (hs : kk = .scal .int ∨ kk = .scal .bool ∨ kk = .scal .str ∨ ∃ ks l, kk = .agg ks ∧ k = .agg l ∧ l.length = ks.length) (em : Bool) :
    (Instr.checkKey em 10000 t u).run P w = .ok () w := by
  rw [show (10000 : Nat) = 9999 + 1 from rfl]
  generalize hn : (9999 : Nat) = n
  have hn8 : 8 ≤ n := by omega
  clear hn
  unfold keyT at hk
  split at hk
  · rename_i h; simp only [Instr.checkKey, Sem.run_bind, run_underlying h, Result.andThen_ok]; rfl
  · rename_i h; simp only [Instr.checkKey, Sem.run_bind, run_underlying h, Result.andThen_ok]; rfl
  · rename_i h; simp only [Instr.checkKey, Sem.run_bind, run_underlying h, Result.andThen_ok]; rfl
  · rename_i fs h
    split at hk
    · rename_i ks hks
      cases hk
      obtain ⟨ks', l, e1, rfl, hll⟩ : ∃ ks' l, KK.agg ks = .agg ks' ∧ k = .agg l ∧ l.length = ks'.length := by
        rcases hs with e | e | e | e
        · cases e
        · cases e
        · cases e
        · exact e
      cases e1
      simp only [VR] at hu
      obtain ⟨xs, rfl, hxs, l1⟩ := hu
      unfold flatT at hks
      rw [h] at hks
      simp only [] at hks
      split at hks
      · cases hks
      · split at hks
        · rename_i ks2 hk2
          split at hks
          · rename_i y hy
            split at hks
            · rename_i hsz
              cases hks
              have hsz' : y.size = ks.length := by simpa using hsz
              obtain ⟨v, h1, h2⟩ := check_part (w := w) 8 t ks hk2 (n + 1) (by omega) hy hsz' l xs hxs l1 0 em (by omega)
              obtain ⟨i, hi, hu', hsi, _, _⟩ := tyI_some hy
              have hag : isAggD y.d = true := by rw [h] at hu'; rw [← Option.some.inj hu']; rfl
              have hxz : xs.size = ks.length := by have := VRs_length hxs; simp only [Array.length_toList] at this; omega
              have e1 : (part t xs 0).run P w = .ok (.agg xs) w := by
                have : xs.extract 0 y.size = xs := by rw [hsz', ← hxz]; simp
                simp [part, run_agg hu', hag, run_size hi, hsi, this]
              rw [e1] at h1
              cases h1
              exact h2
            · cases hks
          · cases hks
        · cases hks
    · cases hk
  · cases hk

theorem keyT_of {t : TypeId} {c : CK} (h : keyT P t = some (.scal c)) : ∃ d, P.underlying t = some d ∧ c.of d := by
  unfold keyT at h
  split at h
  · rename_i hd; cases h; exact ⟨_, hd, rfl⟩
  · rename_i hd; cases h; exact ⟨_, hd, rfl⟩
  · rename_i hd; cases h; exact ⟨_, hd, _, rfl⟩
  · split at h <;> cases h
  · cases h

/-- Looking for a key, whatever its kind. -/
theorem find_sound {t : TypeId} {kk : KK} (hk : keyT P t = some kk) {k : AV} {u : Value} (hu : VR E k u) {es : List (AV × AV × Nat)} {fs : List MapEntry} {r : Option (Nat × AV)} (hm : MapRel E es fs) (h : findIn kk k es 0 = some r) :
    ∃ y, (Instr.findKey t u fs).run P w = .ok y w ∧ FoundR E r y := by
  cases kk with
  | scal c =>
    obtain ⟨d, hd, hc⟩ := keyT_of hk
    obtain ⟨y, hy, hr⟩ := findNow_sound hu hc es fs 0 r hm h
    exact ⟨y, by simp [Instr.findKey, run_underlying hd, hy], hr⟩
  | agg ks =>
    have hd : ∃ fs', P.underlying t = some (.struct fs') ∧ flatT P t = some ks := by
      unfold keyT at hk
      split at hk
      · cases hk
      · cases hk
      · cases hk
      · rename_i fs' hd
        split at hk
        · rename_i l hl; cases hk; exact ⟨fs', hd, hl⟩
        · cases hk
      · cases hk
    obtain ⟨fs', hd, hf⟩ := hd
    obtain ⟨y, hy, hr⟩ := findAsking_sound (w := w) hf hu es fs 0 r hm h
    have hnow : ∀ (fs : List MapEntry) (i : Nat), Instr.findNow (.struct fs') u fs i = (match fs with | [] => some none | _ => none) := by
      intro fs i
      cases fs with
      | nil => rfl
      | cons f fs =>
        have : Instr.sameNow (.struct fs') u f.key = none := by
          cases u <;> cases f.key <;> rfl
        simp [Instr.findNow, this]
    cases hfs : fs with
    | nil =>
      rw [hfs] at hy
      refine ⟨y, ?_, hr⟩
      simp only [Instr.findKey, Sem.run_bind, run_underlying hd, Result.andThen_ok, hnow]
      simpa [Instr.findAsking] using hy
    | cons f fl =>
      refine ⟨y, ?_, hr⟩
      simp only [Instr.findKey, Sem.run_bind, run_underlying hd, Result.andThen_ok, hnow]
      rw [← hfs]; exact hy
end
end Ct
