/- Equality. -/
import Derived.Test.YtpcppjbjmdolnaaGreatDoorCtF
namespace Ct
open Go
section
variable {P : Program} {E : Env} {w : World} {H : Tr AO}

def CK.of : CK → TypeDesc → Prop
  | .int, d => ∃ k, d = .int k
  | .bool, d => d = .bool
  | .str, d => d = .string

theorem scal_sound {c : CK} {a b : AV} {u v : Value} {r : Bool} (hu : VR E a u) (hv : VR E b v) (h : scalEq c a b = some r) {t : TypeId} {d : TypeDesc} (ht : P.underlying t = some d) (hd : c.of d) (n : Nat) :
    (Op.equalIn (n + 1) t u v).run P w = .ok r w := by
  unfold scalEq at h
  split at h
  · split at h
    · rename_i hk
      have := ikBeq_eq hk
      subst this
      cases h
      obtain ⟨k', rfl⟩ := hd
      simp only [VR] at hu hv
      subst hu; subst hv
      rw [run_equalIn_int w n t _ k' _ _ ht, ibeq_eq]
    · cases h
  · cases h
    cases hd
    simp only [VR] at hu hv
    subst hu; subst hv
    exact run_equalIn_bool' w n t _ _ ht
  · cases h
    cases hd
    simp only [VR] at hu hv
    obtain ⟨hx, rfl⟩ := hu
    obtain ⟨hy, rfl⟩ := hv
    rw [run_equalIn_string w n t _ _ ht, strEq hx hy]
  · cases h

theorem cellsEq_len : ∀ {ks : List CK} {l m : List AV} {r : Bool}, cellsEq ks l m = some r → l.length = ks.length ∧ m.length = ks.length
  | [], [], [], _, _ => ⟨rfl, rfl⟩
  | [], [], _ :: _, _, h => by simp [cellsEq] at h
  | [], _ :: _, _, _, h => by simp [cellsEq] at h
  | _ :: _, [], _, _, h => by simp [cellsEq] at h
  | _ :: _, _ :: _, [], _, h => by simp [cellsEq] at h
  | c :: ks, a :: l, b :: m, r, h => by
    simp only [cellsEq] at h
    split at h
    · have := cellsEq_len h; simp [this.1, this.2]
    · split at h
      · rename_i x hx; have := cellsEq_len hx; simp [this.1, this.2]
      · cases h
    · cases h

theorem cellsEq_append : ∀ (k1 : List CK) {k2 : List CK} {l m : List AV} {r : Bool}, cellsEq (k1 ++ k2) l m = some r →
    ∃ r1 r2, cellsEq k1 (l.take k1.length) (m.take k1.length) = some r1 ∧ cellsEq k2 (l.drop k1.length) (m.drop k1.length) = some r2 ∧ r = (r1 && r2)
  | [], k2, l, m, r, h => ⟨true, r, by simp [cellsEq], by simpa using h, by simp⟩
  | c :: k1, k2, [], m, r, h => by simp [cellsEq] at h
  | c :: k1, k2, a :: l, [], r, h => by simp [cellsEq] at h
  | c :: k1, k2, a :: l, b :: m, r, h => by
    simp only [List.cons_append, cellsEq] at h
    split at h
    · rename_i hs
      obtain ⟨r1, r2, h1, h2, h3⟩ := cellsEq_append k1 h
      exact ⟨r1, r2, by simp [cellsEq, hs, h1], by simpa using h2, h3⟩
    · rename_i hs
      split at h
      · rename_i x hx
        cases h
        obtain ⟨r1, r2, h1, h2, h3⟩ := cellsEq_append k1 hx
        exact ⟨false, r2, by simp [cellsEq, hs, h1], by simpa using h2, by simp⟩
      · cases h
    · cases h

/-- A part of an aggregate. -/
theorem part_sound {t : TypeId} {y : TI} (ht : tyI P t = some y) {l : List AV} {cs : Array Value} (hr : VRs E l cs.toList) (h1 : l.all oneA = true) {off : Nat} {r : AV}
    (h : partOf (isAggD y.d) y.size off l = some r) : ∃ u, (part t cs off).run P w = .ok u w ∧ VR E r u := by
  obtain ⟨i, hi, hu, hs, _, _⟩ := tyI_some ht
  unfold partOf at h
  cases ha : isAggD y.d with
  | true =>
    rw [ha] at h
    cases h
    refine ⟨.agg (cs.extract off (off + y.size)), ?_, ?_⟩
    · simp [part, run_agg hu, ha, run_size hi, hs]
    · simp only [VR]
      refine ⟨_, rfl, ?_, ?_⟩
      · have e : (cs.extract off (off + y.size)).toList = (cs.toList.drop off).take y.size := by
          simp [List.extract]
        rw [e]
        exact VRs_take _ (VRs_drop _ hr)
      · rw [List.all_eq_true] at h1 ⊢
        intro x hx
        exact h1 x (List.mem_of_mem_drop (List.mem_of_mem_take hx))
  | false =>
    rw [ha] at h
    simp only [] at h
    obtain ⟨v, hv, hr'⟩ := VRs_get hr off r h
    refine ⟨v, ?_, hr'⟩
    have hv' : cs[off]? = some v := by rw [← Array.getElem?_toList]; exact hv
    simp [part, run_agg hu, ha, hv']

/-- One cell's value: the value itself, or a struct's one. -/
theorem flat_sound : ∀ (d : Nat) (t : TypeId) (ks : List CK), flatKs P d t = some ks → ∀ (n : Nat), d ≤ n → ∀ {y : TI}, tyI P t = some y → y.size = ks.length →
    ∀ (l m : List AV) (xs ys : Array Value), VRs E l xs.toList → VRs E m ys.toList → l.all oneA = true → m.all oneA = true →
    ∀ (off : Nat) (r : Bool), cellsEq ks ((l.drop off).take ks.length) ((m.drop off).take ks.length) = some r →
    ∃ u v, (part t xs off).run P w = .ok u w ∧ (part t ys off).run P w = .ok v w ∧ (Op.equalIn n t u v).run P w = .ok r w
  | 0, _, _, h, _, _, _, _, _, _, _, _, _, _, _, _, _, _, _, _ => by simp [flatKs] at h
  | d + 1, t, ks, h, n, hn, y, ht, hy, l, m, xs, ys, hl, hm, l1, m1, off, r, hc => by
    obtain ⟨n, rfl⟩ : ∃ k, n = k + 1 := ⟨n - 1, by omega⟩
    obtain ⟨i, hi, hu, hs, _, _⟩ := tyI_some ht
    have one : ∀ c, ks = [c] → c.of y.d → isAggD y.d = false → ∃ u v, (part t xs off).run P w = .ok u w ∧ (part t ys off).run P w = .ok v w ∧ (Op.equalIn (n + 1) t u v).run P w = .ok r w := by
      intro c hk hd hag
      subst hk
      simp only [List.length_singleton] at hc
      cases hl' : l.drop off with
      | nil => rw [hl'] at hc; simp [cellsEq] at hc
      | cons a l' =>
        cases hm' : m.drop off with
        | nil => rw [hl', hm'] at hc; simp [cellsEq] at hc
        | cons b m' =>
          rw [hl', hm'] at hc
          have ha : l[off]? = some a := by
            have := congrArg (fun z => z[0]?) hl'; simpa using this
          have hb : m[off]? = some b := by
            have := congrArg (fun z => z[0]?) hm'; simpa using this
          obtain ⟨u, hu1, hu2⟩ := part_sound (w := w) ht hl l1 (off := off) (r := a) (by simp [partOf, hag, ha])
          obtain ⟨v, hv1, hv2⟩ := part_sound (w := w) ht hm m1 (off := off) (r := b) (by simp [partOf, hag, hb])
          refine ⟨u, v, hu1, hv1, ?_⟩
          have hsc : scalEq c a b = some r := by
            simp only [List.take_succ_cons, List.take_zero, cellsEq] at hc
            split at hc
            · rename_i h'; cases hc; exact h'
            · rename_i h'; cases hc; exact h'
            · cases hc
          exact scal_sound hu2 hv2 hsc hu hd n
    unfold flatKs at h
    split at h
    · rename_i hd; cases h; rw [hu] at hd; have hd := Option.some.inj hd; exact one _ rfl hd (by rw [hd]; rfl)
    · rename_i hd; cases h; rw [hu] at hd; have hd := Option.some.inj hd; exact one _ rfl hd (by rw [hd]; rfl)
    · rename_i hd; cases h; rw [hu] at hd; have hd := Option.some.inj hd; exact one _ rfl ⟨_, hd⟩ (by rw [hd]; rfl)
    · rename_i fs hd
      split at h
      · cases h
      · rename_i hsi
        rw [hu] at hd
        have hd' : y.d = .struct fs := Option.some.inj hd
        have hag : isAggD y.d = true := by rw [hd']; rfl
        obtain ⟨u, hu1, hu2⟩ := part_sound (w := w) ht hl l1 (off := off) (r := .agg ((l.drop off).take y.size)) (by simp [partOf, hag])
        obtain ⟨v, hv1, hv2⟩ := part_sound (w := w) ht hm m1 (off := off) (r := .agg ((m.drop off).take y.size)) (by simp [partOf, hag])
        refine ⟨u, v, hu1, hv1, ?_⟩
        simp only [VR] at hu2 hv2
        obtain ⟨us, rfl, hus, ul⟩ := hu2
        obtain ⟨vs, rfl, hvs, vl⟩ := hv2
        rw [hy] at hus hvs ul vl
        have hfo : P.fieldsOf t = fs := by simp [Program.fieldsOf, hu, hd']
        rw [run_equalIn_struct w n t us vs (by rw [hfo, hu, hd']) hsi, hfo]
        -- field by field
        generalize (l.drop off).take ks.length = A at hus ul hc
        generalize (m.drop off).take ks.length = B at hvs vl hc
        have key : ∀ (fl : List Field) (acc : List CK), flatGo P (flatKs P d) fl acc = some ks → ∀ r', cellsEq (ks.drop acc.length) (A.drop acc.length) (B.drop acc.length) = some r' →
            (Op.eqFields n us vs fl).run P w = .ok r' w := by
          intro fl
          induction fl with
          | nil =>
            intro acc hg r' hr
            simp only [flatGo, Option.some.injEq] at hg
            subst hg
            simp only [List.drop_length] at hr
            have := cellsEq_len hr
            have ea : A.drop acc.length = [] := List.eq_nil_of_length_eq_zero (by simpa using this.1)
            have eb : B.drop acc.length = [] := List.eq_nil_of_length_eq_zero (by simpa using this.2)
            rw [ea, eb] at hr
            simp only [cellsEq, Option.some.injEq] at hr
            subst hr
            rfl
          | cons f fl ih =>
            intro acc hg r' hr
            simp only [flatGo] at hg
            split at hg
            · rename_i hname
              rw [Bool.and_eq_true] at hname
              obtain ⟨hn1, hn2⟩ := hname
              have hn1' : f.name ≠ "_" := by simpa using hn1
              have hoff : f.offset = acc.length := by simpa using hn2
              split at hg
              · rename_i lf hlf
                split at hg
                · rename_i yf hyf
                  split at hg
                  · rename_i hsz
                    have hsz' : yf.size = lf.length := by simpa using hsz
                    -- 'ks' goes on with what the field has
                    have pre : ∀ (fl : List Field) (a b : List CK), flatGo P (flatKs P d) fl a = some b → ∃ c, b = a ++ c := by
                      intro fl
                      induction fl with
                      | nil => intro a b h; simp only [flatGo, Option.some.injEq] at h; exact ⟨[], by simp [h]⟩
                      | cons g fl ih2 =>
                        intro a b h
                        simp only [flatGo] at h
                        split at h
                        · split at h
                          · split at h
                            · split at h
                              · obtain ⟨c, hc⟩ := ih2 _ _ h; exact ⟨_, by rw [hc, List.append_assoc]⟩
                              · cases h
                            · cases h
                          · cases h
                        · cases h
                    obtain ⟨tail, htail⟩ := pre _ _ _ hg
                    have hdrop : ks.drop acc.length = lf ++ tail := by rw [htail, List.append_assoc, List.drop_left]
                    rw [hdrop] at hr
                    obtain ⟨r1, r2, h1, h2, h3⟩ := cellsEq_append lf hr
                    obtain ⟨p, q, hp, hq, he⟩ := flat_sound d f.type lf hlf n (by omega) hyf hsz' A B us vs hus hvs ul vl acc.length r1 h1
                    have hrest := ih (acc ++ lf) hg r2 (by
                      rw [List.length_append, ← List.drop_drop, ← List.drop_drop, ← List.drop_drop, hdrop, List.drop_left]
                      exact h2)
                    simp only [Op.eqFields, if_pos hn1', Sem.run_bind, hoff, hp, hq, he, Result.andThen_ok]
                    cases r1 with
                    | true => simp only [Bool.not_true, Bool.false_eq_true, if_false]; rw [hrest, h3]; simp
                    | false => rw [h3]; simp
                  · cases hg
                · cases hg
              · cases hg
            · cases hg
        have hA : A.length = ks.length ∧ B.length = ks.length := cellsEq_len hc
        exact key fs.toList [] h r (by simpa using hc)
    · cases h

theorem flatT_sound {t : TypeId} {ks : List CK} (h : flatT P t = some ks) {l m : List AV} {xs ys : Array Value} {r : Bool} (hl : VRs E l xs.toList) (hm : VRs E m ys.toList) (l1 : l.all oneA = true) (m1 : m.all oneA = true)
    (hc : cellsEq ks l m = some r) (n : Nat) (hn : 8 ≤ n) : (Op.equalIn n t (.agg xs) (.agg ys)).run P w = .ok r w ∧ P.eqGuardType P.depth t = false := by
  unfold flatT at h
  split at h
  · rename_i fs hu
    split at h
    · cases h
    · rename_i hg
      split at h
      · rename_i ks' hk
        split at h
        · rename_i y hy
          split at h
          · rename_i hsz
            cases h
            have hsz' : y.size = ks.length := by simpa using hsz
            refine ⟨?_, hg⟩
            have hlen := cellsEq_len hc
            have hxs : xs.size = ks.length := by have := VRs_length hl; simp only [Array.length_toList] at this; omega
            have hys : ys.size = ks.length := by have := VRs_length hm; simp only [Array.length_toList] at this; omega
            obtain ⟨u, v, h1, h2, h3⟩ := flat_sound (w := w) 8 t ks hk n hn hy hsz' l m xs ys hl hm l1 m1 0 r (by
              rw [List.drop_zero, List.drop_zero, List.take_of_length_le (by omega), List.take_of_length_le (by omega)]; exact hc)
            obtain ⟨i, hi, hu', hs, _, _⟩ := tyI_some hy
            have hag : isAggD y.d = true := by rw [hu] at hu'; rw [← Option.some.inj hu']; rfl
            have e1 : ∀ zs : Array Value, zs.size = ks.length → (part t zs 0).run P w = .ok (.agg zs) w := by
              intro zs hz
              have : zs.extract 0 y.size = zs := by rw [hsz', ← hz]; simp
              simp [part, run_agg hu', hag, run_size hi, hs, this]
            rw [e1 xs hxs] at h1
            rw [e1 ys hys] at h2
            cases h1; cases h2
            exact h3
          · cases h
        · cases h
      · cases h
  · cases h
end
end Ct
