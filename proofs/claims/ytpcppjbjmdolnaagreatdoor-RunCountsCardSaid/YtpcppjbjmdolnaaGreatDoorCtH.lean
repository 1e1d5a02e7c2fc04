/- What only reckons or reads: all of it. -/
import Derived.Test.YtpcppjbjmdolnaaGreatDoorCtG
namespace Ct
open Go
section
variable {P : Program} {E : Env} {w : World} {H : Tr AO}

set_option maxHeartbeats 1000000 in
theorem eqv_sound {t : TypeId} {a b : AV} {u v : Value} {r : Bool} (hu : VR E a u) (hv : VR E b v) (h : eqv (eqT P t) a b = some r) (x y : Operand) (op : BinOp) (hop : op = .eql ∨ op = .neq) :
    (eqGuard op t x y u v).run P w = .ok () w ∧ (Op.equal t u v).run P w = .ok r w := by
  have hg : ∀ s : Sem Unit, s = pure () → s.run P w = .ok () w := fun s e => by rw [e]; rfl
  obtain ⟨n, hn, hn8⟩ : ∃ n, Op.maxDepth = n + 1 ∧ 8 ≤ n := ⟨9999, rfl, by omega⟩
  unfold Op.equal
  rw [hn]
  unfold eqT at h
  split at h
  · rename_i ht
    simp only [eqv] at h
    split at h
    · cases h
      simp only [VR] at hu hv; subst hu; subst hv
      exact ⟨hg _ (eqGuard_at_bool ..), run_equalIn_bool' w _ _ _ _ ht⟩
    · cases h
  · rename_i el ht
    simp only [eqv] at h
    split at h
    · cases h; simp only [VR] at hu hv; subst hu; subst hv
      exact ⟨hg _ (eqGuard_at_pointer ..), by simp [Op.equalIn, run_underlying ht]⟩
    · cases h; simp only [VR] at hu hv; subst hu; obtain ⟨_, _, rfl⟩ := hv
      exact ⟨hg _ (eqGuard_at_pointer ..), by simp [Op.equalIn, run_underlying ht]⟩
    · cases h; simp only [VR] at hu hv; subst hv; obtain ⟨_, _, rfl⟩ := hu
      exact ⟨hg _ (eqGuard_at_pointer ..), by simp [Op.equalIn, run_underlying ht]⟩
    · cases h
  · rename_i el ht
    simp only [eqv] at h
    split at h
    · cases h; simp only [VR] at hu hv; subst hu; subst hv
      exact ⟨hg _ (eqGuard_at_slice ..), by simp [Op.equalIn, run_underlying ht]⟩
    · cases h; simp only [VR] at hu hv; subst hu; obtain ⟨_, _, _, rfl, _⟩ := hv
      exact ⟨hg _ (eqGuard_at_slice ..), by simp [Op.equalIn, run_underlying ht]⟩
    · cases h; simp only [VR] at hu hv; subst hu; obtain ⟨_, _, _, rfl, _⟩ := hv
      exact ⟨hg _ (eqGuard_at_slice ..), by simp [Op.equalIn, run_underlying ht]⟩
    · cases h; simp only [VR] at hu hv; subst hu; obtain ⟨_, _, rfl⟩ := hv
      exact ⟨hg _ (eqGuard_at_slice ..), by simp [Op.equalIn, run_underlying ht]⟩
    · cases h; simp only [VR] at hu hv; subst hv; obtain ⟨_, _, _, rfl, _⟩ := hu
      exact ⟨hg _ (eqGuard_at_slice ..), by simp [Op.equalIn, run_underlying ht]⟩
    · cases h; simp only [VR] at hu hv; subst hv; obtain ⟨_, _, _, rfl, _⟩ := hu
      exact ⟨hg _ (eqGuard_at_slice ..), by simp [Op.equalIn, run_underlying ht]⟩
    · cases h; simp only [VR] at hu hv; subst hv; obtain ⟨_, _, rfl⟩ := hu
      exact ⟨hg _ (eqGuard_at_slice ..), by simp [Op.equalIn, run_underlying ht]⟩
    · cases h
  · rename_i k el ht
    simp only [eqv] at h
    split at h
    · cases h; simp only [VR] at hu hv; subst hu; subst hv
      exact ⟨hg _ (eqGuard_at_map ..), by simp [Op.equalIn, run_underlying ht]⟩
    · cases h; simp only [VR] at hu hv; subst hu; obtain ⟨_, _, rfl⟩ := hv
      exact ⟨hg _ (eqGuard_at_map ..), by simp [Op.equalIn, run_underlying ht]⟩
    · cases h; simp only [VR] at hu hv; subst hv; obtain ⟨_, _, rfl⟩ := hu
      exact ⟨hg _ (eqGuard_at_map ..), by simp [Op.equalIn, run_underlying ht]⟩
    · cases h
  · rename_i ht
    simp only [eqv] at h
    split at h
    · cases h; simp only [VR] at hu hv; subst hu; subst hv
      exact ⟨hg _ (eqGuard_at_nilFunc ..), by simp [Op.equalIn, run_underlying ht]⟩
    · cases h; simp only [VR] at hu hv; subst hu; obtain ⟨_, rfl, _⟩ := hv
      exact ⟨hg _ (eqGuard_at_nilFunc ..), by simp [Op.equalIn, run_underlying ht]⟩
    · cases h; simp only [VR] at hu hv; subst hv; obtain ⟨_, rfl, _⟩ := hu
      exact ⟨hg _ (eqGuard_at_func ..), by simp [Op.equalIn, run_underlying ht]⟩
    · cases h
  · rename_i ms ht
    simp only [eqv] at h
    split at h
    · split at h
      · rename_i hms
        cases h; simp only [VR] at hu hv; subst hu; subst hv
        refine ⟨?_, by simp [Op.equalIn, run_underlying ht]⟩
        have hms' : ms = #[] := by simpa using hms
        unfold eqGuard
        rcases hop with rfl | rfl
        · simp only []
          simp only [Sem.run_bind, Sem.run_ite, Sem.run_pure]
          split
          · rfl
          · rw [hn]
            simp [Op.eqGuardIn, run_underlying ht, hms']
        · simp only []
          simp only [Sem.run_bind, Sem.run_ite, Sem.run_pure]
          split
          · rfl
          · rw [hn]
            simp [Op.eqGuardIn, run_underlying ht, hms']
      · cases h
    · cases h; simp only [VR] at hu hv; subst hu; obtain ⟨_, rfl, _⟩ := hv
      exact ⟨hg _ (eqGuard_nil_iface ..), by simp [Op.equalIn, run_underlying ht]⟩
    · cases h; simp only [VR] at hu hv; subst hv; obtain ⟨_, rfl, _⟩ := hu
      exact ⟨hg _ (eqGuard_at_iface ..), by simp [Op.equalIn, run_underlying ht]⟩
    · cases h
  · rename_i fs ht
    split at h
    · rename_i ks hk
      simp only [eqv] at h
      split at h
      · simp only [VR] at hu hv
        obtain ⟨xs, rfl, hxs, l1⟩ := hu
        obtain ⟨ys, rfl, hys, m1⟩ := hv
        have := flatT_sound (w := w) hk hxs hys l1 m1 h (n + 1) (by omega)
        exact ⟨run_eqGuard_agg w op t x y xs ys this.2, this.1⟩
      · cases h
    · simp [eqv] at h
  · simp [eqv] at h

set_option maxHeartbeats 1000000 in
theorem eqv_bin {k : EqK} {a b : AV} {u v : Value} {r : Bool} (hu : VR E a u) (hv : VR E b v) (h : eqv k a b = some r) (t : TypeId) :
    binOp .eql t u v = (do pure (.bool (← Op.equal t u v))) ∧ binOp .neq t u v = (do pure (.bool (!(← Op.equal t u v)))) := by
  unfold eqv at h
  split at h
  all_goals (try (split at h))
  all_goals (try (cases h; done))
  all_goals
    simp only [VR] at hu hv
    (first | subst hu | (obtain ⟨_, rfl⟩ := hu) | (obtain ⟨_, _, rfl⟩ := hu) | (obtain ⟨_, rfl, _⟩ := hu) | (obtain ⟨_, _, _, rfl, _⟩ := hu))
    (first | subst hv | (obtain ⟨_, rfl⟩ := hv) | (obtain ⟨_, _, rfl⟩ := hv) | (obtain ⟨_, rfl, _⟩ := hv) | (obtain ⟨_, _, _, rfl, _⟩ := hv))
    exact ⟨rfl, rfl⟩

theorem guard_int (op : BinOp) (t : TypeId) (x y : Operand) (k : IntKind) (n : Int) (v : Value) (s : Sem Value) : ((do eqGuard op t x y (.int k n) v; s : Sem Value)).run P w = s.run P w := by
  rw [eqGuard_at_int]; rfl
theorem guard_str (op : BinOp) (t : TypeId) (x y : Operand) (b : ByteArray) (v : Value) (s : Sem Value) : ((do eqGuard op t x y (.string b) v; s : Sem Value)).run P w = s.run P w := by
  rw [eqGuard_at_string]; rfl

/-! ## What is compared, some of it symbolic -/
def concS (E : Env) : AV → AV
  | .sint k e => .int k (e.den E.ρ)
  | .sbool e => .bool (e.den E.ρ E.β)
  | a => a
def conc (E : Env) : AV → AV
  | .agg l => .agg (l.map (concS E))
  | a => concS E a

theorem concS_rel {a : AV} {v : Value} (h : VR E a v) : VR E (concS E a) v := by
  cases a <;> simp only [concS] <;> first | exact h | (simp only [VR] at h ⊢; exact h)
theorem concS_one (a : AV) : oneA (concS E a) = oneA a := by cases a <;> rfl
theorem concS_rels : ∀ {l : List AV} {vs : List Value}, VRs E l vs → VRs E (l.map (concS E)) vs
  | [], vs, h => h
  | a :: l, vs, h => by
    obtain ⟨u, us, rfl, h1, h2⟩ := VRs_inv h
    exact VRs_cons.2 ⟨concS_rel h1, concS_rels h2⟩
theorem conc_rel {a : AV} {v : Value} (h : VR E a v) : VR E (conc E a) v := by
  cases a with
  | agg l =>
    simp only [conc, VR] at h ⊢
    obtain ⟨cs, e, hl, h1⟩ := h
    refine ⟨cs, e, concS_rels hl, ?_⟩
    rw [List.all_map]
    simpa [Function.comp_def, concS_one] using h1
  | _ => exact concS_rel h

theorem siOf_conc {a : AV} {k : IntKind} {e : SI} (h : siOf a = some (k, e)) : concS E a = .int k (e.den E.ρ) := by
  cases a <;> simp only [siOf, Option.some.injEq, Prod.mk.injEq, reduceCtorEq] at h
  · obtain ⟨rfl, rfl⟩ := h; rfl
  · obtain ⟨rfl, rfl⟩ := h; rfl
theorem sbOf_conc {a : AV} {e : SB} (h : sbOf a = some e) : concS E a = .bool (e.den E.ρ E.β) := by
  cases a <;> simp only [sbOf, Option.some.injEq, reduceCtorEq] at h
  · subst h; rfl
  · subst h; rfl
theorem concS_str {a : AV} {b : AV} {q : Bool} (h : scalEq .str a b = some q) : concS E a = a ∧ concS E b = b := by
  unfold scalEq at h
  split at h <;> first | exact ⟨rfl, rfl⟩ | cases h

theorem ikBeq_self (k : IntKind) : ikBeq k k = true := by cases k <;> rfl

theorem cellsSym_sound : ∀ {ks : List CK} {as bs : List AV} {e : SB}, cellsSym ks as bs = some e → cellsEq ks (as.map (concS E)) (bs.map (concS E)) = some (e.den E.ρ E.β)
  | [], [], [], e, h => by simp only [cellsSym, Option.some.injEq] at h; subst h; rfl
  | c :: ks, a :: as, b :: bs, e, h => by
    simp only [cellsSym] at h
    split at h
    · cases h
    · rename_i r hr
      have ih := cellsSym_sound hr
      have fin : ∀ q : Bool, scalEq c (concS E a) (concS E b) = some q → cellsEq (c :: ks) ((a :: as).map (concS E)) ((b :: bs).map (concS E)) = some (q && r.den E.ρ E.β) := by
        intro q hq
        simp only [List.map_cons, cellsEq, hq, ih]
        cases q <;> rfl
      split at h
      · split at h
        · rename_i k x ha
          split at h
          · rename_i j y hb
            split at h
            · rename_i hk
              have := ikBeq_eq hk
              subst this
              cases h
              refine fin _ ?_
              rw [siOf_conc ha, siOf_conc hb]
              simp only [scalEq, ikBeq_self, SB.den, cmpI, ibeq_eq]
            · cases h
          · cases h
        · cases h
      · split at h
        · rename_i x ha
          split at h
          · rename_i y hb
            cases h
            refine fin _ ?_
            rw [sbOf_conc ha, sbOf_conc hb]
            rfl
          · cases h
        · cases h
      · split at h
        · rename_i q hq
          cases h
          refine fin q ?_
          obtain ⟨h1, h2⟩ := concS_str (E := E) hq
          rw [h1, h2]; exact hq
        · cases h
  | [], [], _ :: _, _, h => by simp [cellsSym] at h
  | [], _ :: _, _, _, h => by simp [cellsSym] at h
  | _ :: _, [], _, _, h => by simp [cellsSym] at h
  | _ :: _, _ :: _, [], _, h => by simp [cellsSym] at h

theorem eqvS_sound {k : EqK} {x y : AV} {e : SB} (h : eqvS k x y = some e) : eqv k (conc E x) (conc E y) = some (e.den E.ρ E.β) := by
  unfold eqvS at h
  split at h
  · split at h
    · rename_i a ha
      split at h
      · rename_i b hb
        cases h
        have h1 : conc E x = .bool (a.den E.ρ E.β) := by
          have := sbOf_conc (E := E) ha
          cases x <;> simp only [sbOf, reduceCtorEq] at ha <;> exact this
        have h2 : conc E y = .bool (b.den E.ρ E.β) := by
          have := sbOf_conc (E := E) hb
          cases y <;> simp only [sbOf, reduceCtorEq] at hb <;> exact this
        rw [h1, h2]; rfl
      · cases h
    · cases h
  · split at h
    · simp only [conc, eqv]
      exact cellsSym_sound h
    · cases h
  · cases h

theorem bin_sound {op : BinOp} {t : TypeId} {a b r : AV} {u v : Value} (hu : VR E a u) (hv : VR E b v) (x y : Operand) (h : evBin op (eqT P t) a b = some r) :
    ∃ z, ((do eqGuard op t x y u v; binOp op t u v : Sem Value)).run P w = .ok z w ∧ VR E r z := by
  have h0 := h
  unfold evBin at h
  split at h
  · -- int, int
    simp only [VR] at hu hv; subst hu; subst hv
    rw [guard_int]
    split at h
    · exact shiftI_sound t h
    · exact shiftI_sound t h
    · rename_i n1 n2
      split at h
      · rename_i hk
        have := ikBeq_eq hk
        subst this
        exact arith_sound t (fun e => n1 e) (fun e => n2 e) h
      · cases h
  · simp only [VR] at hu hv; subst hu; subst hv
    rw [guard_int]
    exact symOp_sound (a := _) (b := .lit _) t h
  · simp only [VR] at hu hv; subst hu; subst hv
    rw [guard_int]
    exact symOp_sound (a := .lit _) (b := _) t h
  · simp only [VR] at hu hv; subst hu; subst hv
    rw [guard_int]
    exact symOp_sound t h
  · -- strings
    simp only [VR] at hu hv
    obtain ⟨hx, rfl⟩ := hu
    obtain ⟨hy, rfl⟩ := hv
    rw [guard_str]
    exact str_sound hx hy t _ h0
  · have eqq : ∀ {a b : AV} {c : Bool}, VR E a u → VR E b v → eqv (eqT P t) a b = some c → ((do eqGuard .eql t x y u v; binOp .eql t u v : Sem Value)).run P w = .ok (.bool c) w := by
      intro a b c hu hv hc
      obtain ⟨h1, h2⟩ := eqv_sound (w := w) hu hv hc x y .eql (.inl rfl)
      obtain ⟨h3, _⟩ := eqv_bin hu hv hc t
      rw [Sem.run_bind, h1, Result.andThen_ok, h3, Sem.run_bind, h2]; rfl
    have neqq : ∀ {a b : AV} {c : Bool}, VR E a u → VR E b v → eqv (eqT P t) a b = some c → ((do eqGuard .neq t x y u v; binOp .neq t u v : Sem Value)).run P w = .ok (.bool !c) w := by
      intro a b c hu hv hc
      obtain ⟨h1, h2⟩ := eqv_sound (w := w) hu hv hc x y .neq (.inr rfl)
      obtain ⟨_, h3⟩ := eqv_bin hu hv hc t
      rw [Sem.run_bind, h1, Result.andThen_ok, h3, Sem.run_bind, h2]; rfl
    split at h
    · split at h
      · rename_i c hc
        cases h
        exact ⟨.bool c, eqq hu hv hc, by simp only [VR]⟩
      · split at h
        · rename_i e he
          cases h
          exact ⟨_, eqq (conc_rel hu) (conc_rel hv) (eqvS_sound he), by simp only [VR]⟩
        · cases h
    · split at h
      · rename_i c hc
        cases h
        exact ⟨.bool !c, neqq hu hv hc, by simp only [VR]⟩
      · split at h
        · rename_i e he
          cases h
          exact ⟨_, neqq (conc_rel hu) (conc_rel hv) (eqvS_sound he), by simp only [VR, SB.den]⟩
        · cases h
    · cases h

/-! ## Operands -/
theorem compO_const {a : Act} {v : Value} {y : AOp} (h : compO (.const v) = some y) (T : Tr AV) : VR E (evA T y) (a.eval (.const v)) := by
  unfold compO at h
  split at h
  · rename_i hx; cases hx
  · rename_i v' hx
    cases hx
    split at h
    · rename_i av hav
      cases h
      exact ofVal_sound E 4 _ _ hav
    · cases h
  · rename_i hx; cases hx
  · rename_i hx; cases hx

/-- The operands of an operation read alike. -/
def OpsR (E : Env) (T : Tr AV) (a : Act) (l : List Operand) : Prop := ∀ x ∈ l, ∀ y, compO x = some y → VR E (evA T y) (a.eval x)

theorem OpsR.head {T : Tr AV} {a : Act} {x : Operand} {l : List Operand} (h : OpsR E T a (x :: l)) {y : AOp} (hy : compO x = some y) : VR E (evA T y) (a.eval x) := h x (by simp) y hy
theorem OpsR.tail {T : Tr AV} {a : Act} {x : Operand} {l : List Operand} (h : OpsR E T a (x :: l)) : OpsR E T a l := fun z hz => h z (by simp [hz])
theorem OpsR.sub {T : Tr AV} {a : Act} {l m : List Operand} (h : OpsR E T a l) (s : ∀ x ∈ m, x ∈ l) : OpsR E T a m := fun z hz => h z (s z hz)

theorem compOs_sound {T : Tr AV} {a : Act} : ∀ {l : List Operand} {ys : List AOp}, compOs l = some ys → OpsR E T a l → VRs E (evAs T ys) (l.map a.eval)
  | [], ys, h, _ => by simp only [compOs, Option.some.injEq] at h; subst h; exact VRs_nil
  | x :: l, ys, h, hr => by
    simp only [compOs] at h
    split at h
    · rename_i y hy
      split at h
      · rename_i ys' hys
        cases h
        exact VRs_cons.2 ⟨hr.head hy, compOs_sound hys hr.tail⟩
      · cases h
    · cases h

theorem c1_some {x : Operand} {f : AOp → AI} {T : Tr AV} {H : Tr AO} {r : AV} (h : evPR T H (c1 x f) = some r) : ∃ y, compO x = some y ∧ evPR T H (f y) = some r := by
  unfold c1 at h
  split at h
  · rename_i y hy; exact ⟨y, hy, h⟩
  · cases h
theorem c2_some {x x2 : Operand} {f : AOp → AOp → AI} {T : Tr AV} {H : Tr AO} {r : AV} (h : evPR T H (c2 x x2 f) = some r) : ∃ y y2, compO x = some y ∧ compO x2 = some y2 ∧ evPR T H (f y y2) = some r := by
  unfold c2 at h
  split at h
  · rename_i y hy
    split at h
    · rename_i y2 hy2; exact ⟨y, y2, hy, hy2, h⟩
    · cases h
  · cases h
theorem cs_some {l : List Operand} {f : List AOp → AI} {T : Tr AV} {H : Tr AO} {r : AV} (h : evPR T H (cs l f) = some r) : ∃ ys, compOs l = some ys ∧ evPR T H (f ys) = some r := by
  unfold cs at h
  split at h
  · rename_i y hy; exact ⟨y, hy, h⟩
  · cases h

/-! ## Parts laid over cells -/
theorem overlay_length : ∀ (cs : List AV) (n : Nat) (vs : List AV), (overlay cs n vs).length = cs.length
  | [], 0, [] => rfl
  | [], 0, _ :: _ => rfl
  | [], _ + 1, [] => rfl
  | [], _ + 1, _ :: _ => rfl
  | c :: cs, 0, [] => rfl
  | c :: cs, n + 1, [] => rfl
  | c :: cs, 0, v :: vs => by simp [overlay, overlay_length cs 0 vs]
  | c :: cs, n + 1, v :: vs => by simp [overlay, overlay_length cs n (v :: vs)]

theorem overlay_get : ∀ (cs : List AV) (n : Nat) (vs : List AV) (j : Nat), n + vs.length ≤ cs.length →
    (overlay cs n vs)[j]? = if n ≤ j ∧ j < n + vs.length then vs[j - n]? else cs[j]?
  | cs, n, [], j, _ => by
    rw [if_neg (by simp)]
    cases cs <;> cases n <;> rfl
  | [], n, v :: vs, j, h => by simp at h
  | c :: cs, 0, v :: vs, j, h => by
    simp only [overlay]
    cases j with
    | zero => simp
    | succ j =>
      rw [List.getElem?_cons_succ, overlay_get cs 0 vs j (by simp at h ⊢; omega)]
      by_cases hj : j < vs.length
      · rw [if_pos (by omega), if_pos (by simp; omega)]; simp
      · rw [if_neg (by omega), if_neg (by simp; omega)]; simp
  | c :: cs, n + 1, v :: vs, j, h => by
    simp only [overlay]
    cases j with
    | zero => rw [if_neg (by omega)]; simp
    | succ j =>
      rw [List.getElem?_cons_succ, overlay_get cs n (v :: vs) j (by simp at h ⊢; omega)]
      by_cases hj : n ≤ j ∧ j < n + (v :: vs).length
      · rw [if_pos hj, if_pos (by omega)]; congr 1; omega
      · rw [if_neg hj, if_neg (by omega)]; simp

/-- What the model's 'fill' lays. -/
theorem foldl_set_get (off : Nat) : ∀ (vs : List Value) (k : Nat) (cs : Array Value) (j : Nat), off + k + vs.length ≤ cs.size →
    ((vs.zipIdx k).foldl (fun cs (c, j) => cs.setIfInBounds (off + j) c) cs)[j]? = if off + k ≤ j ∧ j < off + k + vs.length then vs[j - (off + k)]? else cs[j]?
  | [], k, cs, j, _ => by rw [if_neg (by simp)]; rfl
  | v :: vs, k, cs, j, h => by
    simp only [List.zipIdx_cons, List.foldl_cons]
    simp only [List.length_cons] at h
    rw [foldl_set_get off vs (k + 1) _ j (by simp; omega)]
    by_cases hj : off + (k + 1) ≤ j ∧ j < off + (k + 1) + vs.length
    · rw [if_pos hj, if_pos (by simp; omega)]
      rw [show j - (off + k) = (j - (off + (k + 1))) + 1 from by omega, List.getElem?_cons_succ]
    · rw [if_neg hj]
      by_cases he : j = off + k
      · subst he
        rw [if_pos (by simp)]
        simp [Array.getElem?_setIfInBounds]
        omega
      · rw [if_neg (by simp; omega), Array.getElem?_setIfInBounds, if_neg (by omega)]

theorem foldl_set_size (off : Nat) : ∀ (l : List (Value × Nat)) (cs : Array Value), (l.foldl (fun cs (c, j) => cs.setIfInBounds (off + j) c) cs).size = cs.size
  | [], _ => rfl
  | x :: l, cs => by simp only [List.foldl_cons]; rw [foldl_set_size off l]; simp

theorem overlay_rel {cs : List AV} {xs : Array Value} {vs : List AV} {us : List Value} {off : Nat} (hc : VRs E cs xs.toList) (hv : VRs E vs us) (hle : off + vs.length ≤ cs.length) :
    VRs E (overlay cs off vs) ((us.zipIdx).foldl (fun cs (c, j) => cs.setIfInBounds (off + j) c) xs).toList := by
  have hxs : xs.size = cs.length := by have := VRs_length hc; simpa using this
  have hus : us.length = vs.length := VRs_length hv
  refine VRs_of_get (by simp [foldl_set_size, overlay_length, hxs]) fun j a v ha hv' => ?_
  rw [overlay_get cs off vs j hle] at ha
  rw [Array.getElem?_toList, foldl_set_get off us 0 xs j (by omega)] at hv'
  simp only [Nat.add_zero] at hv'
  by_cases hj : off ≤ j ∧ j < off + vs.length
  · rw [if_pos hj] at ha
    rw [if_pos (by omega)] at hv'
    obtain ⟨v', h1, h2⟩ := VRs_get hv _ _ ha
    rw [hv'] at h1; cases h1; exact h2
  · rw [if_neg hj] at ha
    rw [if_neg (by omega)] at hv'
    obtain ⟨v', h1, h2⟩ := VRs_get hc _ _ ha
    rw [Array.getElem?_toList, hv'] at h1; cases h1; exact h2

theorem overlay_one {cs vs : List AV} {off : Nat} (h1 : cs.all oneA = true) (h2 : vs.all oneA = true) (hle : off + vs.length ≤ cs.length) : (overlay cs off vs).all oneA = true := by
  rw [List.all_eq_true] at *
  intro x hx
  obtain ⟨j, hj⟩ := List.mem_iff_getElem?.1 hx
  rw [overlay_get cs off vs j hle] at hj
  split at hj
  · exact h2 x (List.mem_of_getElem? hj)
  · exact h1 x (List.mem_of_getElem? hj)

/-- 'fill', with the places that the evaluator was given. -/
theorem fill_sound {T : Tr AV} {a : Act} (place : Nat → Option (Nat × Nat)) : ∀ (ps : List (Nat × Operand)) (qs : List (Nat × Nat × AOp)),
    qs.length = ps.length → (∀ (i : Nat) (p : Nat × Operand) (q : Nat × Nat × AOp), ps[i]? = some p → qs[i]? = some q → place p.1 = some (q.1, q.2.1) ∧ compO p.2 = some q.2.2) → OpsR E T a (ps.map (·.2)) →
    ∀ (cs out : List AV) (xs : Array Value), VRs E cs xs.toList → cs.all oneA = true → fillZ T cs qs = some out →
    ∃ ys, Instr.fill place xs (ps.map fun (i, x) => (i, a.eval x)) = some ys ∧ VRs E out ys.toList ∧ out.all oneA = true
  | [], [], _, _, _, cs, out, xs, hc, h1, h => by
    simp only [fillZ, Option.some.injEq] at h
    subst h
    exact ⟨xs, rfl, hc, h1⟩
  | [], _ :: _, hl, _, _, _, _, _, _, _, _ => by simp at hl
  | _ :: _, [], hl, _, _, _, _, _, _, _, _ => by simp at hl
  | p :: ps, q :: qs, hl, hp, ho, cs, out, xs, hc, h1, h => by
    obtain ⟨i, x⟩ := p
    obtain ⟨off, size, y⟩ := q
    obtain ⟨hpl, hco⟩ := hp 0 _ _ rfl rfl
    simp only at hpl hco
    simp only [fillZ] at h
    split at h
    · rename_i vs hvs
      split at h
      · rename_i hcond
        rw [band, nbeq, nble] at hcond
        simp only [nadd] at hcond
        have hx : VR E (evA T y) (a.eval x) := ho x (by simp) y hco
        obtain ⟨hcells, hone⟩ := VR_cells hx hvs
        have hlen := VRs_length hcells
        have hxs : xs.size = cs.length := by have := VRs_length hc; simpa using this
        obtain ⟨ys, h2, h3, h4⟩ := fill_sound place ps qs (by simpa using hl) (fun i p q h1 h2 => hp (i + 1) p q (by simpa using h1) (by simpa using h2)) (ho.sub (by intro z hz; simp at hz ⊢; exact .inr hz)) _ out _
          (overlay_rel hc hcells (by omega)) (overlay_one h1 hone (by omega)) h
        refine ⟨ys, ?_, h3, h4⟩
        simp only [List.map_cons, Instr.fill, hpl]
        have e2 : ¬ ((a.eval x).cells.size ≠ size ∨ off + (a.eval x).cells.size > xs.size) := by
          have : (a.eval x).cells.size = vs.length := by simpa using hlen
          omega
        rw [if_neg (by simp only [Bool.or_eq_true, decide_eq_true_eq]; exact e2), ← h2, ← Array.foldl_toList, Array.toList_zipIdx]
      · cases h
    · cases h
end
end Ct
