/- What only reckons or reads: the evaluator's answer is the model's. -/
import Derived.Test.YtpcppjbjmdolnaaGreatDoorCtD
import Derived.Laws.Strings
import Derived.Laws.Concat
import Derived.Laws.StructEq
namespace Ct
open Go

/-! ## Strings -/
theorem u8_ofNat (b : UInt8) : UInt8.ofNat b.toNat = b := by simp

theorem strOf_cons (b : UInt8) (l : List UInt8) : strOf (b :: l) = b.toNat + 256 * strOf l := rfl
theorem strOf_nil : strOf [] = 0 := rfl

theorem strL_strOf : ∀ (l : List UInt8), strL l.length (strOf l) = l
  | [] => rfl
  | b :: l => by
    have hb : b.toNat < 256 := b.toNat_lt
    simp only [List.length_cons, strL, strOf_cons]
    rw [show (b.toNat + 256 * strOf l) % 256 = b.toNat from by omega, show (b.toNat + 256 * strOf l) / 256 = strOf l from by omega, strL_strOf l, u8_ofNat]

theorem strOf_lt : ∀ (l : List UInt8), strOf l < 256 ^ l.length
  | [] => by simp [strOf_nil]
  | b :: l => by
    have hb : b.toNat < 256 := b.toNat_lt
    have := strOf_lt l
    simp only [List.length_cons, strOf_cons, Nat.pow_succ]
    omega

theorem strOf_strL : ∀ (n x : Nat), x < 256 ^ n → strOf (strL n x) = x
  | 0, x, h => by simp at h; subst h; rfl
  | n + 1, x, h => by
    have h' : x / 256 < 256 ^ n := by rw [Nat.pow_succ] at h; omega
    simp only [strL, strOf_cons]
    rw [strOf_strL n _ h']
    have : (UInt8.ofNat (x % 256)).toNat = x % 256 := by simp
    rw [this]; omega

theorem strL_inj {n x m y : Nat} (hx : x < 256 ^ n) (hy : y < 256 ^ m) (h : strL n x = strL m y) : n = m ∧ x = y := by
  have h1 : n = m := by have := congrArg List.length h; simpa [strL_length] using this
  subst h1
  exact ⟨rfl, by rw [← strOf_strL n x hx, ← strOf_strL n y hy, h]⟩

theorem strV_toList (n x : Nat) : (strV n x).data.toList = strL n x := by simp [strV]

theorem strV_of (s : ByteArray) : s = strV s.data.toList.length (strOf s.data.toList) := by
  obtain ⟨⟨l⟩⟩ := s
  show (⟨⟨l⟩⟩ : ByteArray) = ⟨(strL l.length (strOf l)).toArray⟩
  rw [strL_strOf]

theorem strL_get : ∀ (n x i : Nat), i < n → (strL n x)[i]? = some (UInt8.ofNat (x / 256 ^ i % 256))
  | 0, _, i, h => by omega
  | n + 1, x, 0, _ => by simp [strL]
  | n + 1, x, i + 1, h => by
    simp only [strL, List.getElem?_cons_succ]
    rw [strL_get n _ i (by omega), Nat.div_div_eq_div_mul, Nat.pow_succ, Nat.mul_comm]

theorem strL_drop : ∀ (l n x : Nat), l ≤ n → (strL n x).drop l = strL (n - l) (x / 256 ^ l)
  | 0, n, x, _ => by simp
  | l + 1, 0, x, h => by omega
  | l + 1, n + 1, x, h => by
    simp only [strL, List.drop_succ_cons]
    rw [strL_drop l n _ (by omega), Nat.div_div_eq_div_mul, Nat.pow_succ, Nat.mul_comm (256 ^ l)]
    congr 1; omega

theorem strL_mod : ∀ (k x : Nat), strL k (x % 256 ^ k) = strL k x
  | 0, _ => rfl
  | k + 1, x => by
    simp only [strL]
    have h1 : x % 256 ^ (k + 1) % 256 = x % 256 := Nat.mod_mod_of_dvd _ ⟨256 ^ k, by rw [Nat.pow_succ, Nat.mul_comm]⟩
    have h2 : x % 256 ^ (k + 1) / 256 = x / 256 % 256 ^ k := by
      rw [Nat.pow_succ, Nat.mul_comm, Nat.mod_mul_right_div_self]
    rw [h1, h2, strL_mod k]

theorem strL_take : ∀ (k n x : Nat), k ≤ n → (strL n x).take k = strL k x
  | 0, _, _, _ => by simp [strL]
  | k + 1, 0, _, h => by omega
  | k + 1, n + 1, x, h => by
    simp only [strL, List.take_succ_cons]
    rw [strL_take k n _ (by omega)]

theorem strL_cut (n x l k : Nat) (h : l + k ≤ n) : ((strL n x).drop l).take k = strL k (strCut x l k) := by
  rw [strL_drop l n x (by omega), strL_take k _ _ (by omega)]
  show strL k _ = strL k (x / 256 ^ l % 256 ^ k)
  rw [strL_mod]

theorem strL_append : ∀ (n x m y : Nat), x < 256 ^ n → strL n x ++ strL m y = strL (n + m) (x + 256 ^ n * y)
  | 0, x, m, y, h => by simp at h; subst h; simp [strL]
  | n + 1, x, m, y, h => by
    have h' : x / 256 < 256 ^ n := by rw [Nat.pow_succ] at h; omega
    rw [show n + 1 + m = (n + m) + 1 from by omega]
    simp only [strL, List.cons_append]
    have e : 256 ^ (n + 1) * y = 256 * (256 ^ n * y) := by rw [Nat.pow_succ, Nat.mul_comm (256 ^ n) 256, Nat.mul_assoc]
    rw [strL_append n _ m y h', e]
    have e1 : (x + 256 * (256 ^ n * y)) % 256 = x % 256 := by omega
    have e2 : (x + 256 * (256 ^ n * y)) / 256 = x / 256 + 256 ^ n * y := by omega
    rw [e1, e2]

theorem strCut_lt (x l k : Nat) : strCut x l k < 256 ^ k := Nat.mod_lt _ (Nat.pow_pos (by omega))

theorem str_append_lt {n x m y : Nat} (hx : x < 256 ^ n) (hy : y < 256 ^ m) : x + 256 ^ n * y < 256 ^ (n + m) := by
  rw [Nat.pow_add]
  have : 256 ^ n * y + 256 ^ n ≤ 256 ^ n * 256 ^ m := by
    have h1 : y + 1 ≤ 256 ^ m := hy
    have h2 := Nat.mul_le_mul_left (256 ^ n) h1
    rw [Nat.mul_add, Nat.mul_one] at h2
    exact h2
  omega

theorem strLt_eq : ∀ (n x m y : Nat), strLt n x m y = Op.bytesLess (strL n x) (strL m y)
  | n, x, 0, y => by cases n <;> simp [strLt, strL, Op.bytesLess]
  | 0, x, m + 1, y => by simp [strLt, strL, Op.bytesLess]
  | n + 1, x, m + 1, y => by
    have ha : x % 256 < 256 := Nat.mod_lt _ (by omega)
    have hb : y % 256 < 256 := Nat.mod_lt _ (by omega)
    have e1 : (UInt8.ofNat (x % 256) < UInt8.ofNat (y % 256)) ↔ x % 256 < y % 256 := by
      rw [UInt8.lt_iff_toNat_lt]; simp
    have e2 : (UInt8.ofNat (x % 256) = UInt8.ofNat (y % 256)) ↔ x % 256 = y % 256 := by
      constructor
      · intro h
        have := congrArg UInt8.toNat h
        simpa using this
      · intro h; rw [h]
    simp only [strLt, strL, Op.bytesLess]
    cases h1 : Nat.blt (Nat.mod x 256) (Nat.mod y 256) with
    | true =>
      have : x % 256 < y % 256 := nblt.1 h1
      simp [e1.2 this]
    | false =>
      have h1' : ¬ x % 256 < y % 256 := by have := nbltF.1 h1; simp only [nmod] at this; omega
      cases h2 : Nat.beq (Nat.mod x 256) (Nat.mod y 256) with
      | true =>
        have h3 : x % 256 = y % 256 := nbeq.1 h2
        simp only []
        rw [strLt_eq n _ m _]
        simp [h3, ndiv]
      | false =>
        have h3 : ¬ x % 256 = y % 256 := nbeqF.1 h2
        have h4 : ¬ UInt8.ofNat (x % 256) = UInt8.ofNat (y % 256) := fun h => h3 (e2.1 h)
        have h5 : ¬ UInt8.ofNat (x % 256) < UInt8.ofNat (y % 256) := fun h => h1' (e1.1 h)
        simp [h4, h5]

/-! ## Numbers -/
theorem ible_eq (a b : Int) : ible a b = decide (a ≤ b) := by
  cases a <;> cases b <;> simp only [ible]
  · rename_i a b
    rw [Bool.eq_iff_iff, nble, decide_eq_true_iff]; constructor <;> intro h <;> (have := h; simp only [Int.ofNat_eq_natCast] at *; omega)
  · rename_i a b
    rw [Bool.eq_iff_iff]; simp <;> omega
  · rename_i a b
    rw [Bool.eq_iff_iff]; simp <;> omega
  · rename_i a b
    rw [Bool.eq_iff_iff, nble, decide_eq_true_iff]; omega

theorem ibeq_eq (a b : Int) : ibeq a b = (a == b) := by
  rw [Bool.eq_iff_iff, beq_iff_eq]
  cases a <;> cases b <;> simp only [ibeq]
  · rw [nbeq]; simp only [Int.ofNat_eq_natCast]; omega
  · simp
  · simp
  · rw [nbeq]; omega

theorem ilt_eq (a b : Int) : ilt a b = decide (a < b) := by
  simp only [ilt, ible_eq]
  rw [Bool.eq_iff_iff]
  have : ∀ c : Bool, c.not = true ↔ ¬ c = true := by intro c; cases c <;> simp
  rw [this, decide_eq_true_iff, decide_eq_true_iff]; omega

theorem wrap_in (k : IntKind) (n : Int) (h1 : (if sgn k then -((topN k : Int) + 1) else 0) ≤ n) (h2 : n ≤ (topN k : Int)) : k.wrap n = n := by
  cases k <;> simp [sgn, topN] at h1 h2 <;> simp [IntKind.wrap, IntKind.bits, IntKind.signed] <;> omega

theorem wrapF_eq (k : IntKind) (n : Int) : wrapF k n = k.wrap n := by
  unfold wrapF
  cases n with
  | ofNat m =>
    simp only []
    cases h : Nat.ble m (topN k) with
    | false => rfl
    | true =>
      have hm : m ≤ topN k := nble.1 h
      symm
      refine wrap_in k _ ?_ (by simp only [Int.ofNat_eq_natCast]; omega)
      split <;> simp only [Int.ofNat_eq_natCast] <;> omega
  | negSucc m =>
    simp only []
    cases hs : sgn k with
    | false => rfl
    | true =>
      simp only []
      cases h : Nat.ble m (topN k) with
      | false => rfl
      | true =>
        have hm : m ≤ topN k := nble.1 h
        symm
        refine wrap_in k _ ?_ (by omega)
        rw [if_pos hs]; omega

theorem ikBeq_eq {a b : IntKind} (h : ikBeq a b = true) : a = b := by
  cases a <;> cases b <;> first | rfl | cases h

/-! ## Types -/
section
variable {P : Program}
theorem tyI_some {t : TypeId} {x : TI} (h : tyI P t = some x) :
    ∃ i, P.info? t = some i ∧ P.underlying t = some x.d ∧ i.size = x.size ∧ i.bytes = x.bytes ∧ x.zero = i.zero.bind (ofVal 4) := by
  unfold tyI at h
  split at h
  · rename_i i hi
    split at h
    · rename_i d hd
      cases h
      exact ⟨i, hi, hd, rfl, rfl, rfl⟩
    · cases h
  · cases h

theorem run_size {t : TypeId} {i : TypeInfo} (h : P.info? t = some i) (w : World) : (Go.sizeOf t).run P w = .ok i.size w := by simp [Go.sizeOf, typeInfo, h]
theorem run_agg {t : TypeId} {d : TypeDesc} (h : P.underlying t = some d) (w : World) : (isAgg t).run P w = .ok (isAggD d) w := by
  unfold isAgg
  rw [Sem.run_bind, run_underlying h]
  cases d <;> rfl
theorem run_zero {t : TypeId} {i : TypeInfo} {z : Value} (h : P.info? t = some i) (hz : i.zero = some z) (w : World) : (zeroValue t).run P w = .ok z w := by simp [zeroValue, typeInfo, h, hz]
end

theorem ofVal_mapM {E : Env} {fuel : Nat} (ih : ∀ v a, ofVal fuel v = some a → VR E a v) : ∀ (l : List Value) (as : List AV), l.mapM (ofVal fuel) = some as → VRs E as l
  | [], as, h => by simp at h; subst h; exact VRs_nil
  | v :: l, as, h => by
    rw [List.mapM_cons] at h
    simp only [Option.bind_eq_bind, Option.pure_def, Option.bind_eq_some_iff, Option.some.injEq] at h
    obtain ⟨a, ha, as', has, rfl⟩ := h
    exact VRs_cons.2 ⟨ih v a ha, ofVal_mapM ih l as' has⟩

theorem ofVal_sound (E : Env) : ∀ (fuel : Nat) (v : Value) (a : AV), ofVal fuel v = some a → VR E a v
  | 0, _, _, h => by simp [ofVal] at h
  | fuel + 1, v, a, h => by
    have ih := ofVal_sound E fuel
    unfold ofVal at h
    split at h
    · cases h; simp [VR]
    · cases h; simp [VR]
    · cases h
      simp only [VR]
      exact ⟨strOf_lt _, by rw [← strV_of]⟩
    · cases h; simp [VR]
    · cases h; simp [VR]
    · cases h; simp [VR]
    · cases h; simp [VR]
    · cases h; simp only [VR]; exact ⟨#[], rfl, VRs_nil⟩
    · cases h; simp [VR]
    · split at h
      · rename_i u hu
        cases h
        simp only [VR]
        exact ⟨_, rfl, ih _ _ hu⟩
      · cases h
    · split at h
      · rename_i l hl
        split at h
        · rename_i h1
          cases h
          simp only [VR]
          exact ⟨_, rfl, ofVal_mapM ih _ _ hl, h1⟩
        · cases h
      · cases h
    · split at h
      · rename_i l hl
        cases h
        simp only [VR]
        exact ⟨_, rfl, ofVal_mapM ih _ _ hl⟩
      · cases h
    · cases h

/-! ## Memory, read -/
section
variable {P : Program} {E : Env} {w : World} {H : Tr AO}

theorem addr_add (b o n : Nat) : Addr.add ⟨b, o, none⟩ n = ⟨b, o + n, none⟩ := Addr.add_lit b o n

theorem cell_at {b o : Nat} {c : Array Value} {ty : TypeId} {fr : Nat × Nat} (h : w.heap[b]? = some (.cells c ty fr)) : w.cell? ⟨b, o, none⟩ = c[o]? := by
  simp [World.cell?, h]

/-- A known cell. -/
theorem ld_one {i o b : Nat} (hH : HR E H w) (hb : E.m i = some b) {m g e : Nat} {t : Tr AV} {r : AV} (hi : H.get i = some (.cells m g e t)) (ho : o < m) (hr : t.get o = some r) :
    ∃ u, w.cell? ⟨b, o, none⟩ = some u ∧ VR E r u ∧ oneA r = true := by
  obtain ⟨x, hx, c, ty, lo, hi', rfl, hn, _, hc, _⟩ := hH.obj i _ b hi hb
  obtain ⟨a, v, h1, h2, h3, h4⟩ := hc o ho
  rw [hr] at h1
  cases h1
  exact ⟨v, by rw [cell_at hx]; exact h2, h3, h4⟩

/-- Known cells in a row. -/
theorem ld_row {i o b n : Nat} (hH : HR E H w) (hb : E.m i = some b) {l : List AV} (h : ldCells H i o n = some l) :
    ∃ us : List Value, us.length = n ∧ VRs E l us ∧ l.all oneA = true ∧ ∀ j u, us[j]? = some u → w.cell? (Addr.add ⟨b, o, none⟩ j) = some u := by
  unfold ldCells at h
  split at h
  · rename_i m g e t hi
    split at h
    · rename_i hle
      have hle' : o + n ≤ m := nble.1 hle
      obtain ⟨hlen, hget⟩ := Tr.getAll_some n t o l h
      obtain ⟨x, hx, c, ty, lo, hi', rfl, hn, _, hc, _⟩ := hH.obj i _ b hi hb
      have key : ∀ j, j < n → ∃ a v, l[j]? = some a ∧ c[o + j]? = some v ∧ VR E a v ∧ oneA a = true := by
        intro j hj
        obtain ⟨a, v, h1, h2, h3, h4⟩ := hc (o + j) (by omega)
        exact ⟨a, v, by rw [← hget j hj]; exact h1, h2, h3, h4⟩
      refine ⟨(List.range n).map fun j => (c[o + j]?).getD undef, by simp, VRs_of_get (by simp [hlen]) ?_, ?_, ?_⟩
      · intro j a v ha hv
        have hj : j < n := by
          rcases Nat.lt_or_ge j n with h | h
          · exact h
          · rw [List.getElem?_eq_none (by rw [hlen]; exact h)] at ha; cases ha
        obtain ⟨a', v', h1, h2, h3, _⟩ := key j hj
        rw [ha] at h1; cases h1
        simp [hj, h2] at hv
        subst hv; exact h3
      · rw [List.all_eq_true]
        intro a ha
        obtain ⟨j, hj⟩ := List.mem_iff_getElem?.1 ha
        have hjn : j < n := by
          rcases Nat.lt_or_ge j n with h | h
          · exact h
          · rw [List.getElem?_eq_none (by rw [hlen]; exact h)] at hj; cases hj
        obtain ⟨a', v', h1, _, _, h4⟩ := key j hjn
        rw [hj] at h1; cases h1; exact h4
      · intro j u hu
        have hj : j < n := by
          rcases Nat.lt_or_ge j n with h | h
          · exact h
          · rw [List.getElem?_eq_none (by simpa using h)] at hu; cases hu
        obtain ⟨a', v', _, h2, _, _⟩ := key j hj
        simp [hj, h2] at hu
        subst hu
        rw [addr_add, cell_at hx]; exact h2
    · cases h
  · cases h

theorem ld_sound {t : TypeId} {y : TI} (ht : tyI P t = some y) (hH : HR E H w) {p : AV} {v : Value} (hp : VR E p v) {r : AV} (h : ld H (isAggD y.d) y.size p = some r) :
    ∃ u, (Instr.loadAt t v).run P w = .ok u w ∧ VR E r u := by
  obtain ⟨i, hi, hu, hs, _, _⟩ := tyI_some ht
  unfold ld at h
  cases p with
  | ptr j o =>
    simp only [VR] at hp
    obtain ⟨b, hb, rfl⟩ := hp
    simp only [] at h
    cases ha : isAggD y.d with
    | true =>
      rw [ha] at h
      simp only [] at h
      split at h
      · rename_i l hl
        cases h
        obtain ⟨us, h1, h2, h3, h4⟩ := ld_row hH hb hl
        refine ⟨.agg us.toArray, ?_, by simp only [VR]; exact ⟨_, rfl, by simpa using h2, h3⟩⟩
        simp only [Instr.loadAt, Instr.sureAddr, loadVar, Sem.run_bind, Sem.run_pure, Result.andThen_ok, run_agg hu, ha, if_true, run_size hi]
        rw [hs, ← h1]
        simp only [Result.andThen_ok, run_loadCells_list (P := P) w _ us h4]
      · cases h
    | false =>
      rw [ha] at h
      simp only [] at h
      split at h
      · rename_i m g e t' hj
        split at h
        · rename_i hlt
          obtain ⟨u, h1, h2, _⟩ := ld_one hH hb hj (nblt.1 hlt) h
          refine ⟨u, ?_, h2⟩
          simp [Instr.loadAt, Instr.sureAddr, loadVar, run_agg hu, ha, h1]
        · cases h
      · cases h
  | _ => cases h
end
end Ct
