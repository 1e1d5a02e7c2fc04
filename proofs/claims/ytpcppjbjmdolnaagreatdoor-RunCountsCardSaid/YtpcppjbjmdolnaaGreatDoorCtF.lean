/- What only reckons or reads, operation by operation. -/
import Derived.Test.YtpcppjbjmdolnaaGreatDoorCtE
namespace Ct
open Go
section
variable {P : Program} {E : Env} {w : World} {H : Tr AO}

/-! ## Signs -/
theorem wrap_mod (k : IntKind) (m : Nat) : k.wrap ((m % 2 ^ k.bits : Nat) : Int) = k.wrap (m : Int) := by
  simp only [IntKind.wrap]
  have : ((m % 2 ^ k.bits : Nat) : Int) % (2 : Int) ^ k.bits = (m : Int) % (2 : Int) ^ k.bits := by
    have h2 : ((2 : Int) ^ k.bits) = ((2 ^ k.bits : Nat) : Int) := by simp
    rw [h2]
    rw [← Int.natCast_emod, Nat.mod_mod, Int.natCast_emod]
  rw [this]

theorem ofInt_toNat (n x : Nat) : (BitVec.ofInt n (x : Int)).toNat = x % 2 ^ n := by
  simp

theorem bits_sound {op : BinOp} {k : IntKind} {a b n : Int} (h : bits op k a b = some n) : (Op.intBits op k a b).run P w = .ok (.int k n) w := by
  unfold bits at h
  cases op <;> simp only [] at h
  case and =>
    split at h
    · cases h
      simp only [Op.intBits, Sem.run_pure, wrapF_eq, Int.ofNat_eq_natCast]
      rw [BitVec.toNat_and, ofInt_toNat, ofInt_toNat, ← Nat.and_mod_two_pow, wrap_mod]; rfl
    · cases h; simp [Op.intBits]
  case or =>
    split at h
    · cases h
      simp only [Op.intBits, Sem.run_pure, wrapF_eq, Int.ofNat_eq_natCast]
      rw [BitVec.toNat_or, ofInt_toNat, ofInt_toNat, ← Nat.or_mod_two_pow, wrap_mod]; rfl
    · cases h; simp [Op.intBits]
  case xor =>
    split at h
    · cases h
      simp only [Op.intBits, Sem.run_pure, wrapF_eq, Int.ofNat_eq_natCast]
      rw [BitVec.toNat_xor, ofInt_toNat, ofInt_toNat, ← Nat.xor_mod_two_pow, wrap_mod]; rfl
    · cases h; simp [Op.intBits]
  all_goals cases h

theorem bnot (c : Bool) : c.not = !c := rfl

theorem arith_sound {op : BinOp} {k : IntKind} {a b : Int} {r : AV} (t : TypeId) (h1 : op ≠ .shl) (h2 : op ≠ .shr) (h : arith op k a b = some r) :
    ∃ z, (binOp op t (.int k a) (.int k b)).run P w = .ok z w ∧ VR E r z := by
  unfold arith at h
  cases op <;> simp only [] at h
  case add => cases h; exact ⟨_, by rw [binOp_add]; rfl, by simp only [VR, wrapF_eq]; rfl⟩
  case sub => cases h; exact ⟨_, by rw [binOp_sub]; rfl, by simp only [VR, wrapF_eq]; rfl⟩
  case mul => cases h; exact ⟨_, by rw [binOp_mul]; rfl, by simp only [VR, wrapF_eq]; rfl⟩
  case eql => cases h; exact ⟨_, by rw [binOp_eql]; rfl, by simp only [VR, ibeq_eq]⟩
  case neq => cases h; exact ⟨_, by rw [binOp_neq]; rfl, by simp only [VR, ibeq_eq]; rfl⟩
  case lss => cases h; exact ⟨_, by rw [binOp_lss]; rfl, by simp only [VR, ilt_eq]⟩
  case leq => cases h; exact ⟨_, by rw [binOp_leq]; rfl, by simp only [VR, ible_eq]⟩
  case gtr => cases h; exact ⟨_, by rw [binOp_gtr]; rfl, by simp only [VR, ilt_eq]⟩
  case geq => cases h; exact ⟨_, by rw [binOp_geq]; rfl, by simp only [VR, ible_eq]⟩
  case quo =>
    split at h
    · cases h
    · rename_i hb
      rw [ibeq_eq] at hb
      have hb' : ¬ b = 0 := by simpa using hb
      cases h
      exact ⟨_, by rw [binOp_quo]; simp only [Op.intDiv, if_neg hb']; rfl, by simp only [VR, wrapF_eq]⟩
  case rem =>
    split at h
    · cases h
    · rename_i hb
      rw [ibeq_eq] at hb
      have hb' : ¬ b = 0 := by simpa using hb
      cases h
      exact ⟨_, by rw [binOp_rem]; simp only [Op.intDiv, if_neg hb']; rfl, by simp only [VR]⟩
  case shl => exact absurd rfl h1
  case shr => exact absurd rfl h2
  case and =>
    split at h
    · rename_i n hn; cases h; exact ⟨_, by rw [binOp_and]; exact bits_sound hn, by simp only [VR]⟩
    · cases h
  case or =>
    split at h
    · rename_i n hn; cases h; exact ⟨_, by rw [binOp_or]; exact bits_sound hn, by simp only [VR]⟩
    · cases h
  case xor =>
    split at h
    · rename_i n hn; cases h; exact ⟨_, by rw [binOp_xor]; exact bits_sound hn, by simp only [VR]⟩
    · cases h
  case andNot =>
    split at h
    · rename_i n hn; simp [bits] at hn
    · cases h

theorem shiftI_sound {op : BinOp} {k j : IntKind} {a b : Int} {r : AV} (t : TypeId) (h : shiftI op k a b = some r) :
    ∃ z, (binOp op t (.int k a) (.int j b)).run P w = .ok z w ∧ VR E r z := by
  unfold shiftI at h
  cases b with
  | negSucc m => cases h
  | ofNat n =>
    simp only [] at h
    split at h
    · cases h
    · have hn : ¬ ((Int.ofNat n) < 0) := by simp
      cases op <;> simp only [] at h
      case shl =>
        cases h
        refine ⟨_, by rw [binOp_shl]; simp only [Op.shift, if_neg hn]; rfl, ?_⟩
        simp only [VR, wrapF_eq]
        simp
      case shr =>
        cases h
        refine ⟨_, by rw [binOp_shr]; simp only [Op.shift, if_neg hn]; rfl, ?_⟩
        simp only [VR]
        simp
      all_goals cases h

theorem cmpI_sound {op : BinOp} {c : CmpOp} (hc : cmpOf op = some c) (t : TypeId) (k : IntKind) (a b : Int) :
    (binOp op t (.int k a) (.int k b)).run P w = .ok (.bool (cmpI c a b)) w := by
  cases op <;> simp only [cmpOf] at hc <;> cases hc
  · rw [binOp_eql]; rfl
  · rw [binOp_neq]; rfl
  · rw [binOp_lss]; rfl
  · rw [binOp_leq]; rfl
  · rw [binOp_gtr]; rfl
  · rw [binOp_geq]; rfl

/-- A quotient, a rest, where the divisor is not 0. -/
theorem div_sound {o : XOp} {op : BinOp} {k : IntKind} {a b : Int} (t : TypeId) (hb : b ≠ 0) (ho : (op = .quo ∧ o = .quo) ∨ (op = .rem ∧ o = .rem)) :
    (binOp op t (.int k a) (.int k b)).run P w = .ok (.int k (o.den k a b)) w := by
  rcases ho with ⟨rfl, rfl⟩ | ⟨rfl, rfl⟩
  · rw [binOp_quo]; simp only [Op.intDiv, if_neg hb]; rfl
  · rw [binOp_rem]; simp only [Op.intDiv, if_neg hb]; rfl

theorem symI_sound {op : BinOp} {k : IntKind} {a b : SI} {r : AV} (t : TypeId) (h : symI op k a b = some r) :
    ∃ z, (binOp op t (.int k (a.den E.ρ)) (.int k (b.den E.ρ))).run P w = .ok z w ∧ VR E r z := by
  unfold symI at h
  split at h
  · rename_i c hc
    cases h
    exact ⟨_, cmpI_sound hc t k _ _, by simp only [VR, SB.den]⟩
  · cases op <;> simp only [] at h
    case add => cases h; exact ⟨_, by rw [binOp_add]; rfl, by simp only [VR, SI.den]⟩
    case sub => cases h; exact ⟨_, by rw [binOp_sub]; rfl, by simp only [VR, SI.den]⟩
    case mul => cases h; exact ⟨_, by rw [binOp_mul]; rfl, by simp only [VR, SI.den]⟩
    case and => cases h; exact ⟨_, by rw [binOp_and]; rfl, by simp only [VR, SI.den, XOp.den]⟩
    case or => cases h; exact ⟨_, by rw [binOp_or]; rfl, by simp only [VR, SI.den, XOp.den]⟩
    case xor => cases h; exact ⟨_, by rw [binOp_xor]; rfl, by simp only [VR, SI.den, XOp.den]⟩
    case quo =>
      split at h
      · rename_i n
        split at h
        · cases h
        · rename_i hb
          rw [ibeq_eq] at hb
          have hb' : ¬ n = 0 := by simpa using hb
          cases h
          exact ⟨_, div_sound (o := .quo) t hb' (.inl ⟨rfl, rfl⟩), by simp only [VR, SI.den]⟩
      · cases h
    case rem =>
      split at h
      · rename_i n
        split at h
        · cases h
        · rename_i hb
          rw [ibeq_eq] at hb
          have hb' : ¬ n = 0 := by simpa using hb
          cases h
          exact ⟨_, div_sound (o := .rem) t hb' (.inr ⟨rfl, rfl⟩), by simp only [VR, SI.den]⟩
      · cases h
    all_goals cases h

theorem loK_eq (k : IntKind) : loK k = if sgn k then -((topN k : Int) + 1) else 0 := by
  unfold loK; cases sgn k <;> rfl
theorem wrap_bounds (k : IntKind) (n : Int) : loK k ≤ k.wrap n ∧ k.wrap n ≤ (topN k : Int) := by
  cases k <;> (refine ⟨?_, ?_⟩ <;> simp [loK, sgn, topN, IntKind.wrap, IntKind.bits, IntKind.signed] <;> omega)
theorem inK_sound {k : IntKind} {l h l' h' n : Int} (h1 : l ≤ n) (h2 : n ≤ h) (he : inK k l h = some (l', h')) : l' ≤ k.wrap n ∧ k.wrap n ≤ h' := by
  unfold inK at he
  split at he
  · rename_i hc
    rw [band, ible_eq, ible_eq] at hc
    simp only [decide_eq_true_eq] at hc
    cases he
    rw [wrap_in k n (by rw [← loK_eq]; omega) (by omega)]
    exact ⟨h1, h2⟩
  · cases he; exact wrap_bounds k n

theorem rng_sound (ρ : Nat → Int) : ∀ (e : SI) {l h : Int}, rng e = some (l, h) → l ≤ e.den ρ ∧ e.den ρ ≤ h
  | .var i, l, h, he => by simp [rng] at he
  | .lit n, l, h, he => by simp only [rng, Option.some.injEq, Prod.mk.injEq] at he; obtain ⟨rfl, rfl⟩ := he; exact ⟨Int.le_refl _, Int.le_refl _⟩
  | .add k a b, l, h, he => by
    simp only [rng] at he
    simp only [SI.den]
    split at he
    · rename_i l1 h1 ha
      obtain ⟨g1, g2⟩ := rng_sound ρ a ha
      split at he
      · rename_i l2 h2 hb
        obtain ⟨g3, g4⟩ := rng_sound ρ b hb
        exact inK_sound (by omega) (by omega) he
      · cases he; exact wrap_bounds _ _
    · cases he; exact wrap_bounds _ _
  | .sub k a b, l, h, he => by
    simp only [rng] at he
    simp only [SI.den]
    split at he
    · rename_i l1 h1 ha
      obtain ⟨g1, g2⟩ := rng_sound ρ a ha
      split at he
      · rename_i l2 h2 hb
        obtain ⟨g3, g4⟩ := rng_sound ρ b hb
        exact inK_sound (by omega) (by omega) he
      · cases he; exact wrap_bounds _ _
    · cases he; exact wrap_bounds _ _
  | .mul k a b, l, h, he => by simp only [rng] at he; cases he; simp only [SI.den]; exact wrap_bounds _ _
  | .conv k a, l, h, he => by
    simp only [rng] at he
    simp only [SI.den]
    split at he
    · rename_i l1 h1 ha
      obtain ⟨g1, g2⟩ := rng_sound ρ a ha
      exact inK_sound g1 g2 he
    · cases he; exact wrap_bounds _ _
  | .bin o k a b, l, h, he => by simp [rng] at he

theorem symSh_sound {op : BinOp} {k j : IntKind} {a b : SI} {r : AV} (t : TypeId) (h : symSh op k a b = some r) :
    ∃ z, (binOp op t (.int k (a.den E.ρ)) (.int j (b.den E.ρ))).run P w = .ok z w ∧ VR E r z := by
  unfold symSh at h
  split at h
  · rename_i l hi hr
    split at h
    · rename_i hl
      rw [ible_eq] at hl
      simp only [decide_eq_true_eq] at hl
      have hb : ¬ (b.den E.ρ) < 0 := by have := (rng_sound E.ρ b hr).1; omega
      cases op <;> simp only [] at h
      case shl =>
        cases h
        refine ⟨_, by rw [binOp_shl]; simp only [Op.shift, if_neg hb]; rfl, ?_⟩
        simp only [VR, SI.den, XOp.den]
        simp
      case shr =>
        cases h
        refine ⟨_, by rw [binOp_shr]; simp only [Op.shift, if_neg hb]; rfl, ?_⟩
        simp only [VR, SI.den, XOp.den]
        simp
      all_goals cases h
    · cases h
  · cases h

theorem symOp_sound {op : BinOp} {k j : IntKind} {a b : SI} {r : AV} (t : TypeId) (h : symOp op k j a b = some r) :
    ∃ z, (binOp op t (.int k (a.den E.ρ)) (.int j (b.den E.ρ))).run P w = .ok z w ∧ VR E r z := by
  unfold symOp at h
  split at h
  · exact symSh_sound t h
  · exact symSh_sound t h
  · split at h
    · rename_i hk
      have := ikBeq_eq hk
      subst this
      exact symI_sound t h
    · cases h

theorem bytesLess_flip : ∀ x y : List UInt8, Op.bytesLess y x = !(Op.bytesLess x y || x == y)
  | [], [] => rfl
  | [], b :: y => by simp [Op.bytesLess]
  | a :: x, [] => by simp [Op.bytesLess]
  | a :: x, b :: y => by
    have ih := bytesLess_flip x y
    simp only [Op.bytesLess]
    by_cases h1 : a < b
    · have h2 : ¬ b < a := by rw [UInt8.lt_iff_toNat_lt] at h1 ⊢; omega
      have h3 : ¬ b = a := fun e => by subst e; rw [UInt8.lt_iff_toNat_lt] at h1; omega
      simp [h1, h2, h3]
    · by_cases h2 : b < a
      · have h3 : ¬ a = b := fun e => by subst e; exact h1 h2
        simp [h1, h2, h3]
      · have h3 : a = b := by
          apply UInt8.toNat_inj.1
          rw [UInt8.lt_iff_toNat_lt] at h1 h2; omega
        subst h3
        simp only [h1, decide_false, Bool.false_or, beq_self_eq_true, Bool.true_and, ih]
        simp

theorem toList_strV (n x : Nat) : (strV n x).toList = strL n x := by
  rw [ByteArray.toList_eq, strV_toList]

theorem strEq {n x m y : Nat} (hx : x < 256 ^ n) (hy : y < 256 ^ m) : ((strV n x).toList == (strV m y).toList) = (Nat.beq n m).and (Nat.beq x y) := by
  rw [toList_strV, toList_strV, Bool.eq_iff_iff, beq_iff_eq, band, nbeq, nbeq]
  exact ⟨strL_inj hx hy, fun ⟨h1, h2⟩ => by rw [h1, h2]⟩

theorem str_sound {op : BinOp} {n x m y : Nat} {r : AV} (hx : x < 256 ^ n) (hy : y < 256 ^ m) (t : TypeId) (k : EqK) (h : evBin op k (.str n x) (.str m y) = some r) :
    ∃ z, (binOp op t (.string (strV n x)) (.string (strV m y))).run P w = .ok z w ∧ VR E r z := by
  have e : binOp op t (.string (strV n x)) (.string (strV m y)) = Op.stringOp op (strV n x) (strV m y) := by cases op <;> rfl
  rw [e]
  unfold evBin at h
  cases op <;> simp only [] at h
  case add =>
    split at h
    · rename_i hle
      cases h
      have hle' : n + m ≤ 4611686018427387904 := nble.1 hle
      refine ⟨_, run_string_add_sum w _ _ (by rw [strV_size, strV_size]; omega), ?_⟩
      simp only [VR]
      refine ⟨str_append_lt hx hy, ?_⟩
      show Value.string (ByteArray.mk (strL n x).toArray ++ ByteArray.mk (strL m y).toArray) = _
      rw [ByteArray.mk_append_mk, strL_append n x m y hx]
      rfl
    · cases h
  case eql => cases h; exact ⟨_, rfl, by simp only [VR, ← strEq hx hy]⟩
  case neq => cases h; exact ⟨_, rfl, by simp only [VR, ← strEq hx hy]⟩
  case lss => cases h; exact ⟨_, rfl, by simp only [VR, strLt_eq, toList_strV]⟩
  case geq => cases h; exact ⟨_, rfl, by simp only [VR, strLt_eq, toList_strV]⟩
  case gtr =>
    cases h
    refine ⟨_, rfl, ?_⟩
    simp only [VR, strLt_eq, toList_strV]
    rw [bytesLess_flip (strL n x) (strL m y)]
  case leq =>
    cases h
    refine ⟨_, rfl, ?_⟩
    simp only [VR, strLt_eq, toList_strV]
    rw [bytesLess_flip (strL n x) (strL m y)]; simp
  all_goals cases h
end
end Ct
