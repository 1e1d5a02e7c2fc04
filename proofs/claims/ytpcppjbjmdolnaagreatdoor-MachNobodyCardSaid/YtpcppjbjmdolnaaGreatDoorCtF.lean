/- What only reckons or reads, operation by operation. -/
import Derived.Test.YtpcppjbjmdolnaaGreatDoorCtE
namespace Ct
open Go
section
variable {P : Program} {E : Env} {w : World} {H : Tr AO}

/-! ## Signs -/
theorem wrap_mod (k : IntKind) (m : Nat) : k.wrap ((m % 2 ^ k.bits : Nat) : Int) = k.wrap (m : Int) := by
  simp only [IntKind.wrap]
  have : ((m % 2 ^ k.bits : Nat) : Int) % (2 : Int) ^ k.bits = (m : Int) % (2 : Int) ^ k.bits := by
    have h2 : ((2 : Int) ^ k.bits) = ((2 ^ k.bits : Nat) : Int) := by simp
    rw [h2]
    rw [← Int.natCast_emod, Nat.mod_mod, Int.natCast_emod]
  rw [this]

theorem ofInt_toNat (n x : Nat) : (BitVec.ofInt n (x : Int)).toNat = x % 2 ^ n := by
  simp

theorem bits_sound {op : BinOp} {k : IntKind} {a b n : Int} (h : bits op k a b = some n) : (Op.intBits op k a b).run P w = .ok (.int k n) w := by
  unfold bits at h
  cases op <;> simp only [] at h
  case and =>
    split at h
    · cases h
      simp only [Op.intBits, Sem.run_pure, wrapF_eq, Int.ofNat_eq_natCast]
      rw [BitVec.toNat_and, ofInt_toNat, ofInt_toNat, ← Nat.and_mod_two_pow, wrap_mod]; rfl
    · cases h; simp [Op.intBits]
  case or =>
    split at h
    · cases h
      simp only [Op.intBits, Sem.run_pure, wrapF_eq, Int.ofNat_eq_natCast]
      rw [BitVec.toNat_or, ofInt_toNat, ofInt_toNat, ← Nat.or_mod_two_pow, wrap_mod]; rfl
    · cases h; simp [Op.intBits]
  case xor =>
    split at h
    · cases h
      simp only [Op.intBits, Sem.run_pure, wrapF_eq, Int.ofNat_eq_natCast]
      rw [BitVec.toNat_xor, ofInt_toNat, ofInt_toNat, ← Nat.xor_mod_two_pow, wrap_mod]; rfl
    · cases h; simp [Op.intBits]
  all_goals cases h

theorem bnot (c : Bool) : c.not = !c := rfl

theorem arith_sound {op : BinOp} {k : IntKind} {a b : Int} {r : AV} (t : TypeId) (h1 : op ≠ .shl) (h2 : op ≠ .shr) (h : arith op k a b = some r) :
    ∃ z, (binOp op t (.int k a) (.int k b)).run P w = .ok z w ∧ VR E r z := by
  unfold arith at h
  cases op <;> simp only [] at h
  case add => cases h; exact ⟨_, by rw [binOp_add]; rfl, by simp only [VR, wrapF_eq]; rfl⟩
  case sub => cases h; exact ⟨_, by rw [binOp_sub]; rfl, by simp only [VR, wrapF_eq]; rfl⟩
  case mul => cases h; exact ⟨_, by rw [binOp_mul]; rfl, by simp only [VR, wrapF_eq]; rfl⟩
  case eql => cases h; exact ⟨_, by rw [binOp_eql]; rfl, by simp only [VR, ibeq_eq]⟩
  case neq => cases h; exact ⟨_, by rw [binOp_neq]; rfl, by simp only [VR, ibeq_eq]; rfl⟩
  case lss => cases h; exact ⟨_, by rw [binOp_lss]; rfl, by simp only [VR, ilt_eq]⟩
  case leq => cases h; exact ⟨_, by rw [binOp_leq]; rfl, by simp only [VR, ible_eq]⟩
  case gtr => cases h; exact ⟨_, by rw [binOp_gtr]; rfl, by simp only [VR, ilt_eq]⟩
  case geq => cases h; exact ⟨_, by rw [binOp_geq]; rfl, by simp only [VR, ible_eq]⟩
  case quo =>
    split at h
    · cases h
    · rename_i hb
      rw [ibeq_eq] at hb
      have hb' : ¬ b = 0 := by simpa using hb
      cases h
      exact ⟨_, by rw [binOp_quo]; simp only [Op.intDiv, if_neg hb']; rfl, by simp only [VR, wrapF_eq]⟩
  case rem =>
    split at h
    · cases h
    · rename_i hb
      rw [ibeq_eq] at hb
      have hb' : ¬ b = 0 := by simpa using hb
      cases h
      exact ⟨_, by rw [binOp_rem]; simp only [Op.intDiv, if_neg hb']; rfl, by simp only [VR]⟩
  case shl => exact absurd rfl h1
  case shr => exact absurd rfl h2
  case and =>
    split at h
    · rename_i n hn; cases h; exact ⟨_, by rw [binOp_and]; exact bits_sound hn, by simp only [VR]⟩
    · cases h
  case or =>
    split at h
    · rename_i n hn; cases h; exact ⟨_, by rw [binOp_or]; exact bits_sound hn, by simp only [VR]⟩
    · cases h
  case xor =>
    split at h
    · rename_i n hn; cases h; exact ⟨_, by rw [binOp_xor]; exact bits_sound hn, by simp only [VR]⟩
    · cases h
  case andNot =>
    split at h
    · rename_i n hn; simp [bits] at hn
    · cases h

theorem shiftI_sound {op : BinOp} {k j : IntKind} {a b : Int} {r : AV} (t : TypeId) (h : shiftI op k a b = some r) :
    ∃ z, (binOp op t (.int k a) (.int j b)).run P w = .ok z w ∧ VR E r z := by
  unfold shiftI at h
  cases b with
  | negSucc m => cases h
  | ofNat n =>
    simp only [] at h
    split at h
    · cases h
    · have hn : ¬ ((Int.ofNat n) < 0) := by simp
      cases op <;> simp only [] at h
      case shl =>
        cases h
        refine ⟨_, by rw [binOp_shl]; simp only [Op.shift, if_neg hn]; rfl, ?_⟩
        simp only [VR, wrapF_eq]
        simp
      case shr =>
        cases h
        refine ⟨_, by rw [binOp_shr]; simp only [Op.shift, if_neg hn]; rfl, ?_⟩
        simp only [VR]
        simp
      all_goals cases h

theorem cmpI_sound {op : BinOp} {c : CmpOp} (hc : cmpOf op = some c) (t : TypeId) (k : IntKind) (a b : Int) :
    (binOp op t (.int k a) (.int k b)).run P w = .ok (.bool (cmpI c a b)) w := by
  cases op <;> simp only [cmpOf] at hc <;> cases hc
  · rw [binOp_eql]; rfl
  · rw [binOp_neq]; rfl
  · rw [binOp_lss]; rfl
  · rw [binOp_leq]; rfl
  · rw [binOp_gtr]; rfl
  · rw [binOp_geq]; rfl

theorem symI_sound {op : BinOp} {k : IntKind} {a b : SI} {r : AV} (t : TypeId) (h : symI op k a b = some r) :
    ∃ z, (binOp op t (.int k (a.den E.ρ)) (.int k (b.den E.ρ))).run P w = .ok z w ∧ VR E r z := by
  unfold symI at h
  split at h
  · rename_i c hc
    cases h
    exact ⟨_, cmpI_sound hc t k _ _, by simp only [VR, SB.den]⟩
  · cases op <;> simp only [] at h
    case add => cases h; exact ⟨_, by rw [binOp_add]; rfl, by simp only [VR, SI.den]⟩
    case sub => cases h; exact ⟨_, by rw [binOp_sub]; rfl, by simp only [VR, SI.den]⟩
    case mul => cases h; exact ⟨_, by rw [binOp_mul]; rfl, by simp only [VR, SI.den]⟩
    all_goals cases h

theorem bytesLess_flip : ∀ x y : List UInt8, Op.bytesLess y x = !(Op.bytesLess x y || x == y)
  | [], [] => rfl
  | [], b :: y => by simp [Op.bytesLess]
  | a :: x, [] => by simp [Op.bytesLess]
  | a :: x, b :: y => by
    have ih := bytesLess_flip x y
    simp only [Op.bytesLess]
    by_cases h1 : a < b
    · have h2 : ¬ b < a := by rw [UInt8.lt_iff_toNat_lt] at h1 ⊢; omega
      have h3 : ¬ b = a := fun e => by subst e; rw [UInt8.lt_iff_toNat_lt] at h1; omega
      simp [h1, h2, h3]
    · by_cases h2 : b < a
      · have h3 : ¬ a = b := fun e => by subst e; exact h1 h2
        simp [h1, h2, h3]
      · have h3 : a = b := by
          apply UInt8.toNat_inj.1
          rw [UInt8.lt_iff_toNat_lt] at h1 h2; omega
        subst h3
        simp only [h1, decide_false, Bool.false_or, beq_self_eq_true, Bool.true_and, ih]
        simp

theorem toList_strV (n x : Nat) : (strV n x).toList = strL n x := by
  rw [ByteArray.toList_eq, strV_toList]

theorem strEq {n x m y : Nat} (hx : x < 256 ^ n) (hy : y < 256 ^ m) : ((strV n x).toList == (strV m y).toList) = (Nat.beq n m).and (Nat.beq x y) := by
  rw [toList_strV, toList_strV, Bool.eq_iff_iff, beq_iff_eq, band, nbeq, nbeq]
  exact ⟨strL_inj hx hy, fun ⟨h1, h2⟩ => by rw [h1, h2]⟩

theorem str_sound {op : BinOp} {n x m y : Nat} {r : AV} (hx : x < 256 ^ n) (hy : y < 256 ^ m) (t : TypeId) (k : EqK) (h : evBin op k (.str n x) (.str m y) = some r) :
    ∃ z, (binOp op t (.string (strV n x)) (.string (strV m y))).run P w = .ok z w ∧ VR E r z := by
  have e : binOp op t (.string (strV n x)) (.string (strV m y)) = Op.stringOp op (strV n x) (strV m y) := by cases op <;> rfl
  rw [e]
  unfold evBin at h
  cases op <;> simp only [] at h
  case add =>
    split at h
    · rename_i hle
      cases h
      have hle' : n + m ≤ 4611686018427387904 := nble.1 hle
      refine ⟨_, run_string_add_sum w _ _ (by rw [strV_size, strV_size]; omega), ?_⟩
      simp only [VR]
      refine ⟨str_append_lt hx hy, ?_⟩
      show Value.string (ByteArray.mk (strL n x).toArray ++ ByteArray.mk (strL m y).toArray) = _
      rw [ByteArray.mk_append_mk, strL_append n x m y hx]
      rfl
    · cases h
  case eql => cases h; exact ⟨_, rfl, by simp only [VR, ← strEq hx hy]⟩
  case neq => cases h; exact ⟨_, rfl, by simp only [VR, ← strEq hx hy]⟩
  case lss => cases h; exact ⟨_, rfl, by simp only [VR, strLt_eq, toList_strV]⟩
  case geq => cases h; exact ⟨_, rfl, by simp only [VR, strLt_eq, toList_strV]⟩
  case gtr =>
    cases h
    refine ⟨_, rfl, ?_⟩
    simp only [VR, strLt_eq, toList_strV]
    rw [bytesLess_flip (strL n x) (strL m y)]
  case leq =>
    cases h
    refine ⟨_, rfl, ?_⟩
    simp only [VR, strLt_eq, toList_strV]
    rw [bytesLess_flip (strL n x) (strL m y)]; simp
  all_goals cases h
end
end Ct
