/- The kernel's form of the evaluator is the evaluator. -/
import Derived.Test.YtpcppjbjmdolnaaGreatDoorCtX
namespace Ct
open Go
variable {α β γ : Type}

/-! ## Forcing -/
theorem fN_eq (n : Nat) (c : Nat → β) : fN n c = c n := by cases n <;> rfl
theorem fI_eq (i : Int) (c : Int → β) : fI i c = c i := by
  cases i with
  | ofNat n => exact fN_eq n fun n => c (.ofNat n)
  | negSucc n => exact fN_eq n fun n => c (.negSucc n)
theorem fB_eq (b : Bool) (c : Bool → β) : fB b c = c b := by cases b <;> rfl
theorem iteB_eq (b : Bool) (y n : β) : iteB b y n = match b with | true => y | false => n := by cases b <;> rfl
theorem iteB_true (y n : β) : iteB true y n = y := rfl
theorem iteB_false (y n : β) : iteB false y n = n := rfl
theorem onSome_some (x : γ) (c : γ → β) (d : β) : onSome (some x) c d = c x := rfl
theorem onSome_none (c : γ → β) (d : β) : onSome none c d = d := rfl
theorem fL_eq {f : γ → (γ → β) → β} (hf : ∀ v c, f v c = c v) : ∀ (l : List γ) (c : List γ → β), fL f l c = c l
  | [], c => rfl
  | x :: l, c => by
    show f x (fun v => fL f l fun l => c (v :: l)) = _
    rw [hf, fL_eq hf l]
theorem fO_eq (o : Option Nat) (c : Option Nat → β) : fO o c = c o := by
  cases o with
  | none => rfl
  | some n => exact fN_eq n fun n => c (some n)
theorem fS_eq (v : AV) (c : AV → β) : fS v c = c v := by
  cases v <;> simp only [fS, fI_eq, fB_eq, fN_eq, fO_eq]
theorem fA_eq (v : AV) (c : AV → β) : fA v c = c v := by
  cases v <;> simp only [fA, fS_eq, fL_eq fS_eq]
theorem fV_eq (v : AV) (c : AV → β) : fV v c = c v := by
  cases v <;> simp only [fV, fA_eq, fL_eq fA_eq]

/-! ## Tries -/
def pathN (n k : Nat) : List Bool :=
  Nat.rec (motive := fun _ => Nat → List Bool) (fun _ => []) (fun _ ih k => Nat.casesOn (motive := fun _ => List Bool) k [] fun k => (Nat.beq (Nat.mod k 2) 0) :: ih (Nat.div k 2)) n k
theorem pathOf_eq (k : Nat) : pathOf k = pathN (Nat.succ k) k := rfl

theorem getF_P (c : γ → β) (d : β) : ∀ (n k : Nat), k < n → ∀ t : Tr γ, getF (pathN n k) t c d = onSome (t.get k) c d
  | 0, _, h, _ => absurd h (Nat.not_lt_zero _)
  | n + 1, 0, _, t => by
    cases t with
    | leaf => rfl
    | node v l r => cases v <;> rfl
  | n + 1, k + 1, h, t => by
    cases t with
    | leaf => rfl
    | node v l r =>
      show getF (pathN n (k / 2)) (Bool.casesOn (motive := fun _ => Tr γ) (Nat.beq (Nat.mod k 2) 0) r l) c d = _
      cases hb : Nat.beq (Nat.mod k 2) 0 with
      | true =>
        show getF (pathN n (k / 2)) l c d = _
        rw [getF_P c d n (k / 2) (by omega), Tr.get]
        simp only [hb]; rfl
      | false =>
        show getF (pathN n (k / 2)) r c d = _
        rw [getF_P c d n (k / 2) (by omega), Tr.get]
        simp only [hb]; rfl
theorem getF_eq (k : Nat) (t : Tr γ) (c : γ → β) (d : β) : getF (pathOf k) t c d = onSome (t.get k) c d := getF_P c d _ k (Nat.lt_succ_self k) t

theorem setF_leaf (x : Option γ) : ∀ (n m k : Nat), k < n → k < m → ∀ c : Tr γ → β, setF x (pathN n k) .leaf c = c (Tr.single m k x)
  | 0, _, _, h, _, _ => absurd h (Nat.not_lt_zero _)
  | _ + 1, 0, _, _, h, _ => absurd h (Nat.not_lt_zero _)
  | n + 1, m + 1, 0, _, _, c => rfl
  | n + 1, m + 1, k + 1, h1, h2, c => by
    show (Bool.casesOn (motive := fun _ => β) (Nat.beq (Nat.mod k 2) 0) (setF x (pathN n (k / 2)) .leaf fun r => c (.node none .leaf r)) (setF x (pathN n (k / 2)) .leaf fun l => c (.node none l .leaf)) : β) = _
    cases hb : Nat.beq (Nat.mod k 2) 0 with
    | true =>
      show setF x (pathN n (k / 2)) .leaf (fun l => c (.node none l .leaf)) = _
      rw [setF_leaf x n m (k / 2) (by omega) (by omega), Tr.single]
      simp only [hb]; rfl
    | false =>
      show setF x (pathN n (k / 2)) .leaf (fun r => c (.node none .leaf r)) = _
      rw [setF_leaf x n m (k / 2) (by omega) (by omega), Tr.single]
      simp only [hb]; rfl
theorem setF_P (x : Option γ) : ∀ (n k : Nat), k < n → ∀ (t : Tr γ) (c : Tr γ → β), setF x (pathN n k) t c = c (t.set k x)
  | 0, _, h, _, _ => absurd h (Nat.not_lt_zero _)
  | n + 1, 0, h, t, c => by
    cases t with
    | leaf => exact setF_leaf x (n + 1) 1 0 h (by omega) c
    | node v l r => rfl
  | n + 1, k + 1, h, t, c => by
    cases t with
    | leaf => exact setF_leaf x (n + 1) _ (k + 1) h (Nat.lt_succ_self _) c
    | node v l r =>
      show (Bool.casesOn (motive := fun _ => β) (Nat.beq (Nat.mod k 2) 0) (setF x (pathN n (k / 2)) r fun r => c (.node v l r)) (setF x (pathN n (k / 2)) l fun l => c (.node v l r)) : β) = _
      cases hb : Nat.beq (Nat.mod k 2) 0 with
      | true =>
        show setF x (pathN n (k / 2)) l (fun l => c (.node v l r)) = _
        rw [setF_P x n (k / 2) (by omega), Tr.set]
        simp only [hb]; rfl
      | false =>
        show setF x (pathN n (k / 2)) r (fun r => c (.node v l r)) = _
        rw [setF_P x n (k / 2) (by omega), Tr.set]
        simp only [hb]; rfl
theorem setF_eq (x : Option γ) (k : Nat) (t : Tr γ) (c : Tr γ → β) : setF x (pathOf k) t c = c (t.set k x) := setF_P x _ k (Nat.lt_succ_self k) t c

theorem setAllF_eq : ∀ (xs : List AV) (k : Nat) (t : Tr AV) (c : Tr AV → β), setAllF xs k t c = c (t.setAll k xs)
  | [], _, _, _ => rfl
  | x :: xs, k, t, c => by
    show setF (some x) (pathOf k) t (fun t => fN (Nat.succ k) fun k => setAllF xs k t c) = _
    rw [setF_eq, fN_eq, setAllF_eq xs]; rfl
theorem getAllF_eq : ∀ (n k : Nat) (t : Tr AV) (c : List AV → β) (d : β), getAllF n k t c d = onSome (t.getAll k n) c d
  | 0, _, _, _, _ => rfl
  | n + 1, k, t, c, d => by
    show getF (pathOf k) t (fun x => fN (Nat.succ k) fun k => getAllF n k t (fun xs => c (x :: xs)) d) d = _
    rw [getF_eq, Tr.getAll]
    cases t.get k with
    | none => rfl
    | some x =>
      simp only [onSome_some, fN_eq, getAllF_eq n]
      cases t.getAll (Nat.succ k) n <;> rfl
theorem lenF_eq : ∀ (l : List γ) (c : Nat → β), lenF l c = c l.length
  | [], _ => rfl
  | x :: l, c => by
    show lenF l (fun n => fN (Nat.succ n) c) = _
    rw [lenF_eq l, fN_eq]; rfl
theorem appF_eq : ∀ (a b : List γ) (c : List γ → β), appF a b c = c (a ++ b)
  | [], _, _ => rfl
  | x :: a, b, c => by
    show appF a b (fun l => c (x :: l)) = _
    rw [appF_eq a]; rfl
theorem opF_eq (x : AOp) (t : Tr AV) (c : AV → β) : opF x t c = c (evA t x) := by
  cases x with
  | tmp i =>
    show getF (pathOf i) t c (c AV.undef) = _
    rw [getF_eq, evA]
    cases t.get i <;> rfl
  | val v => rfl
theorem opsF_eq : ∀ (xs : List AOp) (t : Tr AV) (c : List AV → β), opsF xs t c = c (evAs t xs)
  | [], _, _ => rfl
  | x :: xs, t, c => by
    show opF x t (fun v => opsF xs t fun l => c (v :: l)) = _
    rw [opF_eq, opsF_eq xs]; rfl

/-! ## What reckons, or reads -/
theorem ldF_eq (agg : Bool) (size : Nat) (v : AV) (h : Tr AO) (c : AV → β) (d : β) : ldF agg size v h c d = onSome (ld h agg size v) c d := by
  cases v <;> try rfl
  rename_i i o
  simp only [ldF, onPtr, getF_eq, ld, ldCells]
  cases h.get i with
  | none => cases agg <;> rfl
  | some b =>
    simp only [onSome_some]
    cases b with
    | cells m g e t =>
      simp only [onCells]
      cases agg with
      | true =>
        simp only [iteB_true, getAllF_eq]
        cases Nat.ble (Nat.add o size) m with
        | true =>
          simp only [iteB_true]
          cases t.getAll o size <;> rfl
        | false => rfl
      | false =>
        simp only [iteB_false]
        cases Nat.blt o m <;> rfl
    | _ => cases agg <;> rfl

theorem skipF_eq : ∀ (n : Nat) (cs : List AV) (c : List AV → List AV → β), skipF n cs c = c (cs.take n) (cs.drop n)
  | 0, cs, c => by simp only [List.take_zero, List.drop_zero]; rfl
  | n + 1, [], c => by simp only [List.take_nil, List.drop_nil]; rfl
  | n + 1, x :: xs, c => by
    show skipF n xs (fun a b => c (x :: a) b) = _
    rw [skipF_eq n]; rfl
theorem overF_eq : ∀ (vs cs : List AV) (c : List AV → β), overF vs cs c = c (overlay cs 0 vs)
  | [], cs, c => by cases cs <;> rfl
  | v :: vs, [], c => rfl
  | v :: vs, x :: xs, c => by
    show overF vs xs (fun l => c (v :: l)) = _
    rw [overF_eq vs]; rfl
theorem overlay_split : ∀ (off : Nat) (cs vs : List AV), cs.take off ++ overlay (cs.drop off) 0 vs = overlay cs off vs
  | 0, cs, vs => by simp
  | off + 1, [], vs => by cases vs <;> simp [overlay]
  | off + 1, x :: cs, [] => by simp [overlay]
  | off + 1, x :: cs, v :: vs => by
    simp only [List.take_succ_cons, List.drop_succ_cons, List.cons_append, overlay_split off cs (v :: vs), overlay]
theorem overlayF_eq (off : Nat) (vs cs : List AV) (c : List AV → β) : overlayF off vs cs c = c (overlay cs off vs) := by
  simp only [overlayF, skipF_eq, overF_eq, appF_eq, overlay_split]
theorem cellsF_eq (v : AV) (c : List AV → β) (d : β) : cellsF v c d = onSome (cellsO v) c d := by cases v <;> rfl
theorem fillF_eq (t : Tr AV) : ∀ (ps : List (Nat × Nat × AOp)) (cs : List AV) (c : List AV → β) (d : β), fillF t ps cs c d = onSome (fillZ t cs ps) c d
  | [], cs, c, d => by simp only [fillZ]; rfl
  | (off, size, x) :: ps, cs, c, d => by
    show opF x t (fun v => cellsF v (fun vs => lenF vs fun n => lenF cs fun m => iteB ((Nat.beq n size).and (Nat.ble (Nat.add off size) m)) (overlayF off vs cs fun cs => fillF t ps cs c d) d) d) = _
    rw [opF_eq, cellsF_eq, fillZ]
    cases cellsO (evA t x) with
    | none => rfl
    | some vs =>
      simp only [onSome_some, lenF_eq]
      cases (Nat.beq vs.length size).and (Nat.ble (Nat.add off size) cs.length) with
      | false => rfl
      | true => simp only [iteB_true, overlayF_eq, fillF_eq t ps]

theorem evPRF_eq (op : AI) (t : Tr AV) (h : Tr AO) (c : AV → β) (d : β) : evPRF op t h c d = onSome (evPR t h op) c d := by
  cases op <;> simp only [evPRF, fV_eq, opF_eq, fillF_eq, ldF_eq, opsF_eq, fS_eq] <;> try rfl
  case build z ps => rw [evPR]; cases fillZ t z ps <;> rfl
  case mkFunc f first caps => cases first <;> rfl
  case fieldAddr off x => rw [evPR]; cases evA t x <;> simp only [onPtr, fN_eq] <;> rfl
  case indexSl size x i =>
    rw [evPR]
    cases evA t x <;> try rfl
    simp only [fN_eq]
    cases natOf (evA t i) with
    | none => rfl
    | some j => simp only [onSome_some]; rename_i b o n q; cases Nat.blt j n <;> rfl
  case indexStr x i =>
    rw [evPR]
    cases evA t x <;> try rfl
    simp only [fN_eq]
    cases natOf (evA t i) with
    | none => rfl
    | some j => simp only [onSome_some]; rename_i n s; cases Nat.blt j n <;> rfl
  case extract x i => rw [evPR]; cases evA t x <;> rfl
  case lenStr x => rw [evPR]; cases evA t x <;> rfl
  case lenSl x => rw [evPR]; cases evA t x <;> rfl

/-! ## What makes -/
theorem evNewF_eq (op : AI) (t : Tr AV) (i : Nat) (c : AO → AV → β) (d : β) : evNewF op t i c d = onSome (evNew t i op) (fun p => c p.1 p.2) d := by
  cases op <;> simp only [evNewF, evNew, opF_eq, fillF_eq, cellsF_eq, lenF_eq, setAllF_eq] <;> try rfl
  case box x => cases cellsO (evA t x) <;> rfl
  case buildSlice z n ps => cases fillZ t z ps <;> rfl
  case mkSlice z size bytes l k =>
    cases natOf (evA t l) with
    | none => rfl
    | some n =>
      simp only [onSome_some]
      cases natOf (evA t k) with
      | none => rfl
      | some m =>
        simp only [onSome_some]
        cases ((Nat.ble n m).and (Nat.ble 1 bytes)).and (Nat.ble (Nat.mul m bytes) 70368744177664) with
        | false => rfl
        | true => simp only [iteB_true, fL_eq (fun v c => rfl : ∀ (v : AV) (c : AV → β), (fun v c => c v) v c = c v)]; rfl
  case rangeStr x => cases evA t x <;> rfl

/-! ## What writes -/
theorem stF_eq (i o : Nat) (vs : List AV) (h : Tr AO) (c : Tr AO → β) (d : β) : stF i o vs h c d = onSome (stCells h i o vs) c d := by
  simp only [stF, getF_eq, stCells]
  cases h.get i with
  | none => rfl
  | some b =>
    simp only [onSome_some]
    cases b with
    | cells m g e t =>
      simp only [onCells, lenF_eq, setAllF_eq, setF_eq]
      cases Nat.ble (Nat.add o vs.length) m <;> rfl
    | _ => rfl
theorem rowF_eq (size n : Nat) (x : AV) (h : Tr AO) (c : List AV → β) (d : β) : rowF size n x h c d = onSome (srcRow h size n x) c d := by
  cases x <;> try rfl
  rename_i i o m k
  simp only [rowF, getF_eq, srcRow, ldCells]
  cases h.get i with
  | none => rfl
  | some b =>
    simp only [onSome_some]
    cases b with
    | cells m g e t =>
      simp only [onCells, fN_eq, getAllF_eq]
      cases Nat.ble (Nat.add o (Nat.mul n size)) m <;> rfl
    | _ => rfl
theorem freshF_eq (cs : List AV) (n size e : Nat) (h : Tr AO) (nx : Nat) (c : AV → Tr AO → Nat → β) :
    freshF cs n size e h nx c = c (.slice nx 0 n none) (h.set nx (some (.cells cs.length size e (Tr.setAll .leaf 0 cs)))) (Nat.succ nx) := by
  simp only [freshF, lenF_eq, setAllF_eq, setF_eq, fN_eq]

theorem appendF_eq (size bytes e : Nat) (h : Tr AO) (nx : Nat) (s x : AV) (c : AV → Tr AO → Nat → β) (d : β) :
    appendF size bytes e h nx s x c d = onSome (appendE size bytes e h nx s x) (fun p => c p.1 p.2.1 p.2.2) d := by
  unfold appendF appendE
  cases srcLen x with
  | none => rfl
  | some len =>
    cases len with
    | zero => cases s <;> rfl
    | succ k' =>
      simp only [onSome_some, fN_eq, rowF_eq, freshF_eq, stF_eq, getF_eq, setAllF_eq, setF_eq, appF_eq]
      cases srcRow h size (Nat.succ k') x with
      | none => rfl
      | some new =>
        simp only [onSome_some]
        cases s <;> try rfl
        · simp only
          cases ((Nat.ble 1 bytes).and (Nat.ble 1 size)).and (Nat.ble (Nat.mul (Nat.succ k') bytes) 35184372088832) <;> rfl
        · rename_i i o n cp
          simp only
          cases ((Nat.ble 1 bytes).and (Nat.ble 1 size)).and (Nat.ble (Nat.mul (Nat.add n (Nat.succ k')) bytes) 35184372088832) with
          | false => rfl
          | true =>
            simp only [iteB_true]
            cases cp with
            | some cp =>
              simp only
              cases Nat.ble (Nat.add n (Nat.succ k')) cp with
              | true =>
                simp only [iteB_true]
                cases stCells h i (Nat.add o (Nat.mul n size)) new <;> rfl
              | false =>
                simp only [iteB_false, srcRow]
                cases ldCells h i o (Nat.mul n size) <;> rfl
            | none =>
              simp only
              cases o with
              | succ o => rfl
              | zero =>
                simp only
                cases h.get i with
                | none => rfl
                | some b =>
                  simp only [onSome_some]
                  cases b with
                  | cells m g e' t =>
                    simp only [onCells]
                    cases ((Nat.beq g size).and (Nat.beq e' e)).and (Nat.ble (Nat.mul n size) m) <;> rfl
                  | _ => rfl

theorem fE_eq (e : AV × AV × Nat) (c : AV × AV × Nat → β) : fE e c = c e := by
  obtain ⟨k, v, b⟩ := e
  show fA k (fun k => fA v fun v => fN b fun b => c (k, v, b)) = _
  simp only [fA_eq, fN_eq]
theorem fU_eq (e : AV × AV) (c : AV × AV → β) : fU e c = c e := by
  obtain ⟨k, v⟩ := e
  show fA k (fun k => fA v fun v => c (k, v)) = _
  simp only [fA_eq]
theorem fObj_eq (o : AO) (c : AO → β) : fObj o c = c o := by
  cases o <;> simp only [fObj, fL_eq fE_eq, fL_eq fU_eq, fN_eq, fO_eq, fL_eq fN_eq]

theorem updE_spec {C : Cfg} {ih : Rec α} {op : AI} {s : St} {k : AV → St → R α} {v : AV} {i : Nat} {o : AO} (h : updE op s.t s.h = some (v, i, o)) : evE C ih op s k = k v ⟨s.t, s.d, s.h.set i (some o), s.nx, s.pc⟩ := by
  cases op <;> simp only [updE] at h <;> try cases h
  case mapUpd flat m key vv =>
    simp only [evE, mapPut]
    split at h
    · rename_i j hm
      simp only [hm]
      split at h
      · rename_i es clock hg
        simp only [hg]
        split at h
        · rename_i q w hf
          cases h; simp only [hf]
        · rename_i hf
          cases h; simp only [hf]
        · cases h
      · rename_i es hg
        simp only [hg]
        split at h
        · rename_i hk
          simp only [hk]
          split at h
          · rename_i hf
            cases h; simp only [hf]
          · cases h
        · cases h
      · cases h
    · cases h
  case mapEntry flat z m key =>
    simp only [evE, mapSlot]
    split at h
    · rename_i j hm
      simp only [hm]
      split at h
      · rename_i es clock hg
        simp only [hg]
        split at h
        · rename_i q w hf
          simp only [hf]
          split at h
          · rename_i e he
            cases h; simp only [he]
          · cases h
        · rename_i hf
          cases h; simp only [hf]
        · cases h
      · cases h
    · cases h
  case entryStore m st vv =>
    simp only [evE, slotPut]
    split at h
    · rename_i j hm
      simp only [hm]
      split at h
      · rename_i es clock hg
        simp only [hg]
        split at h
        · rename_i b hb
          simp only [hb]
          split at h
          · rename_i q hq
            cases h; simp only [hq]
          · cases h
        · cases h
      · cases h
    · cases h
  case nextStr x =>
    simp only [evE]
    split at h
    · rename_i j hm
      simp only [hm]
      split at h
      · rename_i n y pos hg
        simp only [hg]
        split at h
        · cases h
        · rename_i hb
          simp only [hb]
          split at h
          · rename_i hb2
            cases h; simp only [hb2]
          · cases h
      · cases h
    · cases h

theorem chF_eq : ∀ (l : List γ) (f : γ → R α), chF l f = chL l f
  | [], _ => rfl
  | x :: xs, f => by
    cases xs with
    | nil => rfl
    | cons y ys =>
      show R.both (f x) (chF (y :: ys) f) = R.both (f x) (chL (y :: ys) f)
      rw [chF_eq (y :: ys) f]

/-! ## Control -/
theorem putF_eq (d : Option Nat) (v : AV) (t : Tr AV) (c : Tr AV → β) : putF d v t c = c (put t d v) := by
  cases d with
  | none => rfl
  | some i => exact setF_eq _ _ _ _
theorem withF_eq (pc : List (SB × Bool)) (v : AV) (k : Bool → List (SB × Bool) → R α) : withF pc v k = withB pc v k := by
  cases v <;> simp only [withF, fB_eq]
  rfl
theorem resF_eq (t : Tr AV) (h : Tr AO) : ∀ (rs : List ARes) (c : List AV → β) (d : β), resF t h rs c d = onSome (resVs t h rs) c d
  | [], _, _ => rfl
  | .tmp i :: rs, c, d => by
    show opF (.tmp i) t (fun v => resF t h rs (fun l => c (v :: l)) d) = _
    rw [opF_eq, resF_eq t h rs, resVs, resV]
    cases resVs t h rs <;> rfl
  | .cell a agg size :: rs, c, d => by
    show opF (.tmp a) t (fun p => ldF agg size p h (fun v => resF t h rs (fun l => c (v :: l)) d) d) = _
    rw [opF_eq, ldF_eq, resVs, resV]
    cases ld h agg size (evA t (.tmp a)) with
    | none => rfl
    | some v =>
      simp only [onSome_some, resF_eq t h rs]
      cases resVs t h rs <;> rfl

theorem leaveF_eq (C : Cfg) (ih : Rec α) (res : List ARes) (t : Tr AV) : ∀ (ds : List ADefer) (h : Tr AO) (nx : Nat) (pc : List (SB × Bool)) (k : AV → Tr AO → Nat → List (SB × Bool) → R α),
    leaveF C ih res t ds h nx pc k = leave C ih res t ds h nx pc k
  | [], h, nx, pc, k => by
    show resF t h res (fun vs => List.casesOn (motive := fun _ => R α) vs (k (.tup []) h nx pc) (fun v l => List.casesOn (motive := fun _ => R α) l (k v h nx pc) (fun w l => k (.tup (v :: w :: l)) h nx pc))) (.fail 2) = _
    rw [resF_eq, leave]
    cases resVs t h res with
    | none => rfl
    | some vs =>
      cases vs with
      | nil => rfl
      | cons v l => cases l <;> rfl
  | ⟨f, args⟩ :: ds, h, nx, pc, k => by
    show iteB (C.nop f) (leaveF C ih res t ds h nx pc k) (onSome (C.fn f) (fun g => AFn.casesOn (motive := fun _ => R α) g fun _ body gres => setAllF args 0 .leaf fun tt => ih body ⟨tt, [], h, nx, pc⟩ fun e s => match e with
        | .exit _ => .fail 3
        | _ => match s with
          | ⟨t', d', h', nx', pc'⟩ => match d' with
            | [] => resF t' h' gres (fun _ => leaveF C ih res t ds h' nx' pc' k) (.fail 51)
            | _ => .fail 4) (.fail 5)) = _
    rw [leave]
    cases C.nop f with
    | true => simp only [iteB_true, leaveF_eq C ih res t ds]
    | false =>
      simp only [iteB_false]
      cases C.fn f with
      | none => rfl
      | some g =>
        obtain ⟨n, body, gres⟩ := g
        simp only [onSome_some, setAllF_eq]
        congr 1
        funext e s
        obtain ⟨t', d', h', nx', pc'⟩ := s
        cases e with
        | exit j => rfl
        | normal =>
          cases d' with
          | nil => simp only [resF_eq, leaveF_eq C ih res t ds]; cases resVs t' h' gres <;> rfl
          | cons _ _ => rfl
        | ret =>
          cases d' with
          | nil => simp only [resF_eq, leaveF_eq C ih res t ds]; cases resVs t' h' gres <;> rfl
          | cons _ _ => rfl

theorem callGo_eq (C : Cfg) (ih : Rec α) (f : Nat) (args : List AV) (h : Tr AO) (nx : Nat) (pc : List (SB × Bool)) (k : AV → Tr AO → Nat → List (SB × Bool) → R α) : callGo C ih f args h nx pc k = call C ih f args h nx pc k := by
  unfold callGo call
  cases C.ext f with
  | some g =>
    simp only
    cases g args h with
    | none => rfl
    | some v => simp only [onSome_some, fV_eq]
  | none =>
    simp only
    cases C.fn f with
    | none => rfl
    | some g =>
      obtain ⟨n, body, res⟩ := g
      simp only [onSome_some, lenF_eq, setAllF_eq]
      cases Nat.ble args.length n with
      | false => rfl
      | true =>
        simp only [iteB_true]
        congr 1
        funext e s
        obtain ⟨t', d', h', nx', pc'⟩ := s
        cases e <;> simp only [leaveF_eq]

theorem slowE_eq (C : Cfg) (ih : Rec α) (op : AI) (s : St) (k : AV → St → R α) : slowE C ih op s k = evE C ih op s k := by
  unfold slowE
  cases hu : updE op s.t s.h with
  | none => rfl
  | some p =>
    obtain ⟨v, i, o⟩ := p
    obtain ⟨t, d, h, nx, pc⟩ := s
    rw [updE_spec hu]
    simp only [onSome_some, fV_eq, fN_eq, fObj_eq, setF_eq]

theorem evEF_eq (C : Cfg) (ih : Rec α) (op : AI) (s : St) (k : AV → St → R α) : evEF C ih op s k = evE C ih op s k := by
  cases op <;> try (exact slowE_eq C ih _ s k)
  case store size a x =>
    obtain ⟨t, d, h, nx, pc⟩ := s
    simp only [evEF, evE, opF_eq]
    cases evA t a <;> try rfl
    simp only [onPtr, cellsF_eq, lenF_eq, stF_eq]
    cases cellsO (evA t x) with
    | none => rfl
    | some vs =>
      simp only [onSome_some]
      cases Nat.beq vs.length size with
      | false => rfl
      | true =>
        simp only [iteB_true]
        rename_i i o
        cases stCells h i o vs <;> rfl
  case append size bytes e a x =>
    obtain ⟨t, d, h, nx, pc⟩ := s
    simp only [evEF, evE, opF_eq, appendF_eq]
    cases appendE size bytes e h nx (evA t a) (evA t x) <;> rfl
  case copy size a b =>
    obtain ⟨t, d, h, nx, pc⟩ := s
    simp only [evEF, evE, opF_eq, copyE]
    cases srcLen (evA t b) with
    | none => rfl
    | some n =>
      simp only [onSome_some]
      cases srcLen (evA t a) with
      | none => rfl
      | some m =>
        simp only [onSome_some, fN_eq]
        cases srcCells h size (Nat.min n m) (evA t b) with
        | none => rfl
        | some cs =>
          simp only [onSome_some]
          cases evA t a <;> try rfl
          simp only [fL_eq fS_eq, stF_eq]
          rename_i i o _ _
          cases stCells h i o cs <;> rfl
  case strToBytes x =>
    obtain ⟨t, d, h, nx, pc⟩ := s
    simp only [evEF, evE, opF_eq]
    cases evA t x <;> try rfl
    simp only [fL_eq fS_eq, setAllF_eq, setF_eq, fN_eq]
  case rangeMap x =>
    obtain ⟨t, d, h, nx, pc⟩ := s
    simp only [evEF, evE, opF_eq, getF_eq, setF_eq, fN_eq]
    cases evA t x <;> try rfl
    simp only
    rename_i i
    cases h.get i with
    | none => rfl
    | some o => cases o <;> rfl
  case nextMap x =>
    obtain ⟨t, d, h, nx, pc⟩ := s
    simp only [evEF, evE, opF_eq, getF_eq, setF_eq]
    cases evA t x <;> try rfl
    simp only
    rename_i i o
    cases o with
    | succ o => rfl
    | zero =>
      simp only
      cases h.get i with
      | none => rfl
      | some it =>
        cases it <;> try rfl
        rename_i m since seen last
        cases m with
        | none => rfl
        | some m =>
          simp only [onSome_some]
          cases h.get m with
          | none => rfl
          | some mo =>
            cases mo <;> try rfl
            rename_i es clock
            simp only [onSome_some]
            cases ((seen.isEmpty).not.and (es.isEmpty.not)).and (es.all fun e => Nat.ble last e.2.2) with
            | true => rfl
            | false =>
              simp only [iteB_false]
              have hfe : ∀ (x : Option (AV × AV × Nat)) (c : Option (AV × AV × Nat) → R α), (fun x c => Option.casesOn (motive := fun _ => R α) x (c none) fun e => fE e fun e => c (some e)) x c = c x := by
                intro x c
                cases x with
                | none => rfl
                | some e => exact fE_eq e _
              rw [fL_eq hfe, chF_eq]
              refine congrArg (chL (cands es since seen)) ?_
              funext x
              cases x with
              | none => rfl
              | some e => simp only [fE_eq, appF_eq, fL_eq fN_eq]
  case callF f args =>
    obtain ⟨t, d, h, nx, pc⟩ := s
    simp only [evEF, evE, opsF_eq, callGo_eq]
  case callV f args =>
    obtain ⟨t, d, h, nx, pc⟩ := s
    simp only [evEF, evE, opF_eq]
    cases evA t f <;> try rfl
    simp only [opsF_eq, appF_eq, callGo_eq]
  case deferF f args =>
    obtain ⟨t, d, h, nx, pc⟩ := s
    simp only [evEF, evE, opF_eq]
    cases evA t f <;> try rfl
    simp only [opsF_eq, appF_eq]

theorem evOF_eq (C : Cfg) (ih : Rec α) (op : AI) (s : St) (k : AV → St → R α) : evOF C ih op s k = evO C ih op s k := by
  obtain ⟨t, d, h, nx, pc⟩ := s
  unfold evOF
  simp only
  rw [evPRF_eq, evNewF_eq]
  conv => rhs; unfold evO
  simp only
  cases hp : evPR t h op with
  | some v => rfl
  | none =>
    simp only [onSome_none]
    cases hn : evNew t nx op with
    | some p =>
      obtain ⟨o, v⟩ := p
      simp only [onSome_some, setF_eq, fN_eq]
    | none =>
      simp only [onSome_none]
      cases op <;> simp only [evEF_eq]
      case pick c a b =>
        simp only [opF_eq, withF_eq]
        congr 1
        funext x pc
        cases x <;> rfl
      case indexSl size x i =>
        unfold evO
        simp only [hp, hn, fS_eq]
      case bin op f x y =>
        unfold evO
        simp only [hp, hn, fS_eq]

theorem guardF_congr {g : Option (Nat × Bool)} {t : Tr AV} {d : List ADefer} {h : Tr AO} {nx : Nat} {pc : List (SB × Bool)} {yes no yes' no' : St → R α} (hy : ∀ pc, yes ⟨t, d, h, nx, pc⟩ = yes' ⟨t, d, h, nx, pc⟩) (hn : ∀ pc, no ⟨t, d, h, nx, pc⟩ = no' ⟨t, d, h, nx, pc⟩) :
    guardF g ⟨t, d, h, nx, pc⟩ yes no = guarded g ⟨t, d, h, nx, pc⟩ yes' no' := by
  unfold guardF guarded
  cases g with
  | none => exact hy pc
  | some p =>
    obtain ⟨j, want⟩ := p
    simp only [getF_eq]
    cases t.get j with
    | none => rfl
    | some v =>
      simp only [onSome_some]
      cases v <;> try rfl
      · simp only [fB_eq]
        rename_i b
        cases b == want with
        | true => exact hy pc
        | false => exact hn pc
      · rename_i l
        cases l with
        | nil => exact hn pc
        | cons _ _ => rfl
      · simp only
        congr 1
        funext b pc
        cases b == want with
        | true => exact hy pc
        | false => exact hn pc

theorem opsGo_eq (C : Cfg) (ih : Rec α) : ∀ (ops : List AOper) (s : St) (k : St → R α), opsGo C ih ops s k = evOps C ih ops s k
  | [], _, _ => rfl
  | ⟨dst, op, g⟩ :: ops, ⟨t, d, h, nx, pc⟩, k => by
    show guardF g ⟨t, d, h, nx, pc⟩ (fun s => evOF C ih op s fun v s => match s with | ⟨t, d, h, nx, pc⟩ => putF dst v t fun t => opsGo C ih ops ⟨t, d, h, nx, pc⟩ k)
      (fun s => match s with | ⟨t, d, h, nx, pc⟩ => putF dst AV.undef t fun t => opsGo C ih ops ⟨t, d, h, nx, pc⟩ k) = _
    rw [evOps]
    refine guardF_congr (fun pc => ?_) fun pc => ?_
    · rw [evOF_eq]
      congr 1
      funext v s
      obtain ⟨t, d, h, nx, pc⟩ := s
      simp only [putF_eq, opsGo_eq C ih ops]
    · simp only [putF_eq, opsGo_eq C ih ops]

/-! ## Regions that draw -/
theorem layF_eq : ∀ (ps : List (Nat × Nat × AO)) (h : Tr AO) (c : Tr AO → β), layF ps h c = c (lay ps h)
  | [], _, _ => rfl
  | (m, i, o) :: ps, h, c => by
    show layF ps h (fun h => setF (some o) (pathOf i) h c) = _
    rw [layF_eq ps, setF_eq]; rfl
theorem againF_eq (re : List Nat) (h : Tr AO) : ∀ (l : List Seen) (y n : β), againF re h l y n = iteB (again re h l) y n
  | [], _, _ => rfl
  | (m, op, t, v) :: l, y, n => by
    show iteB (memN m re) (evPRF op t h (fun w => iteB (AV.same v w) (againF re h l y n) n) n) (againF re h l y n) = _
    rw [evPRF_eq, again]
    cases memN m re with
    | false => simp only [iteB_false, againF_eq re h l]
    | true =>
      simp only [iteB_true]
      cases evPR t h op with
      | none => rfl
      | some w =>
        simp only [onSome_some]
        cases AV.same v w with
        | false => rfl
        | true => simp only [iteB_true, againF_eq re h l]
theorem splitF_eq (mg : List Nat) : ∀ (ps : List (Nat × Nat × AO)) (c : List (Nat × Nat × AO) → List (Nat × Nat × AO) → β), splitF mg ps c = c (splitP mg ps).1 (splitP mg ps).2
  | [], _ => rfl
  | p :: ps, c => by
    show splitF mg ps (fun a b => iteB (memN p.1 mg) (c (p :: a) b) (c a (p :: b))) = _
    rw [splitF_eq mg ps, splitP]
    cases splitP mg ps with
    | mk a b =>
      simp only
      cases memN p.1 mg <;> rfl
theorem fT_eq : ∀ (t : Tr γ) (c : Tr γ → β), fT t c = c t
  | .leaf, _ => rfl
  | .node v l r, c => by
    show fT l (fun l => fT r fun r => c (.node v l r)) = _
    rw [fT_eq l, fT_eq r]
theorem fHW_eq (x : Nat × HW) (c : Nat × HW → β) : fHW x c = c x := by
  obtain ⟨m, w⟩ := x
  cases w with
  | cells o vs => exact fL_eq fS_eq vs fun vs => c (m, .cells o vs)
  | ins kk k v =>
    show fA k (fun k => fA v fun v => c (m, .ins kk k v)) = _
    simp only [fA_eq]
theorem fH_eq (e : Hid) (c : Hid → β) : fH e c = c e := by
  obtain ⟨mk, i, ob, ws⟩ := e
  exact fL_eq fHW_eq ws fun ws => c (mk, i, ob, ws)
theorem fObT_eq (o : AO) (c : AO → β) : fObT o c = c o := by
  cases o with
  | cells n g e t => exact fT_eq t fun t => c (.cells n g e t)
  | map es cl => exact fObj_eq (.map es cl) c
  | umap es => exact fObj_eq (.umap es) c
  | siter n x p => exact fObj_eq (.siter n x p) c
  | miter m x y z => exact fObj_eq (.miter m x y z) c
theorem hidF_eq : ∀ (hid : List Hid) (h : Tr AO) (c : Tr AO → β), hidF hid h c = c (layH hid h)
  | [], _, _ => rfl
  | (mk, i, ob, ws) :: es, h, c => by
    show hidF es h (fun h => fObT (applyWs ob ws) fun o => setF (some o) (pathOf i) h c) = _
    rw [hidF_eq es, fObT_eq, setF_eq]; rfl

theorem drawGo_cons (C : Cfg) (ih : Rec α) (dst : Option Nat) (op : AI) (g : Option (Nat × Bool)) (mark cls : Nat) (re mg : List Nat) (ds : List DOp) (t : Tr AV) (d : List ADefer) (h hl : Tr AO) (nx : Nat) (pc : List (SB × Bool)) (pend : List (Nat × Nat × AO)) (seen : List Seen) (hid : List Hid) (k : St → R α) :
    drawGo C ih (⟨⟨dst, op, g⟩, mark, cls, re, mg⟩ :: ds) t d h hl nx pc pend seen hid k = guardF g ⟨t, d, h, nx, pc⟩
      (fun s => match s with
        | ⟨t, d, h, nx, pc⟩ => Nat.casesOn (motive := fun _ => R α) cls
          (evPRF op t hl (fun v => putF dst v t fun t' => drawGo C ih ds t' d h hl nx pc pend ((mark, op, t, v) :: seen) hid k)
            (match op with
              | .pick c a b => opF c t fun v => withF pc v fun x pc => iteB x (opF a t fun v => putF dst v t fun t => drawGo C ih ds t d h hl nx pc pend seen hid k) (opF b t fun v => putF dst v t fun t => drawGo C ih ds t d h hl nx pc pend seen hid k)
              | _ => .fail 40))
          fun cls => Nat.casesOn (motive := fun _ => R α) cls
            (evNewF op t nx (fun o v => setF (some o) (pathOf nx) hl fun hl => fN (Nat.succ nx) fun nx' => putF dst v t fun t => drawGo C ih ds t d h hl nx' pc ((mark, nx, o) :: pend) seen hid k) (.fail 41))
            fun cls => Nat.casesOn (motive := fun _ => R α) cls
              (splitF mg pend fun now later => layF now h fun hn => evEF C ih op ⟨t, d, hn, nx, pc⟩ fun v s => match s with
                | ⟨t, d, h, nx, pc⟩ => layF later h fun hl => againF re hl seen (putF dst v t fun t => drawGo C ih ds t d h hl nx pc later seen hid k) (.fail 42))
              fun _ => onSome (hideW mg mark op t h pend hid) (fun p => Prod.casesOn (motive := fun _ => R α) p fun h q => Prod.casesOn (motive := fun _ => R α) q fun pend hid =>
                  fT h fun h => fL (fun p c => c p) pend fun pend => fL fH hid fun hid => layF pend h fun hl => againF re hl seen (putF dst AV.undef t fun t => drawGo C ih ds t d h hl nx pc pend seen hid k) (.fail 43)) (.fail 44))
      (fun s => match s with
        | ⟨t, d, h, nx, pc⟩ => putF dst AV.undef t fun t => drawGo C ih ds t d h hl nx pc pend seen hid k) := rfl

theorem drawGo_eq (C : Cfg) (ih : Rec α) : ∀ (ds : List DOp) (t : Tr AV) (d : List ADefer) (h : Tr AO) (nx : Nat) (pc : List (SB × Bool)) (pend : List (Nat × Nat × AO)) (seen : List Seen) (hid : List Hid) (k : St → R α),
    drawGo C ih ds t d h (lay pend h) nx pc pend seen hid k = evD C ih ds ⟨t, d, h, nx, pc⟩ pend seen hid k
  | [], t, d, h, nx, pc, pend, seen, hid, k => by
    show hidF hid (lay pend h) (fun hl => k ⟨t, d, hl, nx, pc⟩) = _
    rw [hidF_eq]; rfl
  | ⟨⟨dst, op, g⟩, mark, cls, re, mg⟩ :: ds, t, d, h, nx, pc, pend, seen, hid, k => by
    rw [drawGo_cons, evD]
    refine guardF_congr (fun pc => ?_) fun pc => ?_
    · simp only
      match cls with
      | 0 =>
        show evPRF op t (lay pend h) _ _ = _
        rw [evPRF_eq]
        simp only
        cases evPR t (lay pend h) op with
        | some v =>
          simp only [onSome_some, putF_eq]
          exact drawGo_eq C ih ds ..
        | none =>
          simp only [onSome_none]
          cases op <;> try rfl
          simp only [opF_eq, withF_eq, putF_eq]
          congr 1
          funext x pc
          cases x with
          | true => exact drawGo_eq C ih ds ..
          | false => exact drawGo_eq C ih ds ..
      | 1 =>
        show evNewF op t nx _ _ = _
        rw [evNewF_eq]
        simp only
        cases evNew t nx op with
        | none => rfl
        | some p =>
          obtain ⟨o, v⟩ := p
          simp only [onSome_some, setF_eq, fN_eq, putF_eq]
          exact drawGo_eq C ih ds _ _ _ _ _ ((mark, nx, o) :: pend) ..
      | 2 =>
        show splitF mg pend _ = _
        rw [splitF_eq]
        simp only [layF_eq, evEF_eq]
        cases splitP mg pend with
        | mk now later =>
          simp only
          congr 1
          funext v s
          obtain ⟨t', d', h', nx', pc'⟩ := s
          simp only [againF_eq, putF_eq]
          cases again re (lay later h') seen with
          | false => rfl
          | true => exact drawGo_eq C ih ds ..
      | n + 3 =>
        show onSome (hideW mg mark op t h pend hid) _ _ = _
        simp only
        cases hideW mg mark op t h pend hid with
        | none => rfl
        | some p =>
          obtain ⟨h', pend', hid'⟩ := p
          simp only [onSome_some, fT_eq, fL_eq (fun v c => rfl : ∀ (v : Nat × Nat × AO) (c : Nat × Nat × AO → R α), (fun v c => c v) v c = c v), fL_eq fH_eq, layF_eq, againF_eq, putF_eq]
          cases again re (lay pend' h') seen with
          | false => rfl
          | true => exact drawGo_eq C ih ds ..
    · simp only [putF_eq]
      exact drawGo_eq C ih ds ..

theorem stepF_eq (C : Cfg) (ih : Rec α) : stepF C ih = stepC C ih := by
  funext c s k
  cases c with
  | skip => rfl
  | region ops => exact opsGo_eq C ih ops s _
  | draw ops =>
    obtain ⟨t, d, h, nx, pc⟩ := s
    exact drawGo_eq C ih ops t d h nx pc [] [] [] _
  | seq a b =>
    show ih a s _ = ih a s _
    congr 1
    funext e s
    cases e <;> rfl
  | cond c a b =>
    obtain ⟨t, d, h, nx, pc⟩ := s
    unfold stepF stepC
    simp only
    rw [opF_eq, withF_eq]
    congr 1
    funext x pc
    cases x <;> rfl
  | block id c =>
    show ih c s _ = ih c s _
    congr 1
    funext e s
    cases e with
    | exit j =>
      simp only
      cases Nat.beq j id <;> rfl
    | _ => rfl
  | loop c =>
    show ih c s _ = ih c s _
    congr 1
    funext e s
    cases e <;> rfl
  | exit id => rfl
  | ret => rfl
  | bad n => rfl

/-- THE KERNEL's FORM IS THE EVALUATOR. -/
theorem evF_eq (C : Cfg) : ∀ n, (evF C n : Rec α) = ev C n
  | 0 => rfl
  | n + 1 => by
    show stepF C (evF C n) = stepC C (ev C n)
    rw [evF_eq C n, stepF_eq]
end Ct
