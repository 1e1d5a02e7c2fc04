/- What makes a new object, is sound; and the state's relation. -/
import Derived.Test.YtpcppjbjmdolnaaGreatDoorCtK
namespace Ct
open Go
variable {P : Program} {E : Env} {w : World} {T : Tr AV} {H : Tr AO} {a : Act}

theorem c1_cases (x : Operand) (f : AOp → AI) : (∃ y, compO x = some y ∧ c1 x f = f y) ∨ ∃ n, c1 x f = .bad n := by
  unfold c1; split
  · rename_i y hy; exact .inl ⟨y, hy, rfl⟩
  · exact .inr ⟨_, rfl⟩
theorem c2_cases (x x2 : Operand) (f : AOp → AOp → AI) : (∃ y y2, compO x = some y ∧ compO x2 = some y2 ∧ c2 x x2 f = f y y2) ∨ ∃ n, c2 x x2 f = .bad n := by
  unfold c2; split
  · rename_i y hy
    split
    · rename_i y2 hy2; exact .inl ⟨y, y2, hy, hy2, rfl⟩
    · exact .inr ⟨_, rfl⟩
  · exact .inr ⟨_, rfl⟩
theorem c3_cases (x x2 x3 : Operand) (f : AOp → AOp → AOp → AI) : (∃ y y2 y3, compO x = some y ∧ compO x2 = some y2 ∧ compO x3 = some y3 ∧ c3 x x2 x3 f = f y y2 y3) ∨ ∃ n, c3 x x2 x3 f = .bad n := by
  unfold c3; split
  · rename_i y hy
    rcases c2_cases x2 x3 (f y) with ⟨y2, y3, h2, h3, e⟩ | ⟨n, e⟩
    · exact .inl ⟨y, y2, y3, hy, h2, h3, e⟩
    · exact .inr ⟨n, e⟩
  · exact .inr ⟨_, rfl⟩
theorem cs_cases (l : List Operand) (f : List AOp → AI) : (∃ y, compOs l = some y ∧ cs l f = f y) ∨ ∃ n, cs l f = .bad n := by
  unfold cs; split
  · rename_i y hy; exact .inl ⟨y, hy, rfl⟩
  · exact .inr ⟨_, rfl⟩

theorem rep_get {α : Type} : ∀ (n : Nat) (z : List α) (j : Nat), j < n * z.length → ((List.replicate n z).flatten)[j]? = z[j % z.length]?
  | 0, z, j, h => by simp at h
  | n + 1, z, j, h => by
    rw [List.replicate_succ, List.flatten_cons, List.getElem?_append]
    split
    · rename_i hlt; rw [Nat.mod_eq_of_lt hlt]
    · rename_i hge
      rw [rep_get n z (j - z.length) (by rw [Nat.add_mul] at h; omega)]
      congr 1
      rw [Nat.mod_eq_sub_mod (by omega : j ≥ z.length)]

theorem rep_len {α : Type} (n : Nat) (z : List α) : ((List.replicate n z).flatten).length = n * z.length := by simp

theorem rep_all (n : Nat) {z : List AV} (h : z.all oneA = true) : ((List.replicate n z).flatten).all oneA = true := by
  rw [List.all_eq_true] at *
  intro x hx
  obtain ⟨l, hl, hx⟩ := List.mem_flatten.1 hx
  rw [List.mem_replicate] at hl
  exact h x (hl.2 ▸ hx)

/-- Rows of what is there before anything is laid in. -/
theorem rep_rel {z : List AV} {zs : Array Value} (h : VRs E z zs.toList) (n : Nat) : VRs E ((List.replicate n z).flatten) ((Array.range (n * z.length)).map (zs[· % zs.size]!)).toList := by
  have hl : zs.size = z.length := by have := VRs_length h; simpa using this
  refine VRs_of_get (by simp) fun i a v ha hv => ?_
  have hi : i < n * z.length := by
    have := (List.getElem?_eq_some_iff.1 ha).1
    simpa using this
  rw [rep_get n z i hi] at ha
  obtain ⟨u, hu, hr⟩ := VRs_get h _ a ha
  have : v = u := by
    have hp : 0 < z.length := by
      rcases Nat.eq_zero_or_pos z.length with h0 | h0
      · rw [h0] at hi; omega
      · exact h0
    have hlt : i % z.length < zs.size := by rw [hl]; exact Nat.mod_lt _ hp
    simp only [Array.toList_map, Array.toList_range, List.getElem?_map, List.getElem?_range hi, Option.map_some, Option.some.injEq] at hv
    rw [hl, getElem!_pos zs _ hlt] at hv
    rw [Array.getElem?_toList, Array.getElem?_eq_getElem hlt, Option.some.injEq] at hu
    rw [← hv, hu]
  rw [this]; exact hr

/-- A row of cells, as it lies. -/
theorem OR_row {l : List AV} {vs : Array Value} (h : VRs E l vs.toList) (h1 : l.all oneA = true) (i : Nat) (ty : TypeId) : OR E i (.cells l.length 0 0 (Tr.setAll .leaf 0 l)) (.cells vs ty (0, 0)) := by
  have hl : vs.size = l.length := by have := VRs_length h; simpa using this
  refine ⟨vs, ty, 0, 0, rfl, by omega, .inl (by omega), fun j hj => ?_, fun h0 => absurd h0 (by omega), fun _ h0 => absurd h0 (by omega)⟩
  obtain ⟨a, ha⟩ : ∃ a, l[j]? = some a := ⟨l[j], List.getElem?_eq_getElem hj⟩
  obtain ⟨v, hv, hr⟩ := VRs_get h j a ha
  refine ⟨a, v, ?_, by simpa using hv, hr, ?_⟩
  · rw [Tr.get_setAll, if_pos ⟨by omega, by omega⟩]; simpa using ha
  · rw [List.all_eq_true] at h1; exact h1 a (List.mem_of_getElem? ha)

theorem run_newRow (t : TypeId) (c : Array Value) : (newRow t c).run P w = .ok ⟨w.heap.size, 0, none⟩ (w.alloc (.cells c t)) := by simp [newRow]

theorem zero_cells {t : TypeId} {y : TI} (ht : tyI P t = some y) {z : List AV} (hz : y.cells = some z) (E : Env) (w : World) :
    ∃ v, (zeroValue t).run P w = .ok v w ∧ VRs E z v.cells.toList ∧ z.all oneA = true := by
  unfold TI.cells at hz
  rw [Option.bind_eq_some_iff] at hz
  obtain ⟨zv, hzv, hc⟩ := hz
  obtain ⟨v, h1, h2⟩ := zero_rel ht hzv E w
  obtain ⟨h3, h4⟩ := VR_cells h2 hc
  exact ⟨v, h1, h3, h4⟩

theorem vrun' {s : Sem Value} {u : Value} {w' : World} (h : s.run P w = .ok u w') : (do pure (Next.value (← s)) : Sem Next).run P w = .ok (.value u) w' := vrun h

theorem evNew_sound {o : Oper} {i : Nat} {ob : AO} {r : AV} (ho : OpsR E T a o.op.operands.toList) (h : evNew T i (compI P o) = some (ob, r)) :
    ∃ obj u, (execOp a.eval o).run P w = .ok (.value u) (w.alloc obj) ∧ ∀ F, E.le F → F.m i = some w.heap.size → OR F i ob obj ∧ VR F r u := by
  obtain ⟨dst, op, ty, pos, after, guard⟩ := o
  cases op with
  | alloc t =>
    simp only [compI] at h
    split at h
    · rename_i z hz
      rw [Option.bind_eq_some_iff] at hz
      obtain ⟨y, hy, hz⟩ := hz
      simp only [evNew, Option.some.injEq, Prod.mk.injEq] at h
      obtain ⟨rfl, rfl⟩ := h
      obtain ⟨v, h1, h2, h3⟩ := zero_cells hy hz E w
      refine ⟨.cells v.cells t, .pointer (some ⟨w.heap.size, 0, none⟩), ?_, fun F hF hm => ⟨OR_row (VRs_mono hF _ _ h2) h3 i t, ?_⟩⟩
      · refine vrun' ?_
        simp [Instr.alloc, h1, newVar, run_newRow]
      · simp only [VR]; exact ⟨_, hm, rfl⟩
    · simp [evNew] at h
  | box t x =>
    simp only [compI] at h
    rcases c1_cases x .box with ⟨x', hx, e⟩ | ⟨n, e⟩
    · rw [e] at h
      have hv := ho x (by simp [Op.operands]) x' hx
      simp only [evNew] at h
      split at h
      · rename_i l hl
        simp only [Option.some.injEq, Prod.mk.injEq] at h
        obtain ⟨rfl, rfl⟩ := h
        obtain ⟨h2, h3⟩ := VR_cells hv hl
        refine ⟨.cells (a.eval x).cells t, .pointer (some ⟨w.heap.size, 0, none⟩), ?_, fun F hF hm => ⟨OR_row (VRs_mono hF _ _ h2) h3 i t, ?_⟩⟩
        · refine vrun' ?_
          simp [Instr.box, newVar, run_newRow]
        · simp only [VR]; exact ⟨_, hm, rfl⟩
      · cases h
    · rw [e] at h; simp [evNew] at h
  | buildSlice t n ps =>
    simp only [compI] at h
    split at h
    · rename_i y hy
      obtain ⟨iy, hiy, hu, _, _, _⟩ := tyI_some hy
      split at h
      · rename_i e hd
        split at h
        · rename_i ye hye
          obtain ⟨ie, hie, _, hse, _, _⟩ := tyI_some hye
          split at h
          · rename_i z hz
            split at h
            · rename_i hcond
              simp only [Bool.and_eq_true, beq_iff_eq, decide_eq_true_eq] at hcond
              obtain ⟨hzl, hsm⟩ := hcond
              split at h
              · rename_i l hl
                simp only [evNew] at h
                split at h
                · rename_i cs hcs
                  simp only [Option.some.injEq, Prod.mk.injEq] at h
                  obtain ⟨rfl, rfl⟩ := h
                  obtain ⟨v, h1, h2, h3⟩ := zero_cells hye hz E w
                  have ho' : OpsR E T a (ps.toList.map (·.2)) := ho.sub (by intro z hz; simpa [Op.operands] using hz)
                  obtain ⟨hlen, hpr⟩ := partsOf_rel hl
                  have hvl : v.cells.size = ye.size := by have := VRs_length h2; simpa [hzl] using this
                  have e1 : (ps.map fun (i, x) => (i, a.eval x)).toList = ps.toList.map fun (i, x) => (i, a.eval x) := by simp
                  have key : ∃ ys : Array Value, (Instr.buildSlice t n (ps.map fun (i, x) => (i, a.eval x))).run P w = .ok (.slice (some ⟨w.heap.size, 0, none⟩) n n) (w.alloc (.cells ys e)) ∧ VRs E cs ys.toList ∧ cs.all oneA = true := by
                    by_cases h0 : n * ye.size = 0
                    · have hz0 : (List.replicate n z).flatten = [] := List.eq_nil_of_length_eq_zero (by rw [rep_len, hzl, h0])
                      rw [hz0] at hcs
                      obtain ⟨ys, g1, g2, g3⟩ := fill_sound (E := E) (fun i => some (i * ye.size, ye.size)) ps.toList l hlen hpr ho' [] cs #[] VRs_nil rfl hcs
                      refine ⟨ys, ?_, g2, g3⟩
                      have g1' : Instr.fill (fun i => some (i * ye.size, ye.size)) #[] (List.map (fun x => (x.fst, a.eval x.snd)) ps.toList) = some ys := g1
                      unfold Instr.buildSlice
                      simp only [Sem.run_bind, run_underlying hu, hd, Result.andThen_ok, run_size hie, hse]
                      rw [if_neg (by omega), if_pos h0, h0]
                      have hrz : (Array.map (fun x => (#[] : Array Value)[x % (#[] : Array Value).size]!) (Array.range 0)) = #[] := by simp
                      simp only [Sem.run_bind, Sem.run_pure, Result.andThen_ok, e1, hrz, g1', run_newRow]
                    · have hr := rep_rel h2 n
                      rw [hzl] at hr
                      obtain ⟨ys, g1, g2, g3⟩ := fill_sound (fun i => some (i * ye.size, ye.size)) ps.toList l hlen hpr ho' _ cs _ hr (rep_all n h3) hcs
                      refine ⟨ys, ?_, g2, g3⟩
                      have g1' : Instr.fill (fun i => some (i * ye.size, ye.size)) (Array.map (fun x => v.cells[x % v.cells.size]!) (Array.range (n * ye.size))) (List.map (fun x => (x.fst, a.eval x.snd)) ps.toList) = some ys := g1
                      unfold Instr.buildSlice
                      simp only [Sem.run_bind, run_underlying hu, hd, Result.andThen_ok, run_size hie, hse]
                      rw [if_neg (by omega), if_neg h0]
                      simp only [Sem.run_bind, h1, Sem.run_pure, Result.andThen_ok, e1, g1', run_newRow]
                  have fin : ∀ (ys : Array Value), (Instr.buildSlice t n (ps.map fun (i, x) => (i, a.eval x))).run P w = .ok (.slice (some ⟨w.heap.size, 0, none⟩) n n) (w.alloc (.cells ys e)) → VRs E cs ys.toList → cs.all oneA = true →
                      ∃ obj u, (execOp a.eval ⟨dst, .buildSlice t n ps, ty, pos, after, guard⟩).run P w = .ok (.value u) (w.alloc obj) ∧
                        ∀ F, E.le F → F.m i = some w.heap.size → OR F i (.cells cs.length 0 0 (Tr.setAll .leaf 0 cs)) obj ∧ VR F (.slice i 0 n (some n)) u := by
                    intro ys g1 g2 g3
                    refine ⟨_, _, vrun' g1, fun F hF hm => ⟨OR_row (VRs_mono hF _ _ g2) g3 i e, ?_⟩⟩
                    simp only [VR]
                    exact ⟨_, n, hm, rfl, Nat.le_refl _, fun k' hk => (Option.some.inj hk), fun hk => by cases hk⟩
                  obtain ⟨ys, g1, g2, g3⟩ := key
                  exact fin ys g1 g2 g3
                · cases h
              · simp [evNew] at h
            · simp [evNew] at h
          · simp [evNew] at h
        · simp [evNew] at h
      · simp [evNew] at h
    · simp [evNew] at h
  | makeMap t r =>
    cases r with
    | none =>
      simp only [compI, evNew, Option.some.injEq, Prod.mk.injEq] at h
      obtain ⟨rfl, rfl⟩ := h
      refine ⟨.map #[] 0, .map (some w.heap.size), vrun' (by simp [Instr.makeMap]), fun F hF hm => ⟨⟨#[], rfl, rfl, by simp⟩, ?_⟩⟩
      simp only [VR]; exact ⟨_, hm, rfl⟩
    | some r => simp [compI, evNew] at h
  | makeSlice t l c =>
    simp only [compI] at h
    split at h
    · rename_i y hy
      obtain ⟨iy, hiy, hu, _, _, _⟩ := tyI_some hy
      split at h
      · rename_i e hd
        split at h
        · rename_i ye hye
          obtain ⟨ie, hie, _, hse, hbe, _⟩ := tyI_some hye
          split at h
          · rename_i z hz
            split at h
            · rename_i hzl
              rw [beq_iff_eq] at hzl
              rcases c2_cases l c (.mkSlice z ye.size ye.bytes) with ⟨l', c', hl, hc, e'⟩ | ⟨n, e'⟩
              · rw [e'] at h
                have hlv := ho l (by simp [Op.operands]) l' hl
                have hcv := ho c (by simp [Op.operands]) c' hc
                simp only [evNew] at h
                split at h
                · rename_i n hn
                  split at h
                  · rename_i m hm
                    split at h
                    · rename_i hcond
                      rw [band, band, nble, nble, nble] at hcond
                      obtain ⟨⟨hnm, hb1⟩, hbig⟩ := hcond
                      rw [nmul] at hbig
                      simp only [Option.some.injEq, Prod.mk.injEq] at h
                      obtain ⟨rfl, rfl⟩ := h
                      obtain ⟨k1, hlv⟩ := natOf_some hn hlv
                      obtain ⟨k2, hcv⟩ := natOf_some hm hcv
                      obtain ⟨v, h1, h2, h3⟩ := zero_cells hye hz E w
                      have hmm : m ≤ 70368744177664 := Nat.le_trans (Nat.le_mul_of_pos_right m hb1) hbig
                      have wm : IntKind.i64.wrap (m : Int) = (m : Int) := wrap_in .i64 _ (by rw [show sgn .i64 = true from rfl, if_pos rfl]; show -(((9223372036854775807 : Nat) : Int) + 1) ≤ _; omega) (by show _ ≤ ((9223372036854775807 : Nat) : Int); omega)
                      have wn : IntKind.i64.wrap (n : Int) = (n : Int) := wrap_in .i64 _ (by rw [show sgn .i64 = true from rfl, if_pos rfl]; show -(((9223372036854775807 : Nat) : Int) + 1) ≤ _; omega) (by show _ ≤ ((9223372036854775807 : Nat) : Int); omega)
                      have hbi : (ie.bytes : Int) * (m : Int) ≤ 281474976710656 := by
                        rw [← hbe] at hbig
                        have : ((m * ie.bytes : Nat) : Int) ≤ ((70368744177664 : Nat) : Int) := Int.ofNat_le.2 hbig
                        rw [Int.natCast_mul, Int.mul_comm] at this
                        omega
                      have hti : (typeInfo e).run P w = .ok ie w := by simp [typeInfo, hie]
                      have h2' := rep_rel h2 m
                      rw [hzl] at h2'
                      have key : ∃ ys : Array Value, (Instr.makeSlice t (a.eval l) (a.eval c)).run P w = .ok (.slice (some ⟨w.heap.size, 0, none⟩) n m) (w.alloc (.cells ys e)) ∧ VRs E ((List.replicate m z).flatten) ys.toList := by
                        have room : ∀ (s : Sem Value), ((do askRoom ((m : Int).toNat * ie.bytes); s : Sem Value)).run P w = s.run P w := by
                          intro s
                          unfold askRoom
                          split <;> simp [mark, Sem.run]
                        have hl0 : ¬ ((m : Int) < 0) := by omega
                        have hl1 : ¬ ((n : Int) < 0) := by omega
                        have hl2 : ¬ ((n : Int) > (m : Int)) := by omega
                        have hl3 : ¬ ((ie.bytes : Int) * (m : Int) > 281474976710656) := by omega
                        by_cases h0 : m * ye.size = 0
                        · have hz0 : (List.replicate m z).flatten = [] := List.eq_nil_of_length_eq_zero (by rw [rep_len, hzl, h0])
                          refine ⟨#[], ?_, by rw [hz0]; exact VRs_nil⟩
                          unfold Instr.makeSlice
                          simp only [Sem.run_bind, run_underlying hu, hd, Result.andThen_ok, hlv, hcv, asInt, asIntOf, Sem.run_pure, hti, wm, wn]
                          rw [if_neg (by simp only [hl0, hl1, hl2, decide_false, Bool.or_false]; simp; exact hbi)]
                          rw [room]
                          simp only [Int.toNat_natCast, Sem.run_bind, run_size hie, hse, Result.andThen_ok]
                          rw [if_pos h0, h0]
                          have hrz : (Array.map (fun x => (#[] : Array Value)[x % (#[] : Array Value).size]!) (Array.range 0)) = #[] := by simp
                          simp only [Sem.run_bind, Sem.run_pure, Result.andThen_ok, hrz, run_newRow]
                        · refine ⟨_, ?_, h2'⟩
                          unfold Instr.makeSlice
                          simp only [Sem.run_bind, run_underlying hu, hd, Result.andThen_ok, hlv, hcv, asInt, asIntOf, Sem.run_pure, hti, wm, wn]
                          rw [if_neg (by simp only [hl0, hl1, hl2, decide_false, Bool.or_false]; simp; exact hbi)]
                          rw [room]
                          simp only [Int.toNat_natCast, Sem.run_bind, run_size hie, hse, Result.andThen_ok]
                          rw [if_neg h0]
                          simp [run_newRow, h1]
                      have fin : ∀ (ys : Array Value), (Instr.makeSlice t (a.eval l) (a.eval c)).run P w = .ok (.slice (some ⟨w.heap.size, 0, none⟩) n m) (w.alloc (.cells ys e)) → VRs E ((List.replicate m z).flatten) ys.toList →
                          ∃ obj u, (execOp a.eval ⟨dst, .makeSlice t l c, ty, pos, after, guard⟩).run P w = .ok (.value u) (w.alloc obj) ∧
                            ∀ F, E.le F → F.m i = some w.heap.size → OR F i (.cells ((List.replicate m z).flatten).length 0 0 (Tr.setAll .leaf 0 ((List.replicate m z).flatten))) obj ∧ VR F (.slice i 0 n (some m)) u := by
                        intro ys g1 g2
                        refine ⟨_, _, vrun' g1, fun F hF hm' => ⟨OR_row (VRs_mono hF _ _ g2) (rep_all m h3) i e, ?_⟩⟩
                        simp only [VR]
                        exact ⟨_, m, hm', rfl, hnm, fun k' hk => (Option.some.inj hk), fun hk => by cases hk⟩
                      obtain ⟨ys, g1, g2⟩ := key
                      exact fin ys g1 g2
                    · cases h
                  · cases h
                · cases h
              · rw [e'] at h; simp [evNew] at h
            · simp [evNew] at h
          · simp [evNew] at h
        · simp [evNew] at h
      · simp [evNew] at h
    · simp [evNew] at h
  | range t x =>
    simp only [compI] at h
    split at h
    · rename_i ht
      rcases c1_cases x .rangeStr with ⟨x', hx, e⟩ | ⟨n, e⟩
      · rw [e] at h
        have hv := ho x (by simp [Op.operands]) x' hx
        simp only [evNew] at h
        split at h
        · rename_i n s hq
          simp only [Option.some.injEq, Prod.mk.injEq] at h
          obtain ⟨rfl, rfl⟩ := h
          rw [hq] at hv; simp only [VR] at hv
          obtain ⟨hlt, hv⟩ := hv
          refine ⟨.stringIter (strV n s) 0, .pointer (some ⟨w.heap.size, 0, none⟩), vrun' ?_, fun F hF hm => ⟨⟨hlt, rfl⟩, ?_⟩⟩
          · rw [hv]; simp [Instr.range, run_underlying ht]
          · simp only [VR]; exact ⟨_, hm, rfl⟩
        · cases h
      · rw [e] at h; simp [evNew] at h
    · rename_i ht
      rcases c1_cases x .rangeMap with ⟨x', hx, e⟩ | ⟨n, e⟩ <;> (rw [e] at h; simp [evNew] at h)
    · simp [evNew] at h
  | call c =>
    obtain ⟨callee, args, argTypes⟩ := c
    cases callee with
    | value f =>
      simp only [compI] at h
      cases f <;> simp only [] at h <;> first
        | (rcases cs_cases args.toList _ with ⟨x', hx, e⟩ | ⟨n, e⟩ <;> (rw [e] at h; simp [evNew] at h))
        | (split at h
           · rcases cs_cases args.toList _ with ⟨x', hx, e⟩ | ⟨n, e⟩ <;> (rw [e] at h; simp [evNew] at h)
           · simp [evNew] at h)
    | invoke r m => simp [compI, evNew] at h
    | builtin b =>
      cases b with
      | append | copy | delete | recover | println | len | max | min =>
        simp only [compI] at h
        repeat' (split at h)
        all_goals first
          | (simp [evNew] at h; done)
          | (rcases c1_cases _ _ with ⟨x', hx, e⟩ | ⟨n, e⟩ <;> (rw [e] at h; simp [evNew] at h; done))
          | (rcases c2_cases _ _ _ with ⟨x', y', hx, hy, e⟩ | ⟨n, e⟩ <;> (rw [e] at h; simp [evNew] at h; done))
      | _ => simp [compI, evNew] at h
  | makeFunc fn first caps =>
    cases fn with
    | func f =>
      simp only [compI] at h
      split at h
      · rcases cs_cases caps.toList (.mkFunc f []) with ⟨x', hx, e⟩ | ⟨n, e⟩ <;> (rw [e] at h; simp [evNew] at h; done)
      · simp [evNew] at h
    | _ => simp [compI, evNew] at h
  | next x b => cases b <;> (simp only [compI] at h; rcases c1_cases x _ with ⟨x', hx, e⟩ | ⟨n, e⟩ <;> (rw [e] at h; simp [evNew] at h))
  | move | assign | pick | build | insert | mapUpdate | load | store | nilCheck | binOp | unOp | convert | makeInterface | slice | fieldAddr | field | indexAddr | index | lookup | mapEntry | entryStore | typeAssert | entry | extract | defer | panic =>
    simp only [compI] at h
    repeat' (split at h)
    all_goals first
      | (simp [evNew] at h; done)
      | (rcases c1_cases _ _ with ⟨x', hx, e⟩ | ⟨n, e⟩ <;> (rw [e] at h; simp [evNew] at h; done))
      | (rcases c2_cases _ _ _ with ⟨x', y', hx, hy, e⟩ | ⟨n, e⟩ <;> (rw [e] at h; simp [evNew] at h; done))
      | (rcases c3_cases _ _ _ _ with ⟨x', y', z', hx, hy, hz, e⟩ | ⟨n, e⟩ <;> (rw [e] at h; simp [evNew] at h; done))
      | (rcases cs_cases _ _ with ⟨x', hx, e⟩ | ⟨n, e⟩ <;> (rw [e] at h; simp [evNew] at h; done))
  | _ => simp [compI, evNew] at h
end Ct
