/- 'copy', bytes, iterators. -/
import Derived.Test.YtpcppjbjmdolnaaGreatDoorCtO
namespace Ct
open Go
variable {P : Program} {U : Nat → Prop} {E : Env} {H : Tr AO} {nx : Nat} {pc : List (SB × Bool)} {w : World}

theorem strBytes_rel : ∀ (n x : Nat), VRs E ((strBytes n x).map fun b => .int .u8 (.ofNat b)) ((strL n x).map fun b => .int .u8 b.toNat)
  | 0, x => VRs_nil
  | n + 1, x => by
    simp only [strBytes, strL, List.map_cons]
    refine VRs_cons.2 ⟨?_, strBytes_rel n (x / 256)⟩
    rw [VR]
    have : (UInt8.ofNat (x % 256)).toNat = x % 256 := by simp
    rw [this]; rfl

theorem strBytes_len : ∀ (n x : Nat), (strBytes n x).length = n
  | 0, _ => rfl
  | n + 1, x => by simp [strBytes, strBytes_len n]

theorem strBytes_one (n x : Nat) : ((strBytes n x).map fun b => AV.int .u8 (.ofNat b)).all oneA = true := by
  rw [List.all_eq_true]
  intro a ha
  obtain ⟨b, _, rfl⟩ := List.mem_map.1 ha
  rfl

theorem src_len {b : AV} {bv : Value} {n : Nat} (hb : VR E b bv) (h : srcLen b = some n) : (Builtin.lenOf bv).run P w = .ok n w := by
  cases b <;> simp only [srcLen, Option.some.injEq] at h <;> first | (cases h; done) | skip
  · subst h
    simp only [VR] at hb
    rw [hb.2]; simp [Builtin.lenOf, strV_size]
  · subst h
    simp only [VR] at hb
    rw [hb]; simp [Builtin.lenOf]
  · subst h
    simp only [VR] at hb
    obtain ⟨_, _, _, rfl, _⟩ := hb
    simp [Builtin.lenOf]
  · subst h
    simp only [VR] at hb
    obtain ⟨_, _, rfl⟩ := hb
    simp [Builtin.lenOf]

theorem src_sound {b : AV} {bv : Value} {n m size : Nat} {cs : List AV} (hH : HR E H w) (hb : VR E b bv) (hm : srcLen b = some m) (hn : n ≤ m) (h : srcCells H size n b = some cs) :
    ∃ us : List Value, (Builtin.firstCells size n bv).run P w = .ok us.toArray w ∧ VRs E cs us ∧ cs.all oneA = true := by
  unfold srcCells at h
  split at h
  · cases h
    simp only [VR] at hb
    subst hb
    exact ⟨[], by simp [Builtin.firstCells], VRs_nil, rfl⟩
  · cases h
    simp only [VR] at hb
    obtain ⟨a, k, rfl⟩ := hb
    simp only [srcLen, Option.some.injEq] at hm
    have : n = 0 := by omega
    subst this
    exact ⟨[], by simp [Builtin.firstCells, loadCells, loadCellsFrom], VRs_nil, rfl⟩
  · rename_i i o ln c
    simp only [VR] at hb
    obtain ⟨bb, k, hbb, rfl, _⟩ := hb
    obtain ⟨us, h1, h2, h3, h4⟩ := ld_row hH hbb h
    rw [nmul] at h1
    exact ⟨us, run_firstCells_some (P := P) w size n _ _ _ us h1 h4, h2, h3⟩
  · rename_i ln x
    cases h
    simp only [VR] at hb
    obtain ⟨hlt, rfl⟩ := hb
    simp only [srcLen, Option.some.injEq] at hm
    subst hm
    refine ⟨(strL n x).map fun b => .int .u8 b.toNat, ?_, strBytes_rel n x, strBytes_one n x⟩
    have e : (strV ln x).extract 0 n = strV n (strCut x 0 n) := by
      have := strV_extract ln x 0 n (by omega) hn
      simpa using this
    simp only [Builtin.firstCells, e, Sem.run_pure]
    congr 1
    have e2 : strL n (strCut x 0 n) = strL n x := by
      unfold strCut
      rw [nmod, ndiv, npow, npow, Nat.pow_zero, Nat.div_one, strL_mod]
    simp [strV, e2]
  · cases h

theorem copy_sound {t ty e : TypeId} {ats : Array TypeId} {y : TI} (ha : ats[0]? = some t) (ht : P.underlying t = some (.slice e)) (hy : tyI P e = some y) {a b v : AV} {av bv : Value} {H' : Tr AO}
    (hav : VR E a av) (hbv : VR E b bv) (hs : SR U E H nx pc w) (h : copyE y.size H a b = some (v, H')) :
    ∃ u w', (Builtin.copy_ ats ty #[av, bv]).run P w = .ok u w' ∧ Aft U E nx w E H' nx pc w' ∧ VR E v u := by
  obtain ⟨i, hi, _, hsz, _, _⟩ := tyI_some hy
  unfold copyE at h
  split at h
  · rename_i n m hn hm
    split at h
    · rename_i cs hcs
      have hlen := src_len (P := P) (w := w) hbv hn
      obtain ⟨us, h1, h2, h3⟩ := src_sound (P := P) hs.hr hbv hn (Nat.min_le_left n m) hcs
      split at h
      · cases h
        simp only [VR] at hav
        subst hav
        simp only [srcLen, Option.some.injEq] at hm
        subst hm
        refine ⟨goInt 0, w, ?_, .same hs, by rw [VR]; rfl⟩
        simp only [Nat.min_zero] at h1
        have hmz : Nat.min n 0 = 0 := Nat.min_zero n
        simp [Builtin.copy_, ha, run_underlying ht, hlen, run_size hi, hsz, h1]
      · cases h
        simp only [VR] at hav
        obtain ⟨a', k', rfl⟩ := hav
        simp only [srcLen, Option.some.injEq] at hm
        subst hm
        refine ⟨goInt 0, w, ?_, .same hs, by rw [VR]; rfl⟩
        have hmz : Nat.min n 0 = 0 := Nat.min_zero n
        rw [Nat.min_zero] at h1
        rw [hmz] at hcs
        have hus : us = [] := by
          have hl := VRs_length h2
          unfold srcCells at hcs
          split at hcs
          · cases hcs; exact List.eq_nil_of_length_eq_zero (by simpa using hl)
          · cases hcs; exact List.eq_nil_of_length_eq_zero (by simpa using hl)
          · obtain ⟨q1, _, _, _⟩ := (ld_row hs.hr (by rename_i i' o' n' c'; simp only [VR] at hbv; exact hbv.choose_spec.choose_spec.1) hcs)
            unfold ldCells at hcs
            split at hcs
            · split at hcs
              · have := (Tr.getAll_some _ _ _ _ hcs).1
                rw [nmul, Nat.zero_mul] at this
                exact List.eq_nil_of_length_eq_zero (by omega)
              · cases hcs
            · cases hcs
          · cases hcs
            exact List.eq_nil_of_length_eq_zero (by simpa [strBytes] using hl)
          · cases hcs
        subst hus
        simp [Builtin.copy_, ha, run_underlying ht, hlen, run_size hi, hsz, h1, storeCells]
      · rename_i si so sn sc
        split at h
        · rename_i h' hst
          cases h
          simp only [VR] at hav
          obtain ⟨sb, k, hsb, rfl, _⟩ := hav
          simp only [srcLen, Option.some.injEq] at hm
          subst hm
          obtain ⟨g1, g2⟩ := st_sound (P := P) hs hsb h2 h3 hst
          refine ⟨goInt (Nat.min n sn), _, ?_, g2, by rw [VR]; rfl⟩
          simp [Builtin.copy_, ha, run_underlying ht, hlen, run_size hi, hsz, h1, g1]
        · cases h
      · cases h
    · cases h
  · cases h

theorem bytes_sound {e : TypeId} {n x : Nat} (_ : x < 256 ^ n) (hs : SR U E H nx pc w) :
    ∃ u E' w', (Conv.stringToBytes e (strV n x)).run P w = .ok u w' ∧
      Aft U E nx w E' (H.set nx (some (.cells n 0 0 (Tr.setAll .leaf 0 ((strBytes n x).map fun b => AV.int .u8 (.ofNat b)))))) (Nat.succ nx) pc w' ∧ VR E' (.slice nx 0 n none) u := by
  have hge := grownCap_ge w n 0 e
  let c := grownCap w n 0 e
  have hc : n ≤ c := hge
  let row : Array Value := ((strV n x).data.map fun b => Value.int .u8 b.toNat) ++ Array.replicate (c - n) (.int .u8 0)
  have hrow : row.size = c := by
    have h1 : (strV n x).data.size = n := strV_size n x
    simp [row, h1]; omega
  have hlist : row.toList = ((strL n x).map fun b => Value.int .u8 b.toNat) ++ List.replicate (c - n) (.int .u8 0) := by simp [row, strV]
  have hle := Env.le_mk1 (E := E) (hs.fresh nx (Nat.le_refl _)).1 w.heap.size c
  have hor : OR (E.mk1 nx w.heap.size c) nx (.cells n 0 0 (Tr.setAll .leaf 0 ((strBytes n x).map fun b => AV.int .u8 (.ofNat b)))) (.cells row e (c, c + 1)) := by
    refine ⟨row, e, c, c + 1, rfl, by omega, .inr (by omega), fun j hj => ?_, fun h0 => absurd h0 (by omega), fun _ h0 => absurd h0 (by omega)⟩
    have hl : ((strBytes n x).map fun b => AV.int .u8 (.ofNat b)).length = n := by rw [List.length_map, strBytes_len]
    have hjl : j < ((strBytes n x).map fun b => AV.int .u8 (.ofNat b)).length := by omega
    obtain ⟨v, hv, hr⟩ := VRs_get (strBytes_rel (E := E.mk1 nx w.heap.size c) n x) j _ (List.getElem?_eq_getElem hjl)
    refine ⟨_, v, ?_, ?_, hr, ?_⟩
    · rw [setAll_leaf j hjl]; exact List.getElem?_eq_getElem hjl
    · rw [← Array.getElem?_toList, hlist, List.getElem?_append_left (by simp [strL_length]; exact hj)]; exact hv
    · have := strBytes_one n x
      rw [List.all_eq_true] at this
      exact this _ (List.getElem_mem _)
  refine ⟨.slice (some ⟨w.heap.size, 0, none⟩) n c, _, ((w.drew.alloc (.cells row e)).freeze ⟨w.heap.size, c, none⟩ 1), ?_,
    Aft.new (obj := .cells row e (c, c + 1)) (c := c) hs rfl rfl rfl ?_ hor, ?_⟩
  · have hf : (Question.appendCap n 0 e).forced = false := rfl
    have hch : (choose (.appendCap n 0 e)).run P w = .ok c w.drew := by rw [run_choose, hf]; rfl
    have hsh : (w.drew.alloc (.cells row e)).shape? w.heap.size = some (e, c) := by
      have : (w.drew.alloc (.cells row e)).heap[w.heap.size]? = some (.cells row e) := heap_alloc_new w.drew _
      unfold World.shape?
      rw [this]
      simp [hrow]
    simp only [Conv.stringToBytes, strV_size, Sem.run_bind, hch, Result.andThen_ok, run_newRow, markStringish]
    have hrw : (((strV n x).data.map fun b => Value.int .u8 b.toNat) ++ Array.replicate (c - n) (.int .u8 0)) = row := rfl
    simp only [run_shape]
    have hd : w.drew.heap.size = w.heap.size := rfl
    rw [hd]
    rw [show (w.drew.alloc (Obj.cells (Array.map (fun b => Value.int IntKind.u8 ↑b.toNat) (strV n x).data ++ Array.replicate (c - n) (Value.int IntKind.u8 0)) e)).shape? w.heap.size = some (e, c) from hsh]
    simp only [run_freeze, Result.andThen_ok, Sem.run_pure]
    rfl
  · have e1 : ((w.drew.alloc (.cells row e)).freeze ⟨w.heap.size, c, none⟩ 1).heap = (w.heap.push (.cells row e)).modify w.heap.size fun
      | .cells c' elem (lo, hi) => .cells c' elem (if lo == hi then (c, c + 1) else (min lo c, max hi (c + 1)))
      | o => o := rfl
    rw [e1]
    apply Array.ext_getElem?
    intro j
    rw [Array.getElem?_modify, Array.getElem?_push, Array.getElem?_push]
    by_cases hj : j = w.heap.size
    · subst hj; simp
    · simp [hj, Ne.symm hj]
  · rw [VR]
    exact ⟨w.heap.size, c, Env.mk1_same _ _ _ _, rfl, hc, (fun k' hk => by cases hk), fun _ _ => (Env.mk1_cap _ _ _ _).symm⟩

/-! ## Iterators -/
theorem rangeNil_sound {t kt et : TypeId} (ht : P.underlying t = some (.map kt et)) (hs : SR U E H nx pc w) :
    ∃ u E' w', (Instr.range t (.map none)).run P w = .ok u w' ∧ Aft U E nx w E' (H.set nx (some (.miter none 0 [] 0))) (Nat.succ nx) pc w' ∧ VR E' (.ptr nx 0) u := by
  refine ⟨.pointer (some ⟨w.heap.size, 0, none⟩), E.mk1 nx w.heap.size 0, w.alloc (.mapIter none 0 #[] 0), by simp [Instr.range, run_underlying ht], Aft.new hs rfl rfl rfl rfl ⟨none, rfl, rfl⟩, ?_⟩
  rw [VR]; exact ⟨_, Env.mk1_same _ _ _ _, rfl⟩

theorem range_sound {t kt et : TypeId} (ht : P.underlying t = some (.map kt et)) (hs : SR U E H nx pc w) {i b clock : Nat} {es : List (AV × AV × Nat)} (hi : H.get i = some (.map es clock)) (hb : E.m i = some b) :
    ∃ u E' w', (Instr.range t (.map (some b))).run P w = .ok u w' ∧ Aft U E nx w E' (H.set nx (some (.miter (some i) clock [] clock))) (Nat.succ nx) pc w' ∧ VR E' (.ptr nx 0) u := by
  obtain ⟨x, hx, fs, rfl, hfs⟩ := hs.hr.obj i _ b hi hb
  have hne : i ≠ nx := by
    rintro rfl
    rw [(hs.fresh i (Nat.le_refl _)).1] at hb; cases hb
  refine ⟨.pointer (some ⟨w.heap.size, 0, none⟩), E.mk1 nx w.heap.size 0, w.alloc (.mapIter (some b) clock #[] clock), by simp [Instr.range, run_underlying ht, run_getMap hx],
    Aft.new hs rfl rfl rfl rfl ⟨some b, rfl, b, by rw [Env.mk1_other E _ _ hne]; exact hb, rfl⟩, ?_⟩
  rw [VR]; exact ⟨_, Env.mk1_same _ _ _ _, rfl⟩

theorem run_getObj {b : Nat} {o : Obj} (h : w.heap[b]? = some o) (hc : ∀ c e f, o ≠ .cells c e f) : (getObj b).run P w = .ok o w := by
  cases o <;> simp [getObj, Sem.run, h]
  exact absurd rfl (hc _ _ _)

theorem decode_ascii {n x pos : Nat} (hp : pos < n) (hb : strByte x pos < 128) : Utf8.decode (strV n x) pos = (strByte x pos, 1) := by
  have hget : ((strV n x).get! pos).toNat = strByte x pos := by
    have h1 := strL_get n x pos hp
    have h2 : (strV n x).get! pos = UInt8.ofNat (x / 256 ^ pos % 256) := by
      show (strL n x).toArray[pos]! = _
      rw [List.getElem!_toArray, List.getElem!_eq_getElem?_getD, h1]; rfl
    rw [h2]
    simp [strByte, nmod, ndiv]
  unfold Utf8.decode
  simp only [Nat.add_zero, hget]
  rw [if_pos (by simpa using hb)]

theorem nextStr_sound {ty : TypeId} {i b n y pos : Nat} (hs : SR U E H nx pc w) (hi : H.get i = some (.siter n y pos)) (hb : E.m i = some b) :
    (Nat.blt pos n = false → (Instr.next (.pointer (some ⟨b, 0, none⟩)) true ty).run P w = .ok (.tuple #[.bool false]) w) ∧
    (Nat.blt pos n = true → Nat.blt (strByte y pos) 128 = true → ∃ w', (Instr.next (.pointer (some ⟨b, 0, none⟩)) true ty).run P w = .ok (.tuple #[.bool true, goInt pos, .int .i32 (strByte y pos : Nat)]) w' ∧
      Aft U E nx w E (H.set i (some (.siter n y (Nat.succ pos)))) nx pc w') := by
  obtain ⟨x, hx, hlt, rfl⟩ := hs.hr.obj i _ b hi hb
  have hg := run_getObj (P := P) hx (by simp)
  constructor
  · intro hp
    rw [nbltF] at hp
    simp only [Instr.next, Sem.run_bind, hg, Result.andThen_ok, strV_size]
    rw [if_neg (by omega)]; rfl
  · intro hp hc
    rw [nblt] at hp hc
    have hset := run_set (P := P) (o' := .stringIter (strV n y) (pos + 1)) hx (by simp)
    refine ⟨_, ?_, Aft.setObj hs hi hb (obj := .stringIter (strV n y) (pos + 1)) ⟨hlt, rfl⟩⟩
    simp only [Instr.next, Sem.run_bind, hg, Result.andThen_ok, strV_size]
    rw [if_pos hp]
    simp only [decode_ascii hp hc, Sem.run_bind, hset, Result.andThen_ok, Sem.run_pure]

theorem MapRel_filter {p : AV × AV × Nat → Bool} {q : MapEntry → Bool} (hpq : ∀ e f, ER E e f → p e = q f) : ∀ {es : List (AV × AV × Nat)} {fs : List MapEntry}, MapRel E es fs → MapRel E (es.filter p) (fs.filter q)
  | [], fs, h => by
    have : fs = [] := List.eq_nil_of_length_eq_zero (by simpa using h.1)
    subst this; exact h
  | e :: es, [], h => by have := h.1; simp at this
  | e :: es, f :: fs, h => by
    obtain ⟨h1, hm⟩ := MapRel_cons h
    have ih := MapRel_filter hpq hm
    rw [List.filter_cons, List.filter_cons, hpq e f h1]
    split
    · refine ⟨by simp [ih.1], fun i x y hx hy => ?_⟩
      cases i with
      | zero => simp at hx hy; subst hx; subst hy; exact h1
      | succ i => exact ih.2 i x y (by simpa using hx) (by simpa using hy)
    · exact ih

theorem MapRel_append {es1 es2 : List (AV × AV × Nat)} {fs1 fs2 : List MapEntry} (h1 : MapRel E es1 fs1) (h2 : MapRel E es2 fs2) : MapRel E (es1 ++ es2) (fs1 ++ fs2) := by
  have hl := h1.1
  refine ⟨by simp [h1.1, h2.1], fun i x y hx hy => ?_⟩
  rcases Nat.lt_or_ge i es1.length with hlt | hge
  · rw [List.getElem?_append_left hlt] at hx
    rw [List.getElem?_append_left (by omega)] at hy
    exact h1.2 i x y hx hy
  · rw [List.getElem?_append_right hge] at hx
    rw [List.getElem?_append_right (by omega), hl] at hy
    exact h2.2 _ x y hx hy

theorem nextMapNil_sound {ty : TypeId} {i b s : Nat} {seen : List Nat} {st : Nat} (hs : SR U E H nx pc w) (hi : H.get i = some (.miter none s seen st)) (hb : E.m i = some b) :
    (Instr.next (.pointer (some ⟨b, 0, none⟩)) false ty).run P w = .ok (.tuple #[.bool false]) w := by
  obtain ⟨x, hx, m', rfl, hm⟩ := hs.hr.obj i _ b hi hb
  have hm' : m' = none := hm
  subst hm'
  have hg := run_getObj (P := P) hx (by simp)
  simp only [Instr.next, Sem.run_bind, hg, Result.andThen_ok]; rfl

theorem nextMap_sound {ty : TypeId} {i b m since last clock : Nat} {seen : List Nat} {es : List (AV × AV × Nat)} (hs : SR U E H nx pc w) (hi : H.get i = some (.miter (some m) since seen last)) (hb : E.m i = some b)
    (hmap : H.get m = some (.map es clock)) (hok : ((seen.isEmpty).not.and (es.isEmpty.not)).and (es.all fun e => Nat.ble last e.2.2) = false) :
    ∃ j, j < (cands es since seen).length ∧ ∃ u w', (Instr.next (.pointer (some ⟨b, 0, none⟩)) false ty).run P w = .ok u w' ∧
      (match (cands es since seen)[j]? with
        | some (some e) => VR E (.tup [.bool true, e.1, e.2.1]) u ∧ Aft U E nx w E (H.set i (some (.miter (some m) since (seen ++ [e.2.2]) clock))) nx pc w'
        | some none => u = .tuple #[.bool false] ∧ Aft U E nx w E H nx pc w'
        | none => False) := by
  obtain ⟨x, hx, m', rfl, bm, hbm, rfl⟩ := hs.hr.obj i _ b hi hb
  obtain ⟨xm, hxm, fs, rfl, hfs⟩ := hs.hr.obj m _ bm hmap hbm
  have hg := run_getObj (P := P) hx (by simp)
  have hleft : MapRel E (es.filter fun e => (seen.contains e.2.2).not) (fs.toList.filter fun e => !seen.toArray.contains e.born) := MapRel_filter (fun e f h => by rw [h.2.2]; simp) hfs
  have hold : MapRel E ((es.filter fun e => (seen.contains e.2.2).not).filter fun e => Nat.blt e.2.2 since) ((fs.toList.filter fun e => !seen.toArray.contains e.born).filter fun e => decide (e.born < since)) :=
    MapRel_filter (fun e f h => by
      rw [h.2.2]
      cases hb : Nat.blt e.2.2 since with
      | true => rw [nblt] at hb; simp [hb]
      | false => rw [nbltF] at hb; simp; omega) hleft
  have hnew : MapRel E ((es.filter fun e => (seen.contains e.2.2).not).filter fun e => Nat.ble since e.2.2) ((fs.toList.filter fun e => !seen.toArray.contains e.born).filter fun e => decide (e.born ≥ since)) :=
    MapRel_filter (fun e f h => by
      rw [h.2.2]
      cases hb : Nat.ble since e.2.2 with
      | true => rw [nble] at hb; simp [hb]
      | false => rw [nbleF] at hb; simp; omega) hleft
  have hall := MapRel_append hold hnew
  -- the candidates of the model, as a list
  let fl := fs.filter fun e => !seen.toArray.contains e.born
  let fo := fl.filter fun e => decide (e.born < since)
  let fn := fl.filter fun e => decide (e.born ≥ since)
  let fc : Array (Option MapEntry) := (if fo.isEmpty then #[none] else #[]) ++ (fo ++ fn).map some
  have hfo : fo.toList = (fs.toList.filter fun e => !seen.toArray.contains e.born).filter fun e => decide (e.born < since) := by simp [fo, fl]
  have hfn : fn.toList = (fs.toList.filter fun e => !seen.toArray.contains e.born).filter fun e => decide (e.born ≥ since) := by simp [fn, fl]
  rw [← hfo] at hold
  rw [← hfn] at hnew
  rw [← hfo, ← hfn] at hall
  have hcl : ∀ j : Nat, (match (cands es since seen)[j]?, fc[j]? with
      | some (some e), some (some f) => ER E e f
      | some none, some none => True
      | none, none => True
      | _, _ => False) := by
    intro j
    have e2 : fc.toList = (if fo.isEmpty then [none] else []) ++ (fo.toList ++ fn.toList).map some := by
      simp only [fc]; split <;> simp
    have hemp : fo.isEmpty = ((es.filter fun e => (seen.contains e.2.2).not).filter fun e => Nat.blt e.2.2 since).isEmpty := by
      have := hold.1
      rw [Bool.eq_iff_iff]
      simp only [Array.isEmpty_iff_size_eq_zero, List.isEmpty_iff_length_eq_zero]
      rw [← Array.length_toList]; omega
    rw [← Array.getElem?_toList, e2, hemp]
    unfold cands
    simp only []
    have tail : ∀ k : Nat, (match ((((es.filter fun e => (seen.contains e.2.2).not).filter fun e => Nat.blt e.2.2 since) ++ ((es.filter fun e => (seen.contains e.2.2).not).filter fun e => Nat.ble since e.2.2)).map some)[k]?, ((fo.toList ++ fn.toList).map some)[k]? with
        | some (some e), some (some f) => ER E e f
        | some none, some none => True
        | none, none => True
        | _, _ => False) := by
      intro k
      rw [List.getElem?_map, List.getElem?_map]
      have hl := hall.1
      cases he : (((es.filter fun e => (seen.contains e.2.2).not).filter fun e => Nat.blt e.2.2 since) ++ ((es.filter fun e => (seen.contains e.2.2).not).filter fun e => Nat.ble since e.2.2))[k]? with
      | none =>
        rw [List.getElem?_eq_none_iff] at he
        have : (fo.toList ++ fn.toList)[k]? = none := by rw [List.getElem?_eq_none_iff]; omega
        rw [this]; trivial
      | some e =>
        have h1 := (List.getElem?_eq_some_iff.1 he).1
        have h2 : (fo.toList ++ fn.toList)[k]? = some ((fo.toList ++ fn.toList)[k]'(by omega)) := List.getElem?_eq_getElem (by omega)
        rw [h2]
        exact hall.2 k e _ he h2
    cases hq : ((es.filter fun e => (seen.contains e.2.2).not).filter fun e => Nat.blt e.2.2 since) with
    | nil =>
      rw [hq] at tail
      simp only [List.isEmpty_nil, if_true]
      cases j with
      | zero => simp
      | succ j => simpa using tail j
    | cons q qs =>
      rw [hq] at tail
      simpa using tail j
  have hlen : fc.size = (cands es since seen).length := by
    rcases Nat.lt_trichotomy fc.size (cands es since seen).length with h | h | h
    · have := hcl fc.size
      rw [Array.getElem?_eq_none (Nat.le_refl _), List.getElem?_eq_getElem h] at this
      split at this <;> simp_all
    · exact h
    · have := hcl (cands es since seen).length
      rw [List.getElem?_eq_none (Nat.le_refl _), Array.getElem?_eq_getElem h] at this
      split at this <;> simp_all
  have hpos : 0 < fc.size := by
    by_cases h : fo.isEmpty
    · simp [fc, h]; omega
    · have : 0 < fo.size := by
        rcases Nat.eq_zero_or_pos fo.size with h0 | h0
        · exact absurd (by simpa [Array.isEmpty_iff_size_eq_zero] using h0) h
        · exact h0
      simp [fc, h]; omega
  -- what is drawn
  obtain ⟨j, w1, hch, hj, hal⟩ : ∃ j w1, (choose (.mapNext fc.size)).run P w = .ok j w1 ∧ j < fc.size ∧ Alike w w1 := by
    rw [run_choose]
    by_cases hf : (Question.mapNext fc.size).forced = true
    · exact ⟨0, w, by rw [if_pos hf], hpos, ⟨rfl, rfl, rfl, rfl⟩⟩
    · exact ⟨(Question.mapNext fc.size).cut (w.tape w.drawn (.mapNext fc.size)), { w with drawn := w.drawn + 1 }, by rw [if_neg hf], Nat.mod_lt _ hpos, ⟨rfl, rfl, rfl, rfl⟩⟩
  have hstop : (!seen.toArray.isEmpty && !fs.isEmpty && fs.all (fun e => decide (e.born ≥ last))) = false := by
    have e1 : fs.isEmpty = es.isEmpty := by
      have := hfs.1
      rw [Bool.eq_iff_iff]
      simp only [Array.isEmpty_iff_size_eq_zero, List.isEmpty_iff_length_eq_zero]
      rw [← Array.length_toList]; omega
    have e2 : ∀ {es : List (AV × AV × Nat)} {fs : List MapEntry}, MapRel E es fs → (fs.all fun e => decide (e.born ≥ last)) = es.all fun e => Nat.ble last e.2.2 := by
      intro es
      induction es with
      | nil => intro fs h; have : fs = [] := List.eq_nil_of_length_eq_zero (by simpa using h.1); subst this; rfl
      | cons e es ih =>
        intro fs h
        cases fs with
        | nil => have := h.1; simp at this
        | cons f fs =>
          obtain ⟨h1, hm⟩ := MapRel_cons h
          rw [List.all_cons, List.all_cons, ih hm, h1.2.2]
          congr 1
          cases hb : Nat.ble last e.2.2 with
          | true => rw [nble] at hb; simp [hb]
          | false => rw [nbleF] at hb; simp; omega
    have e3 := e2 hfs
    have hok' : (!seen.isEmpty && !es.isEmpty && es.all fun e => Nat.ble last e.2.2) = false := hok
    rw [← Array.all_toList, e3, e1]
    simpa using hok'
  have hs1 := hs.alike hal.heap
  have hal0 : Aft U E nx w E H nx pc w1 := Aft.alike hs hal
  have hx1 : w1.heap[b]? = some (.mapIter (some bm) since seen.toArray last) := by rw [hal.heap]; exact hx
  have hbase : ∀ (r : Result Value), ((do
      match fc[← choose (.mapNext fc.size)]? with
      | some (some e) =>
        setObj b (.mapIter (some bm) since (seen.toArray.push e.born) clock)
        pure (.tuple #[.bool true, e.key, e.val])
      | some none => pure (.tuple #[.bool false])
      | none => stuck "Next: no such candidate" : Sem Value)).run P w = r → (Instr.next (.pointer (some ⟨b, 0, none⟩)) false ty).run P w = r := by
    intro r hr
    simp only [Instr.next, Sem.run_bind, hg, Result.andThen_ok, run_getMap hxm]
    rw [if_neg (by rw [hstop]; simp)]
    exact hr
  refine ⟨j, by omega, ?_⟩
  have hc := hcl j
  have hfj : fc[j]? = some fc[j] := Array.getElem?_eq_getElem hj
  cases hce : (cands es since seen)[j]? with
  | none => rw [hce, hfj] at hc; split at hc <;> simp_all
  | some oe =>
    rw [hce, hfj] at hc
    cases oe with
    | none =>
      cases hfe : fc[j] with
      | some f => rw [hfe] at hc; exact hc.elim
      | none =>
        refine ⟨_, w1, hbase _ ?_, rfl, hal0⟩
        simp only [Sem.run_bind, hch, Result.andThen_ok, hfj, hfe, Sem.run_pure]
    | some e =>
      cases hfe : fc[j] with
      | none => rw [hfe] at hc; exact hc.elim
      | some f =>
        rw [hfe] at hc
        have hc' : ER E e f := hc
        have hset := run_set (P := P) (o' := .mapIter (some bm) since (seen.toArray.push f.born) clock) hx1 (by simp)
        refine ⟨.tuple #[.bool true, f.key, f.val], { w1 with heap := w1.heap.setIfInBounds b (.mapIter (some bm) since (seen.toArray.push f.born) clock) }, hbase _ ?_, ?_, ?_⟩
        · simp only [Sem.run_bind, hch, Result.andThen_ok, hfj, hfe, hset, Sem.run_pure]
        · rw [VR]
          exact ⟨_, rfl, VRs_cons.2 ⟨by rw [VR], VRs_cons.2 ⟨hc'.1, VRs_cons.2 ⟨hc'.2.1, VRs_nil⟩⟩⟩⟩
        · refine hal0.trans (Aft.setObj hs1 hi hb (obj := .mapIter (some bm) since (seen.toArray.push f.born) clock) ⟨some bm, ?_, bm, hbm, rfl⟩)
          rw [hc'.2.2]; simp
end Ct
