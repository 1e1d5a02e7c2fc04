/- Structs of three numbers, as arguments. -/
import Derived.Test.YtpcppjbjmdolnaaGreatDoorBase2
import Derived.Lib.SmallJoins
set_option maxRecDepth 100000
namespace Go.Proofs.YtpcppjbjmdolnaaGreatDoor
open Go Go.ChangeShapes Go.WideShapes Go.ChangeAt Go.RowKit Go.Joins

theorem cells68 : Tryz.prog.cellsOf 68 = 3 := by kernel_rfl
theorem cells23 : Tryz.prog.cellsOf 23 = 3 := by kernel_rfl
theorem shut68 {H : Type} {enc : TypeId × Value → H} (W' : World) (b : Nat) (sp : Nat → Bool) (hd : Bool) {x y f : Int} (wx : (Lit.int .i64 x).wf = true) (wy : (Lit.int .i64 y).wf = true) (wf : (Lit.int .i64 f).wf = true) :
    DataW.Trod enc Tryz.prog W' b sp hd 68 (.agg #[.int .i64 x, .int .i64 y, .int .i64 f]) (.agg [.lit (.int .i64 x), .lit (.int .i64 y), .lit (.int .i64 f)]) [] := by
  simpa using shut_agg3 (enc := enc) (w := W') (base := b) (spare := sp) (held := hd) (y0 := (.lit (.int .i64 x), [])) (y1 := (.lit (.int .i64 y), [])) (y2 := (.lit (.int .i64 f), [])) Tryz.underlying68 (by kernel_rfl) cells68 ⟨1, by simp [DataW.trod, Tryz.underlying3, wx]⟩ ⟨1, by simp [DataW.trod, Tryz.underlying3, wy]⟩ ⟨1, by simp [DataW.trod, Tryz.underlying3, wf]⟩
theorem shut23 {H : Type} {enc : TypeId × Value → H} (W' : World) (b : Nat) (sp : Nat → Bool) (hd : Bool) {x y f : Int} (wx : (Lit.int .i64 x).wf = true) (wy : (Lit.int .i64 y).wf = true) (wf : (Lit.int .i64 f).wf = true) :
    DataW.Trod enc Tryz.prog W' b sp hd 23 (.agg #[.int .i64 x, .int .i64 y, .int .i64 f]) (.agg [.lit (.int .i64 x), .lit (.int .i64 y), .lit (.int .i64 f)]) [] := by
  simpa using shut_agg3 (enc := enc) (w := W') (base := b) (spare := sp) (held := hd) (y0 := (.lit (.int .i64 x), [])) (y1 := (.lit (.int .i64 y), [])) (y2 := (.lit (.int .i64 f), [])) Tryz.underlying23 (by kernel_rfl) cells23 ⟨1, by simp [DataW.trod, Tryz.underlying2, wx]⟩ ⟨1, by simp [DataW.trod, Tryz.underlying3, wy]⟩ ⟨1, by simp [DataW.trod, Tryz.underlying3, wf]⟩
theorem open68 {H : Type} {enc : TypeId × Value → H} {w : World} {base : Nat} {spare : Nat → Bool} {held : Bool} {r : Reach} {b0 : Nat} {v : Value} {d : DataW H} {p : List MemPlace} (hv : Value.okWide Tryz.prog w r b0 68 v) (h : DataW.Trod enc Tryz.prog w base spare held 68 v d p) :
    ∃ x y f, v = .agg #[.int .i64 x, .int .i64 y, .int .i64 f] ∧ d = .agg [.lit (.int .i64 x), .lit (.int .i64 y), .lit (.int .i64 f)] ∧ p = [] ∧ (Lit.int .i64 x).wf = true ∧ (Lit.int .i64 y).wf = true ∧ (Lit.int .i64 f).wf = true := by
  obtain ⟨c0, c1, c2, y0, y1, y2, m, rfl, rfl, rfl, hy0, hy1, hy2⟩ := open_agg3 Tryz.underlying68 (by kernel_rfl) cells68 hv h
  obtain ⟨x, e0, rfl, wx⟩ := DataW.trod_int Tryz.underlying3 hy0
  obtain ⟨y, e1, rfl, wy⟩ := DataW.trod_int Tryz.underlying3 hy1
  obtain ⟨f, e2, rfl, wf⟩ := DataW.trod_int Tryz.underlying3 hy2
  simp at e0 e1 e2
  subst e0 e1 e2
  exact ⟨x, y, f, rfl, rfl, rfl, wx, wy, wf⟩
theorem open23 {H : Type} {enc : TypeId × Value → H} {w : World} {base : Nat} {spare : Nat → Bool} {held : Bool} {r : Reach} {b0 : Nat} {v : Value} {d : DataW H} {p : List MemPlace} (hv : Value.okWide Tryz.prog w r b0 23 v) (h : DataW.Trod enc Tryz.prog w base spare held 23 v d p) :
    ∃ x y f, v = .agg #[.int .i64 x, .int .i64 y, .int .i64 f] ∧ d = .agg [.lit (.int .i64 x), .lit (.int .i64 y), .lit (.int .i64 f)] ∧ p = [] ∧ (Lit.int .i64 x).wf = true ∧ (Lit.int .i64 y).wf = true ∧ (Lit.int .i64 f).wf = true := by
  obtain ⟨c0, c1, c2, y0, y1, y2, m, rfl, rfl, rfl, hy0, hy1, hy2⟩ := open_agg3 Tryz.underlying23 (by kernel_rfl) cells23 hv h
  obtain ⟨x, e0, rfl, wx⟩ := DataW.trod_int Tryz.underlying2 hy0
  obtain ⟨y, e1, rfl, wy⟩ := DataW.trod_int Tryz.underlying3 hy1
  obtain ⟨f, e2, rfl, wf⟩ := DataW.trod_int Tryz.underlying3 hy2
  simp at e0 e1 e2
  subst e0 e1 e2
  exact ⟨x, y, f, rfl, rfl, rfl, wx, wy, wf⟩
theorem VR_agg3 {E : Ct.Env} {a b c : Ct.SI} {x y z : Int} (hx : a.den E.ρ = x) (hy : b.den E.ρ = y) (hz : c.den E.ρ = z) : Ct.VR E (.agg [.sint .i64 a, .sint .i64 b, .sint .i64 c]) (.agg #[.int .i64 x, .int .i64 y, .int .i64 z]) := by
  simp only [Ct.VR]
  refine ⟨_, rfl, Ct.VRs_cons.2 ⟨?_, Ct.VRs_cons.2 ⟨?_, Ct.VRs_cons.2 ⟨?_, Ct.VRs_nil⟩⟩⟩, rfl⟩
  · simp only [Ct.VR]; rw [hx]
  · simp only [Ct.VR]; rw [hy]
  · simp only [Ct.VR]; rw [hz]
end Go.Proofs.YtpcppjbjmdolnaaGreatDoor
