/- The law of layer 14 on what is changed where nothing goes: its instruction that came in reads. -/
import Derived.Test.YtjkbhdocpjekmaaOpen
import Derived.Test.YtjkbhdocpjekmaaVLc
namespace Go.Proofs.Ytjkbhdocpjekmaa
open Go.RowKit Go.Deep Go.Joins
set_option linter.unusedVariables false

section
variable {H : Type} {enc : TypeId × Value → H} {w : World} {base : Nat} {spare : Nat → Bool} {held : Bool}
set_option maxRecDepth 100000 in
/-- An instruction that came in reads. -/
theorem open_ins {r : Go.Reach} {b0 : Nat} {v : Value} {d : DataW H} {p : List MemPlace} (hv : Value.okWide Try.prog w r b0 36 v) (h : DataW.Trod enc Try.prog w base spare held 36 v d p) : ∃ a b c, v = .agg #[.int .i64 a, .int .i64 b, .int .i64 c] := by
  obtain ⟨v0, v1, v2, y0, y1, y2, n, rfl, _, _, t0, t1, t2⟩ := open_agg3 Try.underlying36 (by kernel_rfl) (by kernel_rfl) hv h
  obtain ⟨z0, e0, _, _⟩ := DataW.trod_int Try.underlying3 t0
  obtain ⟨z1, e1, _, _⟩ := DataW.trod_int Try.underlying3 t1
  obtain ⟨z2, e2, _, _⟩ := DataW.trod_int Try.underlying3 t2
  simp only [List.cons.injEq, and_true] at e0 e1 e2
  subst e0 e1 e2
  exact ⟨z0, z1, z2, rfl⟩
end
end Go.Proofs.Ytjkbhdocpjekmaa
