/- The lexer's functions, by the walk: tokens that stand apart. -/
import Derived.Test.YtlfbopiefjpeaaaDoorLxS
set_option linter.unusedSimpArgs false
set_option linter.unusedVariables false


namespace Go.Lx
open Go Go.Sv Go.Proofs Go.Shelf Go.RowKit
set_option maxRecDepth 100000
theorem rd_tup3 {w : World} {im : Nat → Prop} {a b c : DV} {v : Value} (h : Rd w im (.tup [a, b, c]) v) : ∃ x y z, v = .tuple #[x, y, z] ∧ Rd w im a x ∧ Rd w im b y ∧ Rd w im c z := by
  cases h with
  | tup cs vs hs hr =>
    refine ⟨vs.getD 0 undef, vs.getD 1 undef, vs.getD 2 undef, ?_, hr 0 _ rfl, hr 1 _ rfl, hr 2 _ rfl⟩
    congr 1
    apply Array.ext
    · simpa using hs
    · intro i hi1 hi2
      have : i = 0 ∨ i = 1 ∨ i = 2 := by simp at hi2; omega
      rcases this with rfl | rfl | rfl <;> simp [Array.getD, hi1]
theorem rd_nilSl {w : World} {im : Nat → Prop} {v : Value} (h : Rd w im .nilSl v) : v = .slice none 0 0 := by cases h; rfl
/-- Scan, as a call. -/
theorem scan_calls (s : ByteArray) (hs : s.size ≤ maxLen) {w : World} {im : Nat → Prop} (h1 : ∀ b, im b → b < w.heap.size) (h2 : GlOk E w im) :
    Calls Tryd.prog 12 #[.string s] w fun e w' => ∃ v im', e = .returned v ∧ Rd w' im' (scanD (scanAll s)) v ∧ (∀ b, im b → im' b) ∧ (∀ b, im' b → b < w'.heap.size) ∧ (∀ b, b < w.heap.size → im' b → im b) ∧ Below w.heap.size w w' := by
  refine below_of_pure (scan12 number57 s (by unfold maxLen at hs; omega)) (vs := #[.string s]) h1 h2 rfl (fun j d e => ?_)
  match j, e with
  | 0, e => simp at e; subst e; exact .str _ hs
end Go.Lx
