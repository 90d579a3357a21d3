/- The lexer's functions, by the walk: tokens that stand apart. -/
import Derived.Test.YtlfbopiefjpeaaaDoorLxN
import Derived.Test.YtlfbopiefjpeaaaDoorLxQ
set_option linter.unusedSimpArgs false
set_option linter.unusedVariables false
namespace Go.Lx
open Go Go.Sv Go.Proofs Go.Shelf Go.RowKit
set_option maxRecDepth 100000
def Tk.v (x : Tk) : Value := .agg #[.int .i64 x.k, .string x.t, .int .i64 x.a]
theorem rd_tok {w : World} {im : Nat → Prop} {x : Tk} {v : Value} (h : Rd w im x.d v) : v = x.v ∧ x.t.size ≤ maxLen := by
  obtain ⟨k, t, a⟩ := x
  cases h with
  | agg cs vs hs hl hr =>
    have r0 := hr 0 _ rfl
    have r1 := rd_str (hr 1 _ rfl)
    have r2 := hr 2 _ rfl
    have e0 := rd_int r0
    have e2 := rd_int r2
    refine ⟨?_, r1.2⟩
    unfold Tk.v
    congr 1
    apply Array.ext
    · simpa using hs
    · intro i hi1 hi2
      have : i = 0 ∨ i = 1 ∨ i = 2 := by simp at hi2; omega
      rcases this with rfl | rfl | rfl
      · simpa [Array.getD, hi1] using e0
      · simpa [Array.getD, hi1] using r1.1
      · simpa [Array.getD, hi1] using e2
theorem rd_tok_mk (w : World) (im : Nat → Prop) {x : Tk} (h : x.t.size ≤ maxLen) : Rd w im x.d x.v := by
  refine .agg _ _ rfl (by intro c hc; simp at hc; rcases hc with rfl | rfl | rfl <;> rfl) ?_
  intro j c e
  match j, e with
  | 0, e => simp at e; subst e; exact .int _ _
  | 1, e => simp at e; subst e; exact .str _ h
  | 2, e => simp at e; subst e; exact .int _ _
/-- Where a token lies. -/
structure TokAt (W : World) (b o : Nat) (x : Tk) : Prop where
  k : W.cell? ⟨b, o, none⟩ = some (.int .i64 x.k)
  t : W.cell? ⟨b, o + 1, none⟩ = some (.string x.t)
  a : W.cell? ⟨b, o + 2, none⟩ = some (.int .i64 x.a)
  small : x.t.size ≤ maxLen
/-- A list of tokens that lies in memory. -/
theorem rd_toks {w : World} {im : Nat → Prop} {l : List Tk} {v : Value} (h : Rd w im (.sl 3 (l.map Tk.d)) v) :
    (l = [] ∧ ∃ a, v = .slice a 0 0) ∨ ∃ b o cap, v = .slice (some ⟨b, o, none⟩) l.length cap ∧ l.length ≤ cap ∧ l.length ≤ 281474976710656 ∧ (l ≠ [] → im b) ∧ ∀ i x, l[i]? = some x → TokAt w b (o + i * 3) x := by
  generalize hd : DV.sl 3 (l.map Tk.d) = d at h
  cases h with
  | slNil e a =>
    left
    cases l with
    | nil => exact ⟨rfl, a, rfl⟩
    | cons x r => simp at hd
  | sl e xs b o cap us he0 hb hn hm he hl hc hr =>
    right
    simp only [DV.sl.injEq] at hd
    obtain ⟨rfl, rfl⟩ := hd
    rw [List.length_map] at hn hm ⊢
    refine ⟨b, o, cap, rfl, hn, hm, fun h => hb (by simpa using h), fun i x e => ?_⟩
    have hx : (l.map Tk.d)[i]? = some x.d := by rw [List.getElem?_map, e]; rfl
    have e0 := rd_int (hr i 0 _ _ hx rfl)
    have e1 := rd_str (hr i 1 _ _ hx rfl)
    have e2 := rd_int (hr i 2 _ _ hx rfl)
    have c0 := hc i 0 _ _ hx rfl
    have c1 := hc i 1 _ _ hx rfl
    have c2 := hc i 2 _ _ hx rfl
    rw [e0] at c0
    rw [e1.1] at c1
    rw [e2] at c2
    exact ⟨c0, c1, c2, e1.2⟩
  | _ => cases hd
end Go.Lx


namespace Go.Lx
open Go Go.Sv Go.Proofs Go.Shelf Go.RowKit
set_option maxRecDepth 100000
theorem rd_tup3 {w : World} {im : Nat → Prop} {a b c : DV} {v : Value} (h : Rd w im (.tup [a, b, c]) v) : ∃ x y z, v = .tuple #[x, y, z] ∧ Rd w im a x ∧ Rd w im b y ∧ Rd w im c z := by
  cases h with
  | tup cs vs hs hr =>
    refine ⟨vs.getD 0 undef, vs.getD 1 undef, vs.getD 2 undef, ?_, hr 0 _ rfl, hr 1 _ rfl, hr 2 _ rfl⟩
    congr 1
    apply Array.ext
    · simpa using hs
    · intro i hi1 hi2
      have : i = 0 ∨ i = 1 ∨ i = 2 := by simp at hi2; omega
      rcases this with rfl | rfl | rfl <;> simp [Array.getD, hi1]
theorem rd_nilSl {w : World} {im : Nat → Prop} {v : Value} (h : Rd w im .nilSl v) : v = .slice none 0 0 := by cases h; rfl
/-- Scan, as a call. -/
theorem scan_calls (s : ByteArray) (hs : s.size ≤ maxLen) {w : World} {im : Nat → Prop} (h1 : ∀ b, im b → b < w.heap.size) (h2 : GlOk E w im) :
    Calls Tryd.prog 12 #[.string s] w fun e w' => ∃ v im', e = .returned v ∧ Rd w' im' (scanD (scanAll s)) v ∧ (∀ b, im b → im' b) ∧ (∀ b, im' b → b < w'.heap.size) ∧ (∀ b, b < w.heap.size → im' b → im b) ∧ Below w.heap.size w w' := by
  refine below_of_pure (scan12 number57 s (by unfold maxLen at hs; omega)) (vs := #[.string s]) h1 h2 rfl (fun j d e => ?_)
  match j, e with
  | 0, e => simp at e; subst e; exact .str _ hs
end Go.Lx
