/- The library's iterator over the lines of a text, and the lexer's Strip over it. -/
import Derived.Test.YtlfbopiefjpeaaaDoorLxM
import Derived.RangeFuncNested
import Derived.RangeFuncBound
import Derived.RangeFuncCalls
import Derived.RangeFuncLeaves
import Derived.RangeFuncFrom
import Derived.Shelf.Abstract
import Derived.Shelf.RegionOpen
import Derived.WalkKit
import Derived.OwnWalkIn
import Derived.TacticsInMore
import Derived.LoopNIn
import Derived.LoopIn
set_option linter.unusedSimpArgs false
set_option linter.unusedVariables false
namespace Go.Lx
open Go Go.Proofs Go.Shelf Go.RowKit
set_option maxRecDepth 100000
attribute [local go_sem] Oper.semAt_some
/-- The three boxes of the iterator over lines. -/
def boxes (s p : ByteArray) (w : World) : World := ((w.alloc (.cells #[.string s] 9)).alloc (.cells #[.string p] 9)).alloc (.cells #[.int .i64 p.size] 3)
set_option maxHeartbeats 1000000 in
theorem splitSeq82 (s p : ByteArray) (w : World) : Calls Tryd.prog 82 #[.string s, .string p, .int .i64 p.size] w fun e w' => e = .returned (.func (.func 96) #[] #[.pointer (some ⟨w.heap.size + 1, 0, none⟩), .pointer (some ⟨w.heap.size, 0, none⟩), .pointer (some ⟨w.heap.size + 2, 0, none⟩)]) ∧ w' = boxes s p w := by
  go_enter Tryd.func82, Tryd.ntmps82
  go_wp2
  go_ret
  exact ⟨by simp, rfl⟩
set_option maxHeartbeats 1000000 in
theorem splitAfter58 (s p : ByteArray) (w : World) : Calls Tryd.prog 58 #[.string s, .string p] w fun e w' => e = .returned (.func (.func 96) #[] #[.pointer (some ⟨w.heap.size + 1, 0, none⟩), .pointer (some ⟨w.heap.size, 0, none⟩), .pointer (some ⟨w.heap.size + 2, 0, none⟩)]) ∧ w' = boxes s p w := by
  go_enter Tryd.func58, Tryd.ntmps58
  go_wp2_with (go_at_call 82; refine (splitSeq82 s p _).mono ?_)
  rintro e w1 ⟨rfl, rfl⟩
  go_wp2
  go_ret
  exact ⟨by simp, rfl⟩
/-- One line without its comment. -/
def lineOf (x : List UInt8) : List UInt8 := if Lib.indexByte x 35 < 0 then x else x.take (Lib.indexByte x 35).toNat ++ (if Lib.hasSuffix x [10] = true then [10] else [])
/-- What comes of the lines of a text. -/
def linesOut : Nat → List UInt8 → List UInt8
  | 0, _ => []
  | f + 1, l => if Lib.indexByte l 10 < 0 then lineOf l else lineOf (l.take ((Lib.indexByte l 10).toNat + 1)) ++ linesOut f (l.drop ((Lib.indexByte l 10).toNat + 1))
theorem linesOut_succ (f : Nat) (l : List UInt8) : linesOut (f + 1) l = if Lib.indexByte l 10 < 0 then lineOf l else lineOf (l.take ((Lib.indexByte l 10).toNat + 1)) ++ linesOut f (l.drop ((Lib.indexByte l 10).toNat + 1)) := rfl
theorem indexByte_lt (l : List UInt8) (c : UInt8) : Lib.indexByte l c < l.length ∨ (l = [] ∧ Lib.indexByte l c = -1) := by
  induction l with
  | nil => right; exact ⟨rfl, rfl⟩
  | cons b r ih =>
    left
    simp only [Lib.indexByte, List.length_cons]
    split
    · omega
    · split
      · omega
      · rcases ih with h | ⟨_, h⟩ <;> omega
theorem lineOf_len (x : List UInt8) : (lineOf x).length ≤ x.length := by
  unfold lineOf
  by_cases h : Lib.indexByte x 35 < 0
  · rw [if_pos h]; exact Nat.le_refl _
  · rw [if_neg h]
    rcases indexByte_lt x 35 with hl | ⟨_, hl⟩
    · split
      · simp only [List.length_append, List.length_take, List.length_cons, List.length_nil]; omega
      · simp only [List.length_append, List.length_take, List.length_nil]; omega
    · omega
set_option maxHeartbeats 2000000 in
/-- The iterator over lines, for every loop body that keeps its boxes. -/
theorem iter96 (n : Nat) (hn : 1 ≤ n) (l c0 : Nat) (J : ByteArray → List UInt8 → World → Prop)
    (hJ0 : ∀ r out W, J r out W → W.cell? ⟨c0, 0, none⟩ = some (.string r) ∧ W.cell? ⟨c0 + 1, 0, none⟩ = some (.string ⟨#[10]⟩) ∧ W.cell? ⟨c0 + 2, 0, none⟩ = some (.int .i64 1) ∧ W.frozen? ⟨c0, 0, none⟩ = false)
    (hJs : ∀ r r' out W, J r out W → J r' out (W.setCell ⟨c0, 0, none⟩ (.string r')))
    (hY : ∀ r out x W, J r out W → out.length + x.size ≤ 65536 → YieldAt Fence.wide (n - 1) Tryd.prog l #[.string x] W fun e W' => e = .returned (.bool true) ∧ J r (out ++ lineOf x.data.toList) W')
    (s : ByteArray) (hs : s.size ≤ 65536) (W : World) (h0 : J s [] W) :
    CallsIn Fence.wide n Tryd.prog 96 #[.func (.yield l) #[] #[], .pointer (some ⟨c0 + 1, 0, none⟩), .pointer (some ⟨c0, 0, none⟩), .pointer (some ⟨c0 + 2, 0, none⟩)] W fun e W' => (∃ v, e = .returned v) ∧ ∃ r', J r' (linesOut (s.size + 1) s.data.toList) W' := by
  refine callsIn_of_wp Tryd.func96 rfl trivial ?_ rfl
  simp only [Tryd.ntmps96, List.size_toArray, List.length_cons, List.length_nil, Nat.reduceAdd, Nat.reduceSub, Array.replicate_succ, Array.replicate_zero, List.push_toArray, List.append_toArray, List.nil_append, List.cons_append]
  obtain ⟨k0, k1, k2, k3⟩ := hJ0 _ _ _ h0
  gi_wp2
  gi_loopw [] (fun wr => ∃ (r : ByteArray) (out : List UInt8) (f : Nat), J r out wr ∧ r.size < f ∧ out ++ linesOut f r.data.toList = linesOut (s.size + 1) s.data.toList ∧ out.length + r.size ≤ 65536)
    (fun wr => match wr.cell? ⟨c0, 0, none⟩ with | some (.string r) => r.size | _ => 0)
  case atStart =>
    exact ⟨s, [], s.size + 1, h0, by omega, rfl, by simpa using hs⟩
  case round =>
    obtain ⟨r, out, f, hJr, hf, hR, hlen⟩ := hrel
    obtain ⟨f, rfl⟩ : ∃ g, f = g + 1 := ⟨f - 1, by omega⟩
    obtain ⟨k0, k1, k2, k3⟩ := hJ0 _ _ _ hJr
    have h1 := Tryd.strings_Index_one r 10 wr
    rw [linesOut_succ] at hR
    have hil := indexByte_lt r.data.toList 10
    have hig := Lib.indexByte_ge r.data.toList 10
    obtain ⟨i, hi⟩ : ∃ i, Lib.indexByte r.data.toList 10 = i := ⟨_, rfl⟩
    rw [hi] at h1 hR hil hig
    by_cases hneg : i < 0
    · rw [if_pos hneg] at hR
      obtain ⟨fn, tmps, assign, body, hy, hRd⟩ := hY r out r wr hJr hlen
      gi_wp2_with (refine ⟨trivial, ?_⟩; gi_at_call 61; refine (callsIn_wide.2 h1).mono ?_; rintro e w1 ⟨rfl, rfl⟩)
      refine hRd.mono ?_
      rintro e W3 ⟨rfl, hJ3⟩
      gi_wp2
      go_end0
      exact ⟨⟨_, rfl⟩, r, by rw [← hR]; exact hJ3⟩
    · rw [if_neg hneg] at hR
      have hpos : 0 ≤ i := by omega
      have hlt : i < r.size := by
        rcases hil with h | ⟨_, h⟩
        · simpa using h
        · omega
      have hw : wrap64 (i + 1) = i + 1 := IntWalk.wrap64_in _ (by omega)
      have hb : 0 ≤ i + 1 ∧ i + 1 ≤ r.size := by omega
      have hx : (r.extract 0 (i + 1).toNat).data.toList = r.data.toList.take (i.toNat + 1) := by
        have e : (i + 1).toNat = 0 + (i.toNat + 1) := by omega
        rw [e]
        simp [ByteArray.data_extract, List.extract_eq_take_drop]
      have hy2 : (r.extract (i + 1).toNat r.size).data.toList = r.data.toList.drop (i.toNat + 1) := by
        have e : (i + 1).toNat = i.toNat + 1 := by omega
        rw [e]
        have hl : r.data.toList.length = r.size := by simp
        simp only [ByteArray.data_extract, Array.toList_extract, List.extract_eq_take_drop]
        exact List.take_of_length_le (by rw [List.length_drop, hl]; exact Nat.le_refl _)
      have hz1 : (r.extract 0 (i + 1).toNat).size = i.toNat + 1 := by rw [ByteArray.size_extract]; omega
      have hz2 : (r.extract (i + 1).toNat r.size).size = r.size - (i.toNat + 1) := by rw [ByteArray.size_extract]; omega
      obtain ⟨fn, tmps, assign, body, hy, hRd⟩ := hY r out (r.extract 0 (i + 1).toNat) wr hJr (by rw [hz1]; omega)
      gi_wp2_with (refine ⟨trivial, ?_⟩; gi_at_call 61; refine (callsIn_wide.2 h1).mono ?_; rintro e w1 ⟨rfl, rfl⟩)
      refine hRd.mono ?_
      rintro e W3 ⟨rfl, hJ3⟩
      obtain ⟨m0, m1, m2, m3⟩ := hJ0 _ _ _ hJ3
      gi_wp2
      have hlen' := lineOf_len (r.data.toList.take (i.toNat + 1))
      go_roundw
      case rel =>
        refine ⟨r.extract (i + 1).toNat r.size, _, f, hJs _ _ _ _ hJ3, by rw [hz2]; omega, ?_, ?_⟩
        · rw [hx, hy2, List.append_assoc]
          exact hR
        · rw [hx, List.length_append, hz2]
          simp only [List.length_take, Array.length_toList] at hlen'
          have : r.data.size = r.size := rfl
          omega
      case measure =>
        have := (hJ0 _ _ _ (hJs r (r.extract (i + 1).toNat r.size) _ _ hJ3)).1
        rw [this, k0]
        simp only [hz2]
        omega
end Go.Lx
namespace Go.Lx
open Go Go.Proofs Go.Shelf Go.RowKit
set_option maxRecDepth 100000
attribute [local go_sem] Oper.semAt_some
/-- A range over the lines of a text: what the caller owes is one round of the body. -/
theorem wpIn_lines {g : Operand} {ps : Array Tmp} {assign body : Code} {Q : Exit → Act → World → Prop} {a : Act} {w : World} {n : Nat} (hn : 3 ≤ n) (s : ByteArray) (hs : s.size ≤ 65536)
    (c0 : Nat) (hg : a.eval g = .func (.func 96) #[] #[.pointer (some ⟨c0 + 1, 0, none⟩), .pointer (some ⟨c0, 0, none⟩), .pointer (some ⟨c0 + 2, 0, none⟩)]) (hps : ps.size = 1) (hc : c0 + 3 ≤ w.heap.size)
    (I : ByteArray → List UInt8 → World → Prop)
    (hI0 : ∀ r out W, I r out W → W.cell? ⟨c0, 0, none⟩ = some (.string r) ∧ W.cell? ⟨c0 + 1, 0, none⟩ = some (.string ⟨#[10]⟩) ∧ W.cell? ⟨c0 + 2, 0, none⟩ = some (.int .i64 1) ∧ W.frozen? ⟨c0, 0, none⟩ = false)
    (hIs : ∀ r r' out W, I r out W → I r' out (W.setCell ⟨c0, 0, none⟩ (.string r')))
    (hIp : ∀ r out W k o o', I r out W → w.heap.size ≤ k → W.heap[k]? = some o → o.isCells = false → I r out (W.putObj k o'))
    (h0 : ∀ o, I s [] ((w.alloc (.deferred (some []))).alloc o)) (a₁ : ByteArray → Act)
    (hassign : ∀ (l : Nat) (x : ByteArray) (W : World) (K : Act → World → Prop), K (a₁ x) W →
      assign.wpIn (Fence.wide.inRound l) (n - 1 - 1) Tryd.prog (Exit.then K (fun _ _ _ => False)) { tmps := (ps.zip #[.string x]).foldl (fun t (p, v) => t.setIfInBounds p v) a.tmps, defers := [] } W)
    (hbody : ∀ (l : Nat) (r : ByteArray) (out : List UInt8) (x : ByteArray) (W : World), I r out W → out.length + x.size ≤ 65536 →
      body.wpIn (Fence.wide.inRound l) (n - 1 - 1) Tryd.prog (fun e _ W' => match e with | .normal => KeepsOthers W W' ∧ I r (out ++ lineOf x.data.toList) W' | _ => False) (a₁ x) W)
    (hdone : ∀ (D : Nat) (r : ByteArray) (W : World), w.heap.size ≤ D → I r (linesOut (s.size + 1) s.data.toList) W → W.heap[D]? = some (.deferred (some [])) → Q .normal { a with defers := { target := .collected D, args := #[] } :: a.defers } W) :
    (Code.rangeFunc g ps assign body).wpIn Fence.wide n Tryd.prog Q a w := by
  refine wpIn_rangeFunc ?_
  intro fn hfn
  rw [show Fence.wide.round = none from rfl]
  obtain ⟨rec, hrec⟩ : ∃ rec : LoopState → Option Code → Loop, rec = fun st pe => { state := st, pending := pe, fn, tmps := a.tmps, params := ps, assign, body, defers := w.heap.size } := ⟨_, rfl⟩
  obtain ⟨W1, hW1⟩ : ∃ W1, (w.alloc (.deferred (some []))).alloc (.loop (rec .ready none)) = W1 := ⟨_, rfl⟩
  have hL1 : W1.heap[w.heap.size + 1]? = some (.loop (rec .ready none)) := by
    rw [← hW1]; have := World.alloc_heap_new (w.alloc (.deferred (some []))) (.loop (rec .ready none)); rwa [World.size_alloc] at this
  have hK1 : W1.heap[w.heap.size]? = some (.deferred (some [])) := by
    rw [← hW1]; exact (Below.heap_alloc _ _ _ (by simp)).trans (World.alloc_heap_new w _)
  have hI1 : I s [] W1 := by rw [← hW1]; exact h0 _
  refine ⟨w.heap.size + 1, [{ target := .collected w.heap.size, args := #[] }], W1, { target := .fn (.func 96) #[.pointer (some ⟨c0 + 1, 0, none⟩), .pointer (some ⟨c0, 0, none⟩), .pointer (some ⟨c0 + 2, 0, none⟩)], args := #[.func (.yield (w.heap.size + 1)) #[] #[]] }, W1, 96,
    #[.func (.yield (w.heap.size + 1)) #[] #[]] ++ #[.pointer (some ⟨c0 + 1, 0, none⟩), .pointer (some ⟨c0, 0, none⟩), .pointer (some ⟨c0 + 2, 0, none⟩)], W1, ?_, ?_, ?_, ?_, fun _ => by omega, ?_⟩
  · rw [← hW1, hrec]; exact run_enterLoop_outer _ _ _ _ _
  · simp only [resolve, hg]
    simp [go_sem]
  · intro f' hf'; exact trivial
  · have eg : ∀ args w, (callFunc 96 args).run Tryd.prog w = .ok (.enter 96 args) w := enters_of Tryd.func96 (by kernel_rfl) rfl
    simp [invoke, go_sem, eg]
  · refine (iter96 (n - 1) (by omega) (w.heap.size + 1) c0 (fun r out W => I r out W ∧ W.heap[w.heap.size + 1]? = some (.loop (rec .ready none)) ∧ W.heap[w.heap.size]? = some (.deferred (some [])))
      (fun r out W h => hI0 r out W h.1)
      (fun r r' out W h => ⟨hIs _ _ _ _ h.1, (Below.heap_setCell W _ _ _ (by simp only; omega)).trans h.2.1, (Below.heap_setCell W _ _ _ (by simp only; omega)).trans h.2.2⟩)
      ?_ s hs W1 ⟨hI1, hL1, hK1⟩).mono ?_
    · rintro r out x W ⟨hi, hl, hk⟩ hlen
      have hlt : w.heap.size + 1 < W.heap.size := (Array.getElem?_eq_some_iff.1 hl).1
      have hy := run_yield (P := Tryd.prog) (args := #[.string x]) hl (by rw [hrec]; exact hps.symm)
      rw [hrec] at hy
      refine ⟨fn, _, assign, body, hy, roundIn_of_wpIn hfn (hassign _ x W _ ⟨_, run_beginRound hl (by rw [hrec]), ?_⟩)⟩
      have hl2 : (W.putObj (w.heap.size + 1) (.loop { rec .ready none with state := .busy })).heap[w.heap.size + 1]? = some (.loop { rec .ready none with state := .busy }) := World.putObj_heap_same hlt
      have hk2 : (W.putObj (w.heap.size + 1) (.loop { rec .ready none with state := .busy })).heap[w.heap.size]? = some (.deferred (some [])) := (World.putObj_heap_other (by omega)).trans hk
      refine wpIn_mono (hbody _ r out x _ (hIp _ _ _ _ _ _ hi (by omega) hl rfl) hlen) ?_
      rintro e a3 W3 hp
      cases e with
      | normal =>
        obtain ⟨hk3, hi3⟩ := hp
        have hl3 := hk3.same _ _ hl2 rfl
        have hr := run_endRound (P := Tryd.prog) none hl3
        rw [hrec] at hr hl3
        refine ⟨_, _, hr, rfl, hIp _ _ _ _ _ _ hi3 (by omega) hl3 rfl, ?_, (World.putObj_heap_other (by omega)).trans (hk3.same _ _ hk2 rfl)⟩
        rw [hrec]
        exact World.putObj_heap_same (Array.getElem?_eq_some_iff.1 hl3).1
      | ret => exact hp.elim
      | exit id => exact hp.elim
      | goto t => exact hp.elim
      | panic ch => exact hp.elim
      | outgrown => exact hp.elim
    · rintro e W2 ⟨⟨v, rfl⟩, r', hi, hl, hk⟩
      exact ⟨none, _, by have := run_endLoop (P := Tryd.prog) hl (by rw [hrec]; simp); rw [hrec] at this; exact this, hdone _ r' _ (Nat.le_refl _) (hIp _ _ _ _ _ _ hi (by omega) hl rfl) ((World.putObj_heap_other (by omega)).trans hk)⟩
end Go.Lx
