/- From the row to the contracts on data: what the listed variables hold. -/
import Derived.Test.YtlfbopiefjpeaaaDoorLyF
import Derived.Test.YtlfbopiefjpeaaaDoorTie
import Derived.Test.YtlfbopiefjpeaaaDoorCards
import Derived.ProofKit
import Derived.OpenShut
import Derived.LaidMore
import Derived.Lay
import Derived.SevenTiedAt
import Derived.Stop.Joined
import Derived.Carry
import Derived.ChangeMaps5
set_option linter.unusedSimpArgs false
set_option linter.unusedVariables false
namespace Go.Lx
open Go Go.Sv Go.Proofs Go.Proofs.YtlfbopiefjpeaaaDoor Go.ChangeShapes Go.WideShapes Go.ChangeAt Go.RowKit
set_option maxRecDepth 100000
theorem own : ownKnob Tryd.prog.godebug = none := by kernel_rfl
theorem laidOut : laidOutB Tryd.prog = true := by kernel_rfl
theorem gRes : Tryd.prog.globalNamed "surveyor/lexer.reserved" = some 0 := by kernel_rfl
theorem tRes : (Tryd.prog.globals[0]?).map (·.type) = some 39 := by kernel_rfl
def laidL : List (String × DataW Unit) := Rows.lexerNamesRow.laid
theorem spot_of {w : World} {a : Addr} {v : Value} (h : w.cell? a = some v) : a.spot = none := by
  unfold World.cell? at h
  split at h
  · split at h
    · cases h
    · rename_i h1
      simpa using h1
  · cases h
theorem resDatum : (Rows.laid_surveyor_lexer_reserved : DataW Unit) = .slice (resL.map fun s => .lit (.string s.data.toList)) [] := rfl
theorem gl_of_laid {W : World} (h : laidMetH Tryd.prog laidL W) : ∃ im : Nat → Prop, (∀ b, im b → b < W.heap.size) ∧ GlOk E W im := by
  rw [MakeChecks.laidMetH_plain _ _ _ (by kernel_rfl)] at h
  obtain ⟨ps, ⟨g0, t0, cs0, f0, p0, q0, hg0, ht0, hv0, hd0, ⟨g1, t1, cs1, f1, p1, q1, hg1, ht1, hv1, hd1, _, _⟩, _⟩, _, _⟩ := h
  obtain rfl := Option.some.inj (gRes.symm.trans hg1)
  obtain rfl := Option.some.inj (tRes.symm.trans ht1)
  have c9 : Tryd.prog.cellsOf 9 = 1 := by kernel_rfl
  rcases DataW.trod_slice Tryd.underlying39 hd1 with ⟨_, hx⟩ | ⟨a, len, cap, elems, rs, n, rfl, hcs, hx, _, hlc, hcap, hel, he, _, _⟩
  · rw [resDatum] at hx
    cases hx
  · have hx1 : resL.map (fun s => (DataW.lit (.string s.data.toList) : DataW Unit)) = elems.map (·.1) := by
      have := congrArg Prod.fst hx
      rw [resDatum] at this
      exact (DataW.slice.inj this).1
    have hlen : len = 19 := by
      rw [← hel]
      have := congrArg List.length hx1
      simp only [List.length_map] at this
      rw [← this]
      rfl
    have hcell : W.cell? ⟨0, 0, none⟩ = some (.slice (some a) len cap) := by
      rw [World.var?_cell hg1 hv1 0, Array.eq_one_of_toList hcs]
      rfl
    have hc : ∀ i s, resL[i]? = some s → W.cell? (a.add i) = some (.string s) ∧ s.size ≤ maxLen := by
      intro i s hi
      have hil : i < len := by
        rw [hlen]
        exact (List.getElem?_eq_some_iff.1 hi).1
      have h1 := he i hil
      rw [c9, Nat.mul_one] at h1
      have h2 : (resL.map (fun s => (DataW.lit (.string s.data.toList) : DataW Unit)))[i]? = (elems.map (·.1))[i]? := by rw [hx1]
      rw [List.getElem?_map, List.getElem?_map, hi] at h2
      cases hei : elems[i]? with
      | none => rw [hei] at h2; cases h2
      | some y =>
        rw [hei] at h2 h1
        simp only [Option.map_some, Option.some.injEq] at h2
        cases hcc : W.cells? 0 (a.add i) 1 with
        | none => rw [hcc] at h1; cases h1
        | some cs' =>
          rw [hcc] at h1
          obtain ⟨s', rfl, hy, hs'⟩ := DataW.trod_string Tryd.underlying9 h1
          rw [hy] at h2
          simp only [DataW.lit.injEq, Lit.string.injEq] at h2
          have e : s = s' := by apply ByteArray.ext; apply Array.ext'; exact h2
          subst e
          exact ⟨cell_of_cells?_one hcc, hs'⟩
    have hspot : a.spot = none := by
      have := (hc 0 _ rfl).1
      have h0 : a.add 0 = a := rfl
      rw [h0] at this
      exact spot_of this
    obtain ⟨bk, o, sp⟩ := a
    simp only at hspot
    subst hspot
    have hblk : ∀ {x : Addr} {v : Value}, W.cell? x = some v → x.block < W.heap.size := fun h => World.block_lt_of_cell? _ _ h
    have hadd : ∀ i, (Addr.mk bk o none).add i = ⟨bk, o + i, none⟩ := by
      intro i
      unfold Addr.add
      by_cases h : i = 0
      · subst h; rfl
      · rw [if_neg h]
    refine ⟨fun b => b = 0 ∨ b = bk, ?_, ?_⟩
    · rintro b (rfl | rfl)
      · exact hblk hcell
      · have := (hc 0 _ rfl).1
        exact hblk this
    · intro g x hg
      match g, hg with
      | 0, hg =>
        have : x = resD := (Option.some.inj hg).symm
        subst this
        refine .ref resD 0 0 (fun _ => .slice (some ⟨bk, o, none⟩) len cap) rfl (.inl rfl) ?_ ?_
        · intro j c e
          match j, e with
          | 0, e => exact hcell
        · intro j c e
          match j, e with
          | 0, e =>
            have : c = resD := (Option.some.inj e).symm
            subst this
            have hll : (resL.map DV.str).length = len := by rw [hlen]; rfl
            rw [← hll]
            refine .sl 1 (resL.map DV.str) bk o cap (fun k => .string (resL.getD k default)) (by omega) (fun _ => .inr rfl) (by rw [hll]; exact hlc) (by rw [hll, hlen]; omega) ?_ ?_ ?_ ?_
            · intro x hx
              obtain ⟨s, _, rfl⟩ := List.mem_map.1 hx
              rfl
            · intro x hx
              obtain ⟨s, _, rfl⟩ := List.mem_map.1 hx
              rfl
            · intro i j x c hx hcx
              rw [List.getElem?_map] at hx
              cases hs : resL[i]? with
              | none => rw [hs] at hx; cases hx
              | some s =>
                rw [hs] at hx
                cases hx
                match j, hcx with
                | 0, hcx =>
                  have := (hc i s hs).1
                  rw [hadd] at this
                  rw [Nat.mul_one, Nat.add_zero, Nat.add_zero, List.getD_eq_getElem?_getD, hs]
                  exact this
            · intro i j x c hx hcx
              rw [List.getElem?_map] at hx
              cases hs : resL[i]? with
              | none => rw [hs] at hx; cases hx
              | some s =>
                rw [hs] at hx
                cases hx
                match j, hcx with
                | 0, hcx =>
                  cases hcx
                  rw [Nat.mul_one, Nat.add_zero, List.getD_eq_getElem?_getD, hs]
                  exact .str s (hc i s hs).2
end Go.Lx
