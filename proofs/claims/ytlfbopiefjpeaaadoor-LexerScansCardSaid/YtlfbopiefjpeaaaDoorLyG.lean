/- From the row to the contracts on data: what the listed variables hold. -/
import Derived.Test.YtlfbopiefjpeaaaDoorLyF
import Derived.Test.YtlfbopiefjpeaaaDoorTie
import Derived.Test.YtlfbopiefjpeaaaDoorCards
import Derived.ProofKit
import Derived.OpenShut
import Derived.LaidMore
import Derived.Lay
import Derived.SevenTiedAt
import Derived.Stop.Joined
import Derived.Carry
import Derived.ChangeMaps5
set_option linter.unusedSimpArgs false
set_option linter.unusedVariables false
namespace Go.Lx
open Go Go.Sv Go.Proofs Go.Proofs.YtlfbopiefjpeaaaDoor Go.ChangeShapes Go.WideShapes Go.ChangeAt Go.RowKit
set_option maxRecDepth 100000
theorem own : ownKnob Tryd.prog.godebug = none := by kernel_rfl
theorem laidOut : laidOutB Tryd.prog = true := by kernel_rfl
theorem gRes : Tryd.prog.globalNamed "surveyor/lexer.reserved" = some 0 := by kernel_rfl
theorem tRes : (Tryd.prog.globals[0]?).map (·.type) = some 39 := by kernel_rfl
def laidL : List (String × DataW Unit) := Rows.lexerNamesRow.laid
theorem spot_of {w : World} {a : Addr} {v : Value} (h : w.cell? a = some v) : a.spot = none := by
  unfold World.cell? at h
  split at h
  · split at h
    · cases h
    · rename_i h1
      simpa using h1
  · cases h
theorem resDatum : (Rows.laid_surveyor_lexer_reserved : DataW Unit) = .slice (resL.map fun s => .lit (.string s.data.toList)) [] := rfl
theorem gl_of_laid {W : World} (h : laidMetH Tryd.prog laidL W) : ∃ im : Nat → Prop, (∀ b, im b → b < W.heap.size) ∧ GlOk E W im := by
  rw [MakeChecks.laidMetH_plain _ _ _ (by kernel_rfl)] at h
  obtain ⟨ps, ⟨g0, t0, cs0, f0, p0, q0, hg0, ht0, hv0, hd0, ⟨g1, t1, cs1, f1, p1, q1, hg1, ht1, hv1, hd1, _, _⟩, _⟩, _, _⟩ := h
  obtain rfl := Option.some.inj (gRes.symm.trans hg1)
  obtain rfl := Option.some.inj (tRes.symm.trans ht1)
  have c9 : Tryd.prog.cellsOf 9 = 1 := by kernel_rfl
  rcases DataW.trod_slice Tryd.underlying39 hd1 with ⟨_, hx⟩ | ⟨a, len, cap, elems, rs, n, rfl, hcs, hx, _, hlc, hcap, hel, he, _, _⟩
  · rw [resDatum] at hx
    cases hx
  · have hx1 : resL.map (fun s => (DataW.lit (.string s.data.toList) : DataW Unit)) = elems.map (·.1) := by
      have := congrArg Prod.fst hx
      rw [resDatum] at this
      exact (DataW.slice.inj this).1
    have hlen : len = 19 := by
      rw [← hel]
      have := congrArg List.length hx1
      simp only [List.length_map] at this
      rw [← this]
      rfl
    have hcell : W.cell? ⟨0, 0, none⟩ = some (.slice (some a) len cap) := by
      rw [World.var?_cell hg1 hv1 0, Array.eq_one_of_toList hcs]
      rfl
    have hc : ∀ i s, resL[i]? = some s → W.cell? (a.add i) = some (.string s) ∧ s.size ≤ maxLen := by
      intro i s hi
      have hil : i < len := by
        rw [hlen]
        exact (List.getElem?_eq_some_iff.1 hi).1
      have h1 := he i hil
      rw [c9, Nat.mul_one] at h1
      have h2 : (resL.map (fun s => (DataW.lit (.string s.data.toList) : DataW Unit)))[i]? = (elems.map (·.1))[i]? := by rw [hx1]
      rw [List.getElem?_map, List.getElem?_map, hi] at h2
      cases hei : elems[i]? with
      | none => rw [hei] at h2; cases h2
      | some y =>
        rw [hei] at h2 h1
        simp only [Option.map_some, Option.some.injEq] at h2
        cases hcc : W.cells? 0 (a.add i) 1 with
        | none => rw [hcc] at h1; cases h1
        | some cs' =>
          rw [hcc] at h1
          obtain ⟨s', rfl, hy, hs'⟩ := DataW.trod_string Tryd.underlying9 h1
          rw [hy] at h2
          simp only [DataW.lit.injEq, Lit.string.injEq] at h2
          have e : s = s' := by apply ByteArray.ext; apply Array.ext'; exact h2
          subst e
          exact ⟨cell_of_cells?_one hcc, hs'⟩
    have hspot : a.spot = none := by
      have := (hc 0 _ rfl).1
      have h0 : a.add 0 = a := rfl
      rw [h0] at this
      exact spot_of this
    obtain ⟨bk, o, sp⟩ := a
    simp only at hspot
    subst hspot
    have hblk : ∀ {x : Addr} {v : Value}, W.cell? x = some v → x.block < W.heap.size := fun h => World.block_lt_of_cell? _ _ h
    have hadd : ∀ i, (Addr.mk bk o none).add i = ⟨bk, o + i, none⟩ := by
      intro i
      unfold Addr.add
      by_cases h : i = 0
      · subst h; rfl
      · rw [if_neg h]
    refine ⟨fun b => b = 0 ∨ b = bk, ?_, ?_⟩
    · rintro b (rfl | rfl)
      · exact hblk hcell
      · have := (hc 0 _ rfl).1
        exact hblk this
    · intro g x hg
      match g, hg with
      | 0, hg =>
        have : x = resD := (Option.some.inj hg).symm
        subst this
        refine .ref resD 0 0 (fun _ => .slice (some ⟨bk, o, none⟩) len cap) rfl (.inl rfl) ?_ ?_
        · intro j c e
          match j, e with
          | 0, e => exact hcell
        · intro j c e
          match j, e with
          | 0, e =>
            have : c = resD := (Option.some.inj e).symm
            subst this
            have hll : (resL.map DV.str).length = len := by rw [hlen]; rfl
            rw [← hll]
            refine .sl 1 (resL.map DV.str) bk o cap (fun k => .string (resL.getD k default)) (by omega) (fun _ => .inr rfl) (by rw [hll]; exact hlc) (by rw [hll, hlen]; omega) ?_ ?_ ?_ ?_
            · intro x hx
              obtain ⟨s, _, rfl⟩ := List.mem_map.1 hx
              rfl
            · intro x hx
              obtain ⟨s, _, rfl⟩ := List.mem_map.1 hx
              rfl
            · intro i j x c hx hcx
              rw [List.getElem?_map] at hx
              cases hs : resL[i]? with
              | none => rw [hs] at hx; cases hx
              | some s =>
                rw [hs] at hx
                cases hx
                match j, hcx with
                | 0, hcx =>
                  have := (hc i s hs).1
                  rw [hadd] at this
                  rw [Nat.mul_one, Nat.add_zero, Nat.add_zero, List.getD_eq_getElem?_getD, hs]
                  exact this
            · intro i j x c hx hcx
              rw [List.getElem?_map] at hx
              cases hs : resL[i]? with
              | none => rw [hs] at hx; cases hx
              | some s =>
                rw [hs] at hx
                cases hx
                match j, hcx with
                | 0, hcx =>
                  cases hcx
                  rw [Nat.mul_one, Nat.add_zero, List.getD_eq_getElem?_getD, hs]
                  exact .str s (hc i s hs).2
end Go.Lx
namespace Go.Lx
open Go Go.Sv Go.Proofs Go.Proofs.YtlfbopiefjpeaaaDoor Go.ChangeShapes Go.WideShapes Go.ChangeAt Go.RowKit Go.ChangeMaps
set_option maxRecDepth 100000
/-- A law of one text, as a call. -/
theorem law_calls {f : FuncId} {s : ByteArray} (hp : PureC E f [.str s] (.bool true)) (hs : s.size ≤ maxLen) {W : World} (hL : laidMetH Tryd.prog laidL W) :
    Calls Tryd.prog f #[.string s] W fun e w' => e = .returned (.bool true) ∧ Below W.heap.size W w' := by
  obtain ⟨im, h1, h2⟩ := gl_of_laid hL
  exact calls_tok hp (fun _ _ => .bool _) (fun _ _ _ h => by cases h; rfl) (vs := #[.string s]) h1 h2 rfl (fun j d e => by match j, e with | 0, e => simp at e; subst e; exact .str s hs)
set_option maxHeartbeats 1000000 in
theorem names_lifted (os : Os) (started : os.Started) (H : Type) (enc : TypeId × Value → H) :
    ReturnsInHanded {} Tryd.checked os 6 .any (fun w args => (Rows.lexerNamesSpec.pre enc Tryd.prog Tryd.f6 [] false w args ∧ laidMetH Tryd.prog laidL w) ∧ sizedMet enc Tryd.prog Tryd.f6 (OpenSpec.ofChange Rows.lexerNamesSpec) false w args)
      (Rows.lexerNamesSpec.post enc Tryd.prog Tryd.f6 false true false false) := by
  refine returnsInHanded_of_change_and (C := Tryd.checked) (X := fun w _ => laidMetH Tryd.prog laidL w) (fun _ _ _ hh h => h.of_heap hh) own started (by kernel_rfl) Tryd.func6
    (ChangeSpec.witness_shaped (enc := enc) (C := Tryd.checked) (os := os) (X := fun w _ => laidMetH Tryd.prog laidL w) false (World.laidAll Tryd.prog os laidL) #[.string ⟨#[]⟩] 8 (World.laidAll_os _ _ _)
      (World.shaped_of_ZipB (by kernel_rfl) (by kernel_rfl)) (by kernel_rfl) (by kernel_rfl) (by kernel_rfl)
      (by rw [MakeChecks.laidMetH_plain _ _ _ (by kernel_rfl)]; exact laidMet_laidAll _ (by kernel_rfl) (by kernel_rfl))) ?_
  intro W base args ds gs before hval0 hW hc _ hL _
  have hval : ∀ (j : Nat) t v, Tryd.f6.params[j]? = some t → args[j]? = some v → Value.okWide Tryd.prog W .any base t v := hval0
  have hW' := hW
  obtain ⟨p, q, hA0, hV, rfl, _, _⟩ := hW
  have hA : DataW.TrodAll enc Tryd.prog W 0 (fun _ => true) true Tryd.f6.params.toList args.toList ds p := hA0
  rw [Tryd.params6] at hA hval
  obtain ⟨v0, d0, rfl, rfl, h0⟩ := trodAll_one hA
  obtain ⟨rfl, rfl⟩ := trodVars_none hV
  have h0k := h0
  obtain ⟨s, rfl, rfl, rfl, hs⟩ := open_string Tryd.underlying9 (hval 0 9 v0 rfl rfl) h0
  clear hA0 hval0
  simp only [List.append_nil] at hW'
  refine (law_calls (names6 s (by unfold maxLen at hs; omega)) hs hL).mono fun e W' ⟨he, hb⟩ => ?_
  subst he
  have harg : DataW.Trod enc Tryd.prog W' 0 (fun b => decide (b < W.heap.size)) true 9 (.string s) (.lit (.string s.data.toList)) [] :=
    Below.trod laidOut (by kernel_rfl) (of_decide_eq_true (by kernel_rfl)) h0k hb (fun x hx => by cases hx)
  refine ⟨_, rfl, _, _, _, [], [], [], hW', ?_, trodAll_mk1 harg, rfl, hb.frame _, fun h => by cases h⟩
  exact trodAll_mk1 (shut_bool Tryd.underlying4 true)
theorem lexerNames_row : Rows.LexerNamesSaid :=
  OpenClaim.holds_of_wide 6 Tryd.f6 rfl rfl rfl rfl rfl rfl rfl ⟨rfl, rfl, rfl, rfl, rfl⟩ rfl rfl rfl rfl rfl (by kernel_rfl) Tryd.func6 (by kernel_rfl)
    (of_decide_eq_true (by kernel_rfl)) (by unfold Func.isWrapper; first | (rw [if_pos (by decide +kernel)]; kernel_rfl) | (rw [if_neg (by decide +kernel)]; exact ⟨rfl, rfl⟩))
    (fun os started H enc _ => names_lifted os started H enc)
theorem lexerNames_holds : Rows.LexerNamesCardSaid :=
  Claim7.holds_tied_plain_at .later [] [.data, .widerDeep, .pinned] true (true, "3308ad61eaf8e5ff0bf85395ef3356efe80a72a9263e5deb1f324c1261216b16") false
    lexerNames_row (fun _ h => by cases h) (by kernel_rfl) (fun _ h => by cases h) lexerNames_row_tie rfl ⟨rfl, rfl⟩ (by kernel_rfl) rfl
    (fun f fn hf hfn => by
      obtain rfl : f = 6 := Option.some.inj ((show Tryd.prog.funcNamed "surveyor/surveyorlaw08.LexerNames" = some 6 by kernel_rfl).symm.trans hf) |>.symm
      obtain rfl : fn = Tryd.f6 := (Option.some.inj (Tryd.func6.symm.trans hfn)).symm
      exact ⟨by kernel_rfl, fun j t ht => by
        rw [Tryd.params6] at ht
        have hm : t ∈ [9] := by simpa using Array.mem_of_getElem? ht
        have hall : ([9].all fun u => !Tryd.prog.wantsStandIn u) = true := by kernel_rfl
        exact (show Tryd.prog.wantsStandIn t = false by simpa using List.all_eq_true.1 hall t hm)⟩)
    (by kernel_rfl)
end Go.Lx
