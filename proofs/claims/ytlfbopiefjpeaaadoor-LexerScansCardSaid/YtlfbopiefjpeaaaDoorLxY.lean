/- The chapter's examples, run (printed by gen_awake.py). -/
import Derived.Test.YtlfbopiefjpeaaaDoorLxX
set_option linter.unusedSimpArgs false
set_option linter.unusedVariables false
namespace Go.Lx
open Go Go.Sv Go.Proofs
set_option maxRecDepth 100000
theorem scanEx0 : PureC E 12 [.str ⟨#[120, 49, 32, 58, 61, 32, 50, 59, 32, 35, 32, 116, 119, 111]⟩] (.tup [.sl 3 [tok 0 ⟨#[120, 49]⟩ 0, tok 2 ⟨#[58, 61]⟩ 3, tok 1 ⟨#[50]⟩ 6, tok 2 ⟨#[59]⟩ 7, tok 3 ⟨#[]⟩ 14], .int .i64 0, .int .i64 0]) := by
  have h : scanD (scanAll ⟨#[120, 49, 32, 58, 61, 32, 50, 59, 32, 35, 32, 116, 119, 111]⟩) = .tup [.sl 3 [tok 0 ⟨#[120, 49]⟩ 0, tok 2 ⟨#[58, 61]⟩ 3, tok 1 ⟨#[50]⟩ 6, tok 2 ⟨#[59]⟩ 7, tok 3 ⟨#[]⟩ 14], .int .i64 0, .int .i64 0] := by kernel_rfl
  rw [← h]
  exact scan12 number57 _ (by decide)
theorem scanEx1 : PureC E 12 [.str ⟨#[97, 32, 58, 61, 32, 48, 49]⟩] (.tup [.nilSl, .int .i64 5, .int .i64 3]) := by
  have h : scanD (scanAll ⟨#[97, 32, 58, 61, 32, 48, 49]⟩) = .tup [.nilSl, .int .i64 5, .int .i64 3] := by kernel_rfl
  rw [← h]
  exact scan12 number57 _ (by decide)
theorem scanEx2 : PureC E 12 [.str ⟨#[51, 120]⟩] (.tup [.nilSl, .int .i64 0, .int .i64 4]) := by
  have h : scanD (scanAll ⟨#[51, 120]⟩) = .tup [.nilSl, .int .i64 0, .int .i64 4] := by kernel_rfl
  rw [← h]
  exact scan12 number57 _ (by decide)
theorem scanEx3 : PureC E 12 [.str ⟨#[97, 32, 33, 32, 98]⟩] (.tup [.nilSl, .int .i64 2, .int .i64 4]) := by
  have h : scanD (scanAll ⟨#[97, 32, 33, 32, 98]⟩) = .tup [.nilSl, .int .i64 2, .int .i64 4] := by kernel_rfl
  rw [← h]
  exact scan12 number57 _ (by decide)
theorem scanEx4 : PureC E 12 [.str ⟨#[120, 32, 61, 32, 61, 32, 121, 32, 60, 32, 61]⟩] (.tup [.sl 3 [tok 0 ⟨#[120]⟩ 0, tok 2 ⟨#[61]⟩ 2, tok 2 ⟨#[61]⟩ 4, tok 0 ⟨#[121]⟩ 6, tok 2 ⟨#[60]⟩ 8, tok 2 ⟨#[61]⟩ 10, tok 3 ⟨#[]⟩ 11], .int .i64 0, .int .i64 0]) := by
  have h : scanD (scanAll ⟨#[120, 32, 61, 32, 61, 32, 121, 32, 60, 32, 61]⟩) = .tup [.sl 3 [tok 0 ⟨#[120]⟩ 0, tok 2 ⟨#[61]⟩ 2, tok 2 ⟨#[61]⟩ 4, tok 0 ⟨#[121]⟩ 6, tok 2 ⟨#[60]⟩ 8, tok 2 ⟨#[61]⟩ 10, tok 3 ⟨#[]⟩ 11], .int .i64 0, .int .i64 0] := by kernel_rfl
  rw [← h]
  exact scan12 number57 _ (by decide)
theorem scanEx5 : PureC E 12 [.str ⟨#[120, 61]⟩] (.tup [.sl 3 [tok 0 ⟨#[120]⟩ 0, tok 2 ⟨#[61]⟩ 1, tok 3 ⟨#[]⟩ 2], .int .i64 0, .int .i64 0]) := by
  have h : scanD (scanAll ⟨#[120, 61]⟩) = .tup [.sl 3 [tok 0 ⟨#[120]⟩ 0, tok 2 ⟨#[61]⟩ 1, tok 3 ⟨#[]⟩ 2], .int .i64 0, .int .i64 0] := by kernel_rfl
  rw [← h]
  exact scan12 number57 _ (by decide)
theorem scanEx6 : PureC E 12 [.str ⟨#[61, 61]⟩] (.tup [.sl 3 [tok 2 ⟨#[61]⟩ 0, tok 2 ⟨#[61]⟩ 1, tok 3 ⟨#[]⟩ 2], .int .i64 0, .int .i64 0]) := by
  have h : scanD (scanAll ⟨#[61, 61]⟩) = .tup [.sl 3 [tok 2 ⟨#[61]⟩ 0, tok 2 ⟨#[61]⟩ 1, tok 3 ⟨#[]⟩ 2], .int .i64 0, .int .i64 0] := by kernel_rfl
  rw [← h]
  exact scan12 number57 _ (by decide)
theorem scanEx7 : PureC E 12 [.str ⟨#[61, 121]⟩] (.tup [.sl 3 [tok 2 ⟨#[61]⟩ 0, tok 0 ⟨#[121]⟩ 1, tok 3 ⟨#[]⟩ 2], .int .i64 0, .int .i64 0]) := by
  have h : scanD (scanAll ⟨#[61, 121]⟩) = .tup [.sl 3 [tok 2 ⟨#[61]⟩ 0, tok 0 ⟨#[121]⟩ 1, tok 3 ⟨#[]⟩ 2], .int .i64 0, .int .i64 0] := by kernel_rfl
  rw [← h]
  exact scan12 number57 _ (by decide)
theorem scanEx8 : PureC E 12 [.str ⟨#[121, 60]⟩] (.tup [.sl 3 [tok 0 ⟨#[121]⟩ 0, tok 2 ⟨#[60]⟩ 1, tok 3 ⟨#[]⟩ 2], .int .i64 0, .int .i64 0]) := by
  have h : scanD (scanAll ⟨#[121, 60]⟩) = .tup [.sl 3 [tok 0 ⟨#[121]⟩ 0, tok 2 ⟨#[60]⟩ 1, tok 3 ⟨#[]⟩ 2], .int .i64 0, .int .i64 0] := by kernel_rfl
  rw [← h]
  exact scan12 number57 _ (by decide)
theorem scanEx9 : PureC E 12 [.str ⟨#[60, 61]⟩] (.tup [.sl 3 [tok 2 ⟨#[60, 61]⟩ 0, tok 3 ⟨#[]⟩ 2], .int .i64 0, .int .i64 0]) := by
  have h : scanD (scanAll ⟨#[60, 61]⟩) = .tup [.sl 3 [tok 2 ⟨#[60, 61]⟩ 0, tok 3 ⟨#[]⟩ 2], .int .i64 0, .int .i64 0] := by kernel_rfl
  rw [← h]
  exact scan12 number57 _ (by decide)
def exScan (l : List UInt8) : Option DV :=
  if l = [120, 49, 32, 58, 61, 32, 50, 59, 32, 35, 32, 116, 119, 111] then some (.tup [.sl 3 [tok 0 ⟨#[120, 49]⟩ 0, tok 2 ⟨#[58, 61]⟩ 3, tok 1 ⟨#[50]⟩ 6, tok 2 ⟨#[59]⟩ 7, tok 3 ⟨#[]⟩ 14], .int .i64 0, .int .i64 0]) else
  if l = [97, 32, 58, 61, 32, 48, 49] then some (.tup [.nilSl, .int .i64 5, .int .i64 3]) else
  if l = [51, 120] then some (.tup [.nilSl, .int .i64 0, .int .i64 4]) else
  if l = [97, 32, 33, 32, 98] then some (.tup [.nilSl, .int .i64 2, .int .i64 4]) else
  if l = [120, 32, 61, 32, 61, 32, 121, 32, 60, 32, 61] then some (.tup [.sl 3 [tok 0 ⟨#[120]⟩ 0, tok 2 ⟨#[61]⟩ 2, tok 2 ⟨#[61]⟩ 4, tok 0 ⟨#[121]⟩ 6, tok 2 ⟨#[60]⟩ 8, tok 2 ⟨#[61]⟩ 10, tok 3 ⟨#[]⟩ 11], .int .i64 0, .int .i64 0]) else
  if l = [120, 61] then some (.tup [.sl 3 [tok 0 ⟨#[120]⟩ 0, tok 2 ⟨#[61]⟩ 1, tok 3 ⟨#[]⟩ 2], .int .i64 0, .int .i64 0]) else
  if l = [61, 61] then some (.tup [.sl 3 [tok 2 ⟨#[61]⟩ 0, tok 2 ⟨#[61]⟩ 1, tok 3 ⟨#[]⟩ 2], .int .i64 0, .int .i64 0]) else
  if l = [61, 121] then some (.tup [.sl 3 [tok 2 ⟨#[61]⟩ 0, tok 0 ⟨#[121]⟩ 1, tok 3 ⟨#[]⟩ 2], .int .i64 0, .int .i64 0]) else
  if l = [121, 60] then some (.tup [.sl 3 [tok 0 ⟨#[121]⟩ 0, tok 2 ⟨#[60]⟩ 1, tok 3 ⟨#[]⟩ 2], .int .i64 0, .int .i64 0]) else
  if l = [60, 61] then some (.tup [.sl 3 [tok 2 ⟨#[60, 61]⟩ 0, tok 3 ⟨#[]⟩ 2], .int .i64 0, .int .i64 0]) else
  none
def OX : Orc := ⟨fun f ds => match f, ds with
  | 12, [.str s] => exScan s.data.toList
  | _, _ => none, fun _ _ _ => none⟩
theorem str_eq {s : ByteArray} {l : List UInt8} (h : s.data.toList = l) : s = ⟨l.toArray⟩ := by
  apply ByteArray.ext
  apply Array.ext'
  simpa using h
theorem exScan_ok {s : ByteArray} {r : DV} (h : exScan s.data.toList = some r) : PureC E 12 [.str s] r := by
  unfold exScan at h
  by_cases h0 : s.data.toList = [120, 49, 32, 58, 61, 32, 50, 59, 32, 35, 32, 116, 119, 111]
  · rw [if_pos h0] at h
    cases h
    rw [str_eq h0]
    exact scanEx0
  rw [if_neg h0] at h
  by_cases h1 : s.data.toList = [97, 32, 58, 61, 32, 48, 49]
  · rw [if_pos h1] at h
    cases h
    rw [str_eq h1]
    exact scanEx1
  rw [if_neg h1] at h
  by_cases h2 : s.data.toList = [51, 120]
  · rw [if_pos h2] at h
    cases h
    rw [str_eq h2]
    exact scanEx2
  rw [if_neg h2] at h
  by_cases h3 : s.data.toList = [97, 32, 33, 32, 98]
  · rw [if_pos h3] at h
    cases h
    rw [str_eq h3]
    exact scanEx3
  rw [if_neg h3] at h
  by_cases h4 : s.data.toList = [120, 32, 61, 32, 61, 32, 121, 32, 60, 32, 61]
  · rw [if_pos h4] at h
    cases h
    rw [str_eq h4]
    exact scanEx4
  rw [if_neg h4] at h
  by_cases h5 : s.data.toList = [120, 61]
  · rw [if_pos h5] at h
    cases h
    rw [str_eq h5]
    exact scanEx5
  rw [if_neg h5] at h
  by_cases h6 : s.data.toList = [61, 61]
  · rw [if_pos h6] at h
    cases h
    rw [str_eq h6]
    exact scanEx6
  rw [if_neg h6] at h
  by_cases h7 : s.data.toList = [61, 121]
  · rw [if_pos h7] at h
    cases h
    rw [str_eq h7]
    exact scanEx7
  rw [if_neg h7] at h
  by_cases h8 : s.data.toList = [121, 60]
  · rw [if_pos h8] at h
    cases h
    rw [str_eq h8]
    exact scanEx8
  rw [if_neg h8] at h
  by_cases h9 : s.data.toList = [60, 61]
  · rw [if_pos h9] at h
    cases h
    rw [str_eq h9]
    exact scanEx9
  rw [if_neg h9] at h
  cases h
theorem OX_ok : OrcOk E OX := by
  refine ⟨fun f ds r h => ?_, fun _ _ _ _ _ h => by cases h⟩
  simp only [OX] at h
  split at h
  · exact exScan_ok h
  · cases h
theorem apEx0 : PureC E 45 [tok 0 ⟨#[120]⟩ 0, tok 2 ⟨#[61]⟩ 2] (.bool false) := pure_of_run mixed OX_ok Tryd.func45 (N := 0) (by kernel_rfl) (by kernel_rfl)
theorem apEx1 : PureC E 45 [tok 2 ⟨#[61]⟩ 2, tok 2 ⟨#[61]⟩ 4] (.bool false) := pure_of_run mixed OX_ok Tryd.func45 (N := 0) (by kernel_rfl) (by kernel_rfl)
theorem apEx2 : PureC E 45 [tok 2 ⟨#[61]⟩ 4, tok 0 ⟨#[121]⟩ 6] (.bool false) := pure_of_run mixed OX_ok Tryd.func45 (N := 0) (by kernel_rfl) (by kernel_rfl)
theorem apEx3 : PureC E 45 [tok 0 ⟨#[121]⟩ 6, tok 2 ⟨#[60]⟩ 8] (.bool false) := pure_of_run mixed OX_ok Tryd.func45 (N := 0) (by kernel_rfl) (by kernel_rfl)
theorem apEx4 : PureC E 45 [tok 2 ⟨#[60]⟩ 8, tok 2 ⟨#[61]⟩ 10] (.bool true) := pure_of_run mixed OX_ok Tryd.func45 (N := 0) (by kernel_rfl) (by kernel_rfl)
def exToks : List Tk := [⟨0, ⟨#[120]⟩, 0⟩, ⟨2, ⟨#[61]⟩, 2⟩, ⟨2, ⟨#[61]⟩, 4⟩, ⟨0, ⟨#[121]⟩, 6⟩, ⟨2, ⟨#[60]⟩, 8⟩, ⟨2, ⟨#[61]⟩, 10⟩, ⟨3, ⟨#[]⟩, 11⟩]
theorem joinEx : PureC E 16 [.sl 3 (exToks.map Tk.d)] (.tup [.str ⟨#[120, 61, 61, 121, 60, 32, 61]⟩, .int .i64 0]) := by
  have h : (joinM exToks) = ([120, 61, 61, 121, 60, 32, 61], 0) := by kernel_rfl
  have hj := join16 exToks (fun j y x hy hx _ _ => ?_)
  · rw [h] at hj; exact hj
  · match j, hy, hx with
    | 0, hy, hx =>
      cases hy
      cases hx
      have e : apartB ⟨0, ⟨#[120]⟩, 0⟩ ⟨2, ⟨#[61]⟩, 2⟩ = false := by kernel_rfl
      rw [e]
      exact apEx0
    | 1, hy, hx =>
      cases hy
      cases hx
      have e : apartB ⟨2, ⟨#[61]⟩, 2⟩ ⟨2, ⟨#[61]⟩, 4⟩ = false := by kernel_rfl
      rw [e]
      exact apEx1
    | 2, hy, hx =>
      cases hy
      cases hx
      have e : apartB ⟨2, ⟨#[61]⟩, 4⟩ ⟨0, ⟨#[121]⟩, 6⟩ = false := by kernel_rfl
      rw [e]
      exact apEx2
    | 3, hy, hx =>
      cases hy
      cases hx
      have e : apartB ⟨0, ⟨#[121]⟩, 6⟩ ⟨2, ⟨#[60]⟩, 8⟩ = false := by kernel_rfl
      rw [e]
      exact apEx3
    | 4, hy, hx =>
      cases hy
      cases hx
      have e : apartB ⟨2, ⟨#[60]⟩, 8⟩ ⟨2, ⟨#[61]⟩, 10⟩ = true := by kernel_rfl
      rw [e]
      exact apEx4
    | (n + 5), hy, hx => cases hx
theorem stripEx : PureC E 26 [.str ⟨#[97, 32, 35, 32, 98, 10, 99]⟩] (.tup [.str ⟨#[97, 32, 10, 99]⟩, .int .i64 0]) := by
  have h : stripM ⟨#[97, 32, 35, 32, 98, 10, 99]⟩ = ([97, 32, 10, 99], 0) := by kernel_rfl
  have hs := strip26 ⟨#[97, 32, 35, 32, 98, 10, 99]⟩
  rw [h] at hs
  exact hs
theorem sameEx : PureC E 14 [.sl 3 [tok 0 ⟨#[120, 49]⟩ 0, tok 2 ⟨#[58, 61]⟩ 3, tok 1 ⟨#[50]⟩ 6, tok 2 ⟨#[59]⟩ 7, tok 3 ⟨#[]⟩ 14], .sl 3 [tok 0 ⟨#[120, 49]⟩ 0, tok 2 ⟨#[58, 61]⟩ 3, tok 1 ⟨#[50]⟩ 6, tok 2 ⟨#[59]⟩ 7, tok 3 ⟨#[]⟩ 14]] (.bool true) := pure_of_run mixed orc_none Tryd.func14 (N := 10) (by kernel_rfl) (by kernel_rfl)
theorem nameEx0 : PureC E 22 [.str ⟨#[119, 104, 105, 108, 101]⟩] (.int .i64 8) := by
  have h : nameErr [119, 104, 105, 108, 101] = 8 := by kernel_rfl
  rw [← h]
  exact name22 ⟨#[119, 104, 105, 108, 101]⟩ (by decide)
theorem nameEx1 : PureC E 22 [.str ⟨#[119]⟩] (.int .i64 0) := by
  have h : nameErr [119] = 0 := by kernel_rfl
  rw [← h]
  exact name22 ⟨#[119]⟩ (by decide)
end Go.Lx
