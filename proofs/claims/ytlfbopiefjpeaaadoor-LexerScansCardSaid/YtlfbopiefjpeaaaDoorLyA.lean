/- The chapter's examples hold. -/
import Derived.Test.YtlfbopiefjpeaaaDoorLxZ
set_option linter.unusedSimpArgs false
set_option linter.unusedVariables false
namespace Go.Lx
open Go Go.Sv Go.Proofs
set_option maxRecDepth 100000
def unTk : DV → Option Tk
  | .agg [.int .i64 k, .str t, .int .i64 a] => some ⟨k, t, a⟩
  | _ => none
def unTks : List DV → Option (List Tk)
  | [] => some []
  | d :: ds => match unTk d, unTks ds with
    | some x, some xs => some (x :: xs)
    | _, _ => none
theorem unTk_ok {d : DV} {x : Tk} (h : unTk d = some x) : d = x.d := by
  unfold unTk at h
  split at h
  · cases h; rfl
  · cases h
theorem unTks_ok : ∀ {ds : List DV} {l : List Tk}, unTks ds = some l → ds = l.map Tk.d := by
  intro ds
  induction ds with
  | nil => intro l h; cases h; rfl
  | cons d ds ih =>
    intro l h
    simp only [unTks] at h
    split at h
    · rename_i x xs hx hxs
      cases h
      rw [List.map_cons, unTk_ok hx, ih hxs]
    · cases h
theorem unTk_d (x : Tk) : unTk x.d = some x := rfl
theorem unTks_map : ∀ (l : List Tk), unTks (l.map Tk.d) = some l := by
  intro l
  induction l with
  | nil => rfl
  | cons x xs ih => simp only [List.map_cons, unTks, unTk_d, ih]
def key (x : Tk) : Int × List UInt8 × Int := (x.k, x.t.data.toList, x.a)
theorem key_inj {x y : Tk} (h : key x = key y) : x = y := by
  obtain ⟨k1, t1, a1⟩ := x
  obtain ⟨k2, t2, a2⟩ := y
  simp only [key, Prod.mk.injEq] at h
  obtain ⟨rfl, h, rfl⟩ := h
  have : t1 = t2 := by apply ByteArray.ext; apply Array.ext'; exact h
  rw [this]
theorem keys_inj : ∀ {l m : List Tk}, l.map key = m.map key → l = m := by
  intro l
  induction l with
  | nil => intro m h; cases m with
    | nil => rfl
    | cons y ys => cases h
  | cons x xs ih => intro m h; cases m with
    | nil => cases h
    | cons y ys =>
      simp only [List.map_cons, List.cons.injEq] at h
      rw [key_inj h.1, ih h.2]
def OA : Orc := ⟨fun f ds => match f, ds with
  | 12, [.str s] => exScan s.data.toList
  | 14, [.sl 3 xs, .sl 3 ys] => match unTks xs, unTks ys with
    | some a, some b => if a.length ≤ 281474976710656 then if b.length ≤ 281474976710656 then some (.bool (sameB a b)) else none else none
    | _, _ => none
  | 16, [.sl 3 xs] => match unTks xs with
    | some l => if l.map key = exToks.map key then some (.tup [.str ⟨#[120, 61, 61, 121, 60, 32, 61]⟩, .int .i64 0]) else none
    | none => none
  | 26, [.str s] => if s.data.toList = [97, 32, 35, 32, 98, 10, 99] then some (.tup [.str ⟨#[97, 32, 10, 99]⟩, .int .i64 0]) else none
  | 22, [.str s] => if s.data.toList = [119, 104, 105, 108, 101] then some (.int .i64 8) else if s.data.toList = [119] then some (.int .i64 0) else none
  | _, _ => none, fun _ _ _ => none⟩
theorem OA_ok : OrcOk E OA := by
  refine ⟨fun f ds r h => ?_, fun _ _ _ _ _ h => by cases h⟩
  simp only [OA] at h
  split at h
  · exact exScan_ok h
  · split at h
    · rename_i a b ha hb
      split at h
      · split at h
        · cases h
          rw [unTks_ok ha, unTks_ok hb]
          exact same14 a b (by assumption) (by assumption)
        · cases h
      · cases h
    · cases h
  · split at h
    · rename_i l hl
      split at h
      · rename_i he
        cases h
        rw [unTks_ok hl, keys_inj he]
        exact joinEx
      · cases h
    · cases h
  · split at h
    · rename_i e; cases h; rw [str_eq e]; exact stripEx
    · cases h
  · split at h
    · rename_i e; cases h; rw [str_eq e]; exact nameEx0
    · split at h
      · rename_i e; cases h; rw [str_eq e]; exact nameEx1
      · cases h
  · cases h
theorem awake11 : PureC E 11 [] (.bool true) := pure_of_run mixed OA_ok Tryd.func11 (N := 0) (by kernel_rfl) (by kernel_rfl)
end Go.Lx
