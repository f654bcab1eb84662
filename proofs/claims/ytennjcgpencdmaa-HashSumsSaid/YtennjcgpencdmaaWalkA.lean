/- The small functions of the hash package and of its reference: a step, a fold, a stir. Conditions: words below 2^64, bytes below 256. -/
import Derived.Test.YtennjcgpencdmaaPlain
import Derived.Test.YtennjcgpencdmaaProg
import Derived.WalkKit
import Derived.WalkSpells
import Derived.KernelRfl
import Derived.Lib.Hide
import Derived.Deep.LoopGhost
import Derived.Laws.BitsLemmas
namespace Go.Proofs.Ytennjcgpencdmaa
open Go.RowKit

theorem ret_u64 {a b : Int} (h : a = b) : Ending.returned (.int .u64 a) = .returned (.int .u64 b) := by rw [h]

set_option maxHeartbeats 400000 in
theorem step_any (h c : Int) (w : World) :
    Calls Try.prog 7 #[.int .u64 h, .int .u8 c] w fun e w' => e = .returned (.int .u64 (st h c)) ∧ w = w' := by
  go_enter Try.func7, Try.ntmps7
  go_wp2
  go_ret
  exact ⟨rfl, rfl⟩

set_option maxHeartbeats 400000 in
theorem fold_any (h : Int) (w : World) :
    Calls Try.prog 18 #[.int .u64 h] w fun e w' => e = .returned (.int .u64 (fo h)) ∧ w = w' := by
  go_enter Try.func18, Try.ntmps18
  go_wp2
  go_ret
  exact ⟨rfl, rfl⟩

set_option maxHeartbeats 400000 in
theorem stir_any (h : Int) (w : World) :
    Calls Try.prog 9 #[.int .u64 h] w fun e w' => e = .returned (.int .u64 (sti h)) ∧ w = w' := by
  go_enter Try.func9, Try.ntmps9
  go_wp2_with fail
  refine (fold_any _ _).mono ?_
  rintro e w' ⟨rfl, rfl⟩
  go_wp2_with fail
  refine (fold_any _ _).mono ?_
  rintro e w' ⟨rfl, rfl⟩
  go_wp2_with fail
  refine (fold_any _ _).mono ?_
  rintro e w' ⟨rfl, rfl⟩
  go_wp2_with fail
  go_ret
  exact ⟨rfl, rfl⟩

set_option maxHeartbeats 400000 in
theorem rstep_any (h c : Int) (w : World) (hh : W64 h) (hc : B8 c) :
    Calls Try.prog 8 #[.int .u64 h, .int .u8 c] w fun e w' => e = .returned (.int .u64 (st h c)) ∧ w = w' := by
  go_enter Try.func8, Try.ntmps8
  go_wp2
  go_ret
  exact ⟨ret_u64 (st_ref h c hh hc), rfl⟩

set_option maxHeartbeats 400000 in
theorem rfold_any (h : Int) (w : World) (hh : W64 h) :
    Calls Try.prog 19 #[.int .u64 h] w fun e w' => e = .returned (.int .u64 (fo h)) ∧ w = w' := by
  go_enter Try.func19, Try.ntmps19
  go_wp2
  go_ret
  exact ⟨ret_u64 (fo_ref h hh), rfl⟩

set_option maxHeartbeats 400000 in
theorem rstir_any (h : Int) (w : World) (hh : W64 h) :
    Calls Try.prog 10 #[.int .u64 h] w fun e w' => e = .returned (.int .u64 (sti h)) ∧ w = w' := by
  have h1 : W64 (IntKind.u64.wrap (fo h * 18397679294719823053)) := wrap_w _
  have h2 : W64 (IntKind.u64.wrap (fo (IntKind.u64.wrap (fo h * 18397679294719823053)) * 14181476777654086739)) := wrap_w _
  have H := Lib.hid (And.intro hh (And.intro h1 h2))
  clear hh h1 h2
  go_enter Try.func10, Try.ntmps10
  go_wp2_with fail
  refine (rfold_any _ _ H.out.1).mono ?_
  rintro e w' ⟨rfl, rfl⟩
  go_wp2_with fail
  refine (rfold_any _ _ H.out.2.1).mono ?_
  rintro e w' ⟨rfl, rfl⟩
  go_wp2_with fail
  refine (rfold_any _ _ H.out.2.2).mono ?_
  rintro e w' ⟨rfl, rfl⟩
  go_wp2_with fail
  go_ret
  exact ⟨rfl, rfl⟩

/-- a slice of bytes -/
def Bs (w : World) (A : Option Addr) (l : List Int) : Prop := ∀ j, j < l.length → ∃ b, A = some b ∧ w.cell? (b.add j) = some (.int .u8 (l.getD j 0))
/-- a slice of slices of bytes -/
def Rs (w : World) (A : Option Addr) (ls : List (List Int)) : Prop :=
  ∀ i, i < ls.length → ∃ a B c, A = some a ∧ w.cell? (a.add i) = some (.slice B (ls.getD i []).length c) ∧ (ls.getD i []).length ≤ 9223372036854775807 ∧ Bs w B (ls.getD i [])

set_option maxHeartbeats 400000 in
theorem sum_any (A : Option Addr) (c : Nat) (ls : List (List Int)) (w : World) (hr : Rs w A ls) (hn : ls.length ≤ 9223372036854775807) :
    Calls Try.prog 13 #[.slice A ls.length c] w fun e w' => e = .returned (.int .u64 (hsum ls.flatten)) ∧ w = w' := by
  have H := Lib.hid hr
  clear hr
  go_enter Try.func13, Try.ntmps13
  go_wp2
  go_step3
  go_wp2
  go_step3
  go_wp2
  go_loopg [3, 10] ls.length (fun g s3 s10 wx => ∃ k : Nat, k + g = ls.length ∧ s3 = .int .u64 (hsum (ls.take k).flatten) ∧ s10 = .int .i64 k ∧ w = wx)
  case atStart => exact ⟨0, by omega, rfl, rfl, rfl⟩
  case round =>
    obtain ⟨k, hkg, rfl, rfl, rfl⟩ := hrel
    cases gk with
    | zero =>
      have hkz : ¬ ((k : Int) < (ls.length : Int)) := by omega
      have hfin : (ls.take k).flatten = ls.flatten := by rw [List.take_of_length_le (by omega)]
      have HF := Lib.hid hfin
      clear hfin
      go_wp2
      try rw [Exit.noGoto_ret]
      go_ret
      exact ⟨ret_u64 (by rw [HF.out]), rfl⟩
    | succ g =>
      have hkz : (k : Int) < (ls.length : Int) := by omega
      obtain ⟨a, B, cB, rfl, hcell, hlen, hB⟩ := H.out k (by omega)
      have HS := Lib.hid (show (ls.take (k + 1)).flatten = (ls.take k).flatten ++ ls.getD k [] by
        rw [List.take_succ_eq_append_getElem (by omega), List.flatten_append]; simp [List.getD, List.getElem?_eq_getElem (show k < ls.length by omega)])
      have HB := Lib.hid hB
      clear hB
      generalize hl : ls.getD k [] = l at *
      clear hl
      by_cases h0 : l.length = 0
      · have hl0 : l = [] := List.eq_nil_of_length_eq_zero h0
        have HL := Lib.hid hl0
        clear hl0
        have ht : ((l.length : Int) == 0) = true := beq_iff_eq.2 (by omega)
        clear h0
        go_wp2
        go_roundg g
        case measure => omega
        case rel => exact ⟨k + 1, by omega, by rw [HS.out, HL.out, List.append_nil], by first | rfl | simp, rfl⟩
      · have ht : ((l.length : Int) == 0) = false := beq_eq_false_iff_ne.2 (by omega)
        clear h0
        go_wp2
        go_loopg [3, 19] l.length (fun g2 s3 s19 wy => ∃ j : Nat, j + g2 = l.length ∧ s3 = .int .u64 (hsum ((ls.take k).flatten ++ l.take j)) ∧ s19 = .int .i64 j ∧ w = wy)
        case atStart => exact ⟨0, by omega, by simp, rfl, rfl⟩
        case round =>
          obtain ⟨j, hjg, rfl, rfl, rfl⟩ := hrel
          cases gk with
          | zero =>
            have hjz : ¬ ((j : Int) < (l.length : Int)) := by omega
            have hfin : l.take j = l := List.take_of_length_le (by omega)
            have HF := Lib.hid hfin
            clear hfin
            go_wp2
            go_roundg g
            case measure => omega
            case rel => exact ⟨k + 1, by omega, by rw [HS.out, HF.out], by first | rfl | simp, rfl⟩
          | succ g2 =>
            have hjz : (j : Int) < (l.length : Int) := by omega
            obtain ⟨b, rfl, hcb⟩ := HB.out j (by omega)
            have HT := Lib.hid (show hsum ((ls.take k).flatten ++ l.take (j + 1)) = st (hsum ((ls.take k).flatten ++ l.take j)) (l.getD j 0) by
              rw [List.take_succ_eq_append_getElem (by omega), ← List.append_assoc, hsum_snoc]; simp [List.getD, List.getElem?_eq_getElem (show j < l.length by omega)])
            go_wp2_with (go_at_call 7; refine (step_any _ _ _).mono ?_; rintro e w' ⟨rfl, rfl⟩)
            go_roundg g2
            case measure => omega
            case rel => exact ⟨j + 1, by omega, by first | (rw [HT.out]; done) | (rw [HT.out]; rfl), by first | rfl | simp, rfl⟩

end Go.Proofs.Ytennjcgpencdmaa
