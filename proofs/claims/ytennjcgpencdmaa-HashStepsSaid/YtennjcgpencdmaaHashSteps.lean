/- The sum of bytes is what the steps by each of them come to; a key is stirred, a check its halves against one another; the law returns true and writes nothing that was there. No condition. -/
import Derived.Test.YtennjcgpencdmaaRows
import Derived.Test.YtennjcgpencdmaaWalkC
import Derived.ProofKit
import Derived.OpenShut
import Derived.ShutString
import Derived.ChangeOld
import Derived.Below
namespace Go.Proofs.Ytennjcgpencdmaa.hashSteps
open Go.ChangeShapes Go.WideShapes Go.ChangeAt Go.RowKit Go.Proofs.YtennjcgpencdmaaW.PrintWords
set_option linter.unusedVariables false

theorem own : ownKnob Try.prog.godebug = none := by kernel_rfl
theorem laidOut : laidOutB Try.prog = true := by kernel_rfl

set_option maxHeartbeats 400000 in
theorem walk_long (A : Option Addr) (n c : Nat) (w : World) (hn : 2000 < n) (hm : n ≤ 9223372036854775807) :
    Calls Try.prog 6 #[.slice A n c] w fun e w' => e = .returned (.bool true) ∧ Below w.heap.size w w' := by
  have ht : decide ((2000 : Int) < (n : Int)) = true := decide_eq_true (by omega)
  go_enter Try.func6, Try.ntmps6
  go_wp2_with fail
  refine (known_any _).mono ?_
  rintro e w' ⟨rfl, hb⟩
  go_wp2_with fail
  go_ret
  exact ⟨rfl, hb⟩

set_option maxHeartbeats 400000 in
theorem walk_short (A : Option Addr) (c : Nat) (l : List Int) (w : World) (hn : l.length ≤ 2000) (hr : ReadsInt w .u8 A l.length l) (hb : ∀ x ∈ l, B8 x) :
    Calls Try.prog 6 #[.slice A l.length c] w fun e w' => e = .returned (.bool true) ∧ Below w.heap.size w w' := by
  have H := Lib.hid (And.intro hr hb)
  clear hr hb
  go_enter Try.func6, Try.ntmps6
  go_wp2_with fail
  refine (sum_nil _).mono ?_
  rintro e w' ⟨rfl, rfl⟩
  go_wp2_with fail
  go_loopg [3, 4] l.length (fun g s3 s4 wx => ∃ k : Nat, k + g = l.length ∧ s3 = .int .u64 (hsum (l.take k)) ∧ s4 = .int .i64 k ∧ w = wx)
  case atStart => exact ⟨0, by omega, rfl, rfl, rfl⟩
  case round =>
    obtain ⟨k, hkg, rfl, rfl, rfl⟩ := hrel
    cases gk with
    | zero =>
      have hkz : ¬ ((k : Int) < (l.length : Int)) := by omega
      have hfin : l.take k = l := List.take_of_length_le (by omega)
      rw [hfin]
      clear hfin
      have HR := Rs.one (c := c) (Bs.of H.out.1) (by omega) 27
      have hb1 : Below w.heap.size w (w.alloc (.cells #[.slice A l.length c] 27)) := (Below.refl _ _).alloc (Nat.le_refl _) _
      have kt := text_of A c l H.out.1 _ hb1
      have hchk : (chk (hsum l) == bits .xor .u32 (IntKind.u64.wrap ((hsum l).tdiv 4294967296) % 4294967296) ((hsum l).tmod 4294967296 % 4294967296)) = true := beq_iff_eq.2 (chk_ref _ (hsum_w _)).symm
      have HB := Lib.hid hb1
      clear hb1
      go_wp2_with fail
      refine (sum_any _ 1 [l] _ HR (by simp)).mono ?_
      rintro e w' ⟨rfl, rfl⟩
      rw [show ([l] : List (List Int)).flatten = l by simp]
      clear HR
      go_wp2_with fail
      refine (key_of l _ (by omega) H.out.2).mono ?_
      rintro e w1 ⟨rfl, hb2⟩
      clear kt
      have HB2 := Lib.hid (HB.out.trans (hb2.mono HB.out.size))
      clear hb2
      go_wp2_with fail
      refine (stir_any _ _).mono ?_
      rintro e w' ⟨rfl, rfl⟩
      go_wp2_with fail
      have HR := Rs.one (c := c) (Bs.of (H.out.1.below HB2.out)) (by omega) 27
      have HB3 := HB2.out.alloc HB2.out.size (.cells #[.slice A l.length c] 27)
      refine (check_any _ 1 [l] _ HR (by simp)).mono ?_
      rintro e w' ⟨rfl, rfl⟩
      rw [show ([l] : List (List Int)).flatten = l by simp]
      clear HR
      have HB4 := Lib.hid HB3
      clear HB3
      go_wp2_with fail
      refine (known_any _).mono ?_
      rintro e w' ⟨rfl, hb5⟩
      have HB6 := HB4.out.trans (hb5.mono HB4.out.size)
      clear hb5
      go_wp2_with fail
      go_ret
      exact ⟨rfl, HB6⟩
    | succ g =>
      have hkz : (k : Int) < (l.length : Int) := by omega
      obtain ⟨a, rfl, hcell⟩ := (Bs.of H.out.1) k (by omega)
      have HT := Lib.hid (show hsum (l.take (k + 1)) = st (hsum (l.take k)) (l.getD k 0) by
        rw [List.take_succ_eq_append_getElem (by omega), hsum_snoc]; simp [List.getD, List.getElem?_eq_getElem (show k < l.length by omega)])
      go_wp2_with fail
      refine (step_any _ _ _).mono ?_
      rintro e w' ⟨rfl, rfl⟩
      go_wp2_with fail
      go_roundg g
      case measure => omega
      case rel => exact ⟨k + 1, by omega, by first | (rw [HT.out]; done) | (rw [HT.out]; rfl), by first | rfl | simp, rfl⟩

theorem walk (a0 : Option Addr) (len0 cap0 : Nat) (z0 : List Int) (w : World) (w0 : IsRow .u8 w a0 len0 cap0 z0) :
    Calls Try.prog 6 #[.slice a0 len0 cap0] w fun e w' => e = .returned (.bool true) ∧ Below w.heap.size w w' := by
  obtain ⟨l, rfl, hr, hb, _, hm⟩ := w0.read
  by_cases h : l.length ≤ 2000
  · exact walk_short a0 cap0 l w h hr hb
  · exact walk_long a0 _ cap0 w (by omega) hm

set_option maxRecDepth 100000 in
theorem lifted (os : Os) (started : os.Started) (H : Type) (enc : TypeId × Value → H) :
    ReturnsInHanded {} Try.checked os 6 .any (Rows.hashStepsSpec.pre6 enc Try.prog Try.f6 Rows.hashStepsRow.domain false) (Rows.hashStepsSpec.post enc Try.prog Try.f6 false true false false) := by
  refine returnsInHanded_of_change (C := Try.checked) own started (by kernel_rfl) Try.func6
    (ChangeSpec.witness6 (enc := enc) (C := Try.checked) false ⟨#[], #[.slice none 0 0], []⟩ 8 (by kernel_rfl) (by kernel_rfl) (by kernel_rfl) (by kernel_rfl)) ?_
  intro W base args ds gs before hval0 hW hcnd _
  have hval : ∀ (j : Nat) t v, Try.f6.params[j]? = some t → args[j]? = some v → Value.okWide Try.prog W .any base t v := hval0
  have hW' := hW
  obtain ⟨p, q, hA0, hV, rfl, hfz, hnd⟩ := hW
  have hA : DataW.TrodAll enc Try.prog W 0 (fun _ => true) true Try.f6.params.toList args.toList ds p := hA0
  rw [Try.params6] at hA hval
  obtain ⟨v0, vs0, d0, ds0, p0, q0, hargs, rfl, rfl, h0, r0⟩ := trodAll_cons hA
  obtain ⟨rfl, rfl, rfl⟩ := trodAll_nil r0
  obtain rfl : args = #[v0] := by cases args; simp_all
  obtain ⟨rfl, rfl⟩ := trodVars_none hV
  obtain ⟨a0, len0, cap0, rfl⟩ := okWide_slice Try.underlying27 (hval 0 27 v0 rfl rfl)
  have k0 := h0
  have lt0 : ∀ x ∈ p0, x.block < W.heap.size := by obtain ⟨m, hm⟩ := k0; exact DataW.trod_lt m _ _ _ hm
  obtain ⟨z0, w0⟩ : ∃ zs, IsRow .u8 W a0 len0 cap0 zs := by
    obtain ⟨fuel, hf⟩ := h0
    rcases open_ints Try.underlying27 Try.underlying5 (by kernel_rfl) hf with ⟨hcs, _⟩ | ⟨x, l, c, zs, hcs, _, hl, hm, hz, _, hcell, hwz⟩
    · simp [Value.cells] at hcs
      obtain ⟨rfl, rfl, rfl⟩ := hcs
      exact ⟨[], .inl ⟨rfl, rfl, rfl, rfl⟩⟩
    · simp [Value.cells] at hcs
      obtain ⟨rfl, rfl, rfl⟩ := hcs
      exact ⟨zs, .inr ⟨_, rfl, hl, hm, by simpa using hz, hcell, hwz⟩⟩
  clear hA0 hval0
  refine (walk a0 len0 cap0 z0 W w0).mono fun e W' ⟨he, bel⟩ => ?_
  subst he
  exact ⟨_, rfl, _, _, _, [], _, [], hW', trodAll_mk1 (shut_bool Try.underlying4 _), (trodAll_cons_mk (Below.trod laidOut (by kernel_rfl) (of_decide_eq_true (by kernel_rfl)) k0 bel lt0) trodAll_mk0), rfl, bel.frame _, fun h => by cases h⟩

theorem over : Rows.hashStepsRow.holds Try.pinned (OpenSpec.ofChange Rows.hashStepsSpec) :=
  OpenClaim.holds_of_wide 6 Try.f6 rfl rfl rfl rfl rfl rfl rfl ⟨rfl, rfl, rfl, rfl, rfl⟩ rfl rfl rfl rfl rfl (by kernel_rfl) Try.func6 (by kernel_rfl)
    (of_decide_eq_true (by kernel_rfl)) (by unfold Func.isWrapper; rw [if_neg (of_decide_eq_false (by kernel_rfl))]; exact ⟨rfl, rfl⟩)
    (fun os started H enc _ => lifted os started H enc)

/-- the statement -/
theorem proved : Rows.HashStepsSaid := over
#print axioms proved
end Go.Proofs.Ytennjcgpencdmaa.hashSteps
