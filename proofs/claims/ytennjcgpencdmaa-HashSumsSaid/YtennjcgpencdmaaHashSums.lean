/- Of any bytes, in whatever parts, the sum, and its half, is what the reference says; the law returns true and writes nothing that was there. No condition. -/
import Derived.Test.YtennjcgpencdmaaRows
import Derived.Test.YtennjcgpencdmaaWalkC
import Derived.ProofKit
import Derived.OpenShut
import Derived.ShutString
import Derived.ChangeOld
import Derived.SizedLaws
import Derived.Deep.Matrix
import Derived.Deep.Modes
import Derived.Deep.Frames
import Derived.Below
namespace Go.Proofs.Ytennjcgpencdmaa.hashSums
open Go.ChangeShapes Go.WideShapes Go.ChangeAt Go.RowKit Go.Deep Go.Proofs.YtennjcgpencdmaaW.PrintWords
set_option linter.unusedVariables false

theorem own : ownKnob Try.prog.godebug = none := by kernel_rfl
theorem laidOut : laidOutB Try.prog = true := by kernel_rfl

theorem flat_snoc (ls : List (List Int)) (k : Nat) (hk : k < ls.length) : (ls.take (k + 1)).flatten = (ls.take k).flatten ++ ls.getD k [] := by
  rw [List.take_succ_eq_append_getElem hk, List.flatten_append]; simp [List.getD, List.getElem?_eq_getElem hk]
theorem mem_getD (ls : List (List Int)) (k : Nat) (hk : k < ls.length) : ls.getD k [] ∈ ls := by
  rw [List.getD, List.getElem?_eq_getElem hk]; exact List.getElem_mem _

/-- what is known of the parts -/
structure Parts (w : World) (A : Option Addr) (ls : List (List Int)) : Prop where
  rows : Rs w A ls
  many : ls.length ≤ 140737488351232
  long : ∀ x ∈ ls, x.length ≤ 140737488351232
  bytes : ∀ x ∈ ls, ∀ y ∈ x, B8 y

set_option maxHeartbeats 1000000 in
theorem walk_main (A : Option Addr) (c : Nat) (ls : List (List Int)) (w : World) (hp : Parts w A ls) :
    Calls Try.prog 5 #[.slice A ls.length c] w fun e w' => e = .returned (.bool true) ∧ Below w.heap.size w w' := by
  have hn := hp.many
  have H := Lib.hid hp
  clear hp
  go_enter Try.func5, Try.ntmps5
  go_wp2
  go_loopg [3, 4] ls.length (fun g s3 s4 wx => ∃ (k : Nat) (X : List Int), k + g = ls.length ∧ s4 = .int .i64 k ∧ Hid (X = (ls.take k).flatten) ∧ X.length ≤ 3000 ∧ wx.ownsRow w.heap.size 5 1 s3 X.length (nums .u8 X) ∧ Below w.heap.size w wx)
  case atStart => exact ⟨0, [], by omega, rfl, Lib.hid rfl, by simp, own_nil _ _ _ _, Below.refl _ _⟩
  case round =>
    obtain ⟨k, X, hkg, rfl, HX, hX, hown, hbel⟩ := hrel
    obtain ⟨C, cc, rfl⟩ := own_slice hown
    have HO := Lib.hid (And.intro hown hbel)
    clear hown hbel
    cases gk with
    | zero =>
      have hkz : ¬ ((k : Int) < (ls.length : Int)) := by omega
      have hXe : X = ls.flatten := by rw [HX.out, List.take_of_length_le (by omega)]
      have hXb : ∀ x ∈ X, B8 x := by
        rw [hXe]; intro x hx
        obtain ⟨l, hl, hxl⟩ := List.mem_flatten.1 hx
        exact H.out.bytes l hl x hxl
      have HXe := Lib.hid (And.intro hXe hXb)
      obtain ⟨C', c', e, hread⟩ := own_reads HO.out.1
      cases e
      have HR := Lib.hid (And.intro (H.out.rows.below HO.out.2) (Bs.of hread))
      clear hXe hXb hread
      go_wp2_with fail
      refine (sum_any A c ls _ HR.out.1 (by omega)).mono ?_
      rintro e w' ⟨rfl, rfl⟩
      rw [← HXe.out.1]
      go_wp2_with fail
      refine (rsum_any _ _ X _ HR.out.2 (by omega) HXe.out.2).mono ?_
      rintro e w' ⟨rfl, rfl⟩
      go_wp2_with fail
      refine (check_any A c ls _ HR.out.1 (by omega)).mono ?_
      rintro e w' ⟨rfl, rfl⟩
      rw [← HXe.out.1]
      go_wp2_with fail
      refine (rcheck_any _ _ X _ HR.out.2 (by omega) HXe.out.2).mono ?_
      rintro e w' ⟨rfl, rfl⟩
      go_wp2_with fail
      refine (known_any _).mono ?_
      rintro e w' ⟨rfl, hb⟩
      have HB := HO.out.2.trans (hb.mono HO.out.2.size)
      clear hb
      go_wp2_with fail
      go_ret
      exact ⟨rfl, HB⟩
    | succ g =>
      have hkz : (k : Int) < (ls.length : Int) := by omega
      obtain ⟨a, B, cB, rfl, hcell, hlen, hB⟩ := (H.out.rows.below HO.out.2) k (by omega)
      have hlong := H.out.long _ (mem_getD ls k (by omega))
      have HS := Lib.hid (flat_snoc ls k (by omega))
      have HB := Lib.hid hB
      clear hB
      generalize hl : ls.getD k [] = l at *
      clear hl
      by_cases ht : 3000 < X.length + l.length
      · have t1 : decide ((3000 : Int) < (X.length : Int) + (l.length : Int)) = true := decide_eq_true (by omega)
        clear ht
        go_wp2_with fail
        refine (known_any _).mono ?_
        rintro e w' ⟨rfl, hb⟩
        have HB := HO.out.2.trans (hb.mono HO.out.2.size)
        clear hb
        go_wp2_with fail
        go_ret
        exact ⟨rfl, HB⟩
      · have t1 : decide ((3000 : Int) < (X.length : Int) + (l.length : Int)) = false := decide_eq_false (by omega)
        have hr := HB.out.reads hlen
        have HR := Lib.hid hr
        clear hr
        go_wp2_with (at_builtin; refine print_append_row (w0 := w) w.heap.size rfl _ _ 27 5 .u8 1 rfl Try.underlying27 (by kernel_rfl) (by decide) (.slice C X.length cc) X l B l.length cB rfl rfl HO.out.1 HR.out HO.out.2 HO.out.2.size (by omega) ?_; intro v1 w1 hown1 hbel1 _ _)
        go_roundg g
        case measure => omega
        case rel => exact ⟨k + 1, X ++ l, by omega, by first | rfl | simp, Lib.hid (by rw [HS.out, HX.out]), by rw [List.length_append]; omega, hown1, hbel1⟩

theorem reach_eq : reachBytes = 140737488351232 := rfl
theorem cells27 : Try.prog.cellsOf 27 = 1 := by kernel_rfl
theorem cells5 : Try.prog.cellsOf 5 = 1 := by kernel_rfl
theorem bytes27 : Try.prog.bytesOf 27 = 24 := by kernel_rfl
theorem bytes5 : Try.prog.bytesOf 5 = 1 := by kernel_rfl

theorem weightsAll_mem {H : Type} {P : Program} {e : TypeId} : ∀ {l : List (DataW H)} {d : DataW H}, d ∈ l → ∀ n ∈ d.weights P e, n ∈ DataW.weightsAll P e l
  | d' :: r, d, hd, n, hn => by
    simp only [DataW.weightsAll, List.mem_append]
    rcases List.mem_cons.1 hd with rfl | h
    · exact Or.inl hn
    · exact Or.inr (weightsAll_mem h n hn)

/-- the reach of a row inside a slice of slices -/
theorem sized_inner {H : Type} {P : Program} {ts : List TypeId} {ds : List (DataW H)} (h : (DataW.weightsEach P ts ds).all (· ≤ reachBytes) = true) {j : Nat} {t e q : TypeId} {elems spare e' sp' : List (DataW H)}
    (ht : ts[j]? = some t) (hd : ds[j]? = some (.slice elems spare)) (hu : P.underlying t = some (.slice e)) (hu2 : P.underlying e = some (.slice q)) (hx : DataW.slice e' sp' ∈ elems) : (e'.length + sp'.length) * P.bytesOf q ≤ reachBytes := by
  refine of_decide_eq_true (List.all_eq_true.1 h _ (DataW.weights_mem_each ht hd _ ?_))
  simp only [DataW.weights, hu, List.mem_cons, List.mem_append]
  exact Or.inr (Or.inl (weightsAll_mem hx _ (by simp [DataW.weights, hu2])))

set_option maxRecDepth 100000 in
theorem lifted (os : Os) (started : os.Started) (H : Type) (enc : TypeId × Value → H) :
    ReturnsInHanded {} Try.checked os 5 .any (Rows.hashSumsSpec.pre6 enc Try.prog Try.f5 Rows.hashSumsRow.domain false) (Rows.hashSumsSpec.post enc Try.prog Try.f5 false true false false) := by
  refine returnsInHanded_of_change_sized (C := Try.checked) own started (by kernel_rfl) Try.func5
    (ChangeSpec.witness6 (enc := enc) (C := Try.checked) false ⟨#[], #[.slice none 0 0], []⟩ 8 (by kernel_rfl) (by kernel_rfl) (by kernel_rfl) (by kernel_rfl)) ?_
  intro W base args ds gs before hval0 hW hcnd hsz0 _
  have hsz : (DataW.weightsEach Try.prog (Try.f5.params.toList ++ Rows.hashSumsSpec.plain.varTypes Try.prog) (ds ++ gs)).all (· ≤ reachBytes) = true := hsz0
  clear hsz0
  have hval : ∀ (j : Nat) t v, Try.f5.params[j]? = some t → args[j]? = some v → Value.okWide Try.prog W .any base t v := hval0
  have hW' := hW
  obtain ⟨p, q, hA0, hV, rfl, hfz, hnd⟩ := hW
  have hA : DataW.TrodAll enc Try.prog W 0 (fun _ => true) true Try.f5.params.toList args.toList ds p := hA0
  rw [Try.params5] at hA hval hsz
  obtain ⟨v0, vs0, d0, ds0, p0, q0, hargs, rfl, rfl, h0, r0⟩ := trodAll_cons hA
  obtain ⟨rfl, rfl, rfl⟩ := trodAll_nil r0
  obtain rfl : args = #[v0] := by cases args; simp_all
  obtain ⟨rfl, rfl⟩ := trodVars_none hV
  obtain ⟨a0, len0, cap0, rfl⟩ := okWide_slice Try.underlying33 (hval 0 33 v0 rfl rfl)
  have k0 := h0
  have lt0 : ∀ x ∈ p0, x.block < W.heap.size := by obtain ⟨m, hm⟩ := k0; exact DataW.trod_lt m _ _ _ hm
  have hp : ∃ ls : List (List Int), ls.length = len0 ∧ Parts W a0 ls := by
    obtain ⟨fuel, hf⟩ := h0
    rcases open_int_rows Try.underlying33 Try.underlying27 Try.underlying5 cells27 cells5 hf with ⟨hcs, _⟩ | ⟨x, l, c, A, L, C, Z, hcs, _, hl, hm, hx, hrows⟩
    · simp [Value.cells] at hcs
      obtain ⟨rfl, rfl, rfl⟩ := hcs
      exact ⟨[], rfl, Rs.nil _ _, by simp, by simp, by simp⟩
    · simp [Value.cells] at hcs
      obtain ⟨rfl, rfl, rfl⟩ := hcs
      simp only [Prod.mk.injEq] at hx
      obtain ⟨rfl, _⟩ := hx
      have hout := sized_slice hsz (j := 0) (t := 33) (e := 27) rfl rfl Try.underlying33
      simp only [List.length_map, List.length_range, bytes27, reach_eq] at hout
      have hin : ∀ r, r < len0 → L r ≤ 140737488351232 := fun r hr => by
        obtain ⟨_, h1, _, h3, _, h4, _⟩ := hrows r (by omega)
        cases hA : A r with
        | none => have := h4 hA; omega
        | some a' =>
          have hin := sized_inner hsz (j := 0) (t := 33) (e := 27) (q := 5) rfl rfl Try.underlying33 Try.underlying27
            (e' := lits .u8 ((Z r).take (L r))) (sp' := lits .u8 ((Z r).drop (L r)))
            (List.mem_map.2 ⟨r, List.mem_range.2 hr, by simp [intRow, hA]⟩)
          simp only [lits, List.length_map, List.length_take, List.length_drop, bytes5, reach_eq] at hin
          omega
      have hlen : ∀ r, r < len0 → ((Z r).take (L r)).length = L r := fun r hr => by
        obtain ⟨_, h1, _, h3, _⟩ := hrows r (by omega)
        rw [List.length_take]; omega
      refine ⟨(List.range len0).map fun r => (Z r).take (L r), by simp, ?_, by simp; omega, ?_, ?_⟩
      · intro i hi
        have hi' : i < len0 := by simpa using hi
        have e : ((List.range len0).map fun r => (Z r).take (L r)).getD i [] = (Z i).take (L i) := by
          simp [List.getD_eq_getElem?_getD, hi']
        rw [e, hlen i hi']
        obtain ⟨hc, h1, _, h3, _, _, h5⟩ := hrows i (by omega)
        refine ⟨x, A i, C i, rfl, hc, by have := hin i hi'; omega, fun j hj => ?_⟩
        have hjL : j < L i := by rw [hlen i hi'] at hj; exact hj
        cases hA : A i with
        | none => have := (hrows i (by omega)).2.2.2.2.2.1 hA; omega
        | some a' =>
          obtain ⟨_, hcell⟩ := h5 a' hA
          refine ⟨a', rfl, ?_⟩
          rw [hcell j (by omega)]
          simp [List.getD_eq_getElem?_getD, hjL]
      · intro y hy
        obtain ⟨r, hr, rfl⟩ := List.mem_map.1 hy
        have hr' := List.mem_range.1 hr
        rw [hlen r hr']; exact hin r hr'
      · intro y hy z hz
        obtain ⟨r, hr, rfl⟩ := List.mem_map.1 hy
        have hr' := List.mem_range.1 hr
        exact bounds_u8 ((hrows r (by omega)).2.2.2.2.1 z (List.mem_of_mem_take hz))
  clear hA0 hval0
  obtain ⟨ls, rfl, hP⟩ := hp
  refine (walk_main a0 cap0 ls W hP).mono fun e W' ⟨he, bel⟩ => ?_
  subst he
  exact ⟨_, rfl, _, _, _, [], _, [], hW', trodAll_mk1 (shut_bool Try.underlying4 _), (trodAll_cons_mk (Below.trod laidOut (by kernel_rfl) (of_decide_eq_true (by kernel_rfl)) k0 bel lt0) trodAll_mk0), rfl, bel.frame _, fun h => by cases h⟩

/-- the statement -/
theorem proved : Rows.HashSumsSaid :=
  OpenClaim.holds_of_wide 5 Try.f5 rfl rfl rfl rfl rfl rfl rfl ⟨rfl, rfl, rfl, rfl, rfl⟩ rfl rfl rfl rfl rfl (by kernel_rfl) Try.func5 (by kernel_rfl)
    (of_decide_eq_true (by kernel_rfl)) (by unfold Func.isWrapper; rw [if_neg (of_decide_eq_false (by kernel_rfl))]; exact ⟨rfl, rfl⟩)
    (fun os started H enc _ => lifted os started H enc)
#print axioms proved
end Go.Proofs.Ytennjcgpencdmaa.hashSums
