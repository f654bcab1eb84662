/- Bytes of which one is another one have another sum, and another key; the law returns true and writes nothing that was there. No condition. -/
import Derived.Test.YtennjcgpencdmaaRows
import Derived.Test.YtennjcgpencdmaaWalkC
import Derived.ProofKit
import Derived.OpenShut
import Derived.ShutString
import Derived.ChangeOld
import Derived.Below
import Derived.Test.YtennjcgpencdmaaFacts
namespace Go.Proofs.Ytennjcgpencdmaa.hashOne
open Go.ChangeShapes Go.WideShapes Go.ChangeAt Go.RowKit Go.Proofs.YtennjcgpencdmaaW.PrintWords
set_option linter.unusedVariables false

theorem own : ownKnob Try.prog.godebug = none := by kernel_rfl
theorem laidOut : laidOutB Try.prog = true := by kernel_rfl

theorem y_of (a x : Int) (ha : B8 a) (h1 : 1 ≤ x) (h2 : x ≤ 255) : B8 (bits .xor .u8 a x) ∧ a ≠ bits .xor .u8 a x := by
  obtain ⟨a, rfl⟩ := Int.eq_ofNat_of_zero_le ha.1
  obtain ⟨x, rfl⟩ := Int.eq_ofNat_of_zero_le (show 0 ≤ x by omega)
  have ha2 := ha.2
  have hb : a ^^^ x < 2 ^ 8 := Nat.xor_lt_two_pow (by omega) (by omega)
  rw [xor8 a x (by omega) (by omega)]
  refine ⟨⟨by omega, by omega⟩, fun e => ?_⟩
  have e' : a ^^^ x = a := by omega
  have : a ^^^ (a ^^^ x) = a ^^^ a := by rw [e']
  rw [← Nat.xor_assoc, Nat.xor_self, Nat.zero_xor] at this
  omega

theorem bel_key {w w1 w2 : World} (h : Below w.heap.size w w1) (k : Below w1.heap.size w1 w2) : Below w.heap.size w w2 := h.trans (k.mono h.size)
/-- the sum of one row in a new block -/
theorem sum_row1 {W2 : World} (n : Nat) (A : Option Addr) (m c : Nat) (l : List Int) (hr : ReadsInt W2 .u8 A m l) (W : World) (hb : Below W2.heap.size W2 W) (hc : W.cell? ⟨n, 0, none⟩ = some (.slice A m c)) :
    Calls Try.prog 13 #[.slice (some ⟨n, 0, none⟩) 1 1] W fun e w' => e = .returned (.int .u64 (hsum l)) ∧ W = w' := by
  obtain rfl := hr.1
  have h : Rs W (some ⟨n, 0, none⟩) [l] := by
    intro i hi
    obtain rfl : i = 0 := by simpa using hi
    exact ⟨_, A, c, rfl, by rw [add_flat]; exact hc, hr.2.1, Bs.of (hr.below hb)⟩
  have := sum_any (some ⟨n, 0, none⟩) 1 [l] W h (by simp)
  rwa [show ([l] : List (List Int)).flatten = l by simp] at this
/-- the sum of two rows in a new block, of which a list is made -/
theorem sum_row2 {W2 : World} (n : Nat) (A A' : Option Addr) (m m' c c' : Nat) (l1 l2 l : List Int) (hl : l1 ++ l2 = l) (hr : ReadsInt W2 .u8 A m l1) (hr' : ReadsInt W2 .u8 A' m' l2) (W : World) (hb : Below W2.heap.size W2 W)
    (hc : W.cell? ⟨n, 0, none⟩ = some (.slice A m c)) (hc' : W.cell? ⟨n, 1, none⟩ = some (.slice A' m' c')) :
    Calls Try.prog 13 #[.slice (some ⟨n, 0, none⟩) 2 2] W fun e w' => e = .returned (.int .u64 (hsum l)) ∧ W = w' := by
  obtain rfl := hr.1
  obtain rfl := hr'.1
  have h : Rs W (some ⟨n, 0, none⟩) [l1, l2] := by
    intro i hi
    have hi2 : i < 2 := hi
    rcases Nat.lt_or_ge i 1 with h1 | h1
    · obtain rfl : i = 0 := by omega
      exact ⟨_, A, c, rfl, by rw [add_flat]; exact hc, hr.2.1, Bs.of (hr.below hb)⟩
    · obtain rfl : i = 1 := by omega
      exact ⟨_, A', c', rfl, by rw [add_flat]; exact hc', hr'.2.1, Bs.of (hr'.below hb)⟩
  have := sum_any (some ⟨n, 0, none⟩) 2 [l1, l2] W h (by simp)
  rwa [show ([l1, l2] : List (List Int)).flatten = l by simp [hl]] at this

/-- a new row of one cell -/
def Row1 (w : World) (u v : Value) : Prop := ∃ n, v = .slice (some ⟨n, 0, none⟩) 1 1 ∧ w.cell? ⟨n, 0, none⟩ = some u
/-- a new row of two cells -/
def Row2 (w : World) (u u' v : Value) : Prop := ∃ n, v = .slice (some ⟨n, 0, none⟩) 2 2 ∧ w.cell? ⟨n, 0, none⟩ = some u ∧ w.cell? ⟨n, 1, none⟩ = some u'
theorem Row1.grow {w w' : World} {u v : Value} (h : Row1 w u v) (hb : Below w.heap.size w w') : Row1 w' u v := by
  obtain ⟨n, e, hc⟩ := h
  exact ⟨n, e, (hb.cell (World.block_lt_of_cell? w _ hc)).trans hc⟩
theorem Row2.grow {w w' : World} {u u' v : Value} (h : Row2 w u u' v) (hb : Below w.heap.size w w') : Row2 w' u u' v := by
  obtain ⟨n, e, hc, hc'⟩ := h
  exact ⟨n, e, (hb.cell (World.block_lt_of_cell? w _ hc)).trans hc, (hb.cell (World.block_lt_of_cell? w _ hc')).trans hc'⟩

/-- what each operation of the last statement leaves -/
def phi (vb vc v1 v2 : Value) (l l' : List Int) (k : Nat) : Nat → Value → World → Prop
  | 0, v, _ => v = vb
  | 1, v, w => Row1 w vb v
  | 2, v, _ => v = .int .u64 (hsum l)
  | 3, v, _ => v = vc
  | 4, v, w => Row1 w vc v
  | 5, v, _ => v = .int .u64 (hsum l')
  | 6, v, _ => v = .bool true
  | 7, v, _ => v = .bool true
  | 8, v, _ => v = vb
  | 9, v, _ => v = .string (strOfNums l)
  | 10, v, _ => v = .int .u64 (sti (hsum l))
  | 11, v, _ => v = vc
  | 12, v, _ => v = .string (strOfNums l')
  | 13, v, _ => v = .int .u64 (sti (hsum l'))
  | 14, v, _ => v = .bool true
  | 15, v, _ => v = .bool true
  | 16, v, _ => v = .bool true
  | 17, v, _ => v = vb
  | 18, v, w => Row1 w vb v
  | 19, v, _ => v = .int .u64 (hsum l)
  | 20, v, _ => v = vb
  | 21, v, _ => v = .int .i64 k
  | 22, v, _ => v = v1
  | 23, v, _ => v = vb
  | 24, v, _ => v = .int .i64 k
  | 25, v, _ => v = v2
  | 26, v, w => Row2 w v1 v2 v
  | 27, v, _ => v = .int .u64 (hsum l)
  | _, v, _ => v = .bool true
theorem phi_grow {vb vc v1 v2 : Value} {l l' : List Int} {k : Nat} (i : Nat) (v : Value) (w w' : World) (h : phi vb vc v1 v2 l l' k i v w) (hb : Below w.heap.size w w') : phi vb vc v1 v2 l l' k i v w' := by
  unfold phi at h ⊢
  split at h <;> first | exact h | exact Row1.grow h hb | exact Row2.grow h hb

theorem yielded_of {ops : Array Oper} {a : Act} {j : Nat} {o : Oper} {d : Tmp} {b : Bool} (ho : ops[j]? = some o) (hd : o.dst = some d) (h : (a.tmps[d]?).getD undef = .bool b) : yielded ops a.tmps j = some b := by
  unfold yielded
  rw [ho]
  simp only [Option.bind_some, hd]
  cases hx : a.tmps[d]? with
  | none => rw [hx] at h; cases h
  | some x => rw [hx] at h; simp only [Option.getD_some] at h; subst h; rfl

theorem wanted_of {ops : Array Oper} {a : Act} {j : Nat} {o u : Oper} {d : Tmp} {b : Bool} (hg : u.guard = some (j, b)) (ho : ops[j]? = some o) (hd : o.dst = some d) (h : (a.tmps[d]?).getD undef = .bool b) :
    Region.wanted u (yielded ops a.tmps) = true := by
  unfold Region.wanted
  rw [hg]
  simp only [yielded_of ho hd h, beq_self_eq_true]
theorem cell_new1 (w : World) (u : Value) (t : TypeId) : (w.alloc (.cells #[u] t)).cell? ⟨w.heap.size, 0, none⟩ = some u := by
  have := cell_one_new w u t 0 u rfl
  rwa [add_flat] at this
theorem cell_new2a (w : World) (u u' : Value) (t : TypeId) : (w.alloc (.cells #[u, u'] t)).cell? ⟨w.heap.size, 0, none⟩ = some u := by go_simp
theorem cell_new2b (w : World) (u u' : Value) (t : TypeId) : (w.alloc (.cells #[u, u'] t)).cell? ⟨w.heap.size, 1, none⟩ = some u' := by go_simp
theorem exec_row1 {o : Oper} {a : Act} {w : World} {t : Tmp} {A : Option Addr} {n c : Nat} (ho : o.op = .buildSlice 33 1 #[(0, .tmp t)]) (h : (a.tmps[t]?).getD undef = .slice A n c) :
    (execOp a.eval o).run Try.prog w = .ok (.value (.slice (some ⟨w.heap.size, 0, none⟩) 1 1)) (w.alloc (.cells #[.slice A n c] 27)) := by
  unfold execOp
  rw [ho]
  go_simp
theorem exec_row2 {o : Oper} {a : Act} {w : World} {t t' : Tmp} {A A' : Option Addr} {n n' c c' : Nat} (ho : o.op = .buildSlice 33 2 #[(0, .tmp t), (1, .tmp t')]) (h : (a.tmps[t]?).getD undef = .slice A n c) (h' : (a.tmps[t']?).getD undef = .slice A' n' c') :
    (execOp a.eval o).run Try.prog w = .ok (.value (.slice (some ⟨w.heap.size, 0, none⟩) 2 2)) (w.alloc (.cells #[.slice A n c, .slice A' n' c'] 27)) := by
  unfold execOp
  rw [ho]
  go_simp
theorem exec_conv {o : Oper} {a : Act} {w : World} {t : Tmp} {v u : Value} (ho : o.op = .convert 27 9 (.tmp t)) (h : (a.tmps[t]?).getD undef = v) (hr : (convert 27 9 v).run Try.prog w = .ok u w) :
    (execOp a.eval o).run Try.prog w = .ok (.value u) w := by
  unfold execOp
  rw [ho]
  go_simp

set_option maxHeartbeats 1000000 in
theorem walk_main (A : Option Addr) (c : Nat) (l : List Int) (m k : Nat) (x : Int) (w : World) (h0 : 0 < l.length) (hn : l.length ≤ 2000) (hr : ReadsInt w .u8 A l.length l) (hb : ∀ x ∈ l, B8 x)
    (hx1 : 1 ≤ x) (hx2 : x ≤ 255) (hm : m ≤ 65535) (hk : m % l.length = k) (hkl : k < l.length) (hlc : l.length ≤ c) :
    Calls Try.prog 4 #[.slice A l.length c, .int .u16 (m : Int), .int .u8 x] w fun e w' => e = .returned (.bool true) ∧ Below w.heap.size w w' := by
  have H := Lib.hid (And.intro hr hb)
  clear hr hb
  have t1 : ((l.length : Int) == 0) = false := beq_eq_false_iff_ne.2 (by omega)
  have t2 : decide ((2000 : Int) < (l.length : Int)) = false := decide_eq_false (by omega)
  have t3 : (x == 0) = false := beq_eq_false_iff_ne.2 (by omega)
  have hq : (wrap64 (m : Int)).tmod (l.length : Int) = (k : Int) := by
    rw [show wrap64 (m : Int) = (m : Int) by unfold wrap64; omega, Int.tmod_eq_emod_of_nonneg (by omega), ← hk]; omega
  clear hk hm
  go_enter Try.func4, Try.ntmps4
  go_wp2_with fail
  refine (copy_any _ _ _ _ _ H.out.1 (by omega)).mono ?_
  rintro e w1 ⟨v, rfl, hown, hbel⟩
  obtain ⟨C, cc, rfl⟩ := own_slice hown
  obtain ⟨g, cap, hg, hgb, hgl⟩ := hown.form (by omega)
  cases hg
  obtain ⟨hcell, hfree⟩ := own_at hown (k : Int) (by omega) (by omega)
  rw [Int.toNat_natCast] at hcell hfree
  have hst := own_store hown (k : Int) (bits .xor .u8 (rd l k) x)
  rw [Int.toNat_natCast] at hst
  have HO := Lib.hid (And.intro hst.1 (hbel.grown hst.2 hbel.size (fun j hj => by cases hj; exact hgb)))
  have HB := Lib.hid hbel
  clear hown hst hbel hgb hgl
  go_wp2_with fail
  obtain ⟨W2, hW2⟩ : ∃ W, W = w1.setCell ⟨g, k, none⟩ (Value.int IntKind.u8 (bits .xor .u8 (rd l k) x)) := ⟨_, rfl⟩
  rw [← hW2]
  have hy := y_of (rd l k) x (H.out.2 _ (by rw [rd, Int.toNat_natCast, List.getD, List.getElem?_eq_getElem hkl]; exact List.getElem_mem _)) hx1 hx2
  generalize bits .xor .u8 (rd l k) x = y at *
  have hr2 : ReadsInt W2 .u8 A l.length l := by rw [hW2]; exact H.out.1.below (HO.out.2)
  have hll : (l.set k y).length = l.length := List.length_set
  have hr3 : ReadsInt W2 .u8 (some ⟨g, 0, none⟩) l.length (l.set k y) := by
    obtain ⟨A', c', e, h⟩ := own_reads HO.out.1
    cases e
    rw [hW2]; exact h
  have hg : l.getD k 0 ∈ l := by rw [List.getD, List.getElem?_eq_getElem hkl]; exact List.getElem_mem _
  have hne := hsum_ne l (fun z hz => (H.out.2 z hz).w) k hkl y hy.1.w (fun e => hy.2 e)
  have hb3 : ∀ z ∈ l.set k y, B8 z := fun z hz => by
    rcases List.mem_or_eq_of_mem_set hz with h | rfl
    · exact H.out.2 z h
    · exact hy.1
  have hbW : Below w.heap.size w W2 := by rw [hW2]; exact HO.out.2
  have q1 : (hsum l != hsum (l.set k y)) = true := bne_iff_ne.2 hne
  have q2 : (sti (hsum l) != sti (hsum (l.set k y))) = true := bne_iff_ne.2 (fun e => hne (sti_inj (hsum_w _) (hsum_w _) e))
  have HH := Lib.hid (And.intro (And.intro hr2 hr3) (And.intro (And.intro H.out.2 hb3) hbW))
  have k0 : (0 : Int) ≤ (k : Int) := by omega
  have k1 : (k : Int) ≤ (l.length : Int) := by omega
  have k2 : (k : Int) ≤ (c : Int) := by omega
  have k3 : k ≤ c := by omega
  have k4 : ¬ c = k := by omega
  obtain ⟨l', hl'⟩ : ∃ l', l' = l.set k y := ⟨_, rfl⟩
  rw [← hl'] at q1 q2 HH
  have hrA := HH.out.1.1
  have hrC := HH.out.1.2
  clear hl' hW2 HO HB hr2 hr3 hg hne hb3 hbW hy hll H hcell hfree
  have kA := text_of A c l (w := W2) HH.out.1.1
  have kC := text_of (some ⟨g, 0, none⟩) cc l' (w := W2) (by rw [HH.out.1.2.1]; exact HH.out.1.2)
  rw [HH.out.1.2.1] at kC
  have hL1 : l.length ≤ 9223372036854775807 := by omega
  have hL2 : l'.length ≤ 9223372036854775807 := by have := HH.out.1.2.1; omega
  have hB1 := HH.out.2.1.1
  have hB2 := HH.out.2.1.2
  have hrD := hrA.drop_ k (by omega) hlc
  rw [if_neg k4] at hrD
  refine Facts.wp_region_facts (φ := phi (.slice A l.length c) (.slice (some ⟨g, 0, none⟩) l.length cc) (.slice A k c) (.slice (A.map (·.add k)) (l.length - k) (c - k)) l l' k) (by kernel_rfl) (by kernel_rfl) phi_grow ?_ ?_
  · intro i o ho
    have hi : i < 34 := (Array.getElem?_eq_some_iff.1 ho).1
    rcases i with _ | _ | _ | _ | _ | _ | _ | _ | _ | _ | _ | _ | _ | _ | _ | _ | _ | _ | _ | _ | _ | _ | _ | _ | _ | _ | _ | _ | _ | _ | _ | _ | _ | _ | i
    · cases ho
      intro a w hb hB hd
      have t0 : (a.tmps[0]?).getD undef = .slice A l.length c := (hB.at_ (t := 0) (by kernel_rfl)).trans rfl
      refine ⟨fun _ => ?_, fun h => by cases h⟩
      unfold Oper.wp
      go_simp
      exact ⟨Below.refl _ _, _, rfl, rfl⟩
    · cases ho
      intro a w hb hB hd
      have d0 : (a.tmps[38]?).getD undef = .slice A l.length c := hd ⟨0, .data⟩ (by simp) rfl
      refine ⟨fun _ => ?_, fun h => by cases h⟩
      unfold Oper.wp
      rw [exec_row1 rfl d0]
      exact ⟨(Below.refl _ _).alloc (Nat.le_refl _) _, _, rfl, ⟨_, rfl, cell_new1 _ _ _⟩⟩
    · cases ho
      intro a w hb hB hd
      obtain ⟨n, d1, hc⟩ := hd ⟨1, .data⟩ (by simp) rfl
      replace d1 : (a.tmps[39]?).getD undef = _ := d1
      refine ⟨fun _ => ?_, fun h => by cases h⟩
      unfold Oper.wp
      go_simp
      refine (sum_row1 n A l.length c l hrA w hb hc).mono ?_
      rintro e w' ⟨rfl, rfl⟩
      exact ⟨Below.refl _ _, _, rfl, rfl⟩
    · cases ho
      intro a w hb hB hd
      have t7 : (a.tmps[7]?).getD undef = .slice (some ⟨g, 0, none⟩) l.length cc := (hB.at_ (t := 7) (by kernel_rfl)).trans rfl
      refine ⟨fun _ => ?_, fun h => by cases h⟩
      unfold Oper.wp
      go_simp
      exact ⟨Below.refl _ _, _, rfl, rfl⟩
    · cases ho
      intro a w hb hB hd
      have d3 : (a.tmps[41]?).getD undef = .slice (some ⟨g, 0, none⟩) l.length cc := hd ⟨3, .data⟩ (by simp) rfl
      refine ⟨fun _ => ?_, fun h => by cases h⟩
      unfold Oper.wp
      rw [exec_row1 rfl d3]
      exact ⟨(Below.refl _ _).alloc (Nat.le_refl _) _, _, rfl, ⟨_, rfl, cell_new1 _ _ _⟩⟩
    · cases ho
      intro a w hb hB hd
      obtain ⟨n, d4, hc⟩ := hd ⟨4, .data⟩ (by simp) rfl
      replace d4 : (a.tmps[42]?).getD undef = _ := d4
      refine ⟨fun _ => ?_, fun h => by cases h⟩
      unfold Oper.wp
      go_simp
      refine (sum_row1 n (some ⟨g, 0, none⟩) l.length cc l' hrC w hb hc).mono ?_
      rintro e w' ⟨rfl, rfl⟩
      exact ⟨Below.refl _ _, _, rfl, rfl⟩
    · cases ho
      intro a w hb hB hd
      have d2 : (a.tmps[40]?).getD undef = .int .u64 (hsum l) := hd ⟨2, .data⟩ (by simp) rfl
      have d5 : (a.tmps[43]?).getD undef = .int .u64 (hsum l') := hd ⟨5, .data⟩ (by simp) rfl
      refine ⟨fun _ => ?_, fun h => by cases h⟩
      unfold Oper.wp
      go_simp
      exact ⟨Below.refl _ _, _, rfl, rfl⟩
    · cases ho
      intro a w hb hB hd
      have d6 : (a.tmps[44]?).getD undef = .bool true := hd ⟨6, .data⟩ (by simp) rfl
      refine ⟨fun _ => ?_, fun h => by cases h⟩
      unfold Oper.wp
      go_simp
      exact ⟨Below.refl _ _, _, rfl, rfl⟩
    · cases ho
      intro a w hb hB hd
      have t0 : (a.tmps[0]?).getD undef = .slice A l.length c := (hB.at_ (t := 0) (by kernel_rfl)).trans rfl
      have gd : (a.tmps[45]?).getD undef = .bool true := hd ⟨7, .guard⟩ (by simp) rfl
      refine ⟨fun _ => ?_, fun h => absurd h (by rw [wanted_of rfl rfl rfl gd]; decide)⟩
      clear gd
      unfold Oper.wp
      go_simp
      exact ⟨Below.refl _ _, _, rfl, rfl⟩
    · cases ho
      intro a w hb hB hd
      have d8 : (a.tmps[46]?).getD undef = .slice A l.length c := hd ⟨8, .data⟩ (by simp) rfl
      have gd : (a.tmps[45]?).getD undef = .bool true := hd ⟨7, .guard⟩ (by simp) rfl
      refine ⟨fun _ => ?_, fun h => absurd h (by rw [wanted_of rfl rfl rfl gd]; decide)⟩
      clear gd
      unfold Oper.wp
      rw [exec_conv rfl d8 (kA w hb)]
      exact ⟨Below.refl _ _, _, rfl, rfl⟩
    · cases ho
      intro a w hb hB hd
      have d9 : (a.tmps[47]?).getD undef = .string (strOfNums l) := hd ⟨9, .data⟩ (by simp) rfl
      have gd : (a.tmps[45]?).getD undef = .bool true := hd ⟨7, .guard⟩ (by simp) rfl
      refine ⟨fun _ => ?_, fun h => absurd h (by rw [wanted_of rfl rfl rfl gd]; decide)⟩
      clear gd
      unfold Oper.wp
      go_simp
      refine (key_of l _ hL1 hB1).mono ?_
      rintro e w' ⟨rfl, hb'⟩
      exact ⟨hb', _, rfl, rfl⟩
    · cases ho
      intro a w hb hB hd
      have t7 : (a.tmps[7]?).getD undef = .slice (some ⟨g, 0, none⟩) l.length cc := (hB.at_ (t := 7) (by kernel_rfl)).trans rfl
      have gd : (a.tmps[45]?).getD undef = .bool true := hd ⟨7, .guard⟩ (by simp) rfl
      refine ⟨fun _ => ?_, fun h => absurd h (by rw [wanted_of rfl rfl rfl gd]; decide)⟩
      clear gd
      unfold Oper.wp
      go_simp
      exact ⟨Below.refl _ _, _, rfl, rfl⟩
    · cases ho
      intro a w hb hB hd
      have d11 : (a.tmps[49]?).getD undef = .slice (some ⟨g, 0, none⟩) l.length cc := hd ⟨11, .data⟩ (by simp) rfl
      have gd : (a.tmps[45]?).getD undef = .bool true := hd ⟨7, .guard⟩ (by simp) rfl
      refine ⟨fun _ => ?_, fun h => absurd h (by rw [wanted_of rfl rfl rfl gd]; decide)⟩
      clear gd
      unfold Oper.wp
      rw [exec_conv rfl d11 (kC w hb)]
      exact ⟨Below.refl _ _, _, rfl, rfl⟩
    · cases ho
      intro a w hb hB hd
      have d12 : (a.tmps[50]?).getD undef = .string (strOfNums l') := hd ⟨12, .data⟩ (by simp) rfl
      have gd : (a.tmps[45]?).getD undef = .bool true := hd ⟨7, .guard⟩ (by simp) rfl
      refine ⟨fun _ => ?_, fun h => absurd h (by rw [wanted_of rfl rfl rfl gd]; decide)⟩
      clear gd
      unfold Oper.wp
      go_simp
      refine (key_of l' _ hL2 hB2).mono ?_
      rintro e w' ⟨rfl, hb'⟩
      exact ⟨hb', _, rfl, rfl⟩
    · cases ho
      intro a w hb hB hd
      have d10 : (a.tmps[48]?).getD undef = .int .u64 (sti (hsum l)) := hd ⟨10, .data⟩ (by simp) rfl
      have d13 : (a.tmps[51]?).getD undef = .int .u64 (sti (hsum l')) := hd ⟨13, .data⟩ (by simp) rfl
      have gd : (a.tmps[45]?).getD undef = .bool true := hd ⟨7, .guard⟩ (by simp) rfl
      refine ⟨fun _ => ?_, fun h => absurd h (by rw [wanted_of rfl rfl rfl gd]; decide)⟩
      clear gd
      unfold Oper.wp
      go_simp
      exact ⟨Below.refl _ _, _, rfl, rfl⟩
    · cases ho
      intro a w hb hB hd
      have d7 : (a.tmps[45]?).getD undef = .bool true := hd ⟨7, .data⟩ (by simp) rfl
      have d14 : (a.tmps[52]?).getD undef = .bool true := hd ⟨14, .data⟩ (by simp) rfl
      refine ⟨fun _ => ?_, fun h => by cases h⟩
      unfold Oper.wp
      go_simp
      exact ⟨Below.refl _ _, _, rfl, rfl⟩
    · cases ho
      intro a w hb hB hd
      have d15 : (a.tmps[53]?).getD undef = .bool true := hd ⟨15, .data⟩ (by simp) rfl
      refine ⟨fun _ => ?_, fun h => by cases h⟩
      unfold Oper.wp
      go_simp
      exact ⟨Below.refl _ _, _, rfl, rfl⟩
    · cases ho
      intro a w hb hB hd
      have t0 : (a.tmps[0]?).getD undef = .slice A l.length c := (hB.at_ (t := 0) (by kernel_rfl)).trans rfl
      have gd : (a.tmps[54]?).getD undef = .bool true := hd ⟨16, .guard⟩ (by simp) rfl
      refine ⟨fun _ => ?_, fun h => absurd h (by rw [wanted_of rfl rfl rfl gd]; decide)⟩
      clear gd
      unfold Oper.wp
      go_simp
      exact ⟨Below.refl _ _, _, rfl, rfl⟩
    · cases ho
      intro a w hb hB hd
      have d17 : (a.tmps[55]?).getD undef = .slice A l.length c := hd ⟨17, .data⟩ (by simp) rfl
      have gd : (a.tmps[54]?).getD undef = .bool true := hd ⟨16, .guard⟩ (by simp) rfl
      refine ⟨fun _ => ?_, fun h => absurd h (by rw [wanted_of rfl rfl rfl gd]; decide)⟩
      clear gd
      unfold Oper.wp
      rw [exec_row1 rfl d17]
      exact ⟨(Below.refl _ _).alloc (Nat.le_refl _) _, _, rfl, ⟨_, rfl, cell_new1 _ _ _⟩⟩
    · cases ho
      intro a w hb hB hd
      obtain ⟨n, d18, hc⟩ := hd ⟨18, .data⟩ (by simp) rfl
      replace d18 : (a.tmps[56]?).getD undef = _ := d18
      have gd : (a.tmps[54]?).getD undef = .bool true := hd ⟨16, .guard⟩ (by simp) rfl
      refine ⟨fun _ => ?_, fun h => absurd h (by rw [wanted_of rfl rfl rfl gd]; decide)⟩
      clear gd
      unfold Oper.wp
      go_simp
      refine (sum_row1 n A l.length c l hrA w hb hc).mono ?_
      rintro e w' ⟨rfl, rfl⟩
      exact ⟨Below.refl _ _, _, rfl, rfl⟩
    · cases ho
      intro a w hb hB hd
      have t0 : (a.tmps[0]?).getD undef = .slice A l.length c := (hB.at_ (t := 0) (by kernel_rfl)).trans rfl
      have gd : (a.tmps[54]?).getD undef = .bool true := hd ⟨16, .guard⟩ (by simp) rfl
      refine ⟨fun _ => ?_, fun h => absurd h (by rw [wanted_of rfl rfl rfl gd]; decide)⟩
      clear gd
      unfold Oper.wp
      go_simp
      exact ⟨Below.refl _ _, _, rfl, rfl⟩
    · cases ho
      intro a w hb hB hd
      have t8 : (a.tmps[8]?).getD undef = .int .i64 k := (hB.at_ (t := 8) (by kernel_rfl)).trans rfl
      have gd : (a.tmps[54]?).getD undef = .bool true := hd ⟨16, .guard⟩ (by simp) rfl
      refine ⟨fun _ => ?_, fun h => absurd h (by rw [wanted_of rfl rfl rfl gd]; decide)⟩
      clear gd
      unfold Oper.wp
      go_simp
      exact ⟨Below.refl _ _, _, rfl, rfl⟩
    · cases ho
      intro a w hb hB hd
      have d20 : (a.tmps[58]?).getD undef = .slice A l.length c := hd ⟨20, .data⟩ (by simp) rfl
      have d21 : (a.tmps[59]?).getD undef = .int .i64 k := hd ⟨21, .data⟩ (by simp) rfl
      have gd : (a.tmps[54]?).getD undef = .bool true := hd ⟨16, .guard⟩ (by simp) rfl
      refine ⟨fun _ => ?_, fun h => absurd h (by rw [wanted_of rfl rfl rfl gd]; decide)⟩
      clear gd
      unfold Oper.wp
      go_simp
      exact ⟨Below.refl _ _, _, rfl, rfl⟩
    · cases ho
      intro a w hb hB hd
      have t0 : (a.tmps[0]?).getD undef = .slice A l.length c := (hB.at_ (t := 0) (by kernel_rfl)).trans rfl
      have gd : (a.tmps[54]?).getD undef = .bool true := hd ⟨16, .guard⟩ (by simp) rfl
      refine ⟨fun _ => ?_, fun h => absurd h (by rw [wanted_of rfl rfl rfl gd]; decide)⟩
      clear gd
      unfold Oper.wp
      go_simp
      exact ⟨Below.refl _ _, _, rfl, rfl⟩
    · cases ho
      intro a w hb hB hd
      have t8 : (a.tmps[8]?).getD undef = .int .i64 k := (hB.at_ (t := 8) (by kernel_rfl)).trans rfl
      have gd : (a.tmps[54]?).getD undef = .bool true := hd ⟨16, .guard⟩ (by simp) rfl
      refine ⟨fun _ => ?_, fun h => absurd h (by rw [wanted_of rfl rfl rfl gd]; decide)⟩
      clear gd
      unfold Oper.wp
      go_simp
      exact ⟨Below.refl _ _, _, rfl, rfl⟩
    · cases ho
      intro a w hb hB hd
      have d23 : (a.tmps[61]?).getD undef = .slice A l.length c := hd ⟨23, .data⟩ (by simp) rfl
      have d24 : (a.tmps[62]?).getD undef = .int .i64 k := hd ⟨24, .data⟩ (by simp) rfl
      have gd : (a.tmps[54]?).getD undef = .bool true := hd ⟨16, .guard⟩ (by simp) rfl
      refine ⟨fun _ => ?_, fun h => absurd h (by rw [wanted_of rfl rfl rfl gd]; decide)⟩
      clear gd
      unfold Oper.wp
      go_simp
      exact ⟨Below.refl _ _, _, rfl, rfl⟩
    · cases ho
      intro a w hb hB hd
      have d22 : (a.tmps[60]?).getD undef = .slice A k c := hd ⟨22, .data⟩ (by simp) rfl
      have d25 : (a.tmps[63]?).getD undef = .slice (A.map (·.add k)) (l.length - k) (c - k) := hd ⟨25, .data⟩ (by simp) rfl
      have gd : (a.tmps[54]?).getD undef = .bool true := hd ⟨16, .guard⟩ (by simp) rfl
      refine ⟨fun _ => ?_, fun h => absurd h (by rw [wanted_of rfl rfl rfl gd]; decide)⟩
      clear gd
      unfold Oper.wp
      rw [exec_row2 rfl d22 d25]
      exact ⟨(Below.refl _ _).alloc (Nat.le_refl _) _, _, rfl, ⟨_, rfl, cell_new2a _ _ _ _, cell_new2b _ _ _ _⟩⟩
    · cases ho
      intro a w hb hB hd
      obtain ⟨n, d26, hc, hc2⟩ := hd ⟨26, .data⟩ (by simp) rfl
      replace d26 : (a.tmps[64]?).getD undef = _ := d26
      have gd : (a.tmps[54]?).getD undef = .bool true := hd ⟨16, .guard⟩ (by simp) rfl
      refine ⟨fun _ => ?_, fun h => absurd h (by rw [wanted_of rfl rfl rfl gd]; decide)⟩
      clear gd
      unfold Oper.wp
      go_simp
      refine (sum_row2 n A (A.map (·.add k)) k (l.length - k) c (c - k) (l.take k) (l.drop k) l (List.take_append_drop k l) (hrA.take_ k (by omega)) hrD w hb hc hc2).mono ?_
      rintro e w' ⟨rfl, rfl⟩
      exact ⟨Below.refl _ _, _, rfl, rfl⟩
    · cases ho
      intro a w hb hB hd
      have d19 : (a.tmps[57]?).getD undef = .int .u64 (hsum l) := hd ⟨19, .data⟩ (by simp) rfl
      have d27 : (a.tmps[65]?).getD undef = .int .u64 (hsum l) := hd ⟨27, .data⟩ (by simp) rfl
      have gd : (a.tmps[54]?).getD undef = .bool true := hd ⟨16, .guard⟩ (by simp) rfl
      refine ⟨fun _ => ?_, fun h => absurd h (by rw [wanted_of rfl rfl rfl gd]; decide)⟩
      clear gd
      unfold Oper.wp
      go_simp
      exact ⟨Below.refl _ _, _, rfl, rfl⟩
    · cases ho
      intro a w hb hB hd
      have d16 : (a.tmps[54]?).getD undef = .bool true := hd ⟨16, .data⟩ (by simp) rfl
      have d28 : (a.tmps[66]?).getD undef = .bool true := hd ⟨28, .data⟩ (by simp) rfl
      refine ⟨fun _ => ?_, fun h => by cases h⟩
      unfold Oper.wp
      go_simp
      exact ⟨Below.refl _ _, _, rfl, rfl⟩
    · cases ho
      intro a w hb hB hd
      have d29 : (a.tmps[67]?).getD undef = .bool true := hd ⟨29, .data⟩ (by simp) rfl
      refine ⟨fun _ => ?_, fun h => by cases h⟩
      unfold Oper.wp
      go_simp
      exact ⟨Below.refl _ _, _, rfl, rfl⟩
    · cases ho
      intro a w hb hB hd
      have gd : (a.tmps[68]?).getD undef = .bool true := hd ⟨30, .guard⟩ (by simp) rfl
      refine ⟨fun _ => ?_, fun h => absurd h (by rw [wanted_of rfl rfl rfl gd]; decide)⟩
      clear gd
      unfold Oper.wp
      go_simp
      refine (known_any _).mono ?_
      rintro e w' ⟨rfl, hb'⟩
      exact ⟨hb', _, rfl, rfl⟩
    · cases ho
      intro a w hb hB hd
      have d30 : (a.tmps[68]?).getD undef = .bool true := hd ⟨30, .data⟩ (by simp) rfl
      have d31 : (a.tmps[69]?).getD undef = .bool true := hd ⟨31, .data⟩ (by simp) rfl
      refine ⟨fun _ => ?_, fun h => by cases h⟩
      unfold Oper.wp
      go_simp
      exact ⟨Below.refl _ _, _, rfl, rfl⟩
    · cases ho
      intro a w hb hB hd
      have d32 : (a.tmps[70]?).getD undef = .bool true := hd ⟨32, .data⟩ (by simp) rfl
      refine ⟨fun _ => ?_, fun h => by cases h⟩
      unfold Oper.wp
      go_simp
      exact ⟨Below.refl _ _, _, rfl, rfl⟩
    · omega
  · intro a' w' hb hB hd
    have f33 : (a'.tmps[6]?).getD undef = .bool true := hd 33 (by decide)
    have hdf : a'.defers = [] := hB.defers
    have HB := hb
    have HW := HH.out.2.2
    clear hB hd hb hrA hrC hrD kA kC HH q1 q2 hB1 hB2
    go_wp2
    refine bodyPost_ret (v := .bool true) ?_ hdf ⟨rfl, HW.trans (HB.mono HW.size)⟩
    simp [results, Try.results4, go_sem, f33]

set_option maxHeartbeats 400000 in
theorem walk_none (A : Option Addr) (c : Nat) (m x : Int) (w : World) :
    Calls Try.prog 4 #[.slice A 0 c, .int .u16 m, .int .u8 x] w fun e w' => e = .returned (.bool true) ∧ Below w.heap.size w w' := by
  go_enter Try.func4, Try.ntmps4
  go_wp2_with fail
  refine (known_any _).mono ?_
  rintro e w' ⟨rfl, hb⟩
  go_wp2_with fail
  go_ret
  exact ⟨rfl, hb⟩

set_option maxHeartbeats 400000 in
theorem walk_long (A : Option Addr) (n c : Nat) (m x : Int) (w : World) (hn : 2000 < n) (hm : n ≤ 9223372036854775807) :
    Calls Try.prog 4 #[.slice A n c, .int .u16 m, .int .u8 x] w fun e w' => e = .returned (.bool true) ∧ Below w.heap.size w w' := by
  have t1 : ((n : Int) == 0) = false := beq_eq_false_iff_ne.2 (by omega)
  have t2 : decide ((2000 : Int) < (n : Int)) = true := decide_eq_true (by omega)
  go_enter Try.func4, Try.ntmps4
  go_wp2_with fail
  refine (known_any _).mono ?_
  rintro e w' ⟨rfl, hb⟩
  go_wp2_with fail
  go_ret
  exact ⟨rfl, hb⟩

set_option maxHeartbeats 400000 in
theorem walk_same (A : Option Addr) (n c : Nat) (m : Int) (w : World) (hn : n ≤ 2000) (h0 : 0 < n) :
    Calls Try.prog 4 #[.slice A n c, .int .u16 m, .int .u8 0] w fun e w' => e = .returned (.bool true) ∧ Below w.heap.size w w' := by
  have t1 : ((n : Int) == 0) = false := beq_eq_false_iff_ne.2 (by omega)
  have t2 : decide ((2000 : Int) < (n : Int)) = false := decide_eq_false (by omega)
  go_enter Try.func4, Try.ntmps4
  go_wp2_with fail
  refine (known_any _).mono ?_
  rintro e w' ⟨rfl, hb⟩
  go_wp2_with fail
  go_ret
  exact ⟨rfl, hb⟩

theorem walk (a0 : Option Addr) (len0 cap0 : Nat) (z0 : List Int) (a1 : Int) (a2 : Int) (w : World) (w0 : IsRow .u8 w a0 len0 cap0 z0) (w1 : (Lit.int .u16 a1).wf = true) (w2 : (Lit.int .u8 a2).wf = true) :
    Calls Try.prog 4 #[.slice a0 len0 cap0, .int .u16 a1, .int .u8 a2] w fun e w' => e = .returned (.bool true) ∧ Below w.heap.size w w' := by
  obtain ⟨l, rfl, hr, hb, hlc, hm⟩ := w0.read
  have m0 := (bounds_u16 w1).1
  have m1 := (bounds_u16 w1).2
  have x0 := (bounds_u8 w2).1
  have x1 := (bounds_u8 w2).2
  obtain ⟨m, rfl⟩ := Int.eq_ofNat_of_zero_le m0
  rcases Nat.eq_zero_or_pos l.length with h0 | h0
  · rw [h0]; exact walk_none a0 cap0 m a2 w
  by_cases h : l.length ≤ 2000
  · by_cases hx : a2 = 0
    · subst hx; exact walk_same a0 _ cap0 m w h h0
    · exact walk_main a0 cap0 l m (m % l.length) a2 w h0 h hr hb (by omega) x1 (by omega) rfl (Nat.mod_lt _ h0) hlc
  · exact walk_long a0 _ cap0 m a2 w (by omega) hm

set_option maxRecDepth 100000 in
theorem lifted (os : Os) (started : os.Started) (H : Type) (enc : TypeId × Value → H) :
    ReturnsInHanded {} Try.checked os 4 .any (Rows.hashOneSpec.pre6 enc Try.prog Try.f4 Rows.hashOneRow.domain false) (Rows.hashOneSpec.post enc Try.prog Try.f4 false true false false) := by
  refine returnsInHanded_of_change (C := Try.checked) own started (by kernel_rfl) Try.func4
    (ChangeSpec.witness6 (enc := enc) (C := Try.checked) false ⟨#[], #[.slice none 0 0, .int .u16 0, .int .u8 0], []⟩ 8 (by kernel_rfl) (by kernel_rfl) (by kernel_rfl) (by kernel_rfl)) ?_
  intro W base args ds gs before hval0 hW hcnd _
  have hval : ∀ (j : Nat) t v, Try.f4.params[j]? = some t → args[j]? = some v → Value.okWide Try.prog W .any base t v := hval0
  have hW' := hW
  obtain ⟨p, q, hA0, hV, rfl, hfz, hnd⟩ := hW
  have hA : DataW.TrodAll enc Try.prog W 0 (fun _ => true) true Try.f4.params.toList args.toList ds p := hA0
  rw [Try.params4] at hA hval
  obtain ⟨v0, vs0, d0, ds0, p0, q0, hargs, rfl, rfl, h0, r0⟩ := trodAll_cons hA
  obtain ⟨v1, vs1, d1, ds1, p1, q1, rfl, rfl, rfl, h1, r1⟩ := trodAll_cons r0
  obtain ⟨v2, vs2, d2, ds2, p2, q2, rfl, rfl, rfl, h2, r2⟩ := trodAll_cons r1
  obtain ⟨rfl, rfl, rfl⟩ := trodAll_nil r2
  obtain rfl : args = #[v0, v1, v2] := by cases args; simp_all
  obtain ⟨rfl, rfl⟩ := trodVars_none hV
  obtain ⟨a0, len0, cap0, rfl⟩ := okWide_slice Try.underlying27 (hval 0 27 v0 rfl rfl)
  have k0 := h0
  have lt0 : ∀ x ∈ p0, x.block < W.heap.size := by obtain ⟨m, hm⟩ := k0; exact DataW.trod_lt m _ _ _ hm
  obtain ⟨z0, w0⟩ : ∃ zs, IsRow .u8 W a0 len0 cap0 zs := by
    obtain ⟨fuel, hf⟩ := h0
    rcases open_ints Try.underlying27 Try.underlying5 (by kernel_rfl) hf with ⟨hcs, _⟩ | ⟨x, l, c, zs, hcs, _, hl, hm, hz, _, hcell, hwz⟩
    · simp [Value.cells] at hcs
      obtain ⟨rfl, rfl, rfl⟩ := hcs
      exact ⟨[], .inl ⟨rfl, rfl, rfl, rfl⟩⟩
    · simp [Value.cells] at hcs
      obtain ⟨rfl, rfl, rfl⟩ := hcs
      exact ⟨zs, .inr ⟨_, rfl, hl, hm, by simpa using hz, hcell, hwz⟩⟩
  obtain ⟨a1, rfl, rfl, rfl, w1⟩ := open_int Try.underlying28 (hval 1 28 v1 rfl rfl) h1
  obtain ⟨a2, rfl, rfl, rfl, w2⟩ := open_int Try.underlying5 (hval 2 5 v2 rfl rfl) h2
  clear hA0 hval0
  refine (walk a0 len0 cap0 z0 a1 a2 W w0 w1 w2).mono fun e W' ⟨he, bel⟩ => ?_
  subst he
  exact ⟨_, rfl, _, _, _, [], _, [], hW', trodAll_mk1 (shut_bool Try.underlying4 _), (trodAll_cons_mk (Below.trod laidOut (by kernel_rfl) (of_decide_eq_true (by kernel_rfl)) k0 bel lt0) (trodAll_cons_mk (shut_int Try.underlying28 w1) (trodAll_cons_mk (shut_int Try.underlying5 w2) trodAll_mk0))), rfl, bel.frame _, fun h => by cases h⟩

theorem over : Rows.hashOneRow.holds Try.pinned (OpenSpec.ofChange Rows.hashOneSpec) :=
  OpenClaim.holds_of_wide 4 Try.f4 rfl rfl rfl rfl rfl rfl rfl ⟨rfl, rfl, rfl, rfl, rfl⟩ rfl rfl rfl rfl rfl (by kernel_rfl) Try.func4 (by kernel_rfl)
    (of_decide_eq_true (by kernel_rfl)) (by unfold Func.isWrapper; rw [if_neg (of_decide_eq_false (by kernel_rfl))]; exact ⟨rfl, rfl⟩)
    (fun os started H enc _ => lifted os started H enc)

/-- the statement -/
theorem proved : Rows.HashOneSaid := over
#print axioms proved
end Go.Proofs.Ytennjcgpencdmaa.hashOne
