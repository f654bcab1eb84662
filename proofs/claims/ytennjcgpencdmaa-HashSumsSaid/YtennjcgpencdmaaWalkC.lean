/- A check, the reference's sum and check, a copy of bytes. -/
import Derived.Test.YtennjcgpencdmaaWalkB
import Derived.Test.YtennjcgpencdmaaWWords
import Derived.OpenShut
import Derived.Laws.BytesArg
namespace Go.Proofs.Ytennjcgpencdmaa
open Go.RowKit Go.Proofs.YtennjcgpencdmaaW.PrintWords

theorem ret_u32 {a b : Int} (h : a = b) : Ending.returned (.int .u32 a) = .returned (.int .u32 b) := by rw [h]

theorem Bs.reads {w : World} {A : Option Addr} {l : List Int} (h : Bs w A l) (hl : l.length ≤ 9223372036854775807) : ReadsInt w .u8 A l.length l := by
  refine ⟨rfl, hl, fun hn => ?_⟩
  obtain ⟨ad, rfl, _⟩ := h 0 hn
  refine ⟨ad, rfl, fun j hj => ?_⟩
  obtain ⟨b, e, hc⟩ := h j hj
  cases e
  exact hc
theorem Bs.of {w : World} {A : Option Addr} {n : Nat} {l : List Int} (h : ReadsInt w .u8 A n l) : Bs w A l := by
  intro j hj
  obtain ⟨ad, e, hc⟩ := h.2.2 (by have := h.1; omega)
  exact ⟨ad, e, hc j (by have := h.1; omega)⟩

set_option maxHeartbeats 400000 in
theorem check_any (A : Option Addr) (c : Nat) (ls : List (List Int)) (w : World) (hr : Rs w A ls) (hn : ls.length ≤ 9223372036854775807) :
    Calls Try.prog 16 #[.slice A ls.length c] w fun e w' => e = .returned (.int .u32 (chk (hsum ls.flatten))) ∧ w = w' := by
  have H := Lib.hid hr
  clear hr
  go_enter Try.func16, Try.ntmps16
  go_wp2_with fail
  refine (sum_any A c ls _ H.out hn).mono ?_
  rintro e w' ⟨rfl, rfl⟩
  go_wp2_with fail
  go_ret
  exact ⟨rfl, rfl⟩

set_option maxHeartbeats 400000 in
theorem rsum_any (A : Option Addr) (c : Nat) (l : List Int) (w : World) (hr : Bs w A l) (hn : l.length ≤ 9223372036854775807) (hb : ∀ x ∈ l, B8 x) :
    Calls Try.prog 15 #[.slice A l.length c] w fun e w' => e = .returned (.int .u64 (hsum l)) ∧ w = w' := by
  have H := Lib.hid (And.intro hr hb)
  clear hr hb
  go_enter Try.func15, Try.ntmps15
  go_wp2
  go_loopg [3, 4] l.length (fun g s3 s4 wx => ∃ k : Nat, k + g = l.length ∧ s3 = .int .u64 (hsum (l.take k)) ∧ s4 = .int .i64 k ∧ w = wx)
  case atStart => exact ⟨0, by omega, rfl, rfl, rfl⟩
  case round =>
    obtain ⟨k, hkg, rfl, rfl, rfl⟩ := hrel
    cases gk with
    | zero =>
      have hkz : ¬ ((k : Int) < (l.length : Int)) := by omega
      have hfin : l.take k = l := List.take_of_length_le (by omega)
      have HF := Lib.hid hfin
      clear hfin
      go_wp2
      go_ret
      exact ⟨ret_u64 (by rw [HF.out]), rfl⟩
    | succ g =>
      have hkz : (k : Int) < (l.length : Int) := by omega
      obtain ⟨a, rfl, hcell⟩ := H.out.1 k (by omega)
      have hB : B8 (l.getD k 0) := by
        refine H.out.2 _ ?_
        rw [List.getD, List.getElem?_eq_getElem (by omega)]; exact List.getElem_mem _
      have HB := Lib.hid hB
      clear hB
      have HT := Lib.hid (show hsum (l.take (k + 1)) = st (hsum (l.take k)) (l.getD k 0) by
        rw [List.take_succ_eq_append_getElem (by omega), hsum_snoc]; simp [List.getD, List.getElem?_eq_getElem (show k < l.length by omega)])
      go_wp2_with fail
      refine (rstep_any _ _ _ (hsum_w _) HB.out).mono ?_
      rintro e w' ⟨rfl, rfl⟩
      go_wp2_with fail
      go_roundg g
      case measure => omega
      case rel => exact ⟨k + 1, by omega, by first | (rw [HT.out]; done) | (rw [HT.out]; rfl), by first | rfl | simp, rfl⟩

theorem chk_ref (h : Int) (hh : W64 h) : bits .xor .u32 (IntKind.u64.wrap (h.tdiv 4294967296) % 4294967296) (h.tmod 4294967296 % 4294967296) = chk h := by
  have := hh.1; have := hh.2
  unfold chk
  rw [Int.tdiv_eq_ediv_of_nonneg hh.1, IntKind.wrap_u64, Int.emod_eq_of_lt (b := 18446744073709551616) (by omega) (by omega), Int.tmod_eq_emod_of_nonneg hh.1]
  rw [show h % 4294967296 % 4294967296 = h % 4294967296 by omega]

set_option maxHeartbeats 400000 in
theorem rcheck_any (A : Option Addr) (c : Nat) (l : List Int) (w : World) (hr : Bs w A l) (hn : l.length ≤ 9223372036854775807) (hb : ∀ x ∈ l, B8 x) :
    Calls Try.prog 17 #[.slice A l.length c] w fun e w' => e = .returned (.int .u32 (chk (hsum l))) ∧ w = w' := by
  have H := Lib.hid (And.intro hr hb)
  clear hr hb
  go_enter Try.func17, Try.ntmps17
  go_wp2_with fail
  refine (rsum_any A c l _ H.out.1 hn H.out.2).mono ?_
  rintro e w' ⟨rfl, rfl⟩
  go_wp2_with fail
  go_ret
  exact ⟨ret_u32 (chk_ref _ (hsum_w _)), rfl⟩

/-- a slice of the call's own with these bytes -/
def Made (w : World) (xs : List Int) (e : Ending) (w' : World) : Prop :=
  ∃ v, e = .returned v ∧ w'.ownsRow w.heap.size 5 1 v xs.length (nums .u8 xs) ∧ Below w.heap.size w w'

set_option maxHeartbeats 400000 in
theorem copy_any (A : Option Addr) (n c : Nat) (xs : List Int) (w : World) (hr : ReadsInt w .u8 A n xs) (hn : n ≤ 140737488355328) :
    Calls Try.prog 12 #[.slice A n c] w (Made w xs) := by
  have H := Lib.hid hr
  clear hr
  go_enter Try.func12, Try.ntmps12
  go_wp2_with (at_builtin; refine print_append_row (w0 := w) w.heap.size rfl _ _ 27 5 .u8 1 rfl Try.underlying27 (by kernel_rfl) (by decide) (.slice none 0 0) [] xs A n c rfl rfl (own_nil _ _ _ _) H.out (Below.refl _ _) (Nat.le_refl _) (by simpa using hn) ?_; intro v1 w1 hown hbel _ _)
  go_ret
  exact ⟨v1, rfl, by simpa using hown, hbel⟩

theorem bytes_back (l : List Int) (hb : ∀ x ∈ l, B8 x) : Go.Proofs.Ytennjcgpencdmaa.bytesOf (strOfNums l) = l := by
  unfold Go.Proofs.Ytennjcgpencdmaa.bytesOf
  rw [strOfNums_data, List.map_map]
  have : l.map ((fun b : UInt8 => (b.toNat : Int)) ∘ fun n : Int => UInt8.ofNat n.toNat) = l.map id := by
    refine List.map_congr_left fun x hx => ?_
    have h := hb x hx
    have h0 := h.1
    have h1 := h.2
    simp only [Function.comp, id, UInt8.toNat_ofNat']
    omega
  rw [this, List.map_id]

/-- the text of bytes that are read -/
theorem text_of (A : Option Addr) (c : Nat) (l : List Int) {w : World} (h : ReadsInt w .u8 A l.length l) :
    ∀ W : World, Below w.heap.size w W → (convert 27 9 (.slice A l.length c)).run Try.prog W = .ok (.string (strOfNums l)) W := by
  intro W hb
  rcases Nat.eq_zero_or_pos l.length with h0 | h0
  · obtain rfl : l = [] := List.eq_nil_of_length_eq_zero h0
    rcases A with _ | a
    · exact run_convert_bytes_nil W 27 5 Try.underlying27 Try.underlying5 0 c 9 Try.underlying9
    · rw [run_convert_bytes_string W 27 9 5 (some a) _ c Try.underlying27 Try.underlying5 Try.underlying9]
      exact run_bytesToString W a 0 c [] (run_loadCells_list (P := Try.prog) W a [] (fun j v hj => by simp at hj))
  · obtain ⟨ad, rfl, hc⟩ := h.2.2 h0
    obtain ⟨b, off, rfl, hc'⟩ := ints_at (k := .u8) (zs := l) (w := w) (a := ad) hc h0
    exact run_convert_bytes_arg W 27 5 Try.underlying27 Try.underlying5 b off _ c l rfl (fun i hi => (hb.cell (World.block_lt_of_cell? w _ (hc' i hi))).trans (hc' i hi)) 9 Try.underlying9

/-- the key of a text that is made of bytes -/
theorem key_of (l : List Int) (w : World) (hl : l.length ≤ 9223372036854775807) (hb : ∀ x ∈ l, B8 x) :
    Calls Try.prog 14 #[.string (strOfNums l)] w fun e w' => e = .returned (.int .u64 (sti (hsum l))) ∧ Below w.heap.size w w' := by
  have := key_any (strOfNums l) w (by rw [strOfNums_size]; exact hl)
  rwa [bytes_back l hb] at this

/-- what the walk is told OF A SLICE OF INTEGERS THAT CAME IN: it is nil; or it leads to a row of 'cap' cells, the numbers 'zs' (the first 'len' are its elements, the rest its spare room), each fitting its kind. -/
def IsRow (k : IntKind) (w : World) (a : Option Addr) (len cap : Nat) (zs : List Int) : Prop :=
  (a = none ∧ len = 0 ∧ cap = 0 ∧ zs = []) ∨
  ∃ x, a = some x ∧ len ≤ cap ∧ cap ≤ maxLen ∧ zs.length = cap ∧ (∀ i, i < zs.length → w.cell? (x.add i) = some (.int k (zs.getD i 0))) ∧ ∀ n ∈ zs, (Lit.int k n).wf = true


theorem IsRow.read {w : World} {A : Option Addr} {len cap : Nat} {zs : List Int} (h : IsRow .u8 w A len cap zs) :
    ∃ l : List Int, l.length = len ∧ ReadsInt w .u8 A l.length l ∧ (∀ x ∈ l, B8 x) ∧ len ≤ cap ∧ len ≤ 9223372036854775807 := by
  rcases h with ⟨rfl, rfl, rfl, rfl⟩ | ⟨x, rfl, hl, hm, hz, hc, hwf⟩
  · exact ⟨[], rfl, ⟨rfl, by simp, fun h => by simp at h⟩, by simp, by omega, by omega⟩
  · unfold maxLen at hm
    have hlen : (zs.take len).length = len := by rw [List.length_take]; omega
    refine ⟨zs.take len, hlen, ⟨rfl, by omega, fun _ => ⟨x, rfl, fun j hj => ?_⟩⟩, fun y hy => ?_, hl, by omega⟩
    · rw [hc j (by omega)]
      simp [List.getD_eq_getElem?_getD, show j < len by omega]
    · exact bounds_u8 (hwf y (List.mem_of_mem_take hy))

end Go.Proofs.Ytennjcgpencdmaa
