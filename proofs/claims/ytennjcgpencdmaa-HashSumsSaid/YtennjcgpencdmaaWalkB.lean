/- A text's key, its bucket, and what the chapter's examples fix. -/
import Derived.Test.YtennjcgpencdmaaWalkA
import Derived.Lib.ConvBytes
import Derived.Lib.SlBytesConst
namespace Go.Proofs.Ytennjcgpencdmaa
open Go.RowKit

theorem add_flat (g j : Nat) : (⟨g, 0, none⟩ : Addr).add j = ⟨g, j, none⟩ := by unfold Addr.add; split <;> simp_all
theorem add_at (g i j : Nat) : (⟨g, i, none⟩ : Addr).add j = ⟨g, i + j, none⟩ := by unfold Addr.add; split <;> simp_all
theorem bytes_cells (W : World) (e : TypeId) (s : ByteArray) : Bs (Lib.bytesWorld W e s) (some ⟨W.heap.size, 0, none⟩) (bytesOf s) := by
  intro j hj
  rw [bytesOf_length] at hj
  refine ⟨_, rfl, ?_⟩
  rw [add_flat, Lib.bytesWorld_cell W e s j hj]
  have h' : j < s.data.toList.length := by rw [Array.length_toList]; exact hj
  simp [bytesOf, List.getD_eq_getElem?_getD, List.getElem?_eq_getElem h']
theorem bytesW_below (W : World) (e : TypeId) (s : ByteArray) : Below W.heap.size W (Lib.bytesWorld W e s) :=
  ⟨rfl, rfl, rfl, by rw [Lib.bytesWorld_size]; omega, fun i hi => Lib.bytesWorld_at_old W e s i (by omega)⟩
theorem Bs.below {w w1 : World} {A : Option Addr} {l : List Int} (h : Bs w A l) (hb : Below w.heap.size w w1) : Bs w1 A l := by
  intro j hj
  obtain ⟨b, rfl, hc⟩ := h j hj
  exact ⟨b, rfl, (hb.cell (World.block_lt_of_cell? w _ hc)).trans hc⟩
theorem Rs.below {w w1 : World} {A : Option Addr} {ls : List (List Int)} (h : Rs w A ls) (hb : Below w.heap.size w w1) : Rs w1 A ls := by
  intro j hj
  obtain ⟨a, B, c, rfl, hc, hl, hB⟩ := h j hj
  exact ⟨a, B, c, rfl, (hb.cell (World.block_lt_of_cell? w _ hc)).trans hc, hl, hB.below hb⟩
/-- a new row of one slice -/
theorem Rs.one {w : World} {A : Option Addr} {l : List Int} {c : Nat} (h : Bs w A l) (hl : l.length ≤ 9223372036854775807) (t : TypeId) :
    Rs (w.alloc (.cells #[.slice A l.length c] t)) (some ⟨w.heap.size, 0, none⟩) [l] := by
  intro i hi
  obtain rfl : i = 0 := by simpa using hi
  refine ⟨_, A, c, rfl, ?_, hl, h.below ((Below.refl _ _).alloc (Nat.le_refl _) _)⟩
  exact cell_one_new _ _ _ 0 _ rfl
theorem Rs.one' {w : World} {A : Option Addr} {l : List Int} {c n : Nat} (h : Bs w A l) (hl : l.length ≤ 9223372036854775807) (t : TypeId) (hn : w.heap.size = n) :
    Rs (w.alloc (.cells #[.slice A l.length c] t)) (some ⟨n, 0, none⟩) [l] := by subst hn; exact Rs.one h hl t
theorem cell_one_marked (w : World) (v : Value) (t : TypeId) (p : Nat × Nat) : (w.alloc (.cells #[v] t p)).cell? ((⟨w.heap.size, 0, none⟩ : Addr).add 0) = some v := by
  have : (w.alloc (.cells #[v] t p)).heap[w.heap.size]? = some (.cells #[v] t p) := by
    show (w.heap.push (.cells #[v] t p))[w.heap.size]? = _
    simp
  rw [add_flat]
  unfold World.cell?
  simp only [this]
  rfl

set_option maxHeartbeats 400000 in
theorem key_any (s : ByteArray) (w : World) (hs : s.size ≤ 9223372036854775807) :
    Calls Try.prog 14 #[.string s] w fun e w' => e = .returned (.int .u64 (sti (hsum (bytesOf s)))) ∧ Below w.heap.size w w' := by
  have kb := fun W => Lib.run_convert_string_bytes (P := Try.prog) W 9 27 5 s Try.underlying9 Try.underlying27 Try.underlying5
  go_enter Try.func14, Try.ntmps14
  go_wp2_with fail
  have hb1 := bytesW_below w 5 s
  have HR : Rs ((Lib.bytesWorld w 5 s).alloc (.cells #[.slice (some ⟨w.heap.size, 0, none⟩) s.size (grownCap w s.size 0 5)] 27)) (some ⟨(Lib.bytesWorld w 5 s).heap.size, 0, none⟩) [bytesOf s] := by
    have := Rs.one (c := grownCap w s.size 0 5) (bytes_cells w 5 s) (by rw [bytesOf_length]; exact hs) 27
    rwa [bytesOf_length] at this
  have HB := hb1.alloc hb1.size (.cells #[.slice (some ⟨w.heap.size, 0, none⟩) s.size (grownCap w s.size 0 5)] 27)
  refine (sum_any _ 1 [bytesOf s] _ HR (by simp)).mono ?_
  rintro e w' ⟨rfl, rfl⟩
  clear HR kb hb1
  go_wp2_with fail
  refine (stir_any _ _).mono ?_
  rintro e w' ⟨rfl, rfl⟩
  go_wp2_with fail
  go_ret
  exact ⟨ret_u64 (by simp), HB⟩

set_option maxHeartbeats 400000 in
/-- a text's bucket of one -/
theorem bucket_one (s : ByteArray) (w : World) (hs : s.size ≤ 9223372036854775807) :
    Calls Try.prog 20 #[.string s, .int .i64 1] w fun e w' => e = .returned (.tuple #[.int .i64 0, .int .i64 0]) ∧ Below w.heap.size w w' := by
  go_enter Try.func20, Try.ntmps20
  go_wp2_with fail
  refine (key_any _ _ hs).mono ?_
  rintro e w' ⟨rfl, hb⟩
  go_wp2_with fail
  go_ret2
  exact ⟨rfl, hb⟩

theorem Bs.nil (w : World) (A : Option Addr) : Bs w A [] := fun j hj => by simp at hj
theorem Rs.nil (w : World) (A : Option Addr) : Rs w A [] := fun j hj => by simp at hj

set_option maxHeartbeats 400000 in
theorem sum_nil (w : World) :
    Calls Try.prog 13 #[.slice none 0 0] w fun e w' => e = .returned (.int .u64 14695981039346656037) ∧ w = w' :=
  sum_any none 0 [] w (Rs.nil _ _) (by simp)

set_option maxHeartbeats 400000 in
/-- what the chapter's examples fix -/
theorem known_any (w : World) :
    Calls Try.prog 11 #[] w fun e w' => e = .returned (.bool true) ∧ Below w.heap.size w w' := by
  have kc := fun (w : World) (C : Array Value) (n c : Nat) => Lib.run_convert_bytes_const (P := Try.prog) w 27 5 C n c Try.underlying27 Try.underlying5
  go_enter Try.func11, Try.ntmps11
  go_wp2_with fail
  refine (bucket_one _ _ (by decide)).mono ?_
  rintro e w1 ⟨rfl, hb⟩
  go_wp2_with fail
  refine (sum_nil _).mono ?_
  rintro e w' ⟨rfl, rfl⟩
  go_wp2_with fail
  have hA : Bs (w1.alloc (.cells #[.int .u8 97] 5 (1, 2))) (some ⟨w1.heap.size, 0, none⟩) [97] := by
    intro j hj
    obtain rfl : j = 0 := by simpa using hj
    exact ⟨_, rfl, cell_one_marked _ _ _ _⟩
  have HR := Rs.one' (n := w1.heap.size + 1) (c := 1) hA (by simp) 27 (by simp)
  have HB := (hb.alloc hb.size (.cells #[.int .u8 97] 5 (1, 2))).alloc (by have := hb.size; simp; omega) (.cells #[.slice (some ⟨w1.heap.size, 0, none⟩) 1 1] 27)
  clear hA kc hb
  refine (sum_any _ 1 [[97]] _ HR (by simp)).mono ?_
  rintro e w' ⟨rfl, rfl⟩
  rw [show ([[97]] : List (List Int)).flatten = [97] from rfl, hsum_a]
  clear HR
  go_wp2_with fail
  go_ret
  exact ⟨rfl, HB⟩

end Go.Proofs.Ytennjcgpencdmaa
