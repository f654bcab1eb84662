/- The plain law of the hash chapter: what one step, one stir and one sum come to, over whole numbers; a step and a stir lose nothing. Conditions: words below 2^64, bytes below 256. -/
import Derived.Laws.BitsLemmas
import Derived.Laws.Bits64
namespace Go.Proofs.Ytennjcgpencdmaa
open Go

theorem wrapB (x : Int) : IntKind.u64.wrap x = ((BitVec.ofInt 64 x).toNat : Int) := by
  rw [IntKind.wrap_u64, BitVec.toNat_ofInt]; omega

theorem ofB (x : BitVec 64) : BitVec.ofInt 64 (x.toNat : Int) = x := by
  rw [BitVec.ofInt_natCast, BitVec.ofNat_toNat]; simp

theorem xorB (x y : BitVec 64) : bits .xor .u64 (x.toNat : Int) (y.toNat : Int) = ((x ^^^ y).toNat : Int) := by
  have hx := x.isLt
  have hy := y.isLt
  have e : bits .xor .u64 (x.toNat : Int) (y.toNat : Int) = IntKind.u64.wrap (((BitVec.ofInt 64 (x.toNat : Int) ^^^ BitVec.ofInt 64 (y.toNat : Int)).toNat : Nat) : Int) := rfl
  rw [e, ofB, ofB, wrapB, ofB]

theorem mulB (x : BitVec 64) (n : Nat) : IntKind.u64.wrap ((x.toNat : Int) * (n : Int)) = ((x * BitVec.ofNat 64 n).toNat : Int) := by
  rw [wrapB, BitVec.ofInt_mul, ofB, BitVec.ofInt_natCast]

theorem ofRange (x : Int) (h0 : 0 ≤ x) (h1 : x ≤ 18446744073709551615) : ∃ b : BitVec 64, x = (b.toNat : Int) := by
  refine ⟨BitVec.ofInt 64 x, ?_⟩
  rw [← wrapB, IntKind.wrap_u64]; omega

/-- one step by a byte -/
def st (h c : Int) : Int := IntKind.u64.wrap (bits .xor .u64 h (IntKind.u64.wrap c) * 1099511628211)
/-- against itself -/
def fo (h : Int) : Int := bits .xor .u64 h (h / 8589934592)
/-- a word stirred -/
def sti (h : Int) : Int := fo (IntKind.u64.wrap (fo (IntKind.u64.wrap (fo h * 18397679294719823053)) * 14181476777654086739))
/-- the sum of bytes -/
def hsum (l : List Int) : Int := l.foldl st 14695981039346656037
/-- the halves of a sum against one another -/
def chk (h : Int) : Int := bits .xor .u32 ((h / 4294967296) % 4294967296) (h % 4294967296)

def stB (h : BitVec 64) (c : BitVec 64) : BitVec 64 := (h ^^^ c) * BitVec.ofNat 64 1099511628211
def foB (h : BitVec 64) : BitVec 64 := h ^^^ (h >>> 33)
def stiB (h : BitVec 64) : BitVec 64 := foB (foB (foB h * BitVec.ofNat 64 18397679294719823053) * BitVec.ofNat 64 14181476777654086739)

theorem st_B (h c : BitVec 64) : st (h.toNat : Int) (c.toNat : Int) = ((stB h c).toNat : Int) := by
  unfold st stB
  rw [wrapB (c.toNat : Int), ofB, xorB]
  exact mulB (h ^^^ c) 1099511628211

theorem fo_B (h : BitVec 64) : fo (h.toNat : Int) = ((foB h).toNat : Int) := by
  have e : (h.toNat : Int) / (8589934592 : Int) = ((h >>> 33).toNat : Int) := by
    rw [BitVec.toNat_ushiftRight, Nat.shiftRight_eq_div_pow]; rfl
  unfold fo foB
  rw [e, xorB]

theorem sti_B (h : BitVec 64) : sti (h.toNat : Int) = ((stiB h).toNat : Int) := by
  unfold sti stiB
  rw [fo_B]
  have e1 := mulB (foB h) 18397679294719823053
  have e2 := mulB (foB (foB h * BitVec.ofNat 64 18397679294719823053)) 14181476777654086739
  rw [show ((18397679294719823053 : Int)) = ((18397679294719823053 : Nat) : Int) from rfl, e1, fo_B]
  rw [show ((14181476777654086739 : Int)) = ((14181476777654086739 : Nat) : Int) from rfl, e2, fo_B]

theorem foB_back (h : BitVec 64) : foB (foB h) = h := by
  unfold foB
  ext i hi
  simp only [BitVec.getElem_xor, BitVec.getElem_ushiftRight, BitVec.getLsbD_xor, BitVec.getLsbD_ushiftRight]
  have e : h.getLsbD (33 + (33 + i)) = false := BitVec.getLsbD_of_ge _ _ (by omega)
  rw [e]
  cases h[i] <;> cases h.getLsbD (33 + i) <;> rfl

theorem mul_inj (p q : BitVec 64) (hpq : p * q = 1#64) {a b : BitVec 64} (h : a * p = b * p) : a = b := by
  have := congrArg (· * q) h
  simpa [BitVec.mul_assoc, hpq] using this

theorem xor_inj {a b c : BitVec 64} (h : a ^^^ c = b ^^^ c) : a = b := by
  have := congrArg (· ^^^ c) h
  simpa [BitVec.xor_assoc] using this

theorem xor_inj' {a b c : BitVec 64} (h : a ^^^ b = a ^^^ c) : b = c := by
  rw [BitVec.xor_comm a b, BitVec.xor_comm a c] at h; exact xor_inj h

theorem foB_inj {a b : BitVec 64} (h : foB a = foB b) : a = b := by rw [← foB_back a, h, foB_back]
theorem stB_inj {a b c : BitVec 64} (h : stB a c = stB b c) : a = b :=
  xor_inj (mul_inj _ (BitVec.ofNat 64 14886173955864302971) (by decide +kernel) h)
theorem stB_byte {a c d : BitVec 64} (h : stB a c = stB a d) : c = d :=
  xor_inj' (mul_inj _ (BitVec.ofNat 64 14886173955864302971) (by decide +kernel) h)
theorem stiB_inj {a b : BitVec 64} (h : stiB a = stiB b) : a = b :=
  foB_inj (mul_inj _ (BitVec.ofNat 64 5725274745694666757) (by decide +kernel) (foB_inj (mul_inj _ (BitVec.ofNat 64 11291846944257947611) (by decide +kernel) (foB_inj h))))

def W64 (x : Int) : Prop := 0 ≤ x ∧ x ≤ 18446744073709551615
def B8 (x : Int) : Prop := 0 ≤ x ∧ x ≤ 255
theorem B8.w {x : Int} (h : B8 x) : W64 x := ⟨h.1, by have := h.2; omega⟩
theorem W64.b {x : Int} (h : W64 x) : ∃ b : BitVec 64, x = (b.toNat : Int) := ofRange x h.1 h.2
theorem w_ofB (b : BitVec 64) : W64 (b.toNat : Int) := ⟨by omega, by have := b.isLt; omega⟩
theorem toNat_ne {a b : BitVec 64} (h : (a.toNat : Int) = (b.toNat : Int)) : a = b := BitVec.eq_of_toNat_eq (by exact_mod_cast h)

theorem wrap_w (x : Int) : W64 (IntKind.u64.wrap x) := by rw [wrapB]; exact w_ofB _
theorem st_w (h c : Int) : W64 (st h c) := by unfold st; rw [wrapB]; exact w_ofB _
theorem st_inj {a b c : Int} (ha : W64 a) (hb : W64 b) (hc : W64 c) (h : st a c = st b c) : a = b := by
  obtain ⟨a, rfl⟩ := ha.b; obtain ⟨b, rfl⟩ := hb.b; obtain ⟨c, rfl⟩ := hc.b
  rw [st_B, st_B] at h; rw [stB_inj (toNat_ne h)]
theorem st_byte {a c d : Int} (ha : W64 a) (hc : W64 c) (hd : W64 d) (h : st a c = st a d) : c = d := by
  obtain ⟨a, rfl⟩ := ha.b; obtain ⟨c, rfl⟩ := hc.b; obtain ⟨d, rfl⟩ := hd.b
  rw [st_B, st_B] at h; rw [stB_byte (toNat_ne h)]
theorem sti_inj {a b : Int} (ha : W64 a) (hb : W64 b) (h : sti a = sti b) : a = b := by
  obtain ⟨a, rfl⟩ := ha.b; obtain ⟨b, rfl⟩ := hb.b
  rw [sti_B, sti_B] at h; rw [stiB_inj (toNat_ne h)]
theorem fo_w {h : Int} (hh : W64 h) : W64 (fo h) := by obtain ⟨b, rfl⟩ := hh.b; rw [fo_B]; exact w_ofB _
theorem sti_w {h : Int} (hh : W64 h) : W64 (sti h) := by obtain ⟨b, rfl⟩ := hh.b; rw [sti_B]; exact w_ofB _

theorem fold_w (l : List Int) : ∀ h, W64 h → W64 (l.foldl st h) := by
  induction l with
  | nil => intro h hh; exact hh
  | cons c l ih => intro h _; exact ih _ (st_w _ _)
theorem hsum_w (l : List Int) : W64 (hsum l) := fold_w l _ ⟨by decide, by decide⟩
theorem hsum_app (l m : List Int) : hsum (l ++ m) = m.foldl st (hsum l) := by unfold hsum; rw [List.foldl_append]
theorem hsum_snoc (l : List Int) (c : Int) : hsum (l ++ [c]) = st (hsum l) c := by rw [hsum_app]; rfl
theorem hsum_nil : hsum [] = 14695981039346656037 := rfl
theorem hsum_a : hsum [97] = 12638187200555641996 := by decide +kernel

theorem fold_ne (l : List Int) (hl : ∀ x ∈ l, W64 x) : ∀ a b, W64 a → W64 b → a ≠ b → l.foldl st a ≠ l.foldl st b := by
  induction l with
  | nil => intro a b _ _ h; exact h
  | cons c l ih =>
    intro a b ha hb h
    refine ih (fun x hx => hl x (List.mem_cons_of_mem _ hx)) _ _ (st_w _ _) (st_w _ _) ?_
    intro e; exact h (st_inj ha hb (hl c List.mem_cons_self) e)

/-- a byte that is another one makes another sum -/
theorem hsum_ne (l : List Int) (hl : ∀ x ∈ l, W64 x) (k : Nat) (hk : k < l.length) (v : Int) (hv : W64 v) (hne : l.getD k 0 ≠ v) : hsum l ≠ hsum (l.set k v) := by
  have e1 : l = l.take k ++ l.getD k 0 :: l.drop (k + 1) := by
    have h2 : l.drop k = l.getD k 0 :: l.drop (k + 1) := by
      rw [List.drop_eq_getElem_cons hk]; simp [List.getD, hk]
    rw [← h2, List.take_append_drop]
  have e2 : l.set k v = l.take k ++ v :: l.drop (k + 1) := by
    rw [List.set_eq_take_append_cons_drop, if_pos hk]
  have hg : W64 (l.getD k 0) := by
    have : l.getD k 0 ∈ l := by
      rw [List.getD, List.getElem?_eq_getElem hk]; exact List.getElem_mem hk
    exact hl _ this
  have hw : ∀ x ∈ l.drop (k + 1), W64 x := fun x hx => hl x (List.mem_of_mem_drop hx)
  have hb : hsum l = (l.drop (k + 1)).foldl st (st (hsum (l.take k)) (l.getD k 0)) := by
    conv => lhs; rw [e1]
    rw [hsum_app]; rfl
  have hc : hsum (l.set k v) = (l.drop (k + 1)).foldl st (st (hsum (l.take k)) v) := by
    rw [e2, hsum_app]; rfl
  rw [hb, hc]
  refine fold_ne _ hw _ _ (st_w _ _) (st_w _ _) ?_
  intro e
  exact hne (st_byte (hsum_w _) hg hv e)


theorem xor_low (h c : Nat) (hc : c < 256) : h ^^^ c = h - h % 256 + (h % 256 ^^^ c) := by
  have hd : (h ^^^ c) / 256 = h / 256 := by
    have := @Nat.xor_div_two_pow h c 8
    rw [show (2 : Nat) ^ 8 = 256 from rfl] at this
    rw [this, Nat.div_eq_of_lt hc, Nat.xor_zero]
  have hm : (h ^^^ c) % 256 = h % 256 ^^^ c := by
    have := @Nat.xor_mod_two_pow h c 8
    rw [show (2 : Nat) ^ 8 = 256 from rfl] at this
    rw [this, Nat.mod_eq_of_lt hc]
  rw [← hm]
  have h1 := Nat.div_add_mod (h ^^^ c) 256
  have h2 := Nat.div_add_mod h 256
  omega

theorem xor8 (a c : Nat) (ha : a < 256) (hc : c < 256) : bits .xor .u8 (a : Int) (c : Int) = ((a ^^^ c : Nat) : Int) := by
  have e : bits .xor .u8 (a : Int) (c : Int) = IntKind.u8.wrap (((BitVec.ofInt 8 (a : Int) ^^^ BitVec.ofInt 8 (c : Int)).toNat : Nat) : Int) := rfl
  have hx : a ^^^ c < 256 := Nat.xor_lt_two_pow (n := 8) ha hc
  rw [e, BitVec.ofInt_natCast, BitVec.ofInt_natCast, BitVec.toNat_xor, BitVec.toNat_ofNat, BitVec.toNat_ofNat, Nat.mod_eq_of_lt (by omega), Nat.mod_eq_of_lt (by omega), IntKind.wrap_u8]
  omega

theorem st_ref (h c : Int) (hh : W64 h) (hc : B8 c) :
    IntKind.u64.wrap (IntKind.u64.wrap (IntKind.u64.wrap (IntKind.u64.wrap (h - h.tmod 256) + IntKind.u64.wrap (bits .xor .u8 (h.tmod 256 % 256) c)) * 1099511627776) +
      IntKind.u64.wrap (IntKind.u64.wrap (IntKind.u64.wrap (h - h.tmod 256) + IntKind.u64.wrap (bits .xor .u8 (h.tmod 256 % 256) c)) * 435)) = st h c := by
  obtain ⟨hb, rfl⟩ := hh.b
  obtain ⟨n, rfl⟩ := Int.eq_ofNat_of_zero_le hc.1
  have hn : n < 256 := by have := hc.2; omega
  have hlt := hb.isLt
  have e1 : st (hb.toNat : Int) (n : Int) = (((hb.toNat ^^^ n) * 1099511628211 : Nat) : Int) % 18446744073709551616 := by
    have hc64 : ((n : Nat) : Int) = (((BitVec.ofNat 64 n).toNat : Nat) : Int) := by rw [BitVec.toNat_ofNat, Nat.mod_eq_of_lt (by omega)]
    unfold st
    rw [show IntKind.u64.wrap (n : Int) = (((BitVec.ofNat 64 n).toNat : Nat) : Int) by rw [IntKind.wrap_u64, ← hc64]; omega, xorB, BitVec.toNat_xor, IntKind.wrap_u64, BitVec.toNat_ofNat, Nat.mod_eq_of_lt (a := n) (by omega)]
    rw [Int.natCast_mul]; rfl
  have e2 : ((hb.toNat : Int).tmod 256) = ((hb.toNat % 256 : Nat) : Int) := by
    rw [Int.tmod_eq_emod_of_nonneg (by omega)]; omega
  rw [e1, e2, xor_low _ n hn, show (((hb.toNat % 256 : Nat) : Int) % 256) = ((hb.toNat % 256 : Nat) : Int) by omega, xor8 _ _ (by omega) hn]
  generalize hx : (hb.toNat % 256 ^^^ n) = x
  have hx2 : x < 256 := by rw [← hx]; exact Nat.xor_lt_two_pow (n := 8) (by omega) hn
  simp only [IntKind.wrap_u64]
  omega

theorem fo_ref (h : Int) (hh : W64 h) : bits .xor .u64 h (IntKind.u64.wrap (h.tdiv 8589934592)) = fo h := by
  have := hh.1; have := hh.2
  unfold fo
  rw [Int.tdiv_eq_ediv_of_nonneg hh.1, IntKind.wrap_u64, Int.emod_eq_of_lt (by omega) (by omega)]

/-- a text's bytes -/
def bytesOf (s : ByteArray) : List Int := s.data.toList.map fun b => (b.toNat : Int)
theorem bytesOf_length (s : ByteArray) : (bytesOf s).length = s.size := by rw [bytesOf, List.length_map, Array.length_toList]; rfl
theorem bytesOf_B (s : ByteArray) : ∀ x ∈ bytesOf s, B8 x := by
  intro x hx
  simp only [bytesOf, List.mem_map] at hx
  obtain ⟨b, _, rfl⟩ := hx
  exact ⟨by omega, by have := b.toNat_lt; omega⟩

end Go.Proofs.Ytennjcgpencdmaa
