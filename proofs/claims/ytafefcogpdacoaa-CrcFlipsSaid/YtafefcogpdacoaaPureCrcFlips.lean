/- CrcFlips (chapter 2): one bit turned, anywhere, is another sum; a sealed word with one bit turned is none. Proved for all bytes, places and words, no further condition. -/
import Derived.Test.YtafefcogpdacoaaPCrcFlipsx2
import Derived.Test.YtafefcogpdacoaaCrc
namespace Go.Proofs.Ytafefcogpdacoaa.Pure
open Go.RowKit Go.Proofs.Ytafefcogpdacoaa.PCrcFlips Go.Proofs.YtafefcogpdacoaaW.PrintWords Go.Proofs.YtafefcogpdacoaaW.PrintLast Go.Proofs.YtafefcogpdacoaaW.PrintMore Go.Proofs.Ytafefcogpdacoaa.Crc
namespace CrcFlipsAid
theorem rnd_b (r : BitVec 32) : rnd (r.toNat : Int) = ((rndB r).toNat : Int) := by
  unfold rnd rndB
  have e1 : (1 : Int) = ((1#32).toNat : Int) := by decide
  have e2 : (3988292384 : Int) = (poly.toNat : Int) := by decide
  rw [e1, e2, b32_half, b32_and, b32_neg, b32_and, b32_xor]
theorem rnds_b (n : Nat) (r : BitVec 32) : rnds n (r.toNat : Int) = ((rndsB n r).toNat : Int) := by
  induction n generalizing r with
  | zero => rfl
  | succ n ih => rw [rnds, rnd_b, ih]; rfl
theorem u32_of (c : Int) (h : 0 ≤ c ∧ c < 256) : IntKind.u32.wrap c = ((BitVec.ofNat 32 c.toNat).toNat : Int) := by
  rw [BitVec.toNat_ofNat]
  obtain ⟨n, rfl⟩ := Int.eq_ofNat_of_zero_le h.1
  rw [b32_wrap_nat, Int.toNat_natCast]
theorem byt_b (r : BitVec 32) (c : Int) (h : 0 ≤ c ∧ c < 256) : byt (r.toNat : Int) c = ((bytB r c).toNat : Int) := by
  unfold byt bytB
  rw [u32_of c h, b32_xor, rnds_b]
theorem byts_b (l : List Int) (hl : ∀ c ∈ l, 0 ≤ c ∧ c < 256) (r : BitVec 32) : byts (r.toNat : Int) l = ((bytsB r l).toNat : Int) := by
  induction l generalizing r with
  | nil => rfl
  | cons c l ih =>
    have := ih (fun x hx => hl x (by simp [hx])) (bytB r c)
    simp only [byts, List.foldl_cons] at this ⊢
    rw [byt_b r c (hl c (by simp)), this]; rfl
theorem addT_b (t : BitVec 32) (l : List Int) (hl : ∀ c ∈ l, 0 ≤ c ∧ c < 256) : addT (t.toNat : Int) l = ((bytsB (t ^^^ 4294967295#32) l ^^^ 4294967295#32).toNat : Int) := by
  unfold addT
  have e : (4294967295 : Int) = ((4294967295#32).toNat : Int) := by decide
  rw [e, b32_xor, byts_b l hl, b32_xor]
/-- The sum of bytes. -/
def crcOf (l : List Int) : BitVec 32 := bytsB 4294967295#32 l ^^^ 4294967295#32
theorem addT_zero (l : List Int) (hl : ∀ c ∈ l, 0 ≤ c ∧ c < 256) : addT 0 l = ((crcOf l).toNat : Int) := by
  have := addT_b 0#32 l hl
  rw [BitVec.zero_xor] at this
  exact this
theorem crcOf_set (l : List Int) (i : Nat) (x : Int) (hi : i < l.length) (hl : ∀ c ∈ l, 0 ≤ c ∧ c < 256) (hx : 0 ≤ x ∧ x < 256) (hne : x ≠ l[i]) : crcOf (l.set i x) ≠ crcOf l := by
  intro h
  exact bytsB_set _ l i x hi hl hx hne (xor_left_inj h)
theorem crcOf_f (l : List Int) (hl : ∀ c ∈ l, 0 ≤ c ∧ c < 256) : crc_Of.f l = some ((crcOf l).toNat : Int) := by rw [crc_Of.f, addT_zero l hl]
theorem wf_u8 {l : List Int} (h : ∀ x ∈ l, (Lit.int .u8 x).wf = true) : ∀ c ∈ l, 0 ≤ c ∧ c < 256 := by
  intro c hc
  have := h c hc
  simp [Lit.wf, IntKind.min, IntKind.max, IntKind.bits, IntKind.signed] at this
  omega

theorem u64_wrap_in (n : Int) (h0 : 0 ≤ n) (h1 : n < 18446744073709551616) : IntKind.u64.wrap n = n := by
  simp [IntKind.wrap, IntKind.bits, IntKind.signed]; omega
theorem and_low (x : Int) (h0 : 0 ≤ x) (h1 : x < 18446744073709551616) : Go.bits .and .u64 x 4294967295 = x % 4294967296 := by
  exact bits_mask .u64 64 (by decide) (fun n h0 h1 => u64_wrap_in n h0 h1) 32 (by decide) x h0 h1
theorem or_comm64 (x y : Int) : Go.bits .or .u64 x y = Go.bits .or .u64 y x := by
  unfold Go.bits
  simp only [BitVec.or_comm]
theorem or_high (s l : Int) (hs0 : 0 ≤ s) (hs1 : s < 4294967296) (hl0 : 0 ≤ l) (hl1 : l < 4294967296) : Go.bits .or .u64 (IntKind.u64.wrap (IntKind.u64.wrap s * 4294967296)) l = s * 4294967296 + l := by
  rw [u64_wrap_in s hs0 (by omega), u64_wrap_in (s * 4294967296) (by omega) (by omega)]
  exact bits_join .u64 64 (by decide) (fun n h0 h1 => u64_wrap_in n h0 h1) 32 (s * 4294967296) l (by omega) (by
    rw [show ((2 : Int) ^ 32) = 4294967296 from rfl]; omega) (by rw [show ((2 : Int) ^ 64) = 18446744073709551616 from rfl]; omega) hl0 hl1 (by rw [show ((2 : Int) ^ 64) = 18446744073709551616 from rfl]; omega)
/-- A number's first four bytes. -/
def bytes4 (l : Int) : List Int := [l % 256, l / 256 % 256, l / 65536 % 256, l / 16777216 % 256]
theorem bytes4_range (l : Int) : ∀ c ∈ bytes4 l, 0 ≤ c ∧ c < 256 := by
  intro c hc
  simp only [bytes4, List.mem_cons, List.not_mem_nil, or_false] at hc
  rcases hc with rfl | rfl | rfl | rfl <;> omega
theorem bytes_four (x : Int) : crc_bytes.f 5 x 4 = some (bytes4 x) := by
  simp only [crc_bytes.f, crc_bytes.l0]
  simp [wrap64, shr, IntKind.bits, bytes4]
theorem bytes_four_k (x : Int) (k : Nat) (hk : 5 ≤ k) : crc_bytes.f k x 4 = some (bytes4 x) := at_rounds (fun k => crc_bytes.mono x 4 k) hk (bytes_four x)
/-- The sum of a number's four bytes; the number sealed. -/
def sumOf (l : Int) : Int := ((crcOf (bytes4 l)).toNat : Int)
def sealN (l : Int) : Int := sumOf l * 4294967296 + l
theorem sumOf_range (l : Int) : 0 ≤ sumOf l ∧ sumOf l < 4294967296 := by
  unfold sumOf
  have := (crcOf (bytes4 l)).isLt
  omega
theorem seal_f (x : Int) (h0 : 0 ≤ x) (h1 : x < 18446744073709551616) (k : Nat) (hk : 5 ≤ k) : crc_Seal.f k x = some (sealN (x % 4294967296)) := by
  unfold crc_Seal.f
  have hs := sumOf_range (x % 4294967296)
  rw [and_low x h0 h1, bytes_four_k _ k hk, Option.bind_some, crcOf_f _ (bytes4_range _), Option.bind_some]
  show some (Go.bits .or .u64 (IntKind.u64.wrap (IntKind.u64.wrap (sumOf (x % 4294967296)) * 4294967296)) (x % 4294967296)) = _
  rw [or_high _ _ hs.1 hs.2 (by omega) (by omega)]; rfl
theorem sealed_f (x : Int) (h0 : 0 ≤ x) (h1 : x < 18446744073709551616) (k : Nat) (hk : 5 ≤ k) : crc_Sealed.f k x = some (if sealN (x % 4294967296) = x then (x % 4294967296, true) else (0, false)) := by
  unfold crc_Sealed.f
  rw [seal_f x h0 h1 k hk, Option.bind_some]
  split <;> rfl
theorem sealN_range (l : Int) (h0 : 0 ≤ l) (h1 : l < 4294967296) : 0 ≤ sealN l ∧ sealN l < 18446744073709551616 := by
  have := sumOf_range l
  unfold sealN; omega
theorem sealN_low (l : Int) (h0 : 0 ≤ l) (h1 : l < 4294967296) : sealN l % 4294967296 = l := by unfold sealN; omega
theorem sealN_high (l : Int) (h0 : 0 ≤ l) (h1 : l < 4294967296) : sealN l / 4294967296 = sumOf l := by unfold sealN; omega
theorem wf_u64 {x : Int} (h : (Lit.int .u64 x).wf = true) : 0 ≤ x ∧ x < 18446744073709551616 := by
  simp [Lit.wf, IntKind.min, IntKind.max, IntKind.bits, IntKind.signed] at h
  omega
theorem sum_zero : sumOf 0 ≠ 0 := by decide +kernel

end CrcFlipsAid
open CrcFlipsAid
theorem round_f (a : Int) (n : Nat) (hn : 0 < n) (hn' : n < 1000000) : ∃ r : Nat, r < n ∧ dolmenalike_Round.f a (n : Int) = some (r : Int) := by
  unfold dolmenalike_Round.f
  rw [if_neg (by omega)]
  have h1 := Int.tmod_lt_of_pos a (show (0 : Int) < n by omega)
  have h2 : -(n : Int) < Int.tmod a n := by
    have := Int.lt_tmod_of_pos a (show (0 : Int) < n by omega)
    omega
  by_cases h : Int.tmod a n < 0
  · refine ⟨(Int.tmod a n + n).toNat, by omega, ?_⟩
    have hw : wrap64 (Int.tmod a n + n) = Int.tmod a n + n := by unfold wrap64; omega
    rw [if_pos h, hw, Int.toNat_of_nonneg (by omega)]
  · refine ⟨(Int.tmod a n).toNat, by omega, ?_⟩
    rw [if_neg h, Int.toNat_of_nonneg (by omega)]
theorem wrap8 (n : Nat) (h : n < 1000000) : wrap64 (8 * (n : Int)) = ((8 * n : Nat) : Int) := by unfold wrap64; omega
theorem tdiv8 (i : Nat) (h : i < 4611686018427387904) : wrap64 (Int.tdiv (i : Int) 8) = ((i / 8 : Nat) : Int) := by
  rw [Int.tdiv_eq_ediv_of_nonneg (by omega)]; unfold wrap64; omega
theorem tmod8 (i : Nat) : Int.tmod (i : Int) 8 = ((i % 8 : Nat) : Int) := by
  rw [Int.tmod_eq_emod_of_nonneg (by omega)]; omega
/-- A byte with one bit turned is another byte. -/
theorem flip8 (c : Int) (h : 0 ≤ c ∧ c < 256) (r : Nat) (hr : r < 8) : (0 ≤ Go.bits .xor .u8 c (shl .u8 1 (r : Int)) ∧ Go.bits .xor .u8 c (shl .u8 1 (r : Int)) < 256) ∧ Go.bits .xor .u8 c (shl .u8 1 (r : Int)) ≠ c := by
  have : ∀ (c : Fin 256) (r : Fin 8), (0 ≤ Go.bits .xor .u8 (c.val : Int) (shl .u8 1 (r.val : Int)) ∧ Go.bits .xor .u8 (c.val : Int) (shl .u8 1 (r.val : Int)) < 256) ∧ Go.bits .xor .u8 (c.val : Int) (shl .u8 1 (r.val : Int)) ≠ (c.val : Int) := by decide +kernel
  have h2 := this ⟨c.toNat, by omega⟩ ⟨r, hr⟩
  simp only [Int.toNat_of_nonneg h.1] at h2
  exact h2
theorem b64_wrap_nat (n : Nat) : IntKind.u64.wrap (n : Int) = ((n % 2 ^ 64 : Nat) : Int) := by
  simp [IntKind.wrap, IntKind.bits, IntKind.signed]
theorem b64_xor (x y : BitVec 64) : Go.bits .xor .u64 (x.toNat : Int) (y.toNat : Int) = ((x ^^^ y).toNat : Int) := by
  unfold Go.bits
  simp only [IntKind.bits, BitVec.ofInt_natCast, BitVec.ofNat_toNat, BitVec.setWidth_eq]
  rw [b64_wrap_nat, Nat.mod_eq_of_lt (BitVec.isLt _)]; rfl
theorem xor64 (x : Nat) (hx : x < 2 ^ 64) (q : Nat) (hq : q < 64) : Go.bits .xor .u64 (x : Int) (shl .u64 1 (q : Int)) = ((x ^^^ 2 ^ q : Nat) : Int) := by
  have hp : 2 ^ q < 2 ^ 64 := Nat.pow_lt_pow_right (by decide) hq
  have hs : shl .u64 1 (q : Int) = ((BitVec.ofNat 64 (2 ^ q)).toNat : Int) := by
    unfold shl
    have h1 : min ((q : Int).toNat) IntKind.u64.bits = q := by
      rw [Int.toNat_natCast]; apply Nat.min_eq_left; show _ ≤ 64; omega
    have h2 : (1 : Int) * 2 ^ q = ((2 ^ q : Nat) : Int) := by rw [Int.one_mul, Int.natCast_pow]; rfl
    rw [h1, h2, b64_wrap_nat, BitVec.toNat_ofNat]
  have hx2 : (x : Int) = ((BitVec.ofNat 64 x).toNat : Int) := by rw [BitVec.toNat_ofNat, Nat.mod_eq_of_lt hx]
  rw [hs, hx2, b64_xor, BitVec.toNat_xor, BitVec.toNat_ofNat, BitVec.toNat_ofNat, Nat.mod_eq_of_lt hx, Nat.mod_eq_of_lt hp]
theorem bit_table : ∀ q : Fin 32, ((2 ^ q.val % 256 = 0) = (q.val / 8 ≠ 0)) ∧ ((2 ^ q.val / 256 % 256 = 0) = (q.val / 8 ≠ 1)) ∧ ((2 ^ q.val / 65536 % 256 = 0) = (q.val / 8 ≠ 2)) ∧ ((2 ^ q.val / 16777216 % 256 = 0) = (q.val / 8 ≠ 3)) := by
  have : ∀ q : Fin 32, (decide (2 ^ q.val % 256 = 0) = decide (q.val / 8 ≠ 0)) ∧ (decide (2 ^ q.val / 256 % 256 = 0) = decide (q.val / 8 ≠ 1)) ∧ (decide (2 ^ q.val / 65536 % 256 = 0) = decide (q.val / 8 ≠ 2)) ∧ (decide (2 ^ q.val / 16777216 % 256 = 0) = decide (q.val / 8 ≠ 3)) := by decide +kernel
  intro q
  have h := this q
  simp only [decide_eq_decide] at h
  exact ⟨propext h.1, propext h.2.1, propext h.2.2.1, propext h.2.2.2⟩
theorem xor_byte (x y j : Nat) : (x ^^^ y) / 2 ^ j % 256 = (x / 2 ^ j % 256) ^^^ (y / 2 ^ j % 256) := by
  have := Nat.xor_mod_two_pow (a := x / 2 ^ j) (b := y / 2 ^ j) (n := 8)
  rw [← Nat.shiftRight_eq_div_pow, ← Nat.shiftRight_eq_div_pow, ← Nat.shiftRight_eq_div_pow, Nat.shiftRight_xor_distrib]
  rw [← Nat.shiftRight_eq_div_pow, ← Nat.shiftRight_eq_div_pow] at this
  exact this
theorem xor_ne (a b : Nat) (h : b ≠ 0) : a ^^^ b ≠ a := by
  intro h2
  have := congrArg (a ^^^ ·) h2
  simp only [← Nat.xor_assoc, Nat.xor_self, Nat.zero_xor] at this
  exact h this
/-- One bit of a number's first four bytes turned: one byte is another one, the rest are as they were. -/
theorem bytes4_flip (l q : Nat) (hq : q < 32) : ∃ (i : Nat) (x : Int), ∃ h : i < (bytes4 (l : Int)).length, (0 ≤ x ∧ x < 256) ∧ x ≠ (bytes4 (l : Int))[i] ∧ bytes4 ((l ^^^ 2 ^ q : Nat) : Int) = (bytes4 (l : Int)).set i x := by
  have t := bit_table ⟨q, hq⟩
  simp only at t
  have b0 := xor_byte l (2 ^ q) 0
  have b1 := xor_byte l (2 ^ q) 8
  have b2 := xor_byte l (2 ^ q) 16
  have b3 := xor_byte l (2 ^ q) 24
  simp only [Nat.pow_zero, Nat.div_one, show 2 ^ 8 = 256 from rfl, show 2 ^ 16 = 65536 from rfl, show 2 ^ 24 = 16777216 from rfl] at b0 b1 b2 b3
  have e : ∀ n : Nat, bytes4 (n : Int) = [((n % 256 : Nat) : Int), ((n / 256 % 256 : Nat) : Int), ((n / 65536 % 256 : Nat) : Int), ((n / 16777216 % 256 : Nat) : Int)] := by
    intro n; simp only [bytes4, List.cons.injEq, and_true]; refine ⟨?_, ?_, ?_, ?_⟩ <;> omega
  rw [e, e, b0, b1, b2, b3]
  have hc : q / 8 = 0 ∨ q / 8 = 1 ∨ q / 8 = 2 ∨ q / 8 = 3 := by omega
  have lt8 : ∀ a b : Nat, a < 256 → b < 256 → a ^^^ b < 256 := fun a b h1 h2 => Nat.xor_lt_two_pow (n := 8) h1 h2
  rcases hc with h | h | h | h
  all_goals
    rw [h] at t
    simp only [ne_eq, eq_iff_iff, not_true_eq_false, iff_false, Nat.reduceEqDiff, not_false_eq_true, iff_true, Nat.zero_ne_one, Nat.succ_ne_self] at t
    obtain ⟨t0, t1, t2, t3⟩ := t
  · refine ⟨0, ((l % 256 ^^^ 2 ^ q % 256 : Nat) : Int), by simp, ?_, ?_, by simp only [t1, t2, t3, Nat.xor_zero, List.set_cons_zero]⟩
    · have := lt8 (l % 256) (2 ^ q % 256) (Nat.mod_lt _ (by decide)) (Nat.mod_lt _ (by decide)); omega
    · simp only [List.getElem_cons_zero, ne_eq, Int.natCast_inj]; exact xor_ne _ _ t0
  · refine ⟨1, ((l / 256 % 256 ^^^ 2 ^ q / 256 % 256 : Nat) : Int), by simp, ?_, ?_, by simp only [t0, t2, t3, Nat.xor_zero, List.set_cons_zero, List.set_cons_succ]⟩
    · have := lt8 (l / 256 % 256) (2 ^ q / 256 % 256) (Nat.mod_lt _ (by decide)) (Nat.mod_lt _ (by decide)); omega
    · simp only [List.getElem_cons_zero, List.getElem_cons_succ, ne_eq, Int.natCast_inj]; exact xor_ne _ _ t1
  · refine ⟨2, ((l / 65536 % 256 ^^^ 2 ^ q / 65536 % 256 : Nat) : Int), by simp, ?_, ?_, by simp only [t0, t1, t3, Nat.xor_zero, List.set_cons_zero, List.set_cons_succ]⟩
    · have := lt8 (l / 65536 % 256) (2 ^ q / 65536 % 256) (Nat.mod_lt _ (by decide)) (Nat.mod_lt _ (by decide)); omega
    · simp only [List.getElem_cons_zero, List.getElem_cons_succ, ne_eq, Int.natCast_inj]; exact xor_ne _ _ t2
  · refine ⟨3, ((l / 16777216 % 256 ^^^ 2 ^ q / 16777216 % 256 : Nat) : Int), by simp, ?_, ?_, by simp only [t0, t1, t2, Nat.xor_zero, List.set_cons_zero, List.set_cons_succ]⟩
    · have := lt8 (l / 16777216 % 256) (2 ^ q / 16777216 % 256) (Nat.mod_lt _ (by decide)) (Nat.mod_lt _ (by decide)); omega
    · simp only [List.getElem_cons_zero, List.getElem_cons_succ, ne_eq, Int.natCast_inj]; exact xor_ne _ _ t3
theorem sumOf_flip (l q : Nat) (hq : q < 32) : sumOf ((l ^^^ 2 ^ q : Nat) : Int) ≠ sumOf (l : Int) := by
  obtain ⟨i, x, hi, hx, hne, e⟩ := bytes4_flip l q hq
  unfold sumOf
  rw [e]
  intro h
  exact crcOf_set _ i x hi (bytes4_range _) hx hne (BitVec.eq_of_toNat_eq (by omega))
/-- A sealed word with one bit turned is none. -/
theorem seal_flip (l : Nat) (hl : l < 4294967296) (x : Nat) (hx : (x : Int) = sealN (l : Int)) (q : Nat) (hq : q < 64) : sealN (((x ^^^ 2 ^ q : Nat) : Int) % 4294967296) ≠ ((x ^^^ 2 ^ q : Nat) : Int) := by
  have r := sumOf_range (l : Int)
  have hlow : x % 2 ^ 32 = l := by have := sealN_low (l : Int) (by omega) (by omega); rw [← hx] at this; rw [show (2 : Nat) ^ 32 = 4294967296 from rfl]; omega
  have hhigh : ((x / 2 ^ 32 : Nat) : Int) = sumOf (l : Int) := by have := sealN_high (l : Int) (by omega) (by omega); rw [← hx] at this; rw [show (2 : Nat) ^ 32 = 4294967296 from rfl]; omega
  intro h
  have hm : (((x ^^^ 2 ^ q : Nat) : Int) % 4294967296) = (((x ^^^ 2 ^ q) % 2 ^ 32 : Nat) : Int) := by rw [show (2 : Nat) ^ 32 = 4294967296 from rfl]; omega
  have hxm : (x ^^^ 2 ^ q) % 2 ^ 32 = l ^^^ (2 ^ q % 2 ^ 32) := by rw [Nat.xor_mod_two_pow, hlow]
  by_cases h32 : q < 32
  · have hp : 2 ^ q % 2 ^ 32 = 2 ^ q := Nat.mod_eq_of_lt (Nat.pow_lt_pow_right (by decide) h32)
    have hd : (x ^^^ 2 ^ q) / 2 ^ 32 = x / 2 ^ 32 := by
      rw [← Nat.shiftRight_eq_div_pow, Nat.shiftRight_xor_distrib, Nat.shiftRight_eq_div_pow (2 ^ q), Nat.div_eq_of_lt (Nat.pow_lt_pow_right (by decide) h32), Nat.xor_zero, Nat.shiftRight_eq_div_pow]
    rw [hm, hxm, hp] at h
    have hb : l ^^^ 2 ^ q < 2 ^ 32 := Nat.xor_lt_two_pow (by omega) (Nat.pow_lt_pow_right (by decide) h32)
    have h2 : sealN ((l ^^^ 2 ^ q : Nat) : Int) / 4294967296 = ((x ^^^ 2 ^ q : Nat) : Int) / 4294967296 := congrArg (· / 4294967296) h
    rw [sealN_high _ (by omega) (by omega)] at h2
    have h3 : ((x ^^^ 2 ^ q : Nat) : Int) / 4294967296 = ((x / 2 ^ 32 : Nat) : Int) := by rw [← hd, show (2 : Nat) ^ 32 = 4294967296 from rfl]; omega
    rw [h3, hhigh] at h2
    exact sumOf_flip l q h32 h2
  · have hp : 2 ^ q % 2 ^ 32 = 0 := by
      obtain ⟨m, rfl⟩ : ∃ m, q = 32 + m := ⟨q - 32, by omega⟩
      rw [Nat.pow_add]; exact Nat.mul_mod_right _ _
    rw [hm, hxm, hp, Nat.xor_zero, ← hx] at h
    exact xor_ne x (2 ^ q) (Nat.pos_iff_ne_zero.1 (Nat.two_pow_pos q)) (by omega)
theorem CrcFlips : dolmenlaw2_CrcFlips.Pure := by
  intro b bit v hmax hsz hb hbit hv
  have hb := wf_u8 hb
  have hv := wf_u64 hv
  refine ⟨7, ?_⟩
  unfold dolmenlaw2_CrcFlips.f
  by_cases g1 : (b.length : Int) = 0
  · rw [if_pos g1, dolmenlaw2_CrcFlips.j0, if_pos rfl]; rfl
  by_cases g2 : (b.length : Int) > 600
  · rw [if_neg g1, dolmenlaw2_CrcFlips.j0, if_pos (by simpa using g2)]; rfl
  rw [if_neg g1, dolmenlaw2_CrcFlips.j0, if_neg (by simpa using g2)]
  rw [Option.bind_some, if_pos (by rw [List.length_nil]; omega), Option.bind_some, List.nil_append]
  obtain ⟨r, hr, er⟩ := round_f bit (8 * b.length) (by omega) (by omega)
  obtain ⟨q, hq, eq⟩ := round_f bit 64 (by omega) (by omega)
  have hri : r / 8 < b.length := by omega
  have hl : 0 ≤ v % 4294967296 ∧ v % 4294967296 < 4294967296 := by omega
  have hsr := sealN_range _ hl.1 hl.2
  rw [wrap8 b.length (by omega)]
  rw [er, Option.bind_some, tdiv8 r (by omega), tmod8 r, if_pos (by omega), if_pos (by omega), if_pos (by omega),
    seal_f v hv.1 hv.2 _ (by omega), Option.bind_some, sealed_f _ hsr.1 hsr.2 _ (by omega), Option.bind_some, sealN_low _ hl.1 hl.2, if_pos rfl]
  rw [show (64 : Int) = ((64 : Nat) : Int) from rfl, eq, Option.bind_some, if_pos (by omega)]
  obtain ⟨l, hl'⟩ := Int.eq_ofNat_of_zero_le hl.1
  obtain ⟨x, hx'⟩ := Int.eq_ofNat_of_zero_le hsr.1
  rw [hl'] at hl hsr hx'
  rw [hl', hx', xor64 x (by omega) q hq]
  have hx64 : x ^^^ 2 ^ q < 2 ^ 64 := Nat.xor_lt_two_pow (by omega) (Nat.pow_lt_pow_right (by decide) hq)
  rw [sealed_f _ (by omega) (by omega) _ (by omega), Option.bind_some, if_neg (seal_flip l (by omega) x hx'.symm q hq)]
  have hfl := flip8 b[r / 8] (hb _ (List.getElem_mem hri)) (r % 8) (Nat.mod_lt _ (by decide))
  have hrd : rd b ((r / 8 : Nat) : Int) = b[r / 8] := by rw [rd, Int.toNat_natCast, List.getD_eq_getElem?_getD, List.getElem?_eq_getElem hri]; rfl
  rw [hrd, Int.toNat_natCast]
  have hset : ∀ c ∈ b.set (r / 8) (Go.bits .xor .u8 b[r / 8] (shl .u8 1 ((r % 8 : Nat) : Int))), 0 ≤ c ∧ c < 256 := by
    intro c hc
    rcases List.mem_or_eq_of_mem_set hc with h | rfl
    · exact hb c h
    · exact hfl.1
  rw [crcOf_f _ hset, Option.bind_some, crcOf_f _ hb, Option.bind_some, if_neg ?_]
  · simp [dolmenlaw2_awake.f]
  · intro h
    exact crcOf_set b (r / 8) _ hri hb hfl.1 hfl.2 (BitVec.eq_of_toNat_eq (by omega))
end Go.Proofs.Ytafefcogpdacoaa.Pure
