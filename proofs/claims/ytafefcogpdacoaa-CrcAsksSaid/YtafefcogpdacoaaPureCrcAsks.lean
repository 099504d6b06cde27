/- CrcAsks (chapter 2): any bytes, any words have the sum that they should; any word is sealed, and told to be one or not. Proved for all bytes and words, no further condition. -/
import Derived.Test.YtafefcogpdacoaaPCrcAsksx2
import Derived.Test.YtafefcogpdacoaaCrc
namespace Go.Proofs.Ytafefcogpdacoaa.Pure
open Go.RowKit Go.Proofs.Ytafefcogpdacoaa.PCrcAsks Go.Proofs.YtafefcogpdacoaaW.PrintWords Go.Proofs.YtafefcogpdacoaaW.PrintLast Go.Proofs.YtafefcogpdacoaaW.PrintMore Go.Proofs.Ytafefcogpdacoaa.Crc
namespace CrcAsksAid
theorem rnd_b (r : BitVec 32) : rnd (r.toNat : Int) = ((rndB r).toNat : Int) := by
  unfold rnd rndB
  have e1 : (1 : Int) = ((1#32).toNat : Int) := by decide
  have e2 : (3988292384 : Int) = (poly.toNat : Int) := by decide
  rw [e1, e2, b32_half, b32_and, b32_neg, b32_and, b32_xor]
theorem rnds_b (n : Nat) (r : BitVec 32) : rnds n (r.toNat : Int) = ((rndsB n r).toNat : Int) := by
  induction n generalizing r with
  | zero => rfl
  | succ n ih => rw [rnds, rnd_b, ih]; rfl
theorem u32_of (c : Int) (h : 0 ≤ c ∧ c < 256) : IntKind.u32.wrap c = ((BitVec.ofNat 32 c.toNat).toNat : Int) := by
  rw [BitVec.toNat_ofNat]
  obtain ⟨n, rfl⟩ := Int.eq_ofNat_of_zero_le h.1
  rw [b32_wrap_nat, Int.toNat_natCast]
theorem byt_b (r : BitVec 32) (c : Int) (h : 0 ≤ c ∧ c < 256) : byt (r.toNat : Int) c = ((bytB r c).toNat : Int) := by
  unfold byt bytB
  rw [u32_of c h, b32_xor, rnds_b]
theorem byts_b (l : List Int) (hl : ∀ c ∈ l, 0 ≤ c ∧ c < 256) (r : BitVec 32) : byts (r.toNat : Int) l = ((bytsB r l).toNat : Int) := by
  induction l generalizing r with
  | nil => rfl
  | cons c l ih =>
    have := ih (fun x hx => hl x (by simp [hx])) (bytB r c)
    simp only [byts, List.foldl_cons] at this ⊢
    rw [byt_b r c (hl c (by simp)), this]; rfl
theorem addT_b (t : BitVec 32) (l : List Int) (hl : ∀ c ∈ l, 0 ≤ c ∧ c < 256) : addT (t.toNat : Int) l = ((bytsB (t ^^^ 4294967295#32) l ^^^ 4294967295#32).toNat : Int) := by
  unfold addT
  have e : (4294967295 : Int) = ((4294967295#32).toNat : Int) := by decide
  rw [e, b32_xor, byts_b l hl, b32_xor]
/-- The sum of bytes. -/
def crcOf (l : List Int) : BitVec 32 := bytsB 4294967295#32 l ^^^ 4294967295#32
theorem addT_zero (l : List Int) (hl : ∀ c ∈ l, 0 ≤ c ∧ c < 256) : addT 0 l = ((crcOf l).toNat : Int) := by
  have := addT_b 0#32 l hl
  rw [BitVec.zero_xor] at this
  exact this
theorem crcOf_set (l : List Int) (i : Nat) (x : Int) (hi : i < l.length) (hl : ∀ c ∈ l, 0 ≤ c ∧ c < 256) (hx : 0 ≤ x ∧ x < 256) (hne : x ≠ l[i]) : crcOf (l.set i x) ≠ crcOf l := by
  intro h
  exact bytsB_set _ l i x hi hl hx hne (xor_left_inj h)
theorem crcOf_f (l : List Int) (hl : ∀ c ∈ l, 0 ≤ c ∧ c < 256) : crc_Of.f l = some ((crcOf l).toNat : Int) := by rw [crc_Of.f, addT_zero l hl]
theorem wf_u8 {l : List Int} (h : ∀ x ∈ l, (Lit.int .u8 x).wf = true) : ∀ c ∈ l, 0 ≤ c ∧ c < 256 := by
  intro c hc
  have := h c hc
  simp [Lit.wf, IntKind.min, IntKind.max, IntKind.bits, IntKind.signed] at this
  omega

theorem u64_wrap_in (n : Int) (h0 : 0 ≤ n) (h1 : n < 18446744073709551616) : IntKind.u64.wrap n = n := by
  simp [IntKind.wrap, IntKind.bits, IntKind.signed]; omega
theorem and_low (x : Int) (h0 : 0 ≤ x) (h1 : x < 18446744073709551616) : Go.bits .and .u64 x 4294967295 = x % 4294967296 := by
  exact bits_mask .u64 64 (by decide) (fun n h0 h1 => u64_wrap_in n h0 h1) 32 (by decide) x h0 h1
theorem or_comm64 (x y : Int) : Go.bits .or .u64 x y = Go.bits .or .u64 y x := by
  unfold Go.bits
  simp only [BitVec.or_comm]
theorem or_high (s l : Int) (hs0 : 0 ≤ s) (hs1 : s < 4294967296) (hl0 : 0 ≤ l) (hl1 : l < 4294967296) : Go.bits .or .u64 (IntKind.u64.wrap (IntKind.u64.wrap s * 4294967296)) l = s * 4294967296 + l := by
  rw [u64_wrap_in s hs0 (by omega), u64_wrap_in (s * 4294967296) (by omega) (by omega)]
  exact bits_join .u64 64 (by decide) (fun n h0 h1 => u64_wrap_in n h0 h1) 32 (s * 4294967296) l (by omega) (by
    rw [show ((2 : Int) ^ 32) = 4294967296 from rfl]; omega) (by rw [show ((2 : Int) ^ 64) = 18446744073709551616 from rfl]; omega) hl0 hl1 (by rw [show ((2 : Int) ^ 64) = 18446744073709551616 from rfl]; omega)
/-- A number's first four bytes. -/
def bytes4 (l : Int) : List Int := [l % 256, l / 256 % 256, l / 65536 % 256, l / 16777216 % 256]
theorem bytes4_range (l : Int) : ∀ c ∈ bytes4 l, 0 ≤ c ∧ c < 256 := by
  intro c hc
  simp only [bytes4, List.mem_cons, List.not_mem_nil, or_false] at hc
  rcases hc with rfl | rfl | rfl | rfl <;> omega
theorem bytes_four (x : Int) : crc_bytes.f 5 x 4 = some (bytes4 x) := by
  simp only [crc_bytes.f, crc_bytes.l0]
  simp [wrap64, shr, IntKind.bits, bytes4]
theorem bytes_four_k (x : Int) (k : Nat) (hk : 5 ≤ k) : crc_bytes.f k x 4 = some (bytes4 x) := at_rounds (fun k => crc_bytes.mono x 4 k) hk (bytes_four x)
/-- The sum of a number's four bytes; the number sealed. -/
def sumOf (l : Int) : Int := ((crcOf (bytes4 l)).toNat : Int)
def sealN (l : Int) : Int := sumOf l * 4294967296 + l
theorem sumOf_range (l : Int) : 0 ≤ sumOf l ∧ sumOf l < 4294967296 := by
  unfold sumOf
  have := (crcOf (bytes4 l)).isLt
  omega
theorem seal_f (x : Int) (h0 : 0 ≤ x) (h1 : x < 18446744073709551616) (k : Nat) (hk : 5 ≤ k) : crc_Seal.f k x = some (sealN (x % 4294967296)) := by
  unfold crc_Seal.f
  have hs := sumOf_range (x % 4294967296)
  rw [and_low x h0 h1, bytes_four_k _ k hk, Option.bind_some, crcOf_f _ (bytes4_range _), Option.bind_some]
  show some (Go.bits .or .u64 (IntKind.u64.wrap (IntKind.u64.wrap (sumOf (x % 4294967296)) * 4294967296)) (x % 4294967296)) = _
  rw [or_high _ _ hs.1 hs.2 (by omega) (by omega)]; rfl
theorem sealed_f (x : Int) (h0 : 0 ≤ x) (h1 : x < 18446744073709551616) (k : Nat) (hk : 5 ≤ k) : crc_Sealed.f k x = some (if sealN (x % 4294967296) = x then (x % 4294967296, true) else (0, false)) := by
  unfold crc_Sealed.f
  rw [seal_f x h0 h1 k hk, Option.bind_some]
  split <;> rfl
theorem sealN_range (l : Int) (h0 : 0 ≤ l) (h1 : l < 4294967296) : 0 ≤ sealN l ∧ sealN l < 18446744073709551616 := by
  have := sumOf_range l
  unfold sealN; omega
theorem sealN_low (l : Int) (h0 : 0 ≤ l) (h1 : l < 4294967296) : sealN l % 4294967296 = l := by unfold sealN; omega
theorem sealN_high (l : Int) (h0 : 0 ≤ l) (h1 : l < 4294967296) : sealN l / 4294967296 = sumOf l := by unfold sealN; omega
theorem wf_u64 {x : Int} (h : (Lit.int .u64 x).wf = true) : 0 ≤ x ∧ x < 18446744073709551616 := by
  simp [Lit.wf, IntKind.min, IntKind.max, IntKind.bits, IntKind.signed] at h
  omega
theorem sum_zero : sumOf 0 ≠ 0 := by decide +kernel

end CrcAsksAid
open CrcAsksAid
theorem rrnd_b (r : BitVec 32) : rrnd (r.toNat : Int) = ((rndB r).toNat : Int) := by
  unfold rrnd
  have e1 : (1 : Int) = ((1#32).toNat : Int) := by decide
  have e2 : (3988292384 : Int) = (poly.toNat : Int) := by decide
  have hb : (Go.bits .and .u32 (r.toNat : Int) 1 = 1) ↔ r.getLsbD 0 = true := by
    rw [e1, b32_and]
    constructor
    · intro h
      have h2 : r &&& 1#32 = 1#32 := BitVec.eq_of_toNat_eq (by omega)
      have h3 := congrArg (fun x => x.getLsbD 0) h2
      simpa using h3
    · intro h
      have h2 : r &&& 1#32 = 1#32 := by
        apply BitVec.eq_of_getLsbD_eq
        intro i hi
        rw [BitVec.getLsbD_and]
        by_cases h0 : i = 0
        · subst h0; rw [h]; rfl
        · have : ∀ j : Fin 32, j.val ≠ 0 → (1#32).getLsbD j.val = false := by decide +kernel
          rw [this ⟨i, hi⟩ h0, Bool.and_false]
      rw [h2]
  rw [rndB_eq]
  by_cases h : r.getLsbD 0 = true
  · rw [if_pos (hb.2 h), if_pos h, e2, b32_half, b32_xor]
  · rw [if_neg (fun x => h (hb.1 x)), if_neg h, b32_half, BitVec.xor_zero]
theorem rrnds_b (n : Nat) (r : BitVec 32) : rrnds n (r.toNat : Int) = ((rndsB n r).toNat : Int) := by
  induction n generalizing r with
  | zero => rfl
  | succ n ih => rw [rrnds, rrnd_b, ih]; rfl
theorem rbyt_b (r : BitVec 32) (c : Int) (h : 0 ≤ c ∧ c < 256) : rbyt (r.toNat : Int) c = ((bytB r c).toNat : Int) := by
  unfold rbyt bytB
  rw [u32_of c h, b32_xor, rrnds_b]
theorem rbyts_b (l : List Int) (hl : ∀ c ∈ l, 0 ≤ c ∧ c < 256) (r : BitVec 32) : rbyts (r.toNat : Int) l = ((bytsB r l).toNat : Int) := by
  induction l generalizing r with
  | nil => rfl
  | cons c l ih =>
    have := ih (fun x hx => hl x (by simp [hx])) (bytB r c)
    simp only [rbyts, List.foldl_cons] at this ⊢
    rw [rbyt_b r c (hl c (by simp)), this]; rfl
theorem refOf_f (l : List Int) (hl : ∀ c ∈ l, 0 ≤ c ∧ c < 256) : dolmenref1_Of.f l = some ((crcOf l).toNat : Int) := by
  unfold dolmenref1_Of.f
  have e : (4294967295 : Int) = ((4294967295#32).toNat : Int) := by decide
  have em : IntKind.u32.max = ((4294967295#32).toNat : Int) := by decide
  rw [em, e, rbyts_b l hl, b32_xor, BitVec.xor_comm]; rfl
theorem lay8_range (x : Int) : ∀ c ∈ lay8 x, 0 ≤ c ∧ c < 256 := by
  intro c hc
  simp only [lay8, List.mem_cons, List.not_mem_nil, or_false] at hc
  rcases hc with rfl | rfl | rfl | rfl | rfl | rfl | rfl | rfl <;> omega
theorem lay_eight (x : Int) : dolmenref1_Lay.f 9 x = some (lay8 x) := by
  simp only [dolmenref1_Lay.f, dolmenref1_Lay.l0]
  simp [wrap64, shr, IntKind.bits, lay8]
theorem lay_f (x : Int) (k : Nat) (hk : 9 ≤ k) : dolmenref1_Lay.f k x = some (lay8 x) := at_rounds (fun k => dolmenref1_Lay.mono x k) hk (lay_eight x)
theorem refseal_f (x : Int) (h0 : 0 ≤ x) (h1 : x < 18446744073709551616) (k : Nat) (hk : 9 ≤ k) : dolmenref1_Seal.f k x = some (sealN (x % 4294967296)) := by
  unfold dolmenref1_Seal.f
  have hs := sumOf_range (x % 4294967296)
  have ht : (lay8 (x % 4294967296)).take 4 = bytes4 (x % 4294967296) := rfl
  rw [and_low x h0 h1, lay_f _ k hk, Option.bind_some, if_pos (by simp [lay8]), ht, refOf_f _ (bytes4_range _), Option.bind_some]
  show some (Go.bits .or .u64 (x % 4294967296) (IntKind.u64.wrap (IntKind.u64.wrap (sumOf (x % 4294967296)) * 4294967296))) = _
  rw [or_comm64, or_high _ _ hs.1 hs.2 (by omega) (by omega)]; rfl
/-- Words added one behind the other are their bytes added. -/
theorem addT_append (t : BitVec 32) (a b : List Int) (ha : ∀ c ∈ a, 0 ≤ c ∧ c < 256) (hb : ∀ c ∈ b, 0 ≤ c ∧ c < 256) : addT (addT (t.toNat : Int) a) b = addT (t.toNat : Int) (a ++ b) := by
  have hab : ∀ c ∈ a ++ b, 0 ≤ c ∧ c < 256 := by
    intro c hc
    rcases List.mem_append.1 hc with h | h
    · exact ha c h
    · exact hb c h
  rw [addT_b t a ha, addT_b _ b hb, addT_b t (a ++ b) hab, bytsB_append, BitVec.xor_assoc (bytsB _ a), BitVec.xor_self, BitVec.xor_zero]
theorem lays_range (w : List Int) : ∀ c ∈ w.flatMap lay8, 0 ≤ c ∧ c < 256 := by
  intro c hc
  obtain ⟨x, _, h⟩ := List.mem_flatMap.1 hc
  exact lay8_range x c h
theorem addW_b (w : List Int) (t : BitVec 32) : addW (t.toNat : Int) w = addT (t.toNat : Int) (w.flatMap lay8) := by
  induction w generalizing t with
  | nil =>
    rw [List.flatMap_nil, addT_b t [] (by simp)]
    show (t.toNat : Int) = (((t ^^^ 4294967295#32) ^^^ 4294967295#32).toNat : Int)
    rw [BitVec.xor_assoc, BitVec.xor_self, BitVec.xor_zero]
  | cons x w ih =>
    show addW (addT (t.toNat : Int) (lay8 x)) w = _
    rw [addT_b t _ (lay8_range x), ih, ← addT_b t _ (lay8_range x), addT_append t _ _ (lay8_range x) (lays_range w), List.flatMap_cons]
theorem ofwords_f (w : List Int) : crc_OfWords.f w = some ((crcOf (w.flatMap lay8)).toNat : Int) := by
  unfold crc_OfWords.f
  have := addW_b w 0#32
  rw [show (((0#32).toNat : Nat) : Int) = 0 from rfl] at this
  rw [this, addT_zero _ (lays_range w)]
theorem lays_len (w : List Int) : (w.flatMap lay8).length = 8 * w.length := by
  induction w with
  | nil => rfl
  | cons x w ih => rw [List.flatMap_cons, List.length_append, ih, List.length_cons, show (lay8 x).length = 8 from rfl]; omega
theorem refwords_l (w : List Int) (hw : w.length ≤ 1000) (d : Nat) : ∀ i k : Nat, i ≤ w.length → w.length - i = d → d + 9 < k → dolmenref1_OfWords.l0 k w ((w.take i).flatMap lay8) (i : Int) = some ((crcOf (w.flatMap lay8)).toNat : Int) := by
  induction d with
  | zero =>
    intro i k hi hd hk
    obtain ⟨k, rfl⟩ : ∃ m, k = m + 1 := ⟨k - 1, by omega⟩
    rw [dolmenref1_OfWords.l0, if_neg (by omega), List.take_of_length_le (by omega), refOf_f _ (lays_range w), Option.bind_some]
  | succ d ih =>
    intro i k hi hd hk
    obtain ⟨k, rfl⟩ : ∃ m, k = m + 1 := ⟨k - 1, by omega⟩
    have hlt : i < w.length := by omega
    have hnext := ih (i + 1) k (by omega) (by omega) (by omega)
    have hl := lays_len (w.take i)
    have hl2 : (w.take i).length = i := by rw [List.length_take]; omega
    have hrd : rd w (i : Int) = w[i] := by rw [rd, Int.toNat_natCast, List.getD_eq_getElem?_getD, List.getElem?_eq_getElem hlt]; rfl
    have e : (w.take i).flatMap lay8 ++ lay8 w[i] = (w.take (i + 1)).flatMap lay8 := by
      rw [List.take_succ_eq_append_getElem hlt, List.flatMap_append]; simp
    have h8 : (lay8 w[i]).length = 8 := rfl
    rw [dolmenref1_OfWords.l0, if_pos (by omega), if_pos (by omega), hrd, lay_f _ k (by omega), Option.bind_some, if_pos (by omega), e]
    have hw2 : wrap64 ((i : Int) + 1) = ((i + 1 : Nat) : Int) := by clear hrd hnext; unfold wrap64; omega
    rw [hw2]
    exact hnext
theorem refwords_f (w : List Int) (hw : w.length ≤ 1000) (k : Nat) (hk : w.length + 9 < k) : dolmenref1_OfWords.f k w = some ((crcOf (w.flatMap lay8)).toNat : Int) := by
  unfold dolmenref1_OfWords.f
  exact refwords_l w hw w.length 0 k (by omega) (by omega) hk
theorem asks_end (b w : List Int) (v : Int) (hb : ∀ c ∈ b, 0 ≤ c ∧ c < 256) (hw : w.length ≤ 100) (hv : 0 ≤ v ∧ v < 18446744073709551616) (k : Nat) (hk : 120 ≤ k) : dolmenlaw2_CrcAsks.j1 k b w v false = some true := by
  obtain ⟨k, rfl⟩ : ∃ m, k = m + 1 := ⟨k - 1, by omega⟩
  rw [dolmenlaw2_CrcAsks.j1, if_neg (by simp), crcOf_f b hb, Option.bind_some, refOf_f b hb, Option.bind_some, if_pos rfl, ofwords_f, Option.bind_some, refwords_f w (by omega) k (by omega), Option.bind_some, if_pos rfl,
    seal_f v hv.1 hv.2 k (by omega), Option.bind_some, refseal_f v hv.1 hv.2 k (by omega), Option.bind_some, if_pos rfl]
  rfl
theorem CrcAsks : dolmenlaw2_CrcAsks.Pure := by
  intro b w v hmax hsz hb hmaxw hszw hw hv
  have hb := wf_u8 hb
  have hv := wf_u64 hv
  refine ⟨200, ?_⟩
  unfold dolmenlaw2_CrcAsks.f
  by_cases g1 : (b.length : Int) > 600
  · rw [if_pos g1, dolmenlaw2_CrcAsks.j0, if_pos rfl]; rfl
  by_cases g2 : (w.length : Int) > 80
  · rw [if_neg g1, dolmenlaw2_CrcAsks.j0, if_pos (by simpa using g2)]; rfl
  rw [if_neg g1, dolmenlaw2_CrcAsks.j0, if_neg (by simpa using g2)]
  have hl : 0 ≤ v % 4294967296 ∧ v % 4294967296 < 4294967296 := by omega
  have hend := asks_end b w v hb (by omega) hv
  rw [sealed_f v hv.1 hv.2 _ (by omega), Option.bind_some, and_low v hv.1 hv.2, refseal_f _ hl.1 (by omega) _ (by omega), Option.bind_some]
  have hmm : v % 4294967296 % 4294967296 = v % 4294967296 := by omega
  rw [hmm]
  by_cases h : sealN (v % 4294967296) = v
  · rw [if_pos h]
    have h1 : (sealN (v % 4294967296) == v) = true := beq_iff_eq.2 h
    rw [h1, if_neg (by simp), if_pos rfl, if_pos (u64_wrap_in _ hl.1 (by omega))]
    exact hend _ (by omega)
  · rw [if_neg h]
    have h1 : (sealN (v % 4294967296) == v) = false := beq_eq_false_iff_ne.2 h
    rw [h1, if_neg (by simp), if_neg (by simp)]
    exact hend _ (by omega)
end Go.Proofs.Ytafefcogpdacoaa.Pure
