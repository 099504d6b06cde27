/- CRC-32 over words of 32 bits: one round, a byte, a row of bytes; two rows that differ at one place have other sums; the sum goes over the bits. Lemmas without the program; no condition but those typed. -/
import Derived.Laws.BitsLemmas
namespace Go.Proofs.Ytafefcogpdacoaa.Crc

def poly : BitVec 32 := 3988292384#32
def rndB (r : BitVec 32) : BitVec 32 := (r >>> 1) ^^^ (poly &&& -(r &&& 1#32))
def rndsB : Nat → BitVec 32 → BitVec 32
  | 0, r => r
  | n + 1, r => rndsB n (rndB r)
def bytB (r : BitVec 32) (c : Int) : BitVec 32 := rndsB 8 (r ^^^ BitVec.ofNat 32 c.toNat)
def bytsB (r : BitVec 32) (l : List Int) : BitVec 32 := l.foldl bytB r

theorem mask_bit (r : BitVec 32) : -(r &&& 1#32) = if r.getLsbD 0 then BitVec.allOnes 32 else 0#32 := by
  have h : r &&& 1#32 = if r.getLsbD 0 then 1#32 else 0#32 := by
    apply BitVec.eq_of_getLsbD_eq
    intro i hi
    rw [BitVec.getLsbD_and]
    by_cases h0 : i = 0
    · subst h0
      cases r.getLsbD 0 <;> simp
    · have : (1#32).getLsbD i = false := by
        have : ∀ j : Fin 32, j.val ≠ 0 → (1#32).getLsbD j.val = false := by decide +kernel
        exact this ⟨i, hi⟩ h0
      rw [this]
      cases r.getLsbD 0 <;> simp [this]
  rw [h]
  cases r.getLsbD 0
  · rfl
  · decide
theorem rndB_eq (r : BitVec 32) : rndB r = (r >>> 1) ^^^ (if r.getLsbD 0 then poly else 0#32) := by
  unfold rndB
  rw [mask_bit]
  cases r.getLsbD 0
  · simp
  · rw [if_pos rfl, if_pos rfl, BitVec.and_allOnes]
theorem rndB_xor (a b : BitVec 32) : rndB (a ^^^ b) = rndB a ^^^ rndB b := by
  rw [rndB_eq, rndB_eq, rndB_eq, BitVec.getLsbD_xor]
  have hs : (a ^^^ b) >>> 1 = (a >>> 1) ^^^ (b >>> 1) := by
    apply BitVec.eq_of_getLsbD_eq; intro i hi; simp
  rw [hs]
  cases a.getLsbD 0 <;> cases b.getLsbD 0
  · simp
  · simp [BitVec.xor_assoc]
  · simp only [Bool.true_xor, Bool.not_false, if_true, if_false, BitVec.xor_zero, Bool.false_eq_true]
    rw [BitVec.xor_assoc, BitVec.xor_assoc, BitVec.xor_comm (b >>> 1)]
  · simp only [Bool.true_xor, Bool.not_true, if_true, if_false, BitVec.xor_zero, Bool.false_eq_true]
    rw [BitVec.xor_assoc, ← BitVec.xor_assoc poly, BitVec.xor_comm poly, BitVec.xor_assoc (b >>> 1), BitVec.xor_self, BitVec.xor_zero]
theorem rndB_zero (r : BitVec 32) (h : rndB r = 0#32) : r = 0#32 := by
  rw [rndB_eq] at h
  have htop : (r >>> 1).getLsbD 31 = false := by rw [BitVec.getLsbD_ushiftRight]; exact BitVec.getLsbD_of_ge _ _ (by omega)
  cases h0 : r.getLsbD 0
  · rw [h0] at h
    simp only [Bool.false_eq_true, if_false, BitVec.xor_zero] at h
    apply BitVec.eq_of_getLsbD_eq
    intro i hi
    cases i with
    | zero => rw [h0]; simp
    | succ i =>
      have := congrArg (fun x => x.getLsbD i) h
      simp only [BitVec.getLsbD_ushiftRight] at this
      rw [Nat.add_comm] at this
      rw [this]; simp
  · rw [h0] at h
    have := congrArg (fun x => x.getLsbD 31) h
    simp only [if_true, BitVec.getLsbD_xor, htop] at this
    have hp : (false ^^ poly.getLsbD 31) ≠ (0#32).getLsbD 31 := by decide
    exact absurd this hp
theorem xor_eq_zero {a b : BitVec 32} (h : a ^^^ b = 0#32) : a = b := by
  have := congrArg (· ^^^ b) h
  simp only [BitVec.xor_assoc, BitVec.xor_self, BitVec.xor_zero, BitVec.zero_xor] at this
  exact this
theorem rndB_inj {a b : BitVec 32} (h : rndB a = rndB b) : a = b := by
  apply xor_eq_zero
  apply rndB_zero
  rw [rndB_xor, h, BitVec.xor_self]
theorem rndsB_inj (n : Nat) {a b : BitVec 32} (h : rndsB n a = rndsB n b) : a = b := by
  induction n generalizing a b with
  | zero => exact h
  | succ n ih => exact rndB_inj (ih h)
theorem rndsB_xor (n : Nat) (a b : BitVec 32) : rndsB n (a ^^^ b) = rndsB n a ^^^ rndsB n b := by
  induction n generalizing a b with
  | zero => rfl
  | succ n ih => rw [rndsB, rndB_xor, ih]; rfl
theorem xor_left_inj {a b c : BitVec 32} (h : a ^^^ c = b ^^^ c) : a = b := by
  have := congrArg (· ^^^ c) h
  simpa [BitVec.xor_assoc] using this
theorem bytB_inj {a b : BitVec 32} {c : Int} (h : bytB a c = bytB b c) : a = b := xor_left_inj (rndsB_inj 8 h)
theorem bytsB_inj (l : List Int) {a b : BitVec 32} (h : bytsB a l = bytsB b l) : a = b := by
  induction l generalizing a b with
  | nil => exact h
  | cons c l ih => exact bytB_inj (ih h)
theorem bytB_ne (a : BitVec 32) {c d : Int} (hc : 0 ≤ c ∧ c < 256) (hd : 0 ≤ d ∧ d < 256) (h : bytB a c = bytB a d) : c = d := by
  have h1 := rndsB_inj 8 h
  rw [BitVec.xor_comm a, BitVec.xor_comm a] at h1
  have h2 := congrArg BitVec.toNat (xor_left_inj h1)
  simp only [BitVec.toNat_ofNat] at h2
  omega
theorem bytsB_append (a : BitVec 32) (l m : List Int) : bytsB a (l ++ m) = bytsB (bytsB a l) m := by simp [bytsB]
/-- Two rows that are alike but at one place have other sums. -/
theorem bytsB_set (a : BitVec 32) (l : List Int) (i : Nat) (x : Int) (hi : i < l.length) (hl : ∀ c ∈ l, 0 ≤ c ∧ c < 256) (hx : 0 ≤ x ∧ x < 256) (hne : x ≠ l[i]) : bytsB a (l.set i x) ≠ bytsB a l := by
  intro h
  have e1 : l = l.take i ++ l[i] :: l.drop (i + 1) := by
    rw [← List.drop_eq_getElem_cons hi, List.take_append_drop]
  have e2 : l.set i x = l.take i ++ x :: l.drop (i + 1) := by
    rw [List.set_eq_take_append_cons_drop, if_pos hi]
  rw [e2] at h
  conv at h => rhs; rw [e1]
  rw [bytsB_append, bytsB_append] at h
  have h1 := bytsB_inj (l.drop (i + 1)) (a := bytB (bytsB a (l.take i)) x) (b := bytB (bytsB a (l.take i)) l[i]) h
  exact hne (bytB_ne _ hx (hl _ (List.getElem_mem hi)) h1)
/-! three rows over each other -/
theorem bytB_xor3 (a b c : BitVec 32) (x y z : Nat) : bytB (a ^^^ b ^^^ c) ((x ^^^ y ^^^ z : Nat) : Int) = bytB a x ^^^ bytB b y ^^^ bytB c z := by
  unfold bytB
  rw [← rndsB_xor, ← rndsB_xor]
  congr 1
  simp only [Int.toNat_natCast, BitVec.ofNat_xor]
  apply BitVec.eq_of_getLsbD_eq
  intro i hi
  simp only [BitVec.getLsbD_xor]
  cases a.getLsbD i <;> cases b.getLsbD i <;> cases c.getLsbD i <;> cases (BitVec.ofNat 32 x).getLsbD i <;> cases (BitVec.ofNat 32 y).getLsbD i <;> cases (BitVec.ofNat 32 z).getLsbD i <;> rfl
/-- Numbers as whole numbers. -/
def ints (l : List Nat) : List Int := l.map fun (x : Nat) => (x : Int)
theorem bytsB_xor3 (l m n : List Nat) (h1 : l.length = m.length) (h2 : l.length = n.length) (a b c : BitVec 32) :
    bytsB (a ^^^ b ^^^ c) (ints (List.zipWith (· ^^^ ·) (List.zipWith (· ^^^ ·) l m) n)) = bytsB a (ints l) ^^^ bytsB b (ints m) ^^^ bytsB c (ints n) := by
  induction l generalizing m n a b c with
  | nil =>
    have : m = [] := List.length_eq_zero_iff.1 h1.symm
    have : n = [] := List.length_eq_zero_iff.1 h2.symm
    subst m; subst n; rfl
  | cons x l ih =>
    cases m with
    | nil => simp at h1
    | cons y m =>
      cases n with
      | nil => simp at h2
      | cons z n =>
        simp only [List.zipWith_cons_cons, ints, List.map_cons, bytsB, List.foldl_cons]
        rw [bytB_xor3]
        exact ih m n (by simpa using h1) (by simpa using h2) _ _ _
/-! words of 32 bits as numbers -/
theorem b32_wrap_nat (n : Nat) : IntKind.u32.wrap (n : Int) = ((n % 2 ^ 32 : Nat) : Int) := by
  simp [IntKind.wrap, IntKind.bits, IntKind.signed]
theorem b32_and (x y : BitVec 32) : Go.bits .and .u32 (x.toNat : Int) (y.toNat : Int) = ((x &&& y).toNat : Int) := by
  unfold Go.bits
  simp only [IntKind.bits, BitVec.ofInt_natCast, BitVec.ofNat_toNat, BitVec.setWidth_eq]
  rw [b32_wrap_nat, Nat.mod_eq_of_lt (BitVec.isLt _)]; rfl
theorem b32_xor (x y : BitVec 32) : Go.bits .xor .u32 (x.toNat : Int) (y.toNat : Int) = ((x ^^^ y).toNat : Int) := by
  unfold Go.bits
  simp only [IntKind.bits, BitVec.ofInt_natCast, BitVec.ofNat_toNat, BitVec.setWidth_eq]
  rw [b32_wrap_nat, Nat.mod_eq_of_lt (BitVec.isLt _)]; rfl
theorem b32_half (x : BitVec 32) : (x.toNat : Int) / (2 : Int) = ((x >>> 1).toNat : Int) := by
  rw [BitVec.toNat_ushiftRight, Nat.shiftRight_eq_div_pow]; simp
theorem b32_neg (x : BitVec 32) : IntKind.u32.wrap (-(x.toNat : Int)) = ((-x).toNat : Int) := by
  have h := x.isLt
  rw [BitVec.toNat_neg]
  simp [IntKind.wrap, IntKind.bits, IntKind.signed]
  omega
end Go.Proofs.Ytafefcogpdacoaa.Crc
