/- CrcAdds (chapter 2): of three rows of bytes as long as each other, put over each other bit by bit, the sum is their sums put over each other. Proved for all bytes, no further condition. -/
import Derived.Test.YtafefcogpdacoaaPCrcAddsx2
import Derived.Test.YtafefcogpdacoaaCrc
namespace Go.Proofs.Ytafefcogpdacoaa.Pure
open Go.RowKit Go.Proofs.Ytafefcogpdacoaa.PCrcAdds Go.Proofs.YtafefcogpdacoaaW.PrintWords Go.Proofs.YtafefcogpdacoaaW.PrintLast Go.Proofs.YtafefcogpdacoaaW.PrintMore Go.Proofs.Ytafefcogpdacoaa.Crc
namespace CrcAddsAid
theorem rnd_b (r : BitVec 32) : rnd (r.toNat : Int) = ((rndB r).toNat : Int) := by
  unfold rnd rndB
  have e1 : (1 : Int) = ((1#32).toNat : Int) := by decide
  have e2 : (3988292384 : Int) = (poly.toNat : Int) := by decide
  rw [e1, e2, b32_half, b32_and, b32_neg, b32_and, b32_xor]
theorem rnds_b (n : Nat) (r : BitVec 32) : rnds n (r.toNat : Int) = ((rndsB n r).toNat : Int) := by
  induction n generalizing r with
  | zero => rfl
  | succ n ih => rw [rnds, rnd_b, ih]; rfl
theorem u32_of (c : Int) (h : 0 ≤ c ∧ c < 256) : IntKind.u32.wrap c = ((BitVec.ofNat 32 c.toNat).toNat : Int) := by
  rw [BitVec.toNat_ofNat]
  obtain ⟨n, rfl⟩ := Int.eq_ofNat_of_zero_le h.1
  rw [b32_wrap_nat, Int.toNat_natCast]
theorem byt_b (r : BitVec 32) (c : Int) (h : 0 ≤ c ∧ c < 256) : byt (r.toNat : Int) c = ((bytB r c).toNat : Int) := by
  unfold byt bytB
  rw [u32_of c h, b32_xor, rnds_b]
theorem byts_b (l : List Int) (hl : ∀ c ∈ l, 0 ≤ c ∧ c < 256) (r : BitVec 32) : byts (r.toNat : Int) l = ((bytsB r l).toNat : Int) := by
  induction l generalizing r with
  | nil => rfl
  | cons c l ih =>
    have := ih (fun x hx => hl x (by simp [hx])) (bytB r c)
    simp only [byts, List.foldl_cons] at this ⊢
    rw [byt_b r c (hl c (by simp)), this]; rfl
theorem addT_b (t : BitVec 32) (l : List Int) (hl : ∀ c ∈ l, 0 ≤ c ∧ c < 256) : addT (t.toNat : Int) l = ((bytsB (t ^^^ 4294967295#32) l ^^^ 4294967295#32).toNat : Int) := by
  unfold addT
  have e : (4294967295 : Int) = ((4294967295#32).toNat : Int) := by decide
  rw [e, b32_xor, byts_b l hl, b32_xor]
/-- The sum of bytes. -/
def crcOf (l : List Int) : BitVec 32 := bytsB 4294967295#32 l ^^^ 4294967295#32
theorem addT_zero (l : List Int) (hl : ∀ c ∈ l, 0 ≤ c ∧ c < 256) : addT 0 l = ((crcOf l).toNat : Int) := by
  have := addT_b 0#32 l hl
  rw [BitVec.zero_xor] at this
  exact this
theorem crcOf_set (l : List Int) (i : Nat) (x : Int) (hi : i < l.length) (hl : ∀ c ∈ l, 0 ≤ c ∧ c < 256) (hx : 0 ≤ x ∧ x < 256) (hne : x ≠ l[i]) : crcOf (l.set i x) ≠ crcOf l := by
  intro h
  exact bytsB_set _ l i x hi hl hx hne (xor_left_inj h)
theorem crcOf_f (l : List Int) (hl : ∀ c ∈ l, 0 ≤ c ∧ c < 256) : crc_Of.f l = some ((crcOf l).toNat : Int) := by rw [crc_Of.f, addT_zero l hl]
theorem wf_u8 {l : List Int} (h : ∀ x ∈ l, (Lit.int .u8 x).wf = true) : ∀ c ∈ l, 0 ≤ c ∧ c < 256 := by
  intro c hc
  have := h c hc
  simp [Lit.wf, IntKind.min, IntKind.max, IntKind.bits, IntKind.signed] at this
  omega

end CrcAddsAid
open CrcAddsAid
theorem b8_wrap_nat (n : Nat) : IntKind.u8.wrap (n : Int) = ((n % 2 ^ 8 : Nat) : Int) := by
  simp [IntKind.wrap, IntKind.bits, IntKind.signed]
theorem b8_xor (x y : BitVec 8) : Go.bits .xor .u8 (x.toNat : Int) (y.toNat : Int) = ((x ^^^ y).toNat : Int) := by
  unfold Go.bits
  simp only [IntKind.bits, BitVec.ofInt_natCast, BitVec.ofNat_toNat, BitVec.setWidth_eq]
  rw [b8_wrap_nat, Nat.mod_eq_of_lt (BitVec.isLt _)]; rfl
theorem xor8 (x y : Nat) (hx : x < 2 ^ 8) (hy : y < 2 ^ 8) : Go.bits .xor .u8 (x : Int) (y : Int) = ((x ^^^ y : Nat) : Int) := by
  have h1 : (x : Int) = ((BitVec.ofNat 8 x).toNat : Int) := by rw [BitVec.toNat_ofNat, Nat.mod_eq_of_lt hx]
  have h2 : (y : Int) = ((BitVec.ofNat 8 y).toNat : Int) := by rw [BitVec.toNat_ofNat, Nat.mod_eq_of_lt hy]
  rw [h1, h2, b8_xor, BitVec.toNat_xor, BitVec.toNat_ofNat, BitVec.toNat_ofNat, Nat.mod_eq_of_lt hx, Nat.mod_eq_of_lt hy]
theorem ints_of (l : List Int) (hl : ∀ c ∈ l, 0 ≤ c ∧ c < 256) : ∃ n : List Nat, l = ints n ∧ ∀ c ∈ n, c < 2 ^ 8 := by
  refine ⟨l.map Int.toNat, ?_, ?_⟩
  · unfold ints
    rw [List.map_map]
    conv => lhs; rw [← List.map_id l]
    apply List.map_congr_left
    intro c hc
    have := hl c hc
    simp; omega
  · intro c hc
    obtain ⟨x, hx, rfl⟩ := List.mem_map.1 hc
    have := hl x hx
    rw [show (2 : Nat) ^ 8 = 256 from rfl]; omega
theorem ints_len (n : List Nat) : (ints n).length = n.length := List.length_map _
theorem ints_rd (n : List Nat) (i : Nat) (h : i < n.length) : rd (ints n) (i : Int) = (n[i] : Int) := by
  rw [rd, Int.toNat_natCast, List.getD_eq_getElem?_getD, ints, List.getElem?_map, List.getElem?_eq_getElem h]; rfl
theorem ints_take (n : List Nat) (i : Nat) : (ints n).take i = ints (n.take i) := by unfold ints; rw [List.map_take]
theorem ints_range (n : List Nat) (h : ∀ c ∈ n, c < 2 ^ 8) : ∀ c ∈ ints n, 0 ≤ c ∧ c < 256 := by
  intro c hc
  obtain ⟨x, hx, rfl⟩ := List.mem_map.1 hc
  have := h x hx
  rw [show (2 : Nat) ^ 8 = 256 from rfl] at this
  omega
/-- Three rows put over each other. -/
def over (a b c : List Nat) : List Nat := List.zipWith (· ^^^ ·) (List.zipWith (· ^^^ ·) a b) c
theorem over_len (a b c : List Nat) (h1 : a.length = b.length) (h2 : a.length = c.length) : (over a b c).length = a.length := by
  unfold over; rw [List.length_zipWith, List.length_zipWith]; omega
theorem over_snoc (a b c : List Nat) (x y z : Nat) (h1 : a.length = b.length) (h2 : a.length = c.length) : over (a ++ [x]) (b ++ [y]) (c ++ [z]) = over a b c ++ [x ^^^ y ^^^ z] := by
  unfold over
  rw [List.zipWith_append h1, List.zipWith_append (by rw [List.length_zipWith]; omega)]
  rfl
theorem over_range (a b c : List Nat) (ha : ∀ x ∈ a, x < 2 ^ 8) (hb : ∀ x ∈ b, x < 2 ^ 8) (hc : ∀ x ∈ c, x < 2 ^ 8) : ∀ x ∈ over a b c, x < 2 ^ 8 := by
  intro x hx
  obtain ⟨i, hi, rfl⟩ := List.mem_iff_getElem.1 hx
  unfold over at hi ⊢
  rw [List.length_zipWith, List.length_zipWith] at hi
  rw [List.getElem_zipWith, List.getElem_zipWith]
  exact Nat.xor_lt_two_pow (Nat.xor_lt_two_pow (ha _ (List.getElem_mem _)) (hb _ (List.getElem_mem _))) (hc _ (List.getElem_mem _))
theorem take_snoc (a : List Nat) (i : Nat) (h : i < a.length) : a.take (i + 1) = a.take i ++ [a[i]] := List.take_succ_eq_append_getElem h
theorem wrap_succ (i : Nat) (h : i < 1000000) : wrap64 ((i : Int) + 1) = ((i + 1 : Nat) : Int) := by unfold wrap64; omega
theorem adds_end (a b c : List Nat) (h1 : a.length = b.length) (h2 : a.length = c.length) :
    ((crcOf (ints (over a b c))).toNat : Int) = Go.bits .xor .u32 (Go.bits .xor .u32 ((crcOf (ints a)).toNat : Int) ((crcOf (ints b)).toNat : Int)) ((crcOf (ints c)).toNat : Int) := by
  rw [b32_xor, b32_xor]
  congr 2
  have h := bytsB_xor3 a b c h1 h2 4294967295#32 4294967295#32 4294967295#32
  rw [BitVec.xor_self, BitVec.zero_xor] at h
  unfold crcOf over
  rw [h]
  generalize bytsB 4294967295#32 (ints a) = x
  generalize bytsB 4294967295#32 (ints b) = y
  generalize bytsB 4294967295#32 (ints c) = z
  apply BitVec.eq_of_getLsbD_eq
  intro i hi
  simp only [BitVec.getLsbD_xor]
  cases x.getLsbD i <;> cases y.getLsbD i <;> cases z.getLsbD i <;> cases (4294967295#32).getLsbD i <;> rfl
theorem adds_l (a b c : List Nat) (ha : ∀ x ∈ a, x < 2 ^ 8) (hb : ∀ x ∈ b, x < 2 ^ 8) (hc : ∀ x ∈ c, x < 2 ^ 8) (n : Nat) (hn : n ≤ 600) (na : n ≤ a.length) (nb : n ≤ b.length) (nc : n ≤ c.length) (d : Nat) : ∀ i k : Nat, i ≤ n → n - i = d → d < k →
    dolmenlaw2_CrcAdds.l0 k (ints a) (ints b) (ints c) (n : Int) (ints (over (a.take i) (b.take i) (c.take i)) ++ List.replicate (n - i) 0) (i : Int) = some true := by
  have la : ∀ i, i ≤ n → (a.take i).length = i := fun i h => by rw [List.length_take]; omega
  have lb : ∀ i, i ≤ n → (b.take i).length = i := fun i h => by rw [List.length_take]; omega
  have lc : ∀ i, i ≤ n → (c.take i).length = i := fun i h => by rw [List.length_take]; omega
  have lo : ∀ i, i ≤ n → (over (a.take i) (b.take i) (c.take i)).length = i := fun i h => by rw [over_len _ _ _ (by rw [la i h, lb i h]) (by rw [la i h, lc i h]), la i h]
  have ta : ∀ x ∈ a.take n, x < 2 ^ 8 := fun x hx => ha x (List.take_subset _ _ hx)
  have tb : ∀ x ∈ b.take n, x < 2 ^ 8 := fun x hx => hb x (List.take_subset _ _ hx)
  have tc : ∀ x ∈ c.take n, x < 2 ^ 8 := fun x hx => hc x (List.take_subset _ _ hx)
  induction d with
  | zero =>
    intro i k hi hd hk
    obtain ⟨k, rfl⟩ : ∃ m, k = m + 1 := ⟨k - 1, by omega⟩
    obtain rfl : i = n := by omega
    have el := ints_len a
    have eb := ints_len b
    have ec := ints_len c
    rw [dolmenlaw2_CrcAdds.l0, if_neg (by omega), Nat.sub_self, List.replicate_zero, List.append_nil, crcOf_f _ (ints_range _ (over_range _ _ _ ta tb tc)), Option.bind_some, if_pos (by omega), if_pos (by omega), Int.toNat_natCast, ints_take, crcOf_f _ (ints_range _ ta), Option.bind_some,
      if_pos (by omega), ints_take, crcOf_f _ (ints_range _ tb), Option.bind_some, if_pos (by omega), ints_take, crcOf_f _ (ints_range _ tc), Option.bind_some, if_pos (adds_end _ _ _ (by rw [la i hi, lb i hi]) (by rw [la i hi, lc i hi]))]
    rfl
  | succ d ih =>
    intro i k hi hd hk
    obtain ⟨k, rfl⟩ : ∃ m, k = m + 1 := ⟨k - 1, by omega⟩
    have hlt : i < n := by omega
    have hnext := ih (i + 1) k (by omega) (by omega) (by omega)
    clear ih
    have el := ints_len a
    have eb := ints_len b
    have ec := ints_len c
    have hlen : (ints (over (a.take i) (b.take i) (c.take i)) ++ List.replicate (n - i) (0 : Int)).length = n := by
      rw [List.length_append, ints_len, lo i hi, List.length_replicate]; omega
    have e1 : n - i = (n - (i + 1)) + 1 := by omega
    have ia : i < a.length := by omega
    have ib : i < b.length := by omega
    have ic : i < c.length := by omega
    rw [dolmenlaw2_CrcAdds.l0, if_pos (by omega), if_pos (by omega), if_pos (by omega), if_pos (by omega), if_pos (by omega), if_pos (by omega), wrap_succ i (by omega), ints_rd a i ia, ints_rd b i ib, ints_rd c i ic,
      xor8 _ _ (ha _ (List.getElem_mem ia)) (hb _ (List.getElem_mem ib)), xor8 _ _ (Nat.xor_lt_two_pow (ha _ (List.getElem_mem ia)) (hb _ (List.getElem_mem ib))) (hc _ (List.getElem_mem ic)), Int.toNat_natCast]
    have hset : (ints (over (a.take i) (b.take i) (c.take i)) ++ List.replicate (n - i) (0 : Int)).set i ((a[i] ^^^ b[i] ^^^ c[i] : Nat) : Int) = ints (over (a.take (i + 1)) (b.take (i + 1)) (c.take (i + 1))) ++ List.replicate (n - (i + 1)) 0 := by
      have hl2 : (ints (over (a.take i) (b.take i) (c.take i))).length = i := by rw [ints_len, lo i hi]
      rw [List.set_append_right _ _ (by omega), hl2, Nat.sub_self, e1, List.replicate_succ, List.set_cons_zero, take_snoc a i ia, take_snoc b i ib, take_snoc c i ic, over_snoc _ _ _ _ _ _ (by rw [la i hi, lb i hi]) (by rw [la i hi, lc i hi])]
      unfold ints
      rw [List.map_append, List.append_assoc]; rfl
    rw [hset]
    exact hnext
theorem CrcAdds : dolmenlaw2_CrcAdds.Pure := by
  intro a b c ha1 ha2 ha hb1 hb2 hb hc1 hc2 hc
  obtain ⟨a, rfl, xa⟩ := ints_of a (wf_u8 ha)
  obtain ⟨b, rfl, xb⟩ := ints_of b (wf_u8 hb)
  obtain ⟨c, rfl, xc⟩ := ints_of c (wf_u8 hc)
  refine ⟨700, ?_⟩
  unfold dolmenlaw2_CrcAdds.f
  rw [ints_len, ints_len, ints_len]
  have hmn : ∃ n : Nat, mn (mn (mn (a.length : Int) (b.length : Int)) (c.length : Int)) 600 = (n : Int) ∧ n ≤ 600 ∧ n ≤ a.length ∧ n ≤ b.length ∧ n ≤ c.length := by
    refine ⟨min (min (min a.length b.length) c.length) 600, ?_, by omega, by omega, by omega, by omega⟩
    unfold mn
    repeat' split
    all_goals omega
  obtain ⟨n, en, h6, na, nb, nc⟩ := hmn
  rw [en, if_pos (by omega), Int.toNat_natCast, if_pos (by omega)]
  have := adds_l a b c xa xb xc n h6 na nb nc n 0 700 (by omega) (by omega) (by omega)
  simpa [over, ints] using this
end Go.Proofs.Ytafefcogpdacoaa.Pure
