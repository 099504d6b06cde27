/- CrcPieces (chapter 2): added in whatever pieces, bytes and words, it is the sum of all; two that go on do not touch each other: the walk of the law. Proved for all rows of bytes and all words, no further condition. -/
import Derived.Test.YtafefcogpdacoaaPCrcPiecesx1
import Derived.Test.YtafefcogpdacoaaCrc
import Derived.Lib.Builder
import Derived.Test.YtafefcogpdacoaaObjs
namespace Go.Proofs.Ytafefcogpdacoaa.PCrcPieces
open Go.RowKit Go.Proofs.YtafefcogpdacoaaW.PrintWords Go.Proofs.YtafefcogpdacoaaW.PrintLast Go.Proofs.YtafefcogpdacoaaW.PrintMore Go.Proofs.Ytafefcogpdacoaa.Crc Go.Proofs.Ytafefcogpdacoaa.Objs
set_option linter.unusedVariables false
set_option linter.unusedSimpArgs false

theorem rnd_b (r : BitVec 32) : rnd (r.toNat : Int) = ((rndB r).toNat : Int) := by
  unfold rnd rndB
  have e1 : (1 : Int) = ((1#32).toNat : Int) := by decide
  have e2 : (3988292384 : Int) = (poly.toNat : Int) := by decide
  rw [e1, e2, b32_half, b32_and, b32_neg, b32_and, b32_xor]
theorem rnds_b (n : Nat) (r : BitVec 32) : rnds n (r.toNat : Int) = ((rndsB n r).toNat : Int) := by
  induction n generalizing r with
  | zero => rfl
  | succ n ih => rw [rnds, rnd_b, ih]; rfl
theorem u32_of (c : Int) (h : 0 ≤ c ∧ c < 256) : IntKind.u32.wrap c = ((BitVec.ofNat 32 c.toNat).toNat : Int) := by
  rw [BitVec.toNat_ofNat]
  obtain ⟨n, rfl⟩ := Int.eq_ofNat_of_zero_le h.1
  rw [b32_wrap_nat, Int.toNat_natCast]
theorem byt_b (r : BitVec 32) (c : Int) (h : 0 ≤ c ∧ c < 256) : byt (r.toNat : Int) c = ((bytB r c).toNat : Int) := by
  unfold byt bytB
  rw [u32_of c h, b32_xor, rnds_b]
theorem byts_b (l : List Int) (hl : ∀ c ∈ l, 0 ≤ c ∧ c < 256) (r : BitVec 32) : byts (r.toNat : Int) l = ((bytsB r l).toNat : Int) := by
  induction l generalizing r with
  | nil => rfl
  | cons c l ih =>
    have := ih (fun x hx => hl x (by simp [hx])) (bytB r c)
    simp only [byts, List.foldl_cons] at this ⊢
    rw [byt_b r c (hl c (by simp)), this]; rfl
theorem addT_b (t : BitVec 32) (l : List Int) (hl : ∀ c ∈ l, 0 ≤ c ∧ c < 256) : addT (t.toNat : Int) l = ((bytsB (t ^^^ 4294967295#32) l ^^^ 4294967295#32).toNat : Int) := by
  unfold addT
  have e : (4294967295 : Int) = ((4294967295#32).toNat : Int) := by decide
  rw [e, b32_xor, byts_b l hl, b32_xor]
/-- The sum of bytes. -/
def crcOf (l : List Int) : BitVec 32 := bytsB 4294967295#32 l ^^^ 4294967295#32
theorem addT_zero (l : List Int) (hl : ∀ c ∈ l, 0 ≤ c ∧ c < 256) : addT 0 l = ((crcOf l).toNat : Int) := by
  have := addT_b 0#32 l hl
  rw [BitVec.zero_xor] at this
  exact this
theorem crcOf_set (l : List Int) (i : Nat) (x : Int) (hi : i < l.length) (hl : ∀ c ∈ l, 0 ≤ c ∧ c < 256) (hx : 0 ≤ x ∧ x < 256) (hne : x ≠ l[i]) : crcOf (l.set i x) ≠ crcOf l := by
  intro h
  exact bytsB_set _ l i x hi hl hx hne (xor_left_inj h)
theorem crcOf_f (l : List Int) (hl : ∀ c ∈ l, 0 ≤ c ∧ c < 256) : crc_Of.f l = some ((crcOf l).toNat : Int) := by rw [crc_Of.f, addT_zero l hl]
theorem wf_u8 {l : List Int} (h : ∀ x ∈ l, (Lit.int .u8 x).wf = true) : ∀ c ∈ l, 0 ≤ c ∧ c < 256 := by
  intro c hc
  have := h c hc
  simp [Lit.wf, IntKind.min, IntKind.max, IntKind.bits, IntKind.signed] at this
  omega
theorem lay8_range (x : Int) : ∀ c ∈ lay8 x, 0 ≤ c ∧ c < 256 := by
  intro c hc
  simp only [lay8, List.mem_cons, List.not_mem_nil, or_false] at hc
  rcases hc with rfl | rfl | rfl | rfl | rfl | rfl | rfl | rfl <;> omega
theorem lay_eight (x : Int) : dolmenref1_Lay.f 9 x = some (lay8 x) := by
  simp only [dolmenref1_Lay.f, dolmenref1_Lay.l0]
  simp [wrap64, shr, IntKind.bits, lay8]
/-- Words added one behind the other are their bytes added. -/
theorem addT_append (t : BitVec 32) (a b : List Int) (ha : ∀ c ∈ a, 0 ≤ c ∧ c < 256) (hb : ∀ c ∈ b, 0 ≤ c ∧ c < 256) : addT (addT (t.toNat : Int) a) b = addT (t.toNat : Int) (a ++ b) := by
  have hab : ∀ c ∈ a ++ b, 0 ≤ c ∧ c < 256 := by
    intro c hc
    rcases List.mem_append.1 hc with h | h
    · exact ha c h
    · exact hb c h
  rw [addT_b t a ha, addT_b _ b hb, addT_b t (a ++ b) hab, bytsB_append, BitVec.xor_assoc (bytsB _ a), BitVec.xor_self, BitVec.xor_zero]
theorem addT_nil : addT 0 [] = 0 := by decide +kernel
theorem sum_f (m n : Nat) (hm : m ≤ 600) (hn : n ≤ 9223372036854775807) : ∃ r : Int, dolmenalike_Sum.f 3 (m : Int) [(n : Int)] = some r ∧ (r = ((m + n : Nat) : Int) ∨ r = 1099511627776) := by
  have e1 : wrap64 (1099511627776 - (m : Int)) = 1099511627776 - m := by unfold wrap64; omega
  by_cases h : (n : Int) > 1099511627776 - m
  · refine ⟨1099511627776, ?_, .inr rfl⟩
    rw [dolmenalike_Sum.f, dolmenalike_Sum.l0, if_pos (by simp), if_neg (by clear e1; omega), if_pos (by decide), e1]
    rw [if_pos (show rd [(n : Int)] 0 > _ from h)]
  · have e2 : wrap64 ((m : Int) + n) = ((m + n : Nat) : Int) := by clear e1; unfold wrap64; omega
    refine ⟨_, ?_, .inl rfl⟩
    rw [dolmenalike_Sum.f, dolmenalike_Sum.l0, if_pos (by simp), if_neg (by clear e1 e2; omega), if_pos (by decide), e1]
    rw [if_neg (show ¬ rd [(n : Int)] 0 > _ from h)]
    rw [show wrap64 ((m : Int) + rd [(n : Int)] 0) = ((m + n : Nat) : Int) from e2, dolmenalike_Sum.l0, if_neg (by rw [show wrap64 (0 + 1) = 1 from by unfold wrap64; omega]; simp)]
theorem one_at (W : World) (v : Value) (t : TypeId) (j : Nat) (hj : j < 1) : (W.alloc (.cells #[v] t)).cell? ((⟨W.heap.size, 0, none⟩ : Addr).add j) = some v := by
  obtain rfl : j = 0 := by omega
  exact (At.new W [v] t).cell (j := 0) rfl
theorem lit1 (W : World) (n : Nat) : Kd.C (Kd.int .i64) (W.alloc (.cells #[.int .i64 n] 3)) (some ⟨W.heap.size, 0, none⟩) 1 [(n : Int)] :=
  Kd.C_of_reads (d := (0 : Int)) ⟨rfl, by decide, fun _ => ⟨_, rfl, fun j hj => (one_at W (.int .i64 n) 3 j hj).trans (by have : j = 0 := Nat.lt_one_iff.1 hj; subst this; rfl)⟩⟩
theorem lit8 (W : World) : Kd.C (Kd.int .u8) (W.alloc (.cells #[.int .u8 1] 5)) (some ⟨W.heap.size, 0, none⟩) 1 [1] :=
  Kd.C_of_reads (d := (0 : Int)) ⟨rfl, by decide, fun _ => ⟨_, rfl, fun j hj => (one_at W (.int .u8 1) 5 j hj).trans (by have : j = 0 := Nat.lt_one_iff.1 hj; subst this; rfl)⟩⟩
theorem add_all {st : Int} {all l : List Int} (h : st = addT 0 all) (ha : ∀ c ∈ all, 0 ≤ c ∧ c < 256) (hl : ∀ c ∈ l, 0 ≤ c ∧ c < 256) : addT st l = addT 0 (all ++ l) := by
  rw [h]; exact addT_append 0#32 all l ha hl
theorem add_lay {st : Int} {all : List Int} (h : addT 0 all = st) (ha : ∀ c ∈ all, 0 ≤ c ∧ c < 256) (x : Int) : addT st (lay8 x) = addT 0 (all ++ lay8 x) := add_all h.symm ha (lay8_range x)
theorem range_app {a b : List Int} (ha : ∀ c ∈ a, 0 ≤ c ∧ c < 256) (hb : ∀ c ∈ b, 0 ≤ c ∧ c < 256) : ∀ c ∈ a ++ b, 0 ≤ c ∧ c < 256 := by
  intro c hc
  rcases List.mem_append.1 hc with h | h
  · exact ha c h
  · exact hb c h
/-- A row of a slice of slices that came in. -/
theorem row_at {w : World} {A0 : Option Addr} {ls : List (List Int)} (h : Kd.C (Kd.slice 5 (Kd.int .u8)) w A0 ls.length ls) {k : Nat} (hlt : k < ls.length) :
    ∃ ad A' c', A0 = some ad ∧ ls[k].length ≤ c' ∧ Kd.C (Kd.int .u8) w A' ls[k].length ls[k] ∧ w.cell? (ad.add k) = some (.slice A' ls[k].length c') := by
  obtain ⟨ad, hA, hcell⟩ := h.2.2 (by omega)
  obtain ⟨c, _, ⟨A', c', rfl, hlc, hCl⟩, hck⟩ := hcell k _ (List.getElem?_eq_getElem hlt)
  have hck0 := hck 0 _ rfl
  simp only [show (Kd.slice 5 (Kd.int .u8)).sz = 1 from rfl, Nat.mul_one, Nat.add_zero] at hck0
  exact ⟨ad, A', c', hA, hlc, hCl, hck0⟩
theorem ptr_info : ∃ j, Try.prog.info? 27 = some j := ⟨_, Option.eq_some_of_isSome (by kernel_rfl)⟩
theorem pieces_calls (A0 : Option Addr) (c0 : Nat) (ls : List (List Int)) (A1 : Option Addr) (c1 : Nat) (ws : List Int) (w : World)
    (hr0 : Kd.C (Kd.slice 5 (Kd.int .u8)) w A0 ls.length ls) (hc0 : ls.length ≤ c0) (hr1 : Kd.C (Kd.int .u64) w A1 ws.length ws) (hc1 : ws.length ≤ c1)
    (hb : ∀ l ∈ ls, ∀ c ∈ l, 0 ≤ c ∧ c < 256) :
    Calls Try.prog 3 #[.slice A0 ls.length c0, .slice A1 ws.length c1] w fun e w' => e = .returned (.bool true) ∧ Below w.heap.size w w' := by
  obtain ⟨jt, hjt⟩ := ptr_info
  have hne : ∀ (a : Addr) (W : World), (binOp .neq 30 (.pointer (some a)) (.pointer (some a))).run Try.prog W = .ok (.bool false) W := fun a W => Go.Lib.run_neq_ptr_same W a Try.underlying30 hjt
  have hl0 : ls.length ≤ 9223372036854775807 := hr0.2.1
  have hl1 : ws.length ≤ 9223372036854775807 := hr1.2.1
  have HR0 := Lib.hid hr0
  have HR1 := Lib.hid hr1
  have HB0 := Lib.hid hb
  clear hr0 hr1 hb
  by_cases g : ls.length ≤ 50 ∧ ws.length ≤ 50
  · obtain ⟨g1, g2⟩ := g
    go_enter Try.func3, Try.ntmps3
    go_wp2
    go_loopw [5, 8, 9] (fun n v i wl => ∃ (k : Nat) (m : Nat) (all : List Int) (st tt : Int), k ≤ ls.length ∧ i = .int .i64 k ∧ n = .int .i64 m ∧ m ≤ 600 ∧ all.length ≤ m + 8 * k ∧
        Hid (At wl w.heap.size [.int .u32 st] 27 ∧ At wl (w.heap.size + 1) [.int .u32 tt] 27) ∧
        Hid (Kd.R (Kd.int .u8) 5 wl w.heap.size (fun q => q ≠ w.heap.size ∧ q ≠ w.heap.size + 1) v all) ∧ Hid (st = addT 0 all) ∧ Hid (∀ c ∈ all, 0 ≤ c ∧ c < 256) ∧ Hid (Below w.heap.size w wl)) (fun _ _ i _ => ls.length - (intOf i).toNat)
    case atStart => exact ⟨0, 0, [], 0, 0, by omega, rfl, rfl, by omega, by simp, Lib.hid ⟨(At.new w [.int .u32 0] 27).alloc _, by have := At.new (w.alloc (.cells #[.int .u32 0] 27)) [.int .u32 0] 27; simpa using this⟩, Lib.hid (Kd.R_nil _ _ _ _ _), Lib.hid addT_nil.symm, Lib.hid (by simp), Lib.hid (below_alloc (below_alloc (Below.refl _ _) _) _)⟩
    case round =>
      obtain ⟨k, m, all, st, tt, hk, rfl, rfl, hm, hall, HA, HO, HST, HRG, HB⟩ := hrel
      by_cases hlt : k < ls.length
      · obtain ⟨ad, A', c', hA, hlc, hCl, hck⟩ := row_at HR0.out hlt
        subst hA
        have hlen : ls[k].length ≤ 9223372036854775807 := hCl.2.1
        have HLR := Lib.hid (HB0.out _ (List.getElem_mem hlt))
        obtain ⟨l, hl⟩ : ∃ l, l = ls[k] := ⟨_, rfl⟩
        rw [← hl] at hck hlc hlen hCl HLR
        have HL := Lib.hid hl
        have HCL := Lib.hid hCl
        have HCK := Lib.hid hck
        clear hl hCl hck
        obtain ⟨m', hm', hcase⟩ := sum_f m l.length hm hlen
        have ck0 := pw_cell_below HB.out HCK.out
        go_wp2_with fail
        refine (dolmenalike_Sum.calls 3 m _ 1 [(l.length : Int)] m' _ (lit1 wr l.length) (by simp) hm').mono ?_
        rintro e w1 ⟨rfl, ⟨nd, rfl⟩⟩
        have HB1 := Lib.hid (pw_below_drewN (below_alloc HB.out (.cells #[.int .i64 l.length] 3)) nd)
        have HO1 := Lib.hid (Kd.R_drewN (Kd.R_alloc HO.out (.cells #[.int .i64 l.length] 3)) nd)
        have HA1 := Lib.hid (⟨(HA.out.1.alloc (.cells #[.int .i64 l.length] 3)).drewN nd, (HA.out.2.alloc (.cells #[.int .i64 l.length] 3)).drewN nd⟩ : At _ w.heap.size _ _ ∧ At _ (w.heap.size + 1) _ _)
        clear HB HO HA ck0
        generalize (wr.alloc (.cells #[.int .i64 l.length] 3)).drewN nd = W1 at *
        by_cases hbig : m' > 600
        · go_wp2_with fail
          refine (dolmenlaw2_awake.calls true W1 rfl).mono ?_
          rintro e w2 ⟨rfl, hb2⟩
          have HB2 := Lib.hid (below_then HB1.out (Nat.le_trans HB1.out.size (Nat.le_refl _)) hb2)
          clear hb2
          go_wp2
          go_ret
          exact ⟨rfl, HB2.out⟩
        · obtain ⟨rfl, hm6⟩ : m' = ((m + l.length : Nat) : Int) ∧ m + l.length ≤ 600 := by omega
          have ck1 := pw_cell_below HB1.out HCK.out
          go_wp2_with fail
          refine (add_calls w.heap.size st A' c' l W1 (HA1.out.1.cell rfl) (HA1.out.1.frozen 0) (Kd.C_below HCL.out HB1.out)).mono ?_
          rintro e w2 ⟨rfl, rfl⟩
          have HB2 := Lib.hid (below_set (j := 0) (v := .int .u32 (addT st l)) HB1.out (Nat.le_refl _))
          have HO2 := Lib.hid (Kd.R_far HO1.out (p := ⟨w.heap.size, 0, none⟩) (fun q hq => hq.1) (.int .u32 (addT st l)))
          have HA2 := Lib.hid (⟨HA1.out.1.set 0 (.int .u32 (addT st l)), HA1.out.2.other ⟨w.heap.size, 0, none⟩ (.int .u32 (addT st l)) (by simp)⟩ : At _ w.heap.size [.int .u32 (addT st l)] _ ∧ At _ (w.heap.size + 1) _ _)
          clear HB1 HO1 HA1 ck1
          generalize W1.setCell ⟨w.heap.size, 0, none⟩ (.int .u32 (addT st l)) = W2 at *
          go_wp2_with fail
          refine (add_calls (w.heap.size + 1) tt _ 1 [1] _ ((HA2.out.2.alloc (.cells #[.int .u8 1] 5)).cell rfl) ((HA2.out.2.alloc (.cells #[.int .u8 1] 5)).frozen 0) (lit8 W2)).mono ?_
          rintro e w3 ⟨rfl, rfl⟩
          have HB3 := Lib.hid (below_set (j := 0) (v := .int .u32 (addT tt [1])) (below_alloc HB2.out (.cells #[.int .u8 1] 5)) (show w.heap.size ≤ w.heap.size + 1 by omega))
          have HO3 := Lib.hid (Kd.R_far (Kd.R_alloc HO2.out (.cells #[.int .u8 1] 5)) (p := ⟨w.heap.size + 1, 0, none⟩) (fun q hq => hq.2) (.int .u32 (addT tt [1])))
          have HA3 := Lib.hid (⟨(HA2.out.1.alloc (.cells #[.int .u8 1] 5)).other ⟨w.heap.size + 1, 0, none⟩ (.int .u32 (addT tt [1])) (by simp), (HA2.out.2.alloc (.cells #[.int .u8 1] 5)).set 0 (.int .u32 (addT tt [1]))⟩ : At _ w.heap.size [.int .u32 (addT st l)] _ ∧ At _ (w.heap.size + 1) [.int .u32 (addT tt [1])] _)
          clear HB2 HO2 HA2
          generalize (W2.alloc (.cells #[.int .u8 1] 5)).setCell ⟨w.heap.size + 1, 0, none⟩ (.int .u32 (addT tt [1])) = W3 at *
          have ck3 := pw_cell_below HB3.out HCK.out
          have hfr : ∀ q, W3.heap.size ≤ q → q ≠ w.heap.size ∧ q ≠ w.heap.size + 1 := fun q hq => ⟨by have := HA3.out.1.lt; omega, by have := HA3.out.2.lt; omega⟩
          have hsz3 : w.heap.size ≤ W3.heap.size := Nat.le_of_lt HA3.out.1.lt
          have HFR := Lib.hid hfr
          clear hfr
          obtain ⟨st4, hs4⟩ : ∃ q, addT st l = q := ⟨_, rfl⟩
          rw [hs4] at HA3
          obtain ⟨all4, he4⟩ : ∃ q, q = all ++ l := ⟨_, rfl⟩
          have hl4 : all4.length ≤ m + l.length + 8 * k := by rw [he4, List.length_append]; omega
          have HE4 := Lib.hid he4
          have HS4 := Lib.hid (show st4 = addT 0 all4 by rw [he4]; exact hs4.symm.trans (add_all HST.out HRG.out HLR.out))
          have HRG4 := Lib.hid (show ∀ c ∈ all4, 0 ≤ c ∧ c < 256 by rw [he4]; exact range_app HRG.out HLR.out)
          clear hs4 he4
          by_cases hkw : k < ws.length
          · obtain ⟨ad1, hA1, hcell1⟩ := (Kd.reads_of_C (d := (0 : Int)) HR1.out).2.2 (by omega)
            subst hA1
            obtain ⟨x, hx⟩ : ∃ x, ws.getD k 0 = x := ⟨_, rfl⟩
            have hw0 := hcell1 k hkw
            rw [hx] at hw0
            have HW0 := Lib.hid hw0
            clear hcell1 hw0 hx
            go_wp2_with (first | ((with_reducible refine gate_builtin (b := .append) (xs := #[.tmp 47, .tmp 51]) rfl ?_); at_builtin; refine Kd.R_append_rows (Kd.int .u8) (w0 := w) w.heap.size rfl (.tmp 47) (.tmp 51) 28 5 (.int .u8 0) 1 rfl Try.underlying28 info5 rfl (by decide) (by omega) u8 all l _ _ _ (fun q => q ≠ w.heap.size ∧ q ≠ w.heap.size + 1) (fun _ => False) rfl rfl ?aO ?aR (fun _ _ h => h) (fun _ h => h.elim) ?aF ?aB ?aS ?aL ?_; (case aO => exact HO3.out); (case aR => exact Kd.C_below HCL.out HB3.out); (case aF => exact HFR.out); (case aB => exact HB3.out); (case aS => exact hsz3); (case aL => omega); intro v4 W4 ho4 hb4 hg4 hat4; rw [← HE4.out] at ho4; have HO4 := Lib.hid ho4; have HB4 := Lib.hid hb4; have cw4 := pw_cell_below hb4 HW0.out; have HA4 := Lib.hid (⟨HA3.out.1.grown hg4 (Kd.R_away HO3.out (fun q hq => hq.1)), HA3.out.2.grown hg4 (Kd.R_away HO3.out (fun q hq => hq.2))⟩ : At _ w.heap.size [.int .u32 st4] _ ∧ At _ (w.heap.size + 1) [.int .u32 (addT tt [1])] _); clear ho4 hb4 hg4 hat4 HO3 HB3 HA3 ck3 HFR hsz3))
            refine (word_calls w.heap.size st4 x W4 (HA4.out.1.cell rfl) (HA4.out.1.frozen 0) HA4.out.1.lt).mono ?_
            rintro e w5 ⟨rfl, w6, hb6, rfl⟩
            have HB5 := Lib.hid (below_set (j := 0) (v := .int .u32 (addT st4 (lay8 x))) (below_then HB4.out (Nat.le_of_lt HA4.out.1.lt) hb6) (Nat.le_refl _))
            have HO5 := Lib.hid (Kd.R_far (Kd.R_below HO4.out hb6) (p := ⟨w.heap.size, 0, none⟩) (fun q hq => hq.1) (.int .u32 (addT st4 (lay8 x))))
            have HA5 := Lib.hid (⟨(HA4.out.1.below' hb6).set 0 (.int .u32 (addT st4 (lay8 x))), (HA4.out.2.below' hb6).other ⟨w.heap.size, 0, none⟩ (.int .u32 (addT st4 (lay8 x))) (by simp)⟩ : At _ w.heap.size [.int .u32 (addT st4 (lay8 x))] _ ∧ At _ (w.heap.size + 1) [.int .u32 (addT tt [1])] _)
            clear hb6 HB4 HO4 HA4 cw4
            generalize w6.setCell ⟨w.heap.size, 0, none⟩ (.int .u32 (addT st4 (lay8 x))) = W5 at *
            have cw5 := pw_cell_below HB5.out HW0.out
            go_wp2_with fail
            refine (dolmenref1_Lay.calls 9 x (lay8 x) W5 (lay_eight x)).mono ?_
            rintro e W6 ⟨v6, rfl, hv6, hb6⟩
            obtain ⟨A6, c6, rfl, hcap6, hC6⟩ := Kd.R_reads hv6
            have HB6 := Lib.hid (below_then HB5.out (Nat.le_of_lt HA5.out.1.lt) hb6)
            have HO6 := Lib.hid (Kd.R_below HO5.out hb6)
            have HA6 := Lib.hid (⟨HA5.out.1.below' hb6, HA5.out.2.below' hb6⟩ : At _ w.heap.size [.int .u32 (addT st4 (lay8 x))] _ ∧ At _ (w.heap.size + 1) [.int .u32 (addT tt [1])] _)
            have HC6 := Lib.hid hC6
            clear hv6 hb6 hC6 HB5 HO5 HA5 cw5
            have hfr6 : ∀ q, W6.heap.size ≤ q → q ≠ w.heap.size ∧ q ≠ w.heap.size + 1 := fun q hq => ⟨by have := HA6.out.1.lt; omega, by have := HA6.out.2.lt; omega⟩
            have hsz6 : w.heap.size ≤ W6.heap.size := Nat.le_of_lt HA6.out.1.lt
            have HFR6 := Lib.hid hfr6
            clear hfr6
            have h8 : (lay8 x).length = 8 := rfl
            obtain ⟨all7, he7⟩ : ∃ q, q = all4 ++ lay8 x := ⟨_, rfl⟩
            have hl7 : all7.length = all4.length + 8 := by rw [he7, List.length_append, h8]
            have hl7' : all7.length ≤ m + l.length + 8 * (k + 1) := by omega
            clear hl7 h8
            have HE7 := Lib.hid he7
            have h8 : (lay8 x).length ≤ 8 := Nat.le_refl _
            obtain ⟨st7, hs7⟩ : ∃ q, addT st4 (lay8 x) = q := ⟨_, rfl⟩
            rw [hs7] at HA6
            have HS7 := Lib.hid (show addT 0 all7 = st7 by rw [he7]; exact (add_lay HS4.out.symm HRG4.out x).symm.trans hs7)
            have HRG7 := Lib.hid (show ∀ c ∈ all7, 0 ≤ c ∧ c < 256 by rw [he7]; exact range_app HRG4.out (lay8_range x))
            clear he7
            clear hs7
            go_wp2_with (first | ((with_reducible refine gate_builtin (b := .append) (xs := #[.tmp 62, .tmp 67]) rfl ?_); at_builtin; refine Kd.R_append_rows (Kd.int .u8) (w0 := w) w.heap.size rfl (.tmp 62) (.tmp 67) 28 5 (.int .u8 0) 1 rfl Try.underlying28 info5 rfl (by decide) (by omega) v4 all4 (lay8 x) _ _ _ (fun q => q ≠ w.heap.size ∧ q ≠ w.heap.size + 1) (fun _ => False) rfl rfl ?aO ?aR (fun _ _ h => h) (fun _ h => h.elim) ?aF ?aB ?aS ?aL ?_; (case aO => exact HO6.out); (case aR => exact HC6.out); (case aF => exact HFR6.out); (case aB => exact HB6.out); (case aS => exact hsz6); (case aL => omega); intro v7 W7 ho7 hb7 hg7 hat7; rw [← HE7.out] at ho7; have HO7 := Lib.hid ho7; have HB7 := Lib.hid hb7; have HA7 := Lib.hid (⟨HA6.out.1.grown hg7 (Kd.R_away HO6.out (fun q hq => hq.1)), HA6.out.2.grown hg7 (Kd.R_away HO6.out (fun q hq => hq.2))⟩ : At _ w.heap.size [.int .u32 st7] _ ∧ At _ (w.heap.size + 1) [.int .u32 (addT tt [1])] _); clear ho7 hb7 hg7 hat7 HO6 HB6 HA6 HFR6 hsz6))

            obtain ⟨A5, c5, rfl, hcap5, hC5⟩ := Kd.R_reads HO7.out
            have HC5 := Lib.hid hC5
            clear hC5
            have hself : (st7 != st7) = false := bne_self_eq_false _
            go_wp2_with fail
            refine (sum_calls w.heap.size st7 W7 (HA7.out.1.cell rfl)).mono ?_
            rintro e w' ⟨rfl, rfl⟩
            go_wp2_with fail
            refine (crc_Of.calls A5 c5 all7 st7 _ HC5.out hcap5 (by rw [crc_Of.f, HS7.out])).mono ?_
            rintro e W9 ⟨rfl, hb9⟩
            have HB9 := Lib.hid (below_then HB7.out (Nat.le_of_lt HA7.out.1.lt) hb9)
            have HO9 := Lib.hid (Kd.R_below HO7.out hb9)
            have HA9 := Lib.hid (⟨HA7.out.1.below' hb9, HA7.out.2.below' hb9⟩ : At _ w.heap.size [.int .u32 st7] _ ∧ At _ (w.heap.size + 1) [.int .u32 (addT tt [1])] _)
            clear hb9 HB7 HO7 HA7 HC5
            go_wp2
            go_roundw
            case rel => exact ⟨k + 1, m + l.length, all7, st7, addT tt [1], by omega, by go_num, by go_num, by omega, by omega, HA9, HO9, (Lib.hid HS7.out.symm), HRG7, HB9⟩
            case measure => simp [intOf]; omega
          · go_wp2_with (first | ((with_reducible refine gate_builtin (b := .append) (xs := #[.tmp 47, .tmp 51]) rfl ?_); at_builtin; refine Kd.R_append_rows (Kd.int .u8) (w0 := w) w.heap.size rfl (.tmp 47) (.tmp 51) 28 5 (.int .u8 0) 1 rfl Try.underlying28 info5 rfl (by decide) (by omega) u8 all l _ _ _ (fun q => q ≠ w.heap.size ∧ q ≠ w.heap.size + 1) (fun _ => False) rfl rfl ?aO ?aR (fun _ _ h => h) (fun _ h => h.elim) ?aF ?aB ?aS ?aL ?_; (case aO => exact HO3.out); (case aR => exact Kd.C_below HCL.out HB3.out); (case aF => exact HFR.out); (case aB => exact HB3.out); (case aS => exact hsz3); (case aL => omega); intro v4 W4 ho4 hb4 hg4 hat4; rw [← HE4.out] at ho4; have HO4 := Lib.hid ho4; have HB4 := Lib.hid hb4; have HA4 := Lib.hid (⟨HA3.out.1.grown hg4 (Kd.R_away HO3.out (fun q hq => hq.1)), HA3.out.2.grown hg4 (Kd.R_away HO3.out (fun q hq => hq.2))⟩ : At _ w.heap.size [.int .u32 st4] _ ∧ At _ (w.heap.size + 1) [.int .u32 (addT tt [1])] _); clear ho4 hb4 hg4 hat4 HO3 HB3 HA3 ck3 HFR hsz3))

            obtain ⟨A5, c5, rfl, hcap5, hC5⟩ := Kd.R_reads HO4.out
            have HC5 := Lib.hid hC5
            clear hC5
            have hself : (st4 != st4) = false := bne_self_eq_false _
            go_wp2_with fail
            refine (sum_calls w.heap.size st4 W4 (HA4.out.1.cell rfl)).mono ?_
            rintro e w' ⟨rfl, rfl⟩
            go_wp2_with fail
            refine (crc_Of.calls A5 c5 all4 st4 _ HC5.out hcap5 (by rw [crc_Of.f, HS4.out])).mono ?_
            rintro e W9 ⟨rfl, hb9⟩
            have HB9 := Lib.hid (below_then HB4.out (Nat.le_of_lt HA4.out.1.lt) hb9)
            have HO9 := Lib.hid (Kd.R_below HO4.out hb9)
            have HA9 := Lib.hid (⟨HA4.out.1.below' hb9, HA4.out.2.below' hb9⟩ : At _ w.heap.size [.int .u32 st4] _ ∧ At _ (w.heap.size + 1) [.int .u32 (addT tt [1])] _)
            clear hb9 HB4 HO4 HA4 HC5
            go_wp2
            go_roundw
            case rel => exact ⟨k + 1, m + l.length, all4, st4, addT tt [1], by omega, by go_num, by go_num, by omega, by omega, HA9, HO9, HS4, HRG4, HB9⟩
            case measure => simp [intOf]; omega
      · obtain rfl : k = ls.length := by omega
        go_wp2_with fail
        refine (dolmenlaw2_awake.calls true wr rfl).mono ?_
        rintro e w2 ⟨rfl, hb2⟩
        have HB2 := Lib.hid (below_then HB.out (Nat.le_of_lt HA.out.1.lt) hb2)
        clear hb2
        go_wp2
        go_ret
        exact ⟨rfl, HB2.out⟩
  · by_cases g1 : ls.length ≤ 50
    · have g2 : ¬ ws.length ≤ 50 := fun h => g ⟨g1, h⟩
      clear g
      go_enter Try.func3, Try.ntmps3
      go_wp2_with fail
      refine (dolmenlaw2_awake.calls true w rfl).mono ?_
      rintro e w2 ⟨rfl, hb2⟩
      have HB2 := Lib.hid hb2
      clear hb2
      go_wp2
      go_ret
      exact ⟨rfl, HB2.out⟩
    · clear g
      go_enter Try.func3, Try.ntmps3
      go_wp2_with fail
      refine (dolmenlaw2_awake.calls true w rfl).mono ?_
      rintro e w2 ⟨rfl, hb2⟩
      have HB2 := Lib.hid hb2
      clear hb2
      go_wp2
      go_ret
      exact ⟨rfl, HB2.out⟩
end Go.Proofs.Ytafefcogpdacoaa.PCrcPieces
