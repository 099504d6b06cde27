/- Functions of the given program told as plain Lean functions, and that the code does what they tell: written by a program of this session over the print of the kit, with some contracts proved by hand. Conditions: those typed at each theorem. -/
import Derived.Test.YtcmgdnhllkfjcaaProg
import Derived.Below
import Derived.Deep.Draws
import Derived.Deep.AppendLies
import Derived.Maps.AppendAt
import Derived.OwnWalk
import Derived.Laws.BytesArg
import Derived.Laws.MakeOwn
import Derived.Laws.OwnMore
import Derived.Deep.OwnRows
import Derived.Tactics
import Derived.Lib.ConvBytes
import Derived.Laws.Slices
import Derived.WalkKit
import Derived.KernelRfl
import Derived.RowKit3
import Derived.Deep.LoopGhost
import Derived.Deep.QuietTactic
import Derived.BigQuiet
import Derived.WideLaws
import Derived.Deep.DeepCutAuto
import Derived.Deep.CutBlock
import Derived.Deep.RegionHeld3
import Derived.Laws.Rows
import Derived.Lib.AppendStr
import Derived.ArgAppend
import Derived.Laws.IdiomCopy
import Derived.OrdersHeld
import Derived.Laws.BitsLemmas
import Derived.RowKit
import Derived.LaidEql
import Derived.Stop.Asserts
import Derived.Lib.IfaceEq
import Derived.RowKitTokens
import Derived.Lib.Hide
import Derived.LoopTactic
import Derived.Test.YtcmgdnhllkfjcaaWWords
import Derived.Test.YtcmgdnhllkfjcaaWLast
import Derived.Test.YtcmgdnhllkfjcaaWTab
import Derived.Test.YtcmgdnhllkfjcaaWFour
import Derived.Test.YtcmgdnhllkfjcaaWQPut
import Derived.Test.YtcmgdnhllkfjcaaWApart
import Derived.Test.YtcmgdnhllkfjcaaWArr
import Derived.Test.YtcmgdnhllkfjcaaWZeros
import Derived.Test.YtcmgdnhllkfjcaaWFoot
import Derived.Test.YtcmgdnhllkfjcaaWKept
import Derived.Test.YtcmgdnhllkfjcaaWShare
import Derived.Test.YtcmgdnhllkfjcaaWN
import Derived.Test.YtcmgdnhllkfjcaaWFootNe
import Derived.Test.YtcmgdnhllkfjcaaWAt
import Derived.Test.YtcmgdnhllkfjcaaWEqStruct
import Derived.Test.YtcmgdnhllkfjcaaWRepsOne
import Derived.Test.YtcmgdnhllkfjcaaWInv
import Derived.Test.YtcmgdnhllkfjcaaWInvWords
import Derived.Test.YtcmgdnhllkfjcaaWGuard
import Derived.Test.YtcmgdnhllkfjcaaWNEv
import Derived.Test.YtcmgdnhllkfjcaaWMore
namespace Go.Proofs.Ytcmgdnhllkfjcaa.PRegisPlays
open Go.RowKit Go.Proofs.YtcmgdnhllkfjcaaW.PrintWords Go.Proofs.YtcmgdnhllkfjcaaW.PrintLast Go.Proofs.YtcmgdnhllkfjcaaW.PrintMore
attribute [local go_sem] max2_int min2_int max_two min_two max_three min_three max_four min_four   -- for this text's walks alone
set_option linter.unusedVariables false
set_option linter.unusedSimpArgs false



def errW : Option Int → Value
  | none => .nilIface
  | some c => .iface 56 (.int .i64 c)
theorem errW_none : errW none = .nilIface := rfl
theorem errW_some (c : Int) : errW (some c) = .iface 56 (.int .i64 c) := rfl

theorem info3 : (Try.prog.info? 3).map (fun i => (i.zero, i.size, i.bytes)) = some (some (.int .i64 0), 1, 8) := by kernel_rfl
-- the values' own types
/-! #### struct type 55 -/
structure S55 where
  f0 : Int
  f1 : Int
def z55 : S55 := ⟨(0 : Int), (0 : Int)⟩
def k55 : Kd S55 := Kd.iso (Kd.pair (Kd.int .i64) (Kd.int .i64)) (fun x : S55 => (x.f0, x.f1))
theorem k55_open {w : World} {x : S55} {cs : List Value} (h : k55.K w x cs) : cs = [.int .i64 x.f0, .int .i64 x.f1] := by
  obtain ⟨_, _, rfl, rfl, rfl⟩ := h
  exact rfl
theorem k55_openM {w : World} {base : Nat} {ok : Nat → Prop} {x : S55} {cs : List Value} (h : k55.M w base ok x cs) : cs = [.int .i64 x.f0, .int .i64 x.f1] := by
  obtain ⟨_, _, rfl, rfl, rfl⟩ := h
  exact rfl
theorem k55_mk (w : World) (x : S55)  : k55.K w x [.int .i64 x.f0, .int .i64 x.f1] := ⟨[.int .i64 x.f0], [.int .i64 x.f1], rfl, rfl, rfl⟩
theorem k55_mkM (w : World) (base : Nat) (ok : Nat → Prop) (x : S55)  : k55.M w base ok x [.int .i64 x.f0, .int .i64 x.f1] := ⟨[.int .i64 x.f0], [.int .i64 x.f1], rfl, rfl, rfl⟩
def rd_T55 (xs : List S55) (i : Int) : S55 := xs.getD i.toNat z55
theorem at_T55 {w : World} {A : Option Addr} {n : Nat} {xs : List S55} (h : Kd.C k55 w A n xs) (i : Int) (h0 : 0 ≤ i) (h1 : i < n) : ∃ ad , A = some ad ∧ w.cell? (ad.add (i.toNat * 2)) = some (.int .i64 (rd_T55 xs i).f0) ∧ w.cell? ⟨(ad.add (i.toNat * 2)).block, (ad.add (i.toNat * 2)).off + 1, none⟩ = some (.int .i64 (rd_T55 xs i).f1) := by
  obtain ⟨ad, c, e, _, hK, hc0⟩ := Kd.C_get h z55 i h0 h1
  have hc : ∀ j u, c[j]? = some u → w.cell? (ad.add (i.toNat * 2 + j)) = some u := hc0
  obtain rfl := k55_open hK
  exact ⟨ad, e, hc 0 _ rfl, by rw [← add_field _ _ 1 (by omega)]; exact hc 1 _ rfl⟩

end Go.Proofs.Ytcmgdnhllkfjcaa.PRegisPlays
