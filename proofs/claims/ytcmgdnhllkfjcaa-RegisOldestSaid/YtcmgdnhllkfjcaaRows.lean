/-
  No cell of these rows narrows 'for every input' (looked for: loops, veiled, ifaces, maps, wideKeys, modest, calm, conditions, laid).
  DERIVED. THE GIVEN ROWS OF THIS SEAT. 5 by the template 'for every input the law returns true; each argument reads behind the call as it read before'; 0 by the template 'total and deterministic' (their statements: YtcmgdnhllkfjcaaTotals.lean).
  GIVEN WITH THE SEED: the statements are not yours to turn. If you find one false, say at which input.
  Laid BY PROGRAM, IN A SANDBOX (cutbox-rows.mjs): the forced cells as the released guide's own fill.sh prints them over the translation 4a94eea4fdf797c3… (all of the seat's roots in one cut). By AI agents, Wed Nov 11 2026. No macro, syntax, notation, axiom, sorry.
-/
import Derived.Test.YtcmgdnhllkfjcaaChecked
import GoSem.Claim
import GoSem.ClaimJoined
import GoSem.ClaimMapViews
import Derived.JoinedTies
import Derived.KernelRfl
namespace Go.Proofs.Ytcmgdnhllkfjcaa
/- THE CELL 'sum', in the pinned program and in every row, IS THE sha256 OF THE DUMP (.gsa) THAT YtcmgdnhllkfjcaaProg.lean LOADS. Nothing in Lean hashes anything: it is a label: what it is worth is what the hold of that sum in a sandbox is worth. -/
noncomputable def Try.pinned : Pinned := { name := "ytcmgdnhllkfjcaa", sum := "4a94eea4fdf797c3a13e8cfad73359d6efaf0f1fa29a5ec447ce9b053fe0cab7", checked := Try.checked }
namespace Rows
def none {H : Type} : Left H := { results := [], args := [] }

/-- 'dolmenlaw21.RegisReady': WHATEVER THE INPUT: true; the input reads as it did. -/
def regisReadySpec : ChangeSpec := { name := "regisReady", fn := fun _ => fun
  | [d1, d2] => { results := [.lit (.bool true)], args := [d1, d2] }
  | _ => none }
def regisReadyRow : OpenClaim := { program := "ytcmgdnhllkfjcaa", sum := "4a94eea4fdf797c3a13e8cfad73359d6efaf0f1fa29a5ec447ce9b053fe0cab7", func := "dolmen/dolmenlaw21.RegisReady", spec := "regisReady", inPlace := ["internal/reflectlite.TypeOf"], unfollowed := true, recurses := true, apart := false }
def RegisReadySaid : Prop := regisReadyRow.holds Try.pinned (OpenSpec.ofChange regisReadySpec)

/-- ITS FALSE NEIGHBOUR: 'it returns false'. Refute it at one input. -/
def regisReadyWrong : ChangeSpec := { name := "regisReady", fn := fun _ => fun
  | [d1, d2] => { results := [.lit (.bool false)], args := [d1, d2] }
  | _ => none }
def RegisReadyWrongFalsely : Prop := regisReadyRow.holds Try.pinned (OpenSpec.ofChange regisReadyWrong)

/-- 'dolmenlaw21.RegisLimit': WHATEVER THE INPUT: true; the input reads as it did. -/
def regisLimitSpec : ChangeSpec := { name := "regisLimit", fn := fun _ => fun
  | [d] => { results := [.lit (.bool true)], args := [d] }
  | _ => none }
def regisLimitRow : OpenClaim := { program := "ytcmgdnhllkfjcaa", sum := "4a94eea4fdf797c3a13e8cfad73359d6efaf0f1fa29a5ec447ce9b053fe0cab7", func := "dolmen/dolmenlaw21.RegisLimit", spec := "regisLimit", inPlace := ["internal/reflectlite.TypeOf"], unfollowed := true, recurses := true, apart := false }
def RegisLimitSaid : Prop := regisLimitRow.holds Try.pinned (OpenSpec.ofChange regisLimitSpec)

/-- ITS FALSE NEIGHBOUR: 'it returns false'. Refute it at one input. -/
def regisLimitWrong : ChangeSpec := { name := "regisLimit", fn := fun _ => fun
  | [d] => { results := [.lit (.bool false)], args := [d] }
  | _ => none }
def RegisLimitWrongFalsely : Prop := regisLimitRow.holds Try.pinned (OpenSpec.ofChange regisLimitWrong)

/-- 'dolmenlaw21.RegisOldest': WHATEVER THE INPUT: true; the input reads as it did. -/
def regisOldestSpec : ChangeSpec := { name := "regisOldest", fn := fun _ => fun
  | [d] => { results := [.lit (.bool true)], args := [d] }
  | _ => none }
def regisOldestRow : OpenClaim := { program := "ytcmgdnhllkfjcaa", sum := "4a94eea4fdf797c3a13e8cfad73359d6efaf0f1fa29a5ec447ce9b053fe0cab7", func := "dolmen/dolmenlaw21.RegisOldest", spec := "regisOldest", inPlace := ["internal/reflectlite.TypeOf"], unfollowed := true, recurses := true, apart := false }
def RegisOldestSaid : Prop := regisOldestRow.holds Try.pinned (OpenSpec.ofChange regisOldestSpec)

/-- ITS FALSE NEIGHBOUR: 'it returns false'. Refute it at one input. -/
def regisOldestWrong : ChangeSpec := { name := "regisOldest", fn := fun _ => fun
  | [d] => { results := [.lit (.bool false)], args := [d] }
  | _ => none }
def RegisOldestWrongFalsely : Prop := regisOldestRow.holds Try.pinned (OpenSpec.ofChange regisOldestWrong)

/-- 'dolmenlaw21.RegisPlays': WHATEVER THE INPUT: true; the input reads as it did. -/
def regisPlaysSpec : ChangeSpec := { name := "regisPlays", fn := fun _ => fun
  | [d1, d2] => { results := [.lit (.bool true)], args := [d1, d2] }
  | _ => none }
def regisPlaysRow : OpenClaim := { program := "ytcmgdnhllkfjcaa", sum := "4a94eea4fdf797c3a13e8cfad73359d6efaf0f1fa29a5ec447ce9b053fe0cab7", func := "dolmen/dolmenlaw21.RegisPlays", spec := "regisPlays", inPlace := ["internal/reflectlite.TypeOf"], unfollowed := true, recurses := true, apart := false }
def RegisPlaysSaid : Prop := regisPlaysRow.holds Try.pinned (OpenSpec.ofChange regisPlaysSpec)

/-- ITS FALSE NEIGHBOUR: 'it returns false'. Refute it at one input. -/
def regisPlaysWrong : ChangeSpec := { name := "regisPlays", fn := fun _ => fun
  | [d1, d2] => { results := [.lit (.bool false)], args := [d1, d2] }
  | _ => none }
def RegisPlaysWrongFalsely : Prop := regisPlaysRow.holds Try.pinned (OpenSpec.ofChange regisPlaysWrong)

/-- 'dolmenlaw21.RegisNothing': WHATEVER THE INPUT: true; the input reads as it did. -/
def regisNothingSpec : ChangeSpec := { name := "regisNothing", fn := fun _ => fun
  | [d] => { results := [.lit (.bool true)], args := [d] }
  | _ => none }
def regisNothingRow : OpenClaim := { program := "ytcmgdnhllkfjcaa", sum := "4a94eea4fdf797c3a13e8cfad73359d6efaf0f1fa29a5ec447ce9b053fe0cab7", func := "dolmen/dolmenlaw21.RegisNothing", spec := "regisNothing", inPlace := ["internal/reflectlite.TypeOf"], unfollowed := true, recurses := true, apart := false }
def RegisNothingSaid : Prop := regisNothingRow.holds Try.pinned (OpenSpec.ofChange regisNothingSpec)

/-- ITS FALSE NEIGHBOUR: 'it returns false'. Refute it at one input. -/
def regisNothingWrong : ChangeSpec := { name := "regisNothing", fn := fun _ => fun
  | [d] => { results := [.lit (.bool false)], args := [d] }
  | _ => none }
def RegisNothingWrongFalsely : Prop := regisNothingRow.holds Try.pinned (OpenSpec.ofChange regisNothingWrong)

/- THE SECOND FORM. 'bulk': how many values and letters a reading holds, each counted each time it is reached (what is shared counts as often as it is met; a slice's spare places count too). A statement '..UptoSaid' is the law's where the arguments, and the package variables that the reading takes, are together of bulk at most 1048576: NARROWER than '..Said'. Prove '..Said' where nothing that the law and all that it calls make is longer than what came in: it says more and counts as full. Else prove '..UptoSaid'. A law counts once. -/
mutual
def uptoBulk {H : Type} : DataW H → Nat
  | .lit (.string bytes) => bytes.length + 1
  | .lit _ => 1
  | .nil => 1
  | .ptr d => uptoBulk d + 1
  | .slice elems spare => uptoBulkAll elems + uptoBulkAll spare + 1
  | .agg parts => uptoBulkAll parts + 1
  | .iface _ d => uptoBulk d + 1
  | .map entries => uptoBulkEntries entries + 1
  | .held _ => 1
def uptoBulkAll {H : Type} : List (DataW H) → Nat
  | [] => 0
  | d :: r => uptoBulk d + uptoBulkAll r
def uptoBulkEntries {H : Type} : List (Lit × DataW H) → Nat
  | [] => 0
  | x :: r => uptoBulkEntry x + uptoBulkEntries r
def uptoBulkEntry {H : Type} : Lit × DataW H → Nat
  | (.string bytes, d) => bytes.length + uptoBulk d + 1
  | (_, d) => uptoBulk d + 1
 end
def uptoSmall : (H : Type) → List (DataW H) → Bool := fun _ ds => decide (uptoBulkAll ds ≤ 1048576)
def OpenSpec.upto (s : _root_.Go.ChangeSpec) : _root_.Go.OpenSpec := { _root_.Go.OpenSpec.ofChange s with cond := some uptoSmall }

/-- 'dolmenlaw21.RegisReady', WHERE WHAT IT READS IS OF BULK AT MOST 1048576: true; the input reads as it did. -/
def regisReadyUptoRow : OpenClaim := { program := "ytcmgdnhllkfjcaa", sum := "4a94eea4fdf797c3a13e8cfad73359d6efaf0f1fa29a5ec447ce9b053fe0cab7", func := "dolmen/dolmenlaw21.RegisReady", spec := "regisReady", inPlace := ["internal/reflectlite.TypeOf"], unfollowed := true, recurses := true, apart := false, narrowed := true }
def RegisReadyUptoSaid : Prop := regisReadyUptoRow.holds Try.pinned (OpenSpec.upto regisReadySpec)

/-- 'dolmenlaw21.RegisLimit', WHERE WHAT IT READS IS OF BULK AT MOST 1048576: true; the input reads as it did. -/
def regisLimitUptoRow : OpenClaim := { program := "ytcmgdnhllkfjcaa", sum := "4a94eea4fdf797c3a13e8cfad73359d6efaf0f1fa29a5ec447ce9b053fe0cab7", func := "dolmen/dolmenlaw21.RegisLimit", spec := "regisLimit", inPlace := ["internal/reflectlite.TypeOf"], unfollowed := true, recurses := true, apart := false, narrowed := true }
def RegisLimitUptoSaid : Prop := regisLimitUptoRow.holds Try.pinned (OpenSpec.upto regisLimitSpec)

/-- 'dolmenlaw21.RegisOldest', WHERE WHAT IT READS IS OF BULK AT MOST 1048576: true; the input reads as it did. -/
def regisOldestUptoRow : OpenClaim := { program := "ytcmgdnhllkfjcaa", sum := "4a94eea4fdf797c3a13e8cfad73359d6efaf0f1fa29a5ec447ce9b053fe0cab7", func := "dolmen/dolmenlaw21.RegisOldest", spec := "regisOldest", inPlace := ["internal/reflectlite.TypeOf"], unfollowed := true, recurses := true, apart := false, narrowed := true }
def RegisOldestUptoSaid : Prop := regisOldestUptoRow.holds Try.pinned (OpenSpec.upto regisOldestSpec)

/-- 'dolmenlaw21.RegisPlays', WHERE WHAT IT READS IS OF BULK AT MOST 1048576: true; the input reads as it did. -/
def regisPlaysUptoRow : OpenClaim := { program := "ytcmgdnhllkfjcaa", sum := "4a94eea4fdf797c3a13e8cfad73359d6efaf0f1fa29a5ec447ce9b053fe0cab7", func := "dolmen/dolmenlaw21.RegisPlays", spec := "regisPlays", inPlace := ["internal/reflectlite.TypeOf"], unfollowed := true, recurses := true, apart := false, narrowed := true }
def RegisPlaysUptoSaid : Prop := regisPlaysUptoRow.holds Try.pinned (OpenSpec.upto regisPlaysSpec)

/-- 'dolmenlaw21.RegisNothing', WHERE WHAT IT READS IS OF BULK AT MOST 1048576: true; the input reads as it did. -/
def regisNothingUptoRow : OpenClaim := { program := "ytcmgdnhllkfjcaa", sum := "4a94eea4fdf797c3a13e8cfad73359d6efaf0f1fa29a5ec447ce9b053fe0cab7", func := "dolmen/dolmenlaw21.RegisNothing", spec := "regisNothing", inPlace := ["internal/reflectlite.TypeOf"], unfollowed := true, recurses := true, apart := false, narrowed := true }
def RegisNothingUptoSaid : Prop := regisNothingUptoRow.holds Try.pinned (OpenSpec.upto regisNothingSpec)

end Rows
end Go.Proofs.Ytcmgdnhllkfjcaa
