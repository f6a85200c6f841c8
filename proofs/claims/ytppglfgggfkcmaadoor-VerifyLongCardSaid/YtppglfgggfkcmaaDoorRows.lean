/-
  NARROWER THAN 'FOR EVERY INPUT', by the rows' own cells (each row's printed sentence says how): VerifyProofs: laid · VerifyTurned: laid · VerifyLong: laid · VerifyNumbers: laid · VerifyAny: laid · VerifyElse: laid · VerifyTakes: laid · VerifyEvery: laid · VerifyCollides: laid.
  DERIVED. THE GIVEN ROWS OF THIS SEAT. 9 by the template 'for every input the law returns true; each argument reads behind the call as it read before'; 0 by the template 'total and deterministic' (their statements: YtppglfgggfkcmaaDoorTotals.lean).
  GIVEN WITH THE SEED: the statements are not yours to turn. If you find one false, say at which input.
  Laid BY PROGRAM, IN A SANDBOX (cutbox-rows.mjs): the forced cells as the released guide's own fill.sh prints them over the translation 21dfa34360554fd0… (all of the seat's roots in one cut). By AI agents, Wed Nov 11 2026. No macro, syntax, notation, axiom, sorry.
-/
import Derived.Test.YtppglfgggfkcmaaDoorChecked
import GoSem.Claim
import GoSem.ClaimJoined
import GoSem.ClaimMapViews
import Derived.JoinedTies
import Derived.KernelRfl
namespace Go.Proofs.YtppglfgggfkcmaaDoor
/- THE CELL 'sum', in the pinned program and in every row, IS THE sha256 OF THE DUMP (.gsa) THAT YtppglfgggfkcmaaDoorProg.lean LOADS. Nothing in Lean hashes anything: it is a label: what it is worth is what the hold of that sum in a sandbox is worth. -/
noncomputable def Tryd.pinned : Pinned := { name := "ytppglfgggfkcmaadoor", sum := "21dfa34360554fd014b99ae396e5038c88085eddc75259c71eeaaf7292efa852", checked := Tryd.checked }
namespace Rows
def none {H : Type} : Left H := { results := [], args := [] }

/- WHAT THE LISTED PACKAGE-LEVEL VARIABLES READ AS WHEN THE CALL BEGINS. Each datum BY PROGRAM (the guide's laid-datum.mjs) off the statement by which the dump's own 'gosem.cut.vars' lays the variable. In a bare row this is a premise. The card (YtppglfgggfkcmaaDoorCards.lean) ties it to the program's text. -/
def laid_deponent_sha_start {H : Type} : DataW H := .agg [.lit (.int .u32 1779033703), .lit (.int .u32 3144134277), .lit (.int .u32 1013904242), .lit (.int .u32 2773480762), .lit (.int .u32 1359893119), .lit (.int .u32 2600822924), .lit (.int .u32 528734635), .lit (.int .u32 1541459225)]
def laid_deponent_sha_words {H : Type} : DataW H := .agg [.lit (.int .u32 1116352408), .lit (.int .u32 1899447441), .lit (.int .u32 3049323471), .lit (.int .u32 3921009573), .lit (.int .u32 961987163), .lit (.int .u32 1508970993), .lit (.int .u32 2453635748), .lit (.int .u32 2870763221), .lit (.int .u32 3624381080), .lit (.int .u32 310598401), .lit (.int .u32 607225278), .lit (.int .u32 1426881987), .lit (.int .u32 1925078388), .lit (.int .u32 2162078206), .lit (.int .u32 2614888103), .lit (.int .u32 3248222580), .lit (.int .u32 3835390401), .lit (.int .u32 4022224774), .lit (.int .u32 264347078), .lit (.int .u32 604807628), .lit (.int .u32 770255983), .lit (.int .u32 1249150122), .lit (.int .u32 1555081692), .lit (.int .u32 1996064986), .lit (.int .u32 2554220882), .lit (.int .u32 2821834349), .lit (.int .u32 2952996808), .lit (.int .u32 3210313671), .lit (.int .u32 3336571891), .lit (.int .u32 3584528711), .lit (.int .u32 113926993), .lit (.int .u32 338241895), .lit (.int .u32 666307205), .lit (.int .u32 773529912), .lit (.int .u32 1294757372), .lit (.int .u32 1396182291), .lit (.int .u32 1695183700), .lit (.int .u32 1986661051), .lit (.int .u32 2177026350), .lit (.int .u32 2456956037), .lit (.int .u32 2730485921), .lit (.int .u32 2820302411), .lit (.int .u32 3259730800), .lit (.int .u32 3345764771), .lit (.int .u32 3516065817), .lit (.int .u32 3600352804), .lit (.int .u32 4094571909), .lit (.int .u32 275423344), .lit (.int .u32 430227734), .lit (.int .u32 506948616), .lit (.int .u32 659060556), .lit (.int .u32 883997877), .lit (.int .u32 958139571), .lit (.int .u32 1322822218), .lit (.int .u32 1537002063), .lit (.int .u32 1747873779), .lit (.int .u32 1955562222), .lit (.int .u32 2024104815), .lit (.int .u32 2227730452), .lit (.int .u32 2361852424), .lit (.int .u32 2428436474), .lit (.int .u32 2756734187), .lit (.int .u32 3204031479), .lit (.int .u32 3329325298)]

/-- 'deponentlaw9.VerifyProofs': WHATEVER THE INPUT: true; the input reads as it did. -/
def verifyProofsSpec : ChangeSpec := { name := "verifyProofs", fn := fun _ => fun
  | [d1, d2, d3, d4, d5, d6, d7, d8, d9] => { results := [.lit (.bool true)], args := [d1, d2, d3, d4, d5, d6, d7, d8, d9] }
  | _ => none }
def verifyProofsRow : OpenClaim := { program := "ytppglfgggfkcmaadoor", sum := "21dfa34360554fd014b99ae396e5038c88085eddc75259c71eeaaf7292efa852", func := "deponent/deponentlaw9.VerifyProofs", spec := "verifyProofs", named := ["deponent/sha.start", "deponent/sha.words"], apart := false, laid := [("deponent/sha.start", laid_deponent_sha_start), ("deponent/sha.words", laid_deponent_sha_words)] }
def VerifyProofsSaid : Prop := verifyProofsRow.holds Tryd.pinned (OpenSpec.ofChange verifyProofsSpec)

/-- ITS FALSE NEIGHBOUR: 'it returns false'. Refute it at one input. -/
def verifyProofsWrong : ChangeSpec := { name := "verifyProofs", fn := fun _ => fun
  | [d1, d2, d3, d4, d5, d6, d7, d8, d9] => { results := [.lit (.bool false)], args := [d1, d2, d3, d4, d5, d6, d7, d8, d9] }
  | _ => none }
def VerifyProofsWrongFalsely : Prop := verifyProofsRow.holds Tryd.pinned (OpenSpec.ofChange verifyProofsWrong)

/-- 'deponentlaw9.VerifyTurned': WHATEVER THE INPUT: true; the input reads as it did. -/
def verifyTurnedSpec : ChangeSpec := { name := "verifyTurned", fn := fun _ => fun
  | [d1, d2, d3, d4, d5, d6, d7] => { results := [.lit (.bool true)], args := [d1, d2, d3, d4, d5, d6, d7] }
  | _ => none }
def verifyTurnedRow : OpenClaim := { program := "ytppglfgggfkcmaadoor", sum := "21dfa34360554fd014b99ae396e5038c88085eddc75259c71eeaaf7292efa852", func := "deponent/deponentlaw9.VerifyTurned", spec := "verifyTurned", recurses := true, named := ["deponent/sha.start", "deponent/sha.words"], apart := false, laid := [("deponent/sha.start", laid_deponent_sha_start), ("deponent/sha.words", laid_deponent_sha_words)] }
def VerifyTurnedSaid : Prop := verifyTurnedRow.holds Tryd.pinned (OpenSpec.ofChange verifyTurnedSpec)

/-- ITS FALSE NEIGHBOUR: 'it returns false'. Refute it at one input. -/
def verifyTurnedWrong : ChangeSpec := { name := "verifyTurned", fn := fun _ => fun
  | [d1, d2, d3, d4, d5, d6, d7] => { results := [.lit (.bool false)], args := [d1, d2, d3, d4, d5, d6, d7] }
  | _ => none }
def VerifyTurnedWrongFalsely : Prop := verifyTurnedRow.holds Tryd.pinned (OpenSpec.ofChange verifyTurnedWrong)

/-- 'deponentlaw9.VerifyLong': WHATEVER THE INPUT: true; the input reads as it did. -/
def verifyLongSpec : ChangeSpec := { name := "verifyLong", fn := fun _ => fun
  | [d1, d2, d3, d4, d5] => { results := [.lit (.bool true)], args := [d1, d2, d3, d4, d5] }
  | _ => none }
def verifyLongRow : OpenClaim := { program := "ytppglfgggfkcmaadoor", sum := "21dfa34360554fd014b99ae396e5038c88085eddc75259c71eeaaf7292efa852", func := "deponent/deponentlaw9.VerifyLong", spec := "verifyLong", named := ["deponent/sha.start", "deponent/sha.words"], apart := false, laid := [("deponent/sha.start", laid_deponent_sha_start), ("deponent/sha.words", laid_deponent_sha_words)] }
def VerifyLongSaid : Prop := verifyLongRow.holds Tryd.pinned (OpenSpec.ofChange verifyLongSpec)

/-- ITS FALSE NEIGHBOUR: 'it returns false'. Refute it at one input. -/
def verifyLongWrong : ChangeSpec := { name := "verifyLong", fn := fun _ => fun
  | [d1, d2, d3, d4, d5] => { results := [.lit (.bool false)], args := [d1, d2, d3, d4, d5] }
  | _ => none }
def VerifyLongWrongFalsely : Prop := verifyLongRow.holds Tryd.pinned (OpenSpec.ofChange verifyLongWrong)

/-- 'deponentlaw9.VerifyNumbers': WHATEVER THE INPUT: true; the input reads as it did. -/
def verifyNumbersSpec : ChangeSpec := { name := "verifyNumbers", fn := fun _ => fun
  | [] => { results := [.lit (.bool true)], args := [] }
  | _ => none }
def verifyNumbersRow : OpenClaim := { program := "ytppglfgggfkcmaadoor", sum := "21dfa34360554fd014b99ae396e5038c88085eddc75259c71eeaaf7292efa852", func := "deponent/deponentlaw9.VerifyNumbers", spec := "verifyNumbers", named := ["deponent/sha.start", "deponent/sha.words"], apart := false, laid := [("deponent/sha.start", laid_deponent_sha_start), ("deponent/sha.words", laid_deponent_sha_words)] }
def VerifyNumbersSaid : Prop := verifyNumbersRow.holds Tryd.pinned (OpenSpec.ofChange verifyNumbersSpec)

/-- ITS FALSE NEIGHBOUR: 'it returns false'. Refute it at one input. -/
def verifyNumbersWrong : ChangeSpec := { name := "verifyNumbers", fn := fun _ => fun
  | [] => { results := [.lit (.bool false)], args := [] }
  | _ => none }
def VerifyNumbersWrongFalsely : Prop := verifyNumbersRow.holds Tryd.pinned (OpenSpec.ofChange verifyNumbersWrong)

/-- 'deponentlaw9.VerifyAny': WHATEVER THE INPUT: true; the input reads as it did. -/
def verifyAnySpec : ChangeSpec := { name := "verifyAny", fn := fun _ => fun
  | [d1, d2, d3, d4, d5, d6, d7] => { results := [.lit (.bool true)], args := [d1, d2, d3, d4, d5, d6, d7] }
  | _ => none }
def verifyAnyRow : OpenClaim := { program := "ytppglfgggfkcmaadoor", sum := "21dfa34360554fd014b99ae396e5038c88085eddc75259c71eeaaf7292efa852", func := "deponent/deponentlaw9.VerifyAny", spec := "verifyAny", named := ["deponent/sha.start", "deponent/sha.words"], apart := false, laid := [("deponent/sha.start", laid_deponent_sha_start), ("deponent/sha.words", laid_deponent_sha_words)] }
def VerifyAnySaid : Prop := verifyAnyRow.holds Tryd.pinned (OpenSpec.ofChange verifyAnySpec)

/-- ITS FALSE NEIGHBOUR: 'it returns false'. Refute it at one input. -/
def verifyAnyWrong : ChangeSpec := { name := "verifyAny", fn := fun _ => fun
  | [d1, d2, d3, d4, d5, d6, d7] => { results := [.lit (.bool false)], args := [d1, d2, d3, d4, d5, d6, d7] }
  | _ => none }
def VerifyAnyWrongFalsely : Prop := verifyAnyRow.holds Tryd.pinned (OpenSpec.ofChange verifyAnyWrong)

/-- 'deponentlaw9.VerifyElse': WHATEVER THE INPUT: true; the input reads as it did. -/
def verifyElseSpec : ChangeSpec := { name := "verifyElse", fn := fun _ => fun
  | [d1, d2, d3, d4] => { results := [.lit (.bool true)], args := [d1, d2, d3, d4] }
  | _ => none }
def verifyElseRow : OpenClaim := { program := "ytppglfgggfkcmaadoor", sum := "21dfa34360554fd014b99ae396e5038c88085eddc75259c71eeaaf7292efa852", func := "deponent/deponentlaw9.VerifyElse", spec := "verifyElse", unfollowed := true, recurses := true, named := ["deponent/sha.start", "deponent/sha.words"], apart := false, laid := [("deponent/sha.start", laid_deponent_sha_start), ("deponent/sha.words", laid_deponent_sha_words)] }
def VerifyElseSaid : Prop := verifyElseRow.holds Tryd.pinned (OpenSpec.ofChange verifyElseSpec)

/-- ITS FALSE NEIGHBOUR: 'it returns false'. Refute it at one input. -/
def verifyElseWrong : ChangeSpec := { name := "verifyElse", fn := fun _ => fun
  | [d1, d2, d3, d4] => { results := [.lit (.bool false)], args := [d1, d2, d3, d4] }
  | _ => none }
def VerifyElseWrongFalsely : Prop := verifyElseRow.holds Tryd.pinned (OpenSpec.ofChange verifyElseWrong)

/-- 'deponentlaw9.VerifyTakes': WHATEVER THE INPUT: true; the input reads as it did. -/
def verifyTakesSpec : ChangeSpec := { name := "verifyTakes", fn := fun _ => fun
  | [d1, d2, d3, d4] => { results := [.lit (.bool true)], args := [d1, d2, d3, d4] }
  | _ => none }
def verifyTakesRow : OpenClaim := { program := "ytppglfgggfkcmaadoor", sum := "21dfa34360554fd014b99ae396e5038c88085eddc75259c71eeaaf7292efa852", func := "deponent/deponentlaw9.VerifyTakes", spec := "verifyTakes", unfollowed := true, recurses := true, named := ["deponent/sha.start", "deponent/sha.words"], apart := false, laid := [("deponent/sha.start", laid_deponent_sha_start), ("deponent/sha.words", laid_deponent_sha_words)] }
def VerifyTakesSaid : Prop := verifyTakesRow.holds Tryd.pinned (OpenSpec.ofChange verifyTakesSpec)

/-- ITS FALSE NEIGHBOUR: 'it returns false'. Refute it at one input. -/
def verifyTakesWrong : ChangeSpec := { name := "verifyTakes", fn := fun _ => fun
  | [d1, d2, d3, d4] => { results := [.lit (.bool false)], args := [d1, d2, d3, d4] }
  | _ => none }
def VerifyTakesWrongFalsely : Prop := verifyTakesRow.holds Tryd.pinned (OpenSpec.ofChange verifyTakesWrong)

/-- 'deponentlaw9.VerifyEvery': WHATEVER THE INPUT: true; the input reads as it did. -/
def verifyEverySpec : ChangeSpec := { name := "verifyEvery", fn := fun _ => fun
  | [d1, d2, d3] => { results := [.lit (.bool true)], args := [d1, d2, d3] }
  | _ => none }
def verifyEveryRow : OpenClaim := { program := "ytppglfgggfkcmaadoor", sum := "21dfa34360554fd014b99ae396e5038c88085eddc75259c71eeaaf7292efa852", func := "deponent/deponentlaw9.VerifyEvery", spec := "verifyEvery", unfollowed := true, recurses := true, named := ["deponent/sha.start", "deponent/sha.words"], apart := false, laid := [("deponent/sha.start", laid_deponent_sha_start), ("deponent/sha.words", laid_deponent_sha_words)] }
def VerifyEverySaid : Prop := verifyEveryRow.holds Tryd.pinned (OpenSpec.ofChange verifyEverySpec)

/-- ITS FALSE NEIGHBOUR: 'it returns false'. Refute it at one input. -/
def verifyEveryWrong : ChangeSpec := { name := "verifyEvery", fn := fun _ => fun
  | [d1, d2, d3] => { results := [.lit (.bool false)], args := [d1, d2, d3] }
  | _ => none }
def VerifyEveryWrongFalsely : Prop := verifyEveryRow.holds Tryd.pinned (OpenSpec.ofChange verifyEveryWrong)

/-- 'deponentlaw9.VerifyCollides': WHATEVER THE INPUT: true; the input reads as it did. -/
def verifyCollidesSpec : ChangeSpec := { name := "verifyCollides", fn := fun _ => fun
  | [d1, d2, d3] => { results := [.lit (.bool true)], args := [d1, d2, d3] }
  | _ => none }
def verifyCollidesRow : OpenClaim := { program := "ytppglfgggfkcmaadoor", sum := "21dfa34360554fd014b99ae396e5038c88085eddc75259c71eeaaf7292efa852", func := "deponent/deponentlaw9.VerifyCollides", spec := "verifyCollides", unfollowed := true, recurses := true, named := ["deponent/sha.start", "deponent/sha.words"], apart := false, laid := [("deponent/sha.start", laid_deponent_sha_start), ("deponent/sha.words", laid_deponent_sha_words)] }
def VerifyCollidesSaid : Prop := verifyCollidesRow.holds Tryd.pinned (OpenSpec.ofChange verifyCollidesSpec)

/-- ITS FALSE NEIGHBOUR: 'it returns false'. Refute it at one input. -/
def verifyCollidesWrong : ChangeSpec := { name := "verifyCollides", fn := fun _ => fun
  | [d1, d2, d3] => { results := [.lit (.bool false)], args := [d1, d2, d3] }
  | _ => none }
def VerifyCollidesWrongFalsely : Prop := verifyCollidesRow.holds Tryd.pinned (OpenSpec.ofChange verifyCollidesWrong)

/- THE SECOND FORM. 'bulk': how many values and letters a reading holds, each counted each time it is reached (what is shared counts as often as it is met; a slice's spare places count too). A statement '..UptoSaid' is the law's where the arguments, and the package variables that the reading takes, are together of bulk at most 1048576: NARROWER than '..Said'. Prove '..Said' where nothing that the law and all that it calls make is longer than what came in: it says more and counts as full. Else prove '..UptoSaid'. A law counts once. -/
mutual
def uptoBulk {H : Type} : DataW H → Nat
  | .lit (.string bytes) => bytes.length + 1
  | .lit _ => 1
  | .nil => 1
  | .ptr d => uptoBulk d + 1
  | .slice elems spare => uptoBulkAll elems + uptoBulkAll spare + 1
  | .agg parts => uptoBulkAll parts + 1
  | .iface _ d => uptoBulk d + 1
  | .map entries => uptoBulkEntries entries + 1
  | .held _ => 1
def uptoBulkAll {H : Type} : List (DataW H) → Nat
  | [] => 0
  | d :: r => uptoBulk d + uptoBulkAll r
def uptoBulkEntries {H : Type} : List (Lit × DataW H) → Nat
  | [] => 0
  | x :: r => uptoBulkEntry x + uptoBulkEntries r
def uptoBulkEntry {H : Type} : Lit × DataW H → Nat
  | (.string bytes, d) => bytes.length + uptoBulk d + 1
  | (_, d) => uptoBulk d + 1
 end
def uptoSmall : (H : Type) → List (DataW H) → Bool := fun _ ds => decide (uptoBulkAll ds ≤ 1048576)
def OpenSpec.upto (s : _root_.Go.ChangeSpec) : _root_.Go.OpenSpec := { _root_.Go.OpenSpec.ofChange s with cond := some uptoSmall }

/-- 'deponentlaw9.VerifyProofs', WHERE WHAT IT READS IS OF BULK AT MOST 1048576: true; the input reads as it did. -/
def verifyProofsUptoRow : OpenClaim := { program := "ytppglfgggfkcmaadoor", sum := "21dfa34360554fd014b99ae396e5038c88085eddc75259c71eeaaf7292efa852", func := "deponent/deponentlaw9.VerifyProofs", spec := "verifyProofs", named := ["deponent/sha.start", "deponent/sha.words"], apart := false, laid := [("deponent/sha.start", laid_deponent_sha_start), ("deponent/sha.words", laid_deponent_sha_words)], narrowed := true }
def VerifyProofsUptoSaid : Prop := verifyProofsUptoRow.holds Tryd.pinned (OpenSpec.upto verifyProofsSpec)

/-- 'deponentlaw9.VerifyTurned', WHERE WHAT IT READS IS OF BULK AT MOST 1048576: true; the input reads as it did. -/
def verifyTurnedUptoRow : OpenClaim := { program := "ytppglfgggfkcmaadoor", sum := "21dfa34360554fd014b99ae396e5038c88085eddc75259c71eeaaf7292efa852", func := "deponent/deponentlaw9.VerifyTurned", spec := "verifyTurned", recurses := true, named := ["deponent/sha.start", "deponent/sha.words"], apart := false, laid := [("deponent/sha.start", laid_deponent_sha_start), ("deponent/sha.words", laid_deponent_sha_words)], narrowed := true }
def VerifyTurnedUptoSaid : Prop := verifyTurnedUptoRow.holds Tryd.pinned (OpenSpec.upto verifyTurnedSpec)

/-- 'deponentlaw9.VerifyLong', WHERE WHAT IT READS IS OF BULK AT MOST 1048576: true; the input reads as it did. -/
def verifyLongUptoRow : OpenClaim := { program := "ytppglfgggfkcmaadoor", sum := "21dfa34360554fd014b99ae396e5038c88085eddc75259c71eeaaf7292efa852", func := "deponent/deponentlaw9.VerifyLong", spec := "verifyLong", named := ["deponent/sha.start", "deponent/sha.words"], apart := false, laid := [("deponent/sha.start", laid_deponent_sha_start), ("deponent/sha.words", laid_deponent_sha_words)], narrowed := true }
def VerifyLongUptoSaid : Prop := verifyLongUptoRow.holds Tryd.pinned (OpenSpec.upto verifyLongSpec)

/-- 'deponentlaw9.VerifyNumbers', WHERE WHAT IT READS IS OF BULK AT MOST 1048576: true; the input reads as it did. -/
def verifyNumbersUptoRow : OpenClaim := { program := "ytppglfgggfkcmaadoor", sum := "21dfa34360554fd014b99ae396e5038c88085eddc75259c71eeaaf7292efa852", func := "deponent/deponentlaw9.VerifyNumbers", spec := "verifyNumbers", named := ["deponent/sha.start", "deponent/sha.words"], apart := false, laid := [("deponent/sha.start", laid_deponent_sha_start), ("deponent/sha.words", laid_deponent_sha_words)], narrowed := true }
def VerifyNumbersUptoSaid : Prop := verifyNumbersUptoRow.holds Tryd.pinned (OpenSpec.upto verifyNumbersSpec)

/-- 'deponentlaw9.VerifyAny', WHERE WHAT IT READS IS OF BULK AT MOST 1048576: true; the input reads as it did. -/
def verifyAnyUptoRow : OpenClaim := { program := "ytppglfgggfkcmaadoor", sum := "21dfa34360554fd014b99ae396e5038c88085eddc75259c71eeaaf7292efa852", func := "deponent/deponentlaw9.VerifyAny", spec := "verifyAny", named := ["deponent/sha.start", "deponent/sha.words"], apart := false, laid := [("deponent/sha.start", laid_deponent_sha_start), ("deponent/sha.words", laid_deponent_sha_words)], narrowed := true }
def VerifyAnyUptoSaid : Prop := verifyAnyUptoRow.holds Tryd.pinned (OpenSpec.upto verifyAnySpec)

/-- 'deponentlaw9.VerifyElse', WHERE WHAT IT READS IS OF BULK AT MOST 1048576: true; the input reads as it did. -/
def verifyElseUptoRow : OpenClaim := { program := "ytppglfgggfkcmaadoor", sum := "21dfa34360554fd014b99ae396e5038c88085eddc75259c71eeaaf7292efa852", func := "deponent/deponentlaw9.VerifyElse", spec := "verifyElse", unfollowed := true, recurses := true, named := ["deponent/sha.start", "deponent/sha.words"], apart := false, laid := [("deponent/sha.start", laid_deponent_sha_start), ("deponent/sha.words", laid_deponent_sha_words)], narrowed := true }
def VerifyElseUptoSaid : Prop := verifyElseUptoRow.holds Tryd.pinned (OpenSpec.upto verifyElseSpec)

/-- 'deponentlaw9.VerifyTakes', WHERE WHAT IT READS IS OF BULK AT MOST 1048576: true; the input reads as it did. -/
def verifyTakesUptoRow : OpenClaim := { program := "ytppglfgggfkcmaadoor", sum := "21dfa34360554fd014b99ae396e5038c88085eddc75259c71eeaaf7292efa852", func := "deponent/deponentlaw9.VerifyTakes", spec := "verifyTakes", unfollowed := true, recurses := true, named := ["deponent/sha.start", "deponent/sha.words"], apart := false, laid := [("deponent/sha.start", laid_deponent_sha_start), ("deponent/sha.words", laid_deponent_sha_words)], narrowed := true }
def VerifyTakesUptoSaid : Prop := verifyTakesUptoRow.holds Tryd.pinned (OpenSpec.upto verifyTakesSpec)

/-- 'deponentlaw9.VerifyEvery', WHERE WHAT IT READS IS OF BULK AT MOST 1048576: true; the input reads as it did. -/
def verifyEveryUptoRow : OpenClaim := { program := "ytppglfgggfkcmaadoor", sum := "21dfa34360554fd014b99ae396e5038c88085eddc75259c71eeaaf7292efa852", func := "deponent/deponentlaw9.VerifyEvery", spec := "verifyEvery", unfollowed := true, recurses := true, named := ["deponent/sha.start", "deponent/sha.words"], apart := false, laid := [("deponent/sha.start", laid_deponent_sha_start), ("deponent/sha.words", laid_deponent_sha_words)], narrowed := true }
def VerifyEveryUptoSaid : Prop := verifyEveryUptoRow.holds Tryd.pinned (OpenSpec.upto verifyEverySpec)

/-- 'deponentlaw9.VerifyCollides', WHERE WHAT IT READS IS OF BULK AT MOST 1048576: true; the input reads as it did. -/
def verifyCollidesUptoRow : OpenClaim := { program := "ytppglfgggfkcmaadoor", sum := "21dfa34360554fd014b99ae396e5038c88085eddc75259c71eeaaf7292efa852", func := "deponent/deponentlaw9.VerifyCollides", spec := "verifyCollides", unfollowed := true, recurses := true, named := ["deponent/sha.start", "deponent/sha.words"], apart := false, laid := [("deponent/sha.start", laid_deponent_sha_start), ("deponent/sha.words", laid_deponent_sha_words)], narrowed := true }
def VerifyCollidesUptoSaid : Prop := verifyCollidesUptoRow.holds Tryd.pinned (OpenSpec.upto verifyCollidesSpec)

end Rows
end Go.Proofs.YtppglfgggfkcmaaDoor
