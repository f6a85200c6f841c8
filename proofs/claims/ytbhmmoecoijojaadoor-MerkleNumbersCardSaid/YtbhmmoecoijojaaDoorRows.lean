/-
  NARROWER THAN 'FOR EVERY INPUT', by the rows' own cells (each row's printed sentence says how): MerkleSplits: laid · MerkleTurned: laid · KeysNumbers: laid · KeysSign: laid · KeysRing: laid · KeysApart: laid · KeysAlike: laid · MerkleNumbers: laid · MerkleRoots: laid · MerkleMany: laid · MerkleKept: laid.
  DERIVED. THE GIVEN ROWS OF THIS SEAT. 11 by the template 'for every input the law returns true; each argument reads behind the call as it read before'; 0 by the template 'total and deterministic' (their statements: YtbhmmoecoijojaaDoorTotals.lean).
  GIVEN WITH THE SEED: the statements are not yours to turn. If you find one false, say at which input.
  Laid BY PROGRAM, IN A SANDBOX (cutbox-rows.mjs): the forced cells as the released guide's own fill.sh prints them over the translation eb0277b76e72f75f… (all of the seat's roots in one cut). By AI agents, Wed Nov 11 2026. No macro, syntax, notation, axiom, sorry.
-/
import Derived.Test.YtbhmmoecoijojaaDoorChecked
import GoSem.Claim
import GoSem.ClaimJoined
import GoSem.ClaimMapViews
import Derived.JoinedTies
import Derived.KernelRfl
namespace Go.Proofs.YtbhmmoecoijojaaDoor
/- THE CELL 'sum', in the pinned program and in every row, IS THE sha256 OF THE DUMP (.gsa) THAT YtbhmmoecoijojaaDoorProg.lean LOADS. Nothing in Lean hashes anything: it is a label: what it is worth is what the hold of that sum in a sandbox is worth. -/
noncomputable def Tryd.pinned : Pinned := { name := "ytbhmmoecoijojaadoor", sum := "eb0277b76e72f75ff85bdfa177125c627cce032bd7bf36e629e952f823d0617a", checked := Tryd.checked }
namespace Rows
def none {H : Type} : Left H := { results := [], args := [] }

/- WHAT THE LISTED PACKAGE-LEVEL VARIABLES READ AS WHEN THE CALL BEGINS. Each datum BY PROGRAM (the guide's laid-datum.mjs) off the statement by which the dump's own 'gosem.cut.vars' lays the variable. In a bare row this is a premise. The card (YtbhmmoecoijojaaDoorCards.lean) ties it to the program's text. -/
def laid_deponent_sha_start {H : Type} : DataW H := .agg [.lit (.int .u32 1779033703), .lit (.int .u32 3144134277), .lit (.int .u32 1013904242), .lit (.int .u32 2773480762), .lit (.int .u32 1359893119), .lit (.int .u32 2600822924), .lit (.int .u32 528734635), .lit (.int .u32 1541459225)]
def laid_deponent_sha_words {H : Type} : DataW H := .agg [.lit (.int .u32 1116352408), .lit (.int .u32 1899447441), .lit (.int .u32 3049323471), .lit (.int .u32 3921009573), .lit (.int .u32 961987163), .lit (.int .u32 1508970993), .lit (.int .u32 2453635748), .lit (.int .u32 2870763221), .lit (.int .u32 3624381080), .lit (.int .u32 310598401), .lit (.int .u32 607225278), .lit (.int .u32 1426881987), .lit (.int .u32 1925078388), .lit (.int .u32 2162078206), .lit (.int .u32 2614888103), .lit (.int .u32 3248222580), .lit (.int .u32 3835390401), .lit (.int .u32 4022224774), .lit (.int .u32 264347078), .lit (.int .u32 604807628), .lit (.int .u32 770255983), .lit (.int .u32 1249150122), .lit (.int .u32 1555081692), .lit (.int .u32 1996064986), .lit (.int .u32 2554220882), .lit (.int .u32 2821834349), .lit (.int .u32 2952996808), .lit (.int .u32 3210313671), .lit (.int .u32 3336571891), .lit (.int .u32 3584528711), .lit (.int .u32 113926993), .lit (.int .u32 338241895), .lit (.int .u32 666307205), .lit (.int .u32 773529912), .lit (.int .u32 1294757372), .lit (.int .u32 1396182291), .lit (.int .u32 1695183700), .lit (.int .u32 1986661051), .lit (.int .u32 2177026350), .lit (.int .u32 2456956037), .lit (.int .u32 2730485921), .lit (.int .u32 2820302411), .lit (.int .u32 3259730800), .lit (.int .u32 3345764771), .lit (.int .u32 3516065817), .lit (.int .u32 3600352804), .lit (.int .u32 4094571909), .lit (.int .u32 275423344), .lit (.int .u32 430227734), .lit (.int .u32 506948616), .lit (.int .u32 659060556), .lit (.int .u32 883997877), .lit (.int .u32 958139571), .lit (.int .u32 1322822218), .lit (.int .u32 1537002063), .lit (.int .u32 1747873779), .lit (.int .u32 1955562222), .lit (.int .u32 2024104815), .lit (.int .u32 2227730452), .lit (.int .u32 2361852424), .lit (.int .u32 2428436474), .lit (.int .u32 2756734187), .lit (.int .u32 3204031479), .lit (.int .u32 3329325298)]

/-- 'deponentlaw8.MerkleSplits': WHATEVER THE INPUT: true; the input reads as it did. -/
def merkleSplitsSpec : ChangeSpec := { name := "merkleSplits", fn := fun _ => fun
  | [d1, d2, d3] => { results := [.lit (.bool true)], args := [d1, d2, d3] }
  | _ => none }
def merkleSplitsRow : OpenClaim := { program := "ytbhmmoecoijojaadoor", sum := "eb0277b76e72f75ff85bdfa177125c627cce032bd7bf36e629e952f823d0617a", func := "deponent/deponentlaw8.MerkleSplits", spec := "merkleSplits", unfollowed := true, recurses := true, named := ["deponent/sha.start", "deponent/sha.words"], apart := false, laid := [("deponent/sha.start", laid_deponent_sha_start), ("deponent/sha.words", laid_deponent_sha_words)] }
def MerkleSplitsSaid : Prop := merkleSplitsRow.holds Tryd.pinned (OpenSpec.ofChange merkleSplitsSpec)

/-- ITS FALSE NEIGHBOUR: 'it returns false'. Refute it at one input. -/
def merkleSplitsWrong : ChangeSpec := { name := "merkleSplits", fn := fun _ => fun
  | [d1, d2, d3] => { results := [.lit (.bool false)], args := [d1, d2, d3] }
  | _ => none }
def MerkleSplitsWrongFalsely : Prop := merkleSplitsRow.holds Tryd.pinned (OpenSpec.ofChange merkleSplitsWrong)

/-- 'deponentlaw8.MerkleTurned': WHATEVER THE INPUT: true; the input reads as it did. -/
def merkleTurnedSpec : ChangeSpec := { name := "merkleTurned", fn := fun _ => fun
  | [d1, d2, d3] => { results := [.lit (.bool true)], args := [d1, d2, d3] }
  | _ => none }
def merkleTurnedRow : OpenClaim := { program := "ytbhmmoecoijojaadoor", sum := "eb0277b76e72f75ff85bdfa177125c627cce032bd7bf36e629e952f823d0617a", func := "deponent/deponentlaw8.MerkleTurned", spec := "merkleTurned", unfollowed := true, recurses := true, named := ["deponent/sha.start", "deponent/sha.words"], apart := false, laid := [("deponent/sha.start", laid_deponent_sha_start), ("deponent/sha.words", laid_deponent_sha_words)] }
def MerkleTurnedSaid : Prop := merkleTurnedRow.holds Tryd.pinned (OpenSpec.ofChange merkleTurnedSpec)

/-- ITS FALSE NEIGHBOUR: 'it returns false'. Refute it at one input. -/
def merkleTurnedWrong : ChangeSpec := { name := "merkleTurned", fn := fun _ => fun
  | [d1, d2, d3] => { results := [.lit (.bool false)], args := [d1, d2, d3] }
  | _ => none }
def MerkleTurnedWrongFalsely : Prop := merkleTurnedRow.holds Tryd.pinned (OpenSpec.ofChange merkleTurnedWrong)

/-- 'deponentlaw11.KeysNumbers': WHATEVER THE INPUT: true; the input reads as it did. -/
def keysNumbersSpec : ChangeSpec := { name := "keysNumbers", fn := fun _ => fun
  | [] => { results := [.lit (.bool true)], args := [] }
  | _ => none }
def keysNumbersRow : OpenClaim := { program := "ytbhmmoecoijojaadoor", sum := "eb0277b76e72f75ff85bdfa177125c627cce032bd7bf36e629e952f823d0617a", func := "deponent/deponentlaw11.KeysNumbers", spec := "keysNumbers", named := ["deponent/sha.start", "deponent/sha.words"], apart := false, laid := [("deponent/sha.start", laid_deponent_sha_start), ("deponent/sha.words", laid_deponent_sha_words)] }
def KeysNumbersSaid : Prop := keysNumbersRow.holds Tryd.pinned (OpenSpec.ofChange keysNumbersSpec)

/-- ITS FALSE NEIGHBOUR: 'it returns false'. Refute it at one input. -/
def keysNumbersWrong : ChangeSpec := { name := "keysNumbers", fn := fun _ => fun
  | [] => { results := [.lit (.bool false)], args := [] }
  | _ => none }
def KeysNumbersWrongFalsely : Prop := keysNumbersRow.holds Tryd.pinned (OpenSpec.ofChange keysNumbersWrong)

/-- 'deponentlaw11.KeysSign': WHATEVER THE INPUT: true; the input reads as it did. -/
def keysSignSpec : ChangeSpec := { name := "keysSign", fn := fun _ => fun
  | [d1, d2, d3, d4, d5, d6] => { results := [.lit (.bool true)], args := [d1, d2, d3, d4, d5, d6] }
  | _ => none }
def keysSignRow : OpenClaim := { program := "ytbhmmoecoijojaadoor", sum := "eb0277b76e72f75ff85bdfa177125c627cce032bd7bf36e629e952f823d0617a", func := "deponent/deponentlaw11.KeysSign", spec := "keysSign", named := ["deponent/sha.start", "deponent/sha.words"], apart := false, laid := [("deponent/sha.start", laid_deponent_sha_start), ("deponent/sha.words", laid_deponent_sha_words)] }
def KeysSignSaid : Prop := keysSignRow.holds Tryd.pinned (OpenSpec.ofChange keysSignSpec)

/-- ITS FALSE NEIGHBOUR: 'it returns false'. Refute it at one input. -/
def keysSignWrong : ChangeSpec := { name := "keysSign", fn := fun _ => fun
  | [d1, d2, d3, d4, d5, d6] => { results := [.lit (.bool false)], args := [d1, d2, d3, d4, d5, d6] }
  | _ => none }
def KeysSignWrongFalsely : Prop := keysSignRow.holds Tryd.pinned (OpenSpec.ofChange keysSignWrong)

/-- 'deponentlaw11.KeysRing': WHATEVER THE INPUT: true; the input reads as it did. -/
def keysRingSpec : ChangeSpec := { name := "keysRing", fn := fun _ => fun
  | [d1, d2] => { results := [.lit (.bool true)], args := [d1, d2] }
  | _ => none }
def keysRingRow : OpenClaim := { program := "ytbhmmoecoijojaadoor", sum := "eb0277b76e72f75ff85bdfa177125c627cce032bd7bf36e629e952f823d0617a", func := "deponent/deponentlaw11.KeysRing", spec := "keysRing", named := ["deponent/sha.start", "deponent/sha.words"], apart := false, laid := [("deponent/sha.start", laid_deponent_sha_start), ("deponent/sha.words", laid_deponent_sha_words)] }
def KeysRingSaid : Prop := keysRingRow.holds Tryd.pinned (OpenSpec.ofChange keysRingSpec)

/-- ITS FALSE NEIGHBOUR: 'it returns false'. Refute it at one input. -/
def keysRingWrong : ChangeSpec := { name := "keysRing", fn := fun _ => fun
  | [d1, d2] => { results := [.lit (.bool false)], args := [d1, d2] }
  | _ => none }
def KeysRingWrongFalsely : Prop := keysRingRow.holds Tryd.pinned (OpenSpec.ofChange keysRingWrong)

/-- 'deponentlaw11.KeysApart': WHATEVER THE INPUT: true; the input reads as it did. -/
def keysApartSpec : ChangeSpec := { name := "keysApart", fn := fun _ => fun
  | [d1, d2, d3, d4, d5, d6] => { results := [.lit (.bool true)], args := [d1, d2, d3, d4, d5, d6] }
  | _ => none }
def keysApartRow : OpenClaim := { program := "ytbhmmoecoijojaadoor", sum := "eb0277b76e72f75ff85bdfa177125c627cce032bd7bf36e629e952f823d0617a", func := "deponent/deponentlaw11.KeysApart", spec := "keysApart", named := ["deponent/sha.start", "deponent/sha.words"], apart := false, laid := [("deponent/sha.start", laid_deponent_sha_start), ("deponent/sha.words", laid_deponent_sha_words)] }
def KeysApartSaid : Prop := keysApartRow.holds Tryd.pinned (OpenSpec.ofChange keysApartSpec)

/-- ITS FALSE NEIGHBOUR: 'it returns false'. Refute it at one input. -/
def keysApartWrong : ChangeSpec := { name := "keysApart", fn := fun _ => fun
  | [d1, d2, d3, d4, d5, d6] => { results := [.lit (.bool false)], args := [d1, d2, d3, d4, d5, d6] }
  | _ => none }
def KeysApartWrongFalsely : Prop := keysApartRow.holds Tryd.pinned (OpenSpec.ofChange keysApartWrong)

/-- 'deponentlaw11.KeysAlike': WHATEVER THE INPUT: true; the input reads as it did. -/
def keysAlikeSpec : ChangeSpec := { name := "keysAlike", fn := fun _ => fun
  | [d1, d2, d3] => { results := [.lit (.bool true)], args := [d1, d2, d3] }
  | _ => none }
def keysAlikeRow : OpenClaim := { program := "ytbhmmoecoijojaadoor", sum := "eb0277b76e72f75ff85bdfa177125c627cce032bd7bf36e629e952f823d0617a", func := "deponent/deponentlaw11.KeysAlike", spec := "keysAlike", named := ["deponent/sha.start", "deponent/sha.words"], apart := false, laid := [("deponent/sha.start", laid_deponent_sha_start), ("deponent/sha.words", laid_deponent_sha_words)] }
def KeysAlikeSaid : Prop := keysAlikeRow.holds Tryd.pinned (OpenSpec.ofChange keysAlikeSpec)

/-- ITS FALSE NEIGHBOUR: 'it returns false'. Refute it at one input. -/
def keysAlikeWrong : ChangeSpec := { name := "keysAlike", fn := fun _ => fun
  | [d1, d2, d3] => { results := [.lit (.bool false)], args := [d1, d2, d3] }
  | _ => none }
def KeysAlikeWrongFalsely : Prop := keysAlikeRow.holds Tryd.pinned (OpenSpec.ofChange keysAlikeWrong)

/-- 'deponentlaw8.MerkleNumbers': WHATEVER THE INPUT: true; the input reads as it did. -/
def merkleNumbersSpec : ChangeSpec := { name := "merkleNumbers", fn := fun _ => fun
  | [] => { results := [.lit (.bool true)], args := [] }
  | _ => none }
def merkleNumbersRow : OpenClaim := { program := "ytbhmmoecoijojaadoor", sum := "eb0277b76e72f75ff85bdfa177125c627cce032bd7bf36e629e952f823d0617a", func := "deponent/deponentlaw8.MerkleNumbers", spec := "merkleNumbers", unfollowed := true, recurses := true, named := ["deponent/sha.start", "deponent/sha.words"], apart := false, laid := [("deponent/sha.start", laid_deponent_sha_start), ("deponent/sha.words", laid_deponent_sha_words)] }
def MerkleNumbersSaid : Prop := merkleNumbersRow.holds Tryd.pinned (OpenSpec.ofChange merkleNumbersSpec)

/-- ITS FALSE NEIGHBOUR: 'it returns false'. Refute it at one input. -/
def merkleNumbersWrong : ChangeSpec := { name := "merkleNumbers", fn := fun _ => fun
  | [] => { results := [.lit (.bool false)], args := [] }
  | _ => none }
def MerkleNumbersWrongFalsely : Prop := merkleNumbersRow.holds Tryd.pinned (OpenSpec.ofChange merkleNumbersWrong)

/-- 'deponentlaw8.MerkleRoots': WHATEVER THE INPUT: true; the input reads as it did. -/
def merkleRootsSpec : ChangeSpec := { name := "merkleRoots", fn := fun _ => fun
  | [d1, d2, d3, d4] => { results := [.lit (.bool true)], args := [d1, d2, d3, d4] }
  | _ => none }
def merkleRootsRow : OpenClaim := { program := "ytbhmmoecoijojaadoor", sum := "eb0277b76e72f75ff85bdfa177125c627cce032bd7bf36e629e952f823d0617a", func := "deponent/deponentlaw8.MerkleRoots", spec := "merkleRoots", unfollowed := true, recurses := true, named := ["deponent/sha.start", "deponent/sha.words"], apart := false, laid := [("deponent/sha.start", laid_deponent_sha_start), ("deponent/sha.words", laid_deponent_sha_words)] }
def MerkleRootsSaid : Prop := merkleRootsRow.holds Tryd.pinned (OpenSpec.ofChange merkleRootsSpec)

/-- ITS FALSE NEIGHBOUR: 'it returns false'. Refute it at one input. -/
def merkleRootsWrong : ChangeSpec := { name := "merkleRoots", fn := fun _ => fun
  | [d1, d2, d3, d4] => { results := [.lit (.bool false)], args := [d1, d2, d3, d4] }
  | _ => none }
def MerkleRootsWrongFalsely : Prop := merkleRootsRow.holds Tryd.pinned (OpenSpec.ofChange merkleRootsWrong)

/-- 'deponentlaw8.MerkleMany': WHATEVER THE INPUT: true; the input reads as it did. -/
def merkleManySpec : ChangeSpec := { name := "merkleMany", fn := fun _ => fun
  | [d1, d2, d3, d4] => { results := [.lit (.bool true)], args := [d1, d2, d3, d4] }
  | _ => none }
def merkleManyRow : OpenClaim := { program := "ytbhmmoecoijojaadoor", sum := "eb0277b76e72f75ff85bdfa177125c627cce032bd7bf36e629e952f823d0617a", func := "deponent/deponentlaw8.MerkleMany", spec := "merkleMany", unfollowed := true, recurses := true, named := ["deponent/sha.start", "deponent/sha.words"], apart := false, laid := [("deponent/sha.start", laid_deponent_sha_start), ("deponent/sha.words", laid_deponent_sha_words)] }
def MerkleManySaid : Prop := merkleManyRow.holds Tryd.pinned (OpenSpec.ofChange merkleManySpec)

/-- ITS FALSE NEIGHBOUR: 'it returns false'. Refute it at one input. -/
def merkleManyWrong : ChangeSpec := { name := "merkleMany", fn := fun _ => fun
  | [d1, d2, d3, d4] => { results := [.lit (.bool false)], args := [d1, d2, d3, d4] }
  | _ => none }
def MerkleManyWrongFalsely : Prop := merkleManyRow.holds Tryd.pinned (OpenSpec.ofChange merkleManyWrong)

/-- 'deponentlaw8.MerkleKept': WHATEVER THE INPUT: true; the input reads as it did. -/
def merkleKeptSpec : ChangeSpec := { name := "merkleKept", fn := fun _ => fun
  | [d1, d2] => { results := [.lit (.bool true)], args := [d1, d2] }
  | _ => none }
def merkleKeptRow : OpenClaim := { program := "ytbhmmoecoijojaadoor", sum := "eb0277b76e72f75ff85bdfa177125c627cce032bd7bf36e629e952f823d0617a", func := "deponent/deponentlaw8.MerkleKept", spec := "merkleKept", unfollowed := true, recurses := true, named := ["deponent/sha.start", "deponent/sha.words"], apart := false, laid := [("deponent/sha.start", laid_deponent_sha_start), ("deponent/sha.words", laid_deponent_sha_words)] }
def MerkleKeptSaid : Prop := merkleKeptRow.holds Tryd.pinned (OpenSpec.ofChange merkleKeptSpec)

/-- ITS FALSE NEIGHBOUR: 'it returns false'. Refute it at one input. -/
def merkleKeptWrong : ChangeSpec := { name := "merkleKept", fn := fun _ => fun
  | [d1, d2] => { results := [.lit (.bool false)], args := [d1, d2] }
  | _ => none }
def MerkleKeptWrongFalsely : Prop := merkleKeptRow.holds Tryd.pinned (OpenSpec.ofChange merkleKeptWrong)

/- THE SECOND FORM. 'bulk': how many values and letters a reading holds, each counted each time it is reached (what is shared counts as often as it is met; a slice's spare places count too). A statement '..UptoSaid' is the law's where the arguments, and the package variables that the reading takes, are together of bulk at most 1048576: NARROWER than '..Said'. Prove '..Said' where nothing that the law and all that it calls make is longer than what came in: it says more and counts as full. Else prove '..UptoSaid'. A law counts once. -/
mutual
def uptoBulk {H : Type} : DataW H → Nat
  | .lit (.string bytes) => bytes.length + 1
  | .lit _ => 1
  | .nil => 1
  | .ptr d => uptoBulk d + 1
  | .slice elems spare => uptoBulkAll elems + uptoBulkAll spare + 1
  | .agg parts => uptoBulkAll parts + 1
  | .iface _ d => uptoBulk d + 1
  | .map entries => uptoBulkEntries entries + 1
  | .held _ => 1
def uptoBulkAll {H : Type} : List (DataW H) → Nat
  | [] => 0
  | d :: r => uptoBulk d + uptoBulkAll r
def uptoBulkEntries {H : Type} : List (Lit × DataW H) → Nat
  | [] => 0
  | x :: r => uptoBulkEntry x + uptoBulkEntries r
def uptoBulkEntry {H : Type} : Lit × DataW H → Nat
  | (.string bytes, d) => bytes.length + uptoBulk d + 1
  | (_, d) => uptoBulk d + 1
 end
def uptoSmall : (H : Type) → List (DataW H) → Bool := fun _ ds => decide (uptoBulkAll ds ≤ 1048576)
def OpenSpec.upto (s : _root_.Go.ChangeSpec) : _root_.Go.OpenSpec := { _root_.Go.OpenSpec.ofChange s with cond := some uptoSmall }

/-- 'deponentlaw8.MerkleSplits', WHERE WHAT IT READS IS OF BULK AT MOST 1048576: true; the input reads as it did. -/
def merkleSplitsUptoRow : OpenClaim := { program := "ytbhmmoecoijojaadoor", sum := "eb0277b76e72f75ff85bdfa177125c627cce032bd7bf36e629e952f823d0617a", func := "deponent/deponentlaw8.MerkleSplits", spec := "merkleSplits", unfollowed := true, recurses := true, named := ["deponent/sha.start", "deponent/sha.words"], apart := false, laid := [("deponent/sha.start", laid_deponent_sha_start), ("deponent/sha.words", laid_deponent_sha_words)], narrowed := true }
def MerkleSplitsUptoSaid : Prop := merkleSplitsUptoRow.holds Tryd.pinned (OpenSpec.upto merkleSplitsSpec)

/-- 'deponentlaw8.MerkleTurned', WHERE WHAT IT READS IS OF BULK AT MOST 1048576: true; the input reads as it did. -/
def merkleTurnedUptoRow : OpenClaim := { program := "ytbhmmoecoijojaadoor", sum := "eb0277b76e72f75ff85bdfa177125c627cce032bd7bf36e629e952f823d0617a", func := "deponent/deponentlaw8.MerkleTurned", spec := "merkleTurned", unfollowed := true, recurses := true, named := ["deponent/sha.start", "deponent/sha.words"], apart := false, laid := [("deponent/sha.start", laid_deponent_sha_start), ("deponent/sha.words", laid_deponent_sha_words)], narrowed := true }
def MerkleTurnedUptoSaid : Prop := merkleTurnedUptoRow.holds Tryd.pinned (OpenSpec.upto merkleTurnedSpec)

/-- 'deponentlaw11.KeysNumbers', WHERE WHAT IT READS IS OF BULK AT MOST 1048576: true; the input reads as it did. -/
def keysNumbersUptoRow : OpenClaim := { program := "ytbhmmoecoijojaadoor", sum := "eb0277b76e72f75ff85bdfa177125c627cce032bd7bf36e629e952f823d0617a", func := "deponent/deponentlaw11.KeysNumbers", spec := "keysNumbers", named := ["deponent/sha.start", "deponent/sha.words"], apart := false, laid := [("deponent/sha.start", laid_deponent_sha_start), ("deponent/sha.words", laid_deponent_sha_words)], narrowed := true }
def KeysNumbersUptoSaid : Prop := keysNumbersUptoRow.holds Tryd.pinned (OpenSpec.upto keysNumbersSpec)

/-- 'deponentlaw11.KeysSign', WHERE WHAT IT READS IS OF BULK AT MOST 1048576: true; the input reads as it did. -/
def keysSignUptoRow : OpenClaim := { program := "ytbhmmoecoijojaadoor", sum := "eb0277b76e72f75ff85bdfa177125c627cce032bd7bf36e629e952f823d0617a", func := "deponent/deponentlaw11.KeysSign", spec := "keysSign", named := ["deponent/sha.start", "deponent/sha.words"], apart := false, laid := [("deponent/sha.start", laid_deponent_sha_start), ("deponent/sha.words", laid_deponent_sha_words)], narrowed := true }
def KeysSignUptoSaid : Prop := keysSignUptoRow.holds Tryd.pinned (OpenSpec.upto keysSignSpec)

/-- 'deponentlaw11.KeysRing', WHERE WHAT IT READS IS OF BULK AT MOST 1048576: true; the input reads as it did. -/
def keysRingUptoRow : OpenClaim := { program := "ytbhmmoecoijojaadoor", sum := "eb0277b76e72f75ff85bdfa177125c627cce032bd7bf36e629e952f823d0617a", func := "deponent/deponentlaw11.KeysRing", spec := "keysRing", named := ["deponent/sha.start", "deponent/sha.words"], apart := false, laid := [("deponent/sha.start", laid_deponent_sha_start), ("deponent/sha.words", laid_deponent_sha_words)], narrowed := true }
def KeysRingUptoSaid : Prop := keysRingUptoRow.holds Tryd.pinned (OpenSpec.upto keysRingSpec)

/-- 'deponentlaw11.KeysApart', WHERE WHAT IT READS IS OF BULK AT MOST 1048576: true; the input reads as it did. -/
def keysApartUptoRow : OpenClaim := { program := "ytbhmmoecoijojaadoor", sum := "eb0277b76e72f75ff85bdfa177125c627cce032bd7bf36e629e952f823d0617a", func := "deponent/deponentlaw11.KeysApart", spec := "keysApart", named := ["deponent/sha.start", "deponent/sha.words"], apart := false, laid := [("deponent/sha.start", laid_deponent_sha_start), ("deponent/sha.words", laid_deponent_sha_words)], narrowed := true }
def KeysApartUptoSaid : Prop := keysApartUptoRow.holds Tryd.pinned (OpenSpec.upto keysApartSpec)

/-- 'deponentlaw11.KeysAlike', WHERE WHAT IT READS IS OF BULK AT MOST 1048576: true; the input reads as it did. -/
def keysAlikeUptoRow : OpenClaim := { program := "ytbhmmoecoijojaadoor", sum := "eb0277b76e72f75ff85bdfa177125c627cce032bd7bf36e629e952f823d0617a", func := "deponent/deponentlaw11.KeysAlike", spec := "keysAlike", named := ["deponent/sha.start", "deponent/sha.words"], apart := false, laid := [("deponent/sha.start", laid_deponent_sha_start), ("deponent/sha.words", laid_deponent_sha_words)], narrowed := true }
def KeysAlikeUptoSaid : Prop := keysAlikeUptoRow.holds Tryd.pinned (OpenSpec.upto keysAlikeSpec)

/-- 'deponentlaw8.MerkleNumbers', WHERE WHAT IT READS IS OF BULK AT MOST 1048576: true; the input reads as it did. -/
def merkleNumbersUptoRow : OpenClaim := { program := "ytbhmmoecoijojaadoor", sum := "eb0277b76e72f75ff85bdfa177125c627cce032bd7bf36e629e952f823d0617a", func := "deponent/deponentlaw8.MerkleNumbers", spec := "merkleNumbers", unfollowed := true, recurses := true, named := ["deponent/sha.start", "deponent/sha.words"], apart := false, laid := [("deponent/sha.start", laid_deponent_sha_start), ("deponent/sha.words", laid_deponent_sha_words)], narrowed := true }
def MerkleNumbersUptoSaid : Prop := merkleNumbersUptoRow.holds Tryd.pinned (OpenSpec.upto merkleNumbersSpec)

/-- 'deponentlaw8.MerkleRoots', WHERE WHAT IT READS IS OF BULK AT MOST 1048576: true; the input reads as it did. -/
def merkleRootsUptoRow : OpenClaim := { program := "ytbhmmoecoijojaadoor", sum := "eb0277b76e72f75ff85bdfa177125c627cce032bd7bf36e629e952f823d0617a", func := "deponent/deponentlaw8.MerkleRoots", spec := "merkleRoots", unfollowed := true, recurses := true, named := ["deponent/sha.start", "deponent/sha.words"], apart := false, laid := [("deponent/sha.start", laid_deponent_sha_start), ("deponent/sha.words", laid_deponent_sha_words)], narrowed := true }
def MerkleRootsUptoSaid : Prop := merkleRootsUptoRow.holds Tryd.pinned (OpenSpec.upto merkleRootsSpec)

/-- 'deponentlaw8.MerkleMany', WHERE WHAT IT READS IS OF BULK AT MOST 1048576: true; the input reads as it did. -/
def merkleManyUptoRow : OpenClaim := { program := "ytbhmmoecoijojaadoor", sum := "eb0277b76e72f75ff85bdfa177125c627cce032bd7bf36e629e952f823d0617a", func := "deponent/deponentlaw8.MerkleMany", spec := "merkleMany", unfollowed := true, recurses := true, named := ["deponent/sha.start", "deponent/sha.words"], apart := false, laid := [("deponent/sha.start", laid_deponent_sha_start), ("deponent/sha.words", laid_deponent_sha_words)], narrowed := true }
def MerkleManyUptoSaid : Prop := merkleManyUptoRow.holds Tryd.pinned (OpenSpec.upto merkleManySpec)

/-- 'deponentlaw8.MerkleKept', WHERE WHAT IT READS IS OF BULK AT MOST 1048576: true; the input reads as it did. -/
def merkleKeptUptoRow : OpenClaim := { program := "ytbhmmoecoijojaadoor", sum := "eb0277b76e72f75ff85bdfa177125c627cce032bd7bf36e629e952f823d0617a", func := "deponent/deponentlaw8.MerkleKept", spec := "merkleKept", unfollowed := true, recurses := true, named := ["deponent/sha.start", "deponent/sha.words"], apart := false, laid := [("deponent/sha.start", laid_deponent_sha_start), ("deponent/sha.words", laid_deponent_sha_words)], narrowed := true }
def MerkleKeptUptoSaid : Prop := merkleKeptUptoRow.holds Tryd.pinned (OpenSpec.upto merkleKeptSpec)

end Rows
end Go.Proofs.YtbhmmoecoijojaaDoor
