/-
  NARROWER THAN 'FOR EVERY INPUT', by the rows' own cells (each row's printed sentence says how): ShardPrunes: laid · ShardAlone: laid · ShardDecides: laid · ShardChain: laid · ShardRefuses: laid · ShardLoads: laid.
  DERIVED. THE GIVEN ROWS OF THIS SEAT. 6 by the template 'for every input the law returns true; each argument reads behind the call as it read before'; 0 by the template 'total and deterministic' (their statements: YtpolljfkceanaaaGreatDoorTotals.lean).
  GIVEN WITH THE SEED: the statements are not yours to turn. If you find one false, say at which input.
  Laid BY PROGRAM, IN A SANDBOX (cutbox-rows.mjs): the forced cells as the released guide's own fill.sh prints them over the translation 6933f977c2eeaad8… (all of the seat's roots in one cut). By AI agents, Wed Nov 11 2026. No macro, syntax, notation, axiom, sorry.
-/
import Derived.Test.YtpolljfkceanaaaGreatDoorChecked
import GoSem.Claim
import GoSem.ClaimJoined
import GoSem.ClaimMapViews
import Derived.JoinedTies
import Derived.KernelRfl
namespace Go.Proofs.YtpolljfkceanaaaGreatDoor
/- THE CELL 'sum', in the pinned program and in every row, IS THE sha256 OF THE DUMP (.gsa) THAT YtpolljfkceanaaaGreatDoorProg.lean LOADS. Nothing in Lean hashes anything: it is a label: what it is worth is what the hold of that sum in a sandbox is worth. -/
noncomputable def Tryz.pinned : Pinned := { name := "ytpolljfkceanaaagreatdoor", sum := "6933f977c2eeaad8f6c2412b9236b19c921c43eee4b679f1b28ac8668480c3b9", checked := Tryz.checked }
namespace Rows
def none {H : Type} : Left H := { results := [], args := [] }

/- WHAT THE LISTED PACKAGE-LEVEL VARIABLES READ AS WHEN THE CALL BEGINS. Each datum BY PROGRAM (the guide's laid-datum.mjs) off the statement by which the dump's own 'gosem.cut.vars' lays the variable. In a bare row this is a premise. The card (YtpolljfkceanaaaGreatDoorCards.lean) ties it to the program's text. -/
def laid_seisin_sha_first {H : Type} : DataW H := .agg [.lit (.int .u32 1779033703), .lit (.int .u32 3144134277), .lit (.int .u32 1013904242), .lit (.int .u32 2773480762), .lit (.int .u32 1359893119), .lit (.int .u32 2600822924), .lit (.int .u32 528734635), .lit (.int .u32 1541459225)]
def laid_seisin_sha_rounds {H : Type} : DataW H := .agg [.lit (.int .u32 1116352408), .lit (.int .u32 1899447441), .lit (.int .u32 3049323471), .lit (.int .u32 3921009573), .lit (.int .u32 961987163), .lit (.int .u32 1508970993), .lit (.int .u32 2453635748), .lit (.int .u32 2870763221), .lit (.int .u32 3624381080), .lit (.int .u32 310598401), .lit (.int .u32 607225278), .lit (.int .u32 1426881987), .lit (.int .u32 1925078388), .lit (.int .u32 2162078206), .lit (.int .u32 2614888103), .lit (.int .u32 3248222580), .lit (.int .u32 3835390401), .lit (.int .u32 4022224774), .lit (.int .u32 264347078), .lit (.int .u32 604807628), .lit (.int .u32 770255983), .lit (.int .u32 1249150122), .lit (.int .u32 1555081692), .lit (.int .u32 1996064986), .lit (.int .u32 2554220882), .lit (.int .u32 2821834349), .lit (.int .u32 2952996808), .lit (.int .u32 3210313671), .lit (.int .u32 3336571891), .lit (.int .u32 3584528711), .lit (.int .u32 113926993), .lit (.int .u32 338241895), .lit (.int .u32 666307205), .lit (.int .u32 773529912), .lit (.int .u32 1294757372), .lit (.int .u32 1396182291), .lit (.int .u32 1695183700), .lit (.int .u32 1986661051), .lit (.int .u32 2177026350), .lit (.int .u32 2456956037), .lit (.int .u32 2730485921), .lit (.int .u32 2820302411), .lit (.int .u32 3259730800), .lit (.int .u32 3345764771), .lit (.int .u32 3516065817), .lit (.int .u32 3600352804), .lit (.int .u32 4094571909), .lit (.int .u32 275423344), .lit (.int .u32 430227734), .lit (.int .u32 506948616), .lit (.int .u32 659060556), .lit (.int .u32 883997877), .lit (.int .u32 958139571), .lit (.int .u32 1322822218), .lit (.int .u32 1537002063), .lit (.int .u32 1747873779), .lit (.int .u32 1955562222), .lit (.int .u32 2024104815), .lit (.int .u32 2227730452), .lit (.int .u32 2361852424), .lit (.int .u32 2428436474), .lit (.int .u32 2756734187), .lit (.int .u32 3204031479), .lit (.int .u32 3329325298)]

/-- 'seisinlaw25.ShardPrunes': WHATEVER THE INPUT: true; the input reads as it did. -/
def shardPrunesSpec : ChangeSpec := { name := "shardPrunes", fn := fun _ => fun
  | [d1, d2, d3, d4, d5] => { results := [.lit (.bool true)], args := [d1, d2, d3, d4, d5] }
  | _ => none }
def shardPrunesRow : OpenClaim := { program := "ytpolljfkceanaaagreatdoor", sum := "6933f977c2eeaad8f6c2412b9236b19c921c43eee4b679f1b28ac8668480c3b9", func := "seisin/seisinlaw25.ShardPrunes", spec := "shardPrunes", inPlace := ["maps.clone", "internal/bytealg.Compare"], unfollowed := true, recurses := true, named := ["seisin/sha.first", "seisin/sha.rounds"], plainKeys := false, apart := false, laid := [("seisin/sha.first", laid_seisin_sha_first), ("seisin/sha.rounds", laid_seisin_sha_rounds)] }
def ShardPrunesSaid : Prop := shardPrunesRow.holds Tryz.pinned (OpenSpec.ofChange shardPrunesSpec)

/-- ITS FALSE NEIGHBOUR: 'it returns false'. Refute it at one input. -/
def shardPrunesWrong : ChangeSpec := { name := "shardPrunes", fn := fun _ => fun
  | [d1, d2, d3, d4, d5] => { results := [.lit (.bool false)], args := [d1, d2, d3, d4, d5] }
  | _ => none }
def ShardPrunesWrongFalsely : Prop := shardPrunesRow.holds Tryz.pinned (OpenSpec.ofChange shardPrunesWrong)

/-- 'seisinlaw25.ShardAlone': WHATEVER THE INPUT: true; the input reads as it did. -/
def shardAloneSpec : ChangeSpec := { name := "shardAlone", fn := fun _ => fun
  | [d1, d2] => { results := [.lit (.bool true)], args := [d1, d2] }
  | _ => none }
def shardAloneRow : OpenClaim := { program := "ytpolljfkceanaaagreatdoor", sum := "6933f977c2eeaad8f6c2412b9236b19c921c43eee4b679f1b28ac8668480c3b9", func := "seisin/seisinlaw25.ShardAlone", spec := "shardAlone", inPlace := ["maps.clone", "internal/bytealg.Compare"], unfollowed := true, recurses := true, named := ["seisin/sha.first", "seisin/sha.rounds"], plainKeys := false, apart := false, laid := [("seisin/sha.first", laid_seisin_sha_first), ("seisin/sha.rounds", laid_seisin_sha_rounds)] }
def ShardAloneSaid : Prop := shardAloneRow.holds Tryz.pinned (OpenSpec.ofChange shardAloneSpec)

/-- ITS FALSE NEIGHBOUR: 'it returns false'. Refute it at one input. -/
def shardAloneWrong : ChangeSpec := { name := "shardAlone", fn := fun _ => fun
  | [d1, d2] => { results := [.lit (.bool false)], args := [d1, d2] }
  | _ => none }
def ShardAloneWrongFalsely : Prop := shardAloneRow.holds Tryz.pinned (OpenSpec.ofChange shardAloneWrong)

/-- 'seisinlaw25.ShardDecides': WHATEVER THE INPUT: true; the input reads as it did. -/
def shardDecidesSpec : ChangeSpec := { name := "shardDecides", fn := fun _ => fun
  | [d1, d2, d3, d4, d5] => { results := [.lit (.bool true)], args := [d1, d2, d3, d4, d5] }
  | _ => none }
def shardDecidesRow : OpenClaim := { program := "ytpolljfkceanaaagreatdoor", sum := "6933f977c2eeaad8f6c2412b9236b19c921c43eee4b679f1b28ac8668480c3b9", func := "seisin/seisinlaw25.ShardDecides", spec := "shardDecides", inPlace := ["maps.clone", "internal/bytealg.Compare"], unfollowed := true, recurses := true, named := ["seisin/sha.first", "seisin/sha.rounds"], plainKeys := false, apart := false, laid := [("seisin/sha.first", laid_seisin_sha_first), ("seisin/sha.rounds", laid_seisin_sha_rounds)] }
def ShardDecidesSaid : Prop := shardDecidesRow.holds Tryz.pinned (OpenSpec.ofChange shardDecidesSpec)

/-- ITS FALSE NEIGHBOUR: 'it returns false'. Refute it at one input. -/
def shardDecidesWrong : ChangeSpec := { name := "shardDecides", fn := fun _ => fun
  | [d1, d2, d3, d4, d5] => { results := [.lit (.bool false)], args := [d1, d2, d3, d4, d5] }
  | _ => none }
def ShardDecidesWrongFalsely : Prop := shardDecidesRow.holds Tryz.pinned (OpenSpec.ofChange shardDecidesWrong)

/-- 'seisinlaw25.ShardChain': WHATEVER THE INPUT: true; the input reads as it did. -/
def shardChainSpec : ChangeSpec := { name := "shardChain", fn := fun _ => fun
  | [d1, d2, d3, d4] => { results := [.lit (.bool true)], args := [d1, d2, d3, d4] }
  | _ => none }
def shardChainRow : OpenClaim := { program := "ytpolljfkceanaaagreatdoor", sum := "6933f977c2eeaad8f6c2412b9236b19c921c43eee4b679f1b28ac8668480c3b9", func := "seisin/seisinlaw25.ShardChain", spec := "shardChain", inPlace := ["maps.clone", "internal/bytealg.Compare"], unfollowed := true, recurses := true, named := ["seisin/sha.first", "seisin/sha.rounds"], plainKeys := false, apart := false, laid := [("seisin/sha.first", laid_seisin_sha_first), ("seisin/sha.rounds", laid_seisin_sha_rounds)] }
def ShardChainSaid : Prop := shardChainRow.holds Tryz.pinned (OpenSpec.ofChange shardChainSpec)

/-- ITS FALSE NEIGHBOUR: 'it returns false'. Refute it at one input. -/
def shardChainWrong : ChangeSpec := { name := "shardChain", fn := fun _ => fun
  | [d1, d2, d3, d4] => { results := [.lit (.bool false)], args := [d1, d2, d3, d4] }
  | _ => none }
def ShardChainWrongFalsely : Prop := shardChainRow.holds Tryz.pinned (OpenSpec.ofChange shardChainWrong)

/-- 'seisinlaw25.ShardRefuses': WHATEVER THE INPUT: true; the input reads as it did. -/
def shardRefusesSpec : ChangeSpec := { name := "shardRefuses", fn := fun _ => fun
  | [d1, d2, d3, d4] => { results := [.lit (.bool true)], args := [d1, d2, d3, d4] }
  | _ => none }
def shardRefusesRow : OpenClaim := { program := "ytpolljfkceanaaagreatdoor", sum := "6933f977c2eeaad8f6c2412b9236b19c921c43eee4b679f1b28ac8668480c3b9", func := "seisin/seisinlaw25.ShardRefuses", spec := "shardRefuses", inPlace := ["maps.clone", "internal/bytealg.Compare"], unfollowed := true, recurses := true, named := ["seisin/sha.first", "seisin/sha.rounds"], plainKeys := false, apart := false, laid := [("seisin/sha.first", laid_seisin_sha_first), ("seisin/sha.rounds", laid_seisin_sha_rounds)] }
def ShardRefusesSaid : Prop := shardRefusesRow.holds Tryz.pinned (OpenSpec.ofChange shardRefusesSpec)

/-- ITS FALSE NEIGHBOUR: 'it returns false'. Refute it at one input. -/
def shardRefusesWrong : ChangeSpec := { name := "shardRefuses", fn := fun _ => fun
  | [d1, d2, d3, d4] => { results := [.lit (.bool false)], args := [d1, d2, d3, d4] }
  | _ => none }
def ShardRefusesWrongFalsely : Prop := shardRefusesRow.holds Tryz.pinned (OpenSpec.ofChange shardRefusesWrong)

/-- 'seisinlaw25.ShardLoads': WHATEVER THE INPUT: true; the input reads as it did. -/
def shardLoadsSpec : ChangeSpec := { name := "shardLoads", fn := fun _ => fun
  | [d1, d2, d3, d4] => { results := [.lit (.bool true)], args := [d1, d2, d3, d4] }
  | _ => none }
def shardLoadsRow : OpenClaim := { program := "ytpolljfkceanaaagreatdoor", sum := "6933f977c2eeaad8f6c2412b9236b19c921c43eee4b679f1b28ac8668480c3b9", func := "seisin/seisinlaw25.ShardLoads", spec := "shardLoads", inPlace := ["maps.clone", "internal/bytealg.Compare"], unfollowed := true, recurses := true, named := ["seisin/sha.first", "seisin/sha.rounds"], plainKeys := false, apart := false, laid := [("seisin/sha.first", laid_seisin_sha_first), ("seisin/sha.rounds", laid_seisin_sha_rounds)] }
def ShardLoadsSaid : Prop := shardLoadsRow.holds Tryz.pinned (OpenSpec.ofChange shardLoadsSpec)

/-- ITS FALSE NEIGHBOUR: 'it returns false'. Refute it at one input. -/
def shardLoadsWrong : ChangeSpec := { name := "shardLoads", fn := fun _ => fun
  | [d1, d2, d3, d4] => { results := [.lit (.bool false)], args := [d1, d2, d3, d4] }
  | _ => none }
def ShardLoadsWrongFalsely : Prop := shardLoadsRow.holds Tryz.pinned (OpenSpec.ofChange shardLoadsWrong)

/- THE SECOND FORM. 'bulk': how many values and letters a reading holds, each counted each time it is reached (what is shared counts as often as it is met; a slice's spare places count too). A statement '..UptoSaid' is the law's where the arguments, and the package variables that the reading takes, are together of bulk at most 1048576: NARROWER than '..Said'. Prove '..Said' where nothing that the law and all that it calls make is longer than what came in: it says more and counts as full. Else prove '..UptoSaid'. A law counts once. -/
mutual
def uptoBulk {H : Type} : DataW H → Nat
  | .lit (.string bytes) => bytes.length + 1
  | .lit _ => 1
  | .nil => 1
  | .ptr d => uptoBulk d + 1
  | .slice elems spare => uptoBulkAll elems + uptoBulkAll spare + 1
  | .agg parts => uptoBulkAll parts + 1
  | .iface _ d => uptoBulk d + 1
  | .map entries => uptoBulkEntries entries + 1
  | .held _ => 1
def uptoBulkAll {H : Type} : List (DataW H) → Nat
  | [] => 0
  | d :: r => uptoBulk d + uptoBulkAll r
def uptoBulkEntries {H : Type} : List (Lit × DataW H) → Nat
  | [] => 0
  | x :: r => uptoBulkEntry x + uptoBulkEntries r
def uptoBulkEntry {H : Type} : Lit × DataW H → Nat
  | (.string bytes, d) => bytes.length + uptoBulk d + 1
  | (_, d) => uptoBulk d + 1
 end
def uptoSmall : (H : Type) → List (DataW H) → Bool := fun _ ds => decide (uptoBulkAll ds ≤ 1048576)
def OpenSpec.upto (s : _root_.Go.ChangeSpec) : _root_.Go.OpenSpec := { _root_.Go.OpenSpec.ofChange s with cond := some uptoSmall }

/-- 'seisinlaw25.ShardPrunes', WHERE WHAT IT READS IS OF BULK AT MOST 1048576: true; the input reads as it did. -/
def shardPrunesUptoRow : OpenClaim := { program := "ytpolljfkceanaaagreatdoor", sum := "6933f977c2eeaad8f6c2412b9236b19c921c43eee4b679f1b28ac8668480c3b9", func := "seisin/seisinlaw25.ShardPrunes", spec := "shardPrunes", inPlace := ["maps.clone", "internal/bytealg.Compare"], unfollowed := true, recurses := true, named := ["seisin/sha.first", "seisin/sha.rounds"], plainKeys := false, apart := false, laid := [("seisin/sha.first", laid_seisin_sha_first), ("seisin/sha.rounds", laid_seisin_sha_rounds)], narrowed := true }
def ShardPrunesUptoSaid : Prop := shardPrunesUptoRow.holds Tryz.pinned (OpenSpec.upto shardPrunesSpec)

/-- 'seisinlaw25.ShardAlone', WHERE WHAT IT READS IS OF BULK AT MOST 1048576: true; the input reads as it did. -/
def shardAloneUptoRow : OpenClaim := { program := "ytpolljfkceanaaagreatdoor", sum := "6933f977c2eeaad8f6c2412b9236b19c921c43eee4b679f1b28ac8668480c3b9", func := "seisin/seisinlaw25.ShardAlone", spec := "shardAlone", inPlace := ["maps.clone", "internal/bytealg.Compare"], unfollowed := true, recurses := true, named := ["seisin/sha.first", "seisin/sha.rounds"], plainKeys := false, apart := false, laid := [("seisin/sha.first", laid_seisin_sha_first), ("seisin/sha.rounds", laid_seisin_sha_rounds)], narrowed := true }
def ShardAloneUptoSaid : Prop := shardAloneUptoRow.holds Tryz.pinned (OpenSpec.upto shardAloneSpec)

/-- 'seisinlaw25.ShardDecides', WHERE WHAT IT READS IS OF BULK AT MOST 1048576: true; the input reads as it did. -/
def shardDecidesUptoRow : OpenClaim := { program := "ytpolljfkceanaaagreatdoor", sum := "6933f977c2eeaad8f6c2412b9236b19c921c43eee4b679f1b28ac8668480c3b9", func := "seisin/seisinlaw25.ShardDecides", spec := "shardDecides", inPlace := ["maps.clone", "internal/bytealg.Compare"], unfollowed := true, recurses := true, named := ["seisin/sha.first", "seisin/sha.rounds"], plainKeys := false, apart := false, laid := [("seisin/sha.first", laid_seisin_sha_first), ("seisin/sha.rounds", laid_seisin_sha_rounds)], narrowed := true }
def ShardDecidesUptoSaid : Prop := shardDecidesUptoRow.holds Tryz.pinned (OpenSpec.upto shardDecidesSpec)

/-- 'seisinlaw25.ShardChain', WHERE WHAT IT READS IS OF BULK AT MOST 1048576: true; the input reads as it did. -/
def shardChainUptoRow : OpenClaim := { program := "ytpolljfkceanaaagreatdoor", sum := "6933f977c2eeaad8f6c2412b9236b19c921c43eee4b679f1b28ac8668480c3b9", func := "seisin/seisinlaw25.ShardChain", spec := "shardChain", inPlace := ["maps.clone", "internal/bytealg.Compare"], unfollowed := true, recurses := true, named := ["seisin/sha.first", "seisin/sha.rounds"], plainKeys := false, apart := false, laid := [("seisin/sha.first", laid_seisin_sha_first), ("seisin/sha.rounds", laid_seisin_sha_rounds)], narrowed := true }
def ShardChainUptoSaid : Prop := shardChainUptoRow.holds Tryz.pinned (OpenSpec.upto shardChainSpec)

/-- 'seisinlaw25.ShardRefuses', WHERE WHAT IT READS IS OF BULK AT MOST 1048576: true; the input reads as it did. -/
def shardRefusesUptoRow : OpenClaim := { program := "ytpolljfkceanaaagreatdoor", sum := "6933f977c2eeaad8f6c2412b9236b19c921c43eee4b679f1b28ac8668480c3b9", func := "seisin/seisinlaw25.ShardRefuses", spec := "shardRefuses", inPlace := ["maps.clone", "internal/bytealg.Compare"], unfollowed := true, recurses := true, named := ["seisin/sha.first", "seisin/sha.rounds"], plainKeys := false, apart := false, laid := [("seisin/sha.first", laid_seisin_sha_first), ("seisin/sha.rounds", laid_seisin_sha_rounds)], narrowed := true }
def ShardRefusesUptoSaid : Prop := shardRefusesUptoRow.holds Tryz.pinned (OpenSpec.upto shardRefusesSpec)

/-- 'seisinlaw25.ShardLoads', WHERE WHAT IT READS IS OF BULK AT MOST 1048576: true; the input reads as it did. -/
def shardLoadsUptoRow : OpenClaim := { program := "ytpolljfkceanaaagreatdoor", sum := "6933f977c2eeaad8f6c2412b9236b19c921c43eee4b679f1b28ac8668480c3b9", func := "seisin/seisinlaw25.ShardLoads", spec := "shardLoads", inPlace := ["maps.clone", "internal/bytealg.Compare"], unfollowed := true, recurses := true, named := ["seisin/sha.first", "seisin/sha.rounds"], plainKeys := false, apart := false, laid := [("seisin/sha.first", laid_seisin_sha_first), ("seisin/sha.rounds", laid_seisin_sha_rounds)], narrowed := true }
def ShardLoadsUptoSaid : Prop := shardLoadsUptoRow.holds Tryz.pinned (OpenSpec.upto shardLoadsSpec)

end Rows
end Go.Proofs.YtpolljfkceanaaaGreatDoor
