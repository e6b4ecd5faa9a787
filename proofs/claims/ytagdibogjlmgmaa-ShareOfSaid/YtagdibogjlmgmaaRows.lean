/-
  No cell of these rows narrows 'for every input' (looked for: loops, veiled, ifaces, maps, wideKeys, modest, calm, conditions, laid).
  DERIVED. THE GIVEN ROWS OF THIS SEAT. 11 by the template 'for every input the law returns true; each argument reads behind the call as it read before'; 0 by the template 'total and deterministic' (their statements: YtagdibogjlmgmaaTotals.lean).
  GIVEN WITH THE SEED: the statements are not yours to turn. If you find one false, say at which input.
  Laid BY PROGRAM, IN A SANDBOX (cutbox-rows.mjs): the forced cells as the released guide's own fill.sh prints them over the translation c882fc55419abbf1… (all of the seat's roots in one cut). By AI agents, Wed Nov 11 2026. No macro, syntax, notation, axiom, sorry.
-/
import Derived.Test.YtagdibogjlmgmaaChecked
import GoSem.Claim
import GoSem.ClaimJoined
import GoSem.ClaimMapViews
import Derived.JoinedTies
import Derived.KernelRfl
namespace Go.Proofs.Ytagdibogjlmgmaa
/- THE CELL 'sum', in the pinned program and in every row, IS THE sha256 OF THE DUMP (.gsa) THAT YtagdibogjlmgmaaProg.lean LOADS. Nothing in Lean hashes anything: it is a label: what it is worth is what the hold of that sum in a sandbox is worth. -/
noncomputable def Try.pinned : Pinned := { name := "ytagdibogjlmgmaa", sum := "c882fc55419abbf19b11b8a21cef8d7a07c018829f3e627531527f12a3ec977d", checked := Try.checked }
namespace Rows
def none {H : Type} : Left H := { results := [], args := [] }

/-- 'supercargolaw39.DiscountSums': WHATEVER THE INPUT: true; the input reads as it did. -/
def discountSumsSpec : ChangeSpec := { name := "discountSums", fn := fun _ => fun
  | [d1, d2, d3, d4] => { results := [.lit (.bool true)], args := [d1, d2, d3, d4] }
  | _ => none }
def discountSumsRow : OpenClaim := { program := "ytagdibogjlmgmaa", sum := "c882fc55419abbf19b11b8a21cef8d7a07c018829f3e627531527f12a3ec977d", func := "supercargo/supercargolaw39.DiscountSums", spec := "discountSums", apart := false }
def DiscountSumsSaid : Prop := discountSumsRow.holds Try.pinned (OpenSpec.ofChange discountSumsSpec)

/-- ITS FALSE NEIGHBOUR: 'it returns false'. Refute it at one input. -/
def discountSumsWrong : ChangeSpec := { name := "discountSums", fn := fun _ => fun
  | [d1, d2, d3, d4] => { results := [.lit (.bool false)], args := [d1, d2, d3, d4] }
  | _ => none }
def DiscountSumsWrongFalsely : Prop := discountSumsRow.holds Try.pinned (OpenSpec.ofChange discountSumsWrong)

/-- 'supercargolaw39.DiscountLonger': WHATEVER THE INPUT: true; the input reads as it did. -/
def discountLongerSpec : ChangeSpec := { name := "discountLonger", fn := fun _ => fun
  | [d1, d2, d3, d4, d5, d6, d7] => { results := [.lit (.bool true)], args := [d1, d2, d3, d4, d5, d6, d7] }
  | _ => none }
def discountLongerRow : OpenClaim := { program := "ytagdibogjlmgmaa", sum := "c882fc55419abbf19b11b8a21cef8d7a07c018829f3e627531527f12a3ec977d", func := "supercargo/supercargolaw39.DiscountLonger", spec := "discountLonger", apart := false }
def DiscountLongerSaid : Prop := discountLongerRow.holds Try.pinned (OpenSpec.ofChange discountLongerSpec)

/-- ITS FALSE NEIGHBOUR: 'it returns false'. Refute it at one input. -/
def discountLongerWrong : ChangeSpec := { name := "discountLonger", fn := fun _ => fun
  | [d1, d2, d3, d4, d5, d6, d7] => { results := [.lit (.bool false)], args := [d1, d2, d3, d4, d5, d6, d7] }
  | _ => none }
def DiscountLongerWrongFalsely : Prop := discountLongerRow.holds Try.pinned (OpenSpec.ofChange discountLongerWrong)

/-- 'supercargolaw39.DiscountFair': WHATEVER THE INPUT: true; the input reads as it did. -/
def discountFairSpec : ChangeSpec := { name := "discountFair", fn := fun _ => fun
  | [d1, d2, d3, d4, d5] => { results := [.lit (.bool true)], args := [d1, d2, d3, d4, d5] }
  | _ => none }
def discountFairRow : OpenClaim := { program := "ytagdibogjlmgmaa", sum := "c882fc55419abbf19b11b8a21cef8d7a07c018829f3e627531527f12a3ec977d", func := "supercargo/supercargolaw39.DiscountFair", spec := "discountFair", apart := false }
def DiscountFairSaid : Prop := discountFairRow.holds Try.pinned (OpenSpec.ofChange discountFairSpec)

/-- ITS FALSE NEIGHBOUR: 'it returns false'. Refute it at one input. -/
def discountFairWrong : ChangeSpec := { name := "discountFair", fn := fun _ => fun
  | [d1, d2, d3, d4, d5] => { results := [.lit (.bool false)], args := [d1, d2, d3, d4, d5] }
  | _ => none }
def DiscountFairWrongFalsely : Prop := discountFairRow.holds Try.pinned (OpenSpec.ofChange discountFairWrong)

/-- 'supercargolaw39.DiscountAdds': WHATEVER THE INPUT: true; the input reads as it did. -/
def discountAddsSpec : ChangeSpec := { name := "discountAdds", fn := fun _ => fun
  | [d1, d2, d3, d4, d5, d6] => { results := [.lit (.bool true)], args := [d1, d2, d3, d4, d5, d6] }
  | _ => none }
def discountAddsRow : OpenClaim := { program := "ytagdibogjlmgmaa", sum := "c882fc55419abbf19b11b8a21cef8d7a07c018829f3e627531527f12a3ec977d", func := "supercargo/supercargolaw39.DiscountAdds", spec := "discountAdds", inPlace := ["math/bits.Add64"], named := ["math/bits.divideError", "math/bits.overflowError"], apart := false }
def DiscountAddsSaid : Prop := discountAddsRow.holds Try.pinned (OpenSpec.ofChange discountAddsSpec)

/-- ITS FALSE NEIGHBOUR: 'it returns false'. Refute it at one input. -/
def discountAddsWrong : ChangeSpec := { name := "discountAdds", fn := fun _ => fun
  | [d1, d2, d3, d4, d5, d6] => { results := [.lit (.bool false)], args := [d1, d2, d3, d4, d5, d6] }
  | _ => none }
def DiscountAddsWrongFalsely : Prop := discountAddsRow.holds Try.pinned (OpenSpec.ofChange discountAddsWrong)

/-- 'supercargolaw04.ShareSplits': WHATEVER THE INPUT: true; the input reads as it did. -/
def shareSplitsSpec : ChangeSpec := { name := "shareSplits", fn := fun _ => fun
  | [d1, d2] => { results := [.lit (.bool true)], args := [d1, d2] }
  | _ => none }
def shareSplitsRow : OpenClaim := { program := "ytagdibogjlmgmaa", sum := "c882fc55419abbf19b11b8a21cef8d7a07c018829f3e627531527f12a3ec977d", func := "supercargo/supercargolaw04.ShareSplits", spec := "shareSplits", unfollowed := true, recurses := true, named := ["math/bits.divideError", "math/bits.overflowError"], apart := false }
def ShareSplitsSaid : Prop := shareSplitsRow.holds Try.pinned (OpenSpec.ofChange shareSplitsSpec)

/-- ITS FALSE NEIGHBOUR: 'it returns false'. Refute it at one input. -/
def shareSplitsWrong : ChangeSpec := { name := "shareSplits", fn := fun _ => fun
  | [d1, d2] => { results := [.lit (.bool false)], args := [d1, d2] }
  | _ => none }
def ShareSplitsWrongFalsely : Prop := shareSplitsRow.holds Try.pinned (OpenSpec.ofChange shareSplitsWrong)

/-- 'supercargolaw04.ShareSums': WHATEVER THE INPUT: true; the input reads as it did. -/
def shareSumsSpec : ChangeSpec := { name := "shareSums", fn := fun _ => fun
  | [d1, d2] => { results := [.lit (.bool true)], args := [d1, d2] }
  | _ => none }
def shareSumsRow : OpenClaim := { program := "ytagdibogjlmgmaa", sum := "c882fc55419abbf19b11b8a21cef8d7a07c018829f3e627531527f12a3ec977d", func := "supercargo/supercargolaw04.ShareSums", spec := "shareSums", unfollowed := true, recurses := true, named := ["math/bits.divideError", "math/bits.overflowError"], apart := false }
def ShareSumsSaid : Prop := shareSumsRow.holds Try.pinned (OpenSpec.ofChange shareSumsSpec)

/-- ITS FALSE NEIGHBOUR: 'it returns false'. Refute it at one input. -/
def shareSumsWrong : ChangeSpec := { name := "shareSums", fn := fun _ => fun
  | [d1, d2] => { results := [.lit (.bool false)], args := [d1, d2] }
  | _ => none }
def ShareSumsWrongFalsely : Prop := shareSumsRow.holds Try.pinned (OpenSpec.ofChange shareSumsWrong)

/-- 'supercargolaw04.ShareGrows': WHATEVER THE INPUT: true; the input reads as it did. -/
def shareGrowsSpec : ChangeSpec := { name := "shareGrows", fn := fun _ => fun
  | [d1, d2] => { results := [.lit (.bool true)], args := [d1, d2] }
  | _ => none }
def shareGrowsRow : OpenClaim := { program := "ytagdibogjlmgmaa", sum := "c882fc55419abbf19b11b8a21cef8d7a07c018829f3e627531527f12a3ec977d", func := "supercargo/supercargolaw04.ShareGrows", spec := "shareGrows", unfollowed := true, recurses := true, named := ["math/bits.divideError", "math/bits.overflowError"], apart := false }
def ShareGrowsSaid : Prop := shareGrowsRow.holds Try.pinned (OpenSpec.ofChange shareGrowsSpec)

/-- ITS FALSE NEIGHBOUR: 'it returns false'. Refute it at one input. -/
def shareGrowsWrong : ChangeSpec := { name := "shareGrows", fn := fun _ => fun
  | [d1, d2] => { results := [.lit (.bool false)], args := [d1, d2] }
  | _ => none }
def ShareGrowsWrongFalsely : Prop := shareGrowsRow.holds Try.pinned (OpenSpec.ofChange shareGrowsWrong)

/-- 'supercargolaw04.ShareMost': WHATEVER THE INPUT: true; the input reads as it did. -/
def shareMostSpec : ChangeSpec := { name := "shareMost", fn := fun _ => fun
  | [d] => { results := [.lit (.bool true)], args := [d] }
  | _ => none }
def shareMostRow : OpenClaim := { program := "ytagdibogjlmgmaa", sum := "c882fc55419abbf19b11b8a21cef8d7a07c018829f3e627531527f12a3ec977d", func := "supercargo/supercargolaw04.ShareMost", spec := "shareMost", unfollowed := true, recurses := true, named := ["math/bits.divideError", "math/bits.overflowError"], apart := false }
def ShareMostSaid : Prop := shareMostRow.holds Try.pinned (OpenSpec.ofChange shareMostSpec)

/-- ITS FALSE NEIGHBOUR: 'it returns false'. Refute it at one input. -/
def shareMostWrong : ChangeSpec := { name := "shareMost", fn := fun _ => fun
  | [d] => { results := [.lit (.bool false)], args := [d] }
  | _ => none }
def ShareMostWrongFalsely : Prop := shareMostRow.holds Try.pinned (OpenSpec.ofChange shareMostWrong)

/-- 'supercargolaw04.ShareOf': WHATEVER THE INPUT: true; the input reads as it did. -/
def shareOfSpec : ChangeSpec := { name := "shareOf", fn := fun _ => fun
  | [d1, d2] => { results := [.lit (.bool true)], args := [d1, d2] }
  | _ => none }
def shareOfRow : OpenClaim := { program := "ytagdibogjlmgmaa", sum := "c882fc55419abbf19b11b8a21cef8d7a07c018829f3e627531527f12a3ec977d", func := "supercargo/supercargolaw04.ShareOf", spec := "shareOf", unfollowed := true, recurses := true, named := ["math/bits.divideError", "math/bits.overflowError"], apart := false }
def ShareOfSaid : Prop := shareOfRow.holds Try.pinned (OpenSpec.ofChange shareOfSpec)

/-- ITS FALSE NEIGHBOUR: 'it returns false'. Refute it at one input. -/
def shareOfWrong : ChangeSpec := { name := "shareOf", fn := fun _ => fun
  | [d1, d2] => { results := [.lit (.bool false)], args := [d1, d2] }
  | _ => none }
def ShareOfWrongFalsely : Prop := shareOfRow.holds Try.pinned (OpenSpec.ofChange shareOfWrong)

/-- 'supercargolaw04.ShareRight': WHATEVER THE INPUT: true; the input reads as it did. -/
def shareRightSpec : ChangeSpec := { name := "shareRight", fn := fun _ => fun
  | [d1, d2, d3, d4, d5] => { results := [.lit (.bool true)], args := [d1, d2, d3, d4, d5] }
  | _ => none }
def shareRightRow : OpenClaim := { program := "ytagdibogjlmgmaa", sum := "c882fc55419abbf19b11b8a21cef8d7a07c018829f3e627531527f12a3ec977d", func := "supercargo/supercargolaw04.ShareRight", spec := "shareRight", unfollowed := true, recurses := true, named := ["math/bits.divideError", "math/bits.overflowError"], apart := false }
def ShareRightSaid : Prop := shareRightRow.holds Try.pinned (OpenSpec.ofChange shareRightSpec)

/-- ITS FALSE NEIGHBOUR: 'it returns false'. Refute it at one input. -/
def shareRightWrong : ChangeSpec := { name := "shareRight", fn := fun _ => fun
  | [d1, d2, d3, d4, d5] => { results := [.lit (.bool false)], args := [d1, d2, d3, d4, d5] }
  | _ => none }
def ShareRightWrongFalsely : Prop := shareRightRow.holds Try.pinned (OpenSpec.ofChange shareRightWrong)

/-- 'supercargolaw04.ShareEven': WHATEVER THE INPUT: true; the input reads as it did. -/
def shareEvenSpec : ChangeSpec := { name := "shareEven", fn := fun _ => fun
  | [d1, d2] => { results := [.lit (.bool true)], args := [d1, d2] }
  | _ => none }
def shareEvenRow : OpenClaim := { program := "ytagdibogjlmgmaa", sum := "c882fc55419abbf19b11b8a21cef8d7a07c018829f3e627531527f12a3ec977d", func := "supercargo/supercargolaw04.ShareEven", spec := "shareEven", unfollowed := true, recurses := true, named := ["math/bits.divideError", "math/bits.overflowError"], apart := false }
def ShareEvenSaid : Prop := shareEvenRow.holds Try.pinned (OpenSpec.ofChange shareEvenSpec)

/-- ITS FALSE NEIGHBOUR: 'it returns false'. Refute it at one input. -/
def shareEvenWrong : ChangeSpec := { name := "shareEven", fn := fun _ => fun
  | [d1, d2] => { results := [.lit (.bool false)], args := [d1, d2] }
  | _ => none }
def ShareEvenWrongFalsely : Prop := shareEvenRow.holds Try.pinned (OpenSpec.ofChange shareEvenWrong)

/- THE SECOND FORM. 'bulk': how many values and letters a reading holds, each counted each time it is reached (what is shared counts as often as it is met; a slice's spare places count too). A statement '..UptoSaid' is the law's where the arguments, and the package variables that the reading takes, are together of bulk at most 1048576: NARROWER than '..Said'. Prove '..Said' where nothing that the law and all that it calls make is longer than what came in: it says more and counts as full. Else prove '..UptoSaid'. A law counts once. -/
mutual
def uptoBulk {H : Type} : DataW H → Nat
  | .lit (.string bytes) => bytes.length + 1
  | .lit _ => 1
  | .nil => 1
  | .ptr d => uptoBulk d + 1
  | .slice elems spare => uptoBulkAll elems + uptoBulkAll spare + 1
  | .agg parts => uptoBulkAll parts + 1
  | .iface _ d => uptoBulk d + 1
  | .map entries => uptoBulkEntries entries + 1
  | .held _ => 1
def uptoBulkAll {H : Type} : List (DataW H) → Nat
  | [] => 0
  | d :: r => uptoBulk d + uptoBulkAll r
def uptoBulkEntries {H : Type} : List (Lit × DataW H) → Nat
  | [] => 0
  | x :: r => uptoBulkEntry x + uptoBulkEntries r
def uptoBulkEntry {H : Type} : Lit × DataW H → Nat
  | (.string bytes, d) => bytes.length + uptoBulk d + 1
  | (_, d) => uptoBulk d + 1
 end
def uptoSmall : (H : Type) → List (DataW H) → Bool := fun _ ds => decide (uptoBulkAll ds ≤ 1048576)
def OpenSpec.upto (s : _root_.Go.ChangeSpec) : _root_.Go.OpenSpec := { _root_.Go.OpenSpec.ofChange s with cond := some uptoSmall }

/-- 'supercargolaw39.DiscountSums', WHERE WHAT IT READS IS OF BULK AT MOST 1048576: true; the input reads as it did. -/
def discountSumsUptoRow : OpenClaim := { program := "ytagdibogjlmgmaa", sum := "c882fc55419abbf19b11b8a21cef8d7a07c018829f3e627531527f12a3ec977d", func := "supercargo/supercargolaw39.DiscountSums", spec := "discountSums", apart := false, narrowed := true }
def DiscountSumsUptoSaid : Prop := discountSumsUptoRow.holds Try.pinned (OpenSpec.upto discountSumsSpec)

/-- 'supercargolaw39.DiscountLonger', WHERE WHAT IT READS IS OF BULK AT MOST 1048576: true; the input reads as it did. -/
def discountLongerUptoRow : OpenClaim := { program := "ytagdibogjlmgmaa", sum := "c882fc55419abbf19b11b8a21cef8d7a07c018829f3e627531527f12a3ec977d", func := "supercargo/supercargolaw39.DiscountLonger", spec := "discountLonger", apart := false, narrowed := true }
def DiscountLongerUptoSaid : Prop := discountLongerUptoRow.holds Try.pinned (OpenSpec.upto discountLongerSpec)

/-- 'supercargolaw39.DiscountFair', WHERE WHAT IT READS IS OF BULK AT MOST 1048576: true; the input reads as it did. -/
def discountFairUptoRow : OpenClaim := { program := "ytagdibogjlmgmaa", sum := "c882fc55419abbf19b11b8a21cef8d7a07c018829f3e627531527f12a3ec977d", func := "supercargo/supercargolaw39.DiscountFair", spec := "discountFair", apart := false, narrowed := true }
def DiscountFairUptoSaid : Prop := discountFairUptoRow.holds Try.pinned (OpenSpec.upto discountFairSpec)

/-- 'supercargolaw39.DiscountAdds', WHERE WHAT IT READS IS OF BULK AT MOST 1048576: true; the input reads as it did. -/
def discountAddsUptoRow : OpenClaim := { program := "ytagdibogjlmgmaa", sum := "c882fc55419abbf19b11b8a21cef8d7a07c018829f3e627531527f12a3ec977d", func := "supercargo/supercargolaw39.DiscountAdds", spec := "discountAdds", inPlace := ["math/bits.Add64"], named := ["math/bits.divideError", "math/bits.overflowError"], apart := false, narrowed := true }
def DiscountAddsUptoSaid : Prop := discountAddsUptoRow.holds Try.pinned (OpenSpec.upto discountAddsSpec)

/-- 'supercargolaw04.ShareSplits', WHERE WHAT IT READS IS OF BULK AT MOST 1048576: true; the input reads as it did. -/
def shareSplitsUptoRow : OpenClaim := { program := "ytagdibogjlmgmaa", sum := "c882fc55419abbf19b11b8a21cef8d7a07c018829f3e627531527f12a3ec977d", func := "supercargo/supercargolaw04.ShareSplits", spec := "shareSplits", unfollowed := true, recurses := true, named := ["math/bits.divideError", "math/bits.overflowError"], apart := false, narrowed := true }
def ShareSplitsUptoSaid : Prop := shareSplitsUptoRow.holds Try.pinned (OpenSpec.upto shareSplitsSpec)

/-- 'supercargolaw04.ShareSums', WHERE WHAT IT READS IS OF BULK AT MOST 1048576: true; the input reads as it did. -/
def shareSumsUptoRow : OpenClaim := { program := "ytagdibogjlmgmaa", sum := "c882fc55419abbf19b11b8a21cef8d7a07c018829f3e627531527f12a3ec977d", func := "supercargo/supercargolaw04.ShareSums", spec := "shareSums", unfollowed := true, recurses := true, named := ["math/bits.divideError", "math/bits.overflowError"], apart := false, narrowed := true }
def ShareSumsUptoSaid : Prop := shareSumsUptoRow.holds Try.pinned (OpenSpec.upto shareSumsSpec)

/-- 'supercargolaw04.ShareGrows', WHERE WHAT IT READS IS OF BULK AT MOST 1048576: true; the input reads as it did. -/
def shareGrowsUptoRow : OpenClaim := { program := "ytagdibogjlmgmaa", sum := "c882fc55419abbf19b11b8a21cef8d7a07c018829f3e627531527f12a3ec977d", func := "supercargo/supercargolaw04.ShareGrows", spec := "shareGrows", unfollowed := true, recurses := true, named := ["math/bits.divideError", "math/bits.overflowError"], apart := false, narrowed := true }
def ShareGrowsUptoSaid : Prop := shareGrowsUptoRow.holds Try.pinned (OpenSpec.upto shareGrowsSpec)

/-- 'supercargolaw04.ShareMost', WHERE WHAT IT READS IS OF BULK AT MOST 1048576: true; the input reads as it did. -/
def shareMostUptoRow : OpenClaim := { program := "ytagdibogjlmgmaa", sum := "c882fc55419abbf19b11b8a21cef8d7a07c018829f3e627531527f12a3ec977d", func := "supercargo/supercargolaw04.ShareMost", spec := "shareMost", unfollowed := true, recurses := true, named := ["math/bits.divideError", "math/bits.overflowError"], apart := false, narrowed := true }
def ShareMostUptoSaid : Prop := shareMostUptoRow.holds Try.pinned (OpenSpec.upto shareMostSpec)

/-- 'supercargolaw04.ShareOf', WHERE WHAT IT READS IS OF BULK AT MOST 1048576: true; the input reads as it did. -/
def shareOfUptoRow : OpenClaim := { program := "ytagdibogjlmgmaa", sum := "c882fc55419abbf19b11b8a21cef8d7a07c018829f3e627531527f12a3ec977d", func := "supercargo/supercargolaw04.ShareOf", spec := "shareOf", unfollowed := true, recurses := true, named := ["math/bits.divideError", "math/bits.overflowError"], apart := false, narrowed := true }
def ShareOfUptoSaid : Prop := shareOfUptoRow.holds Try.pinned (OpenSpec.upto shareOfSpec)

/-- 'supercargolaw04.ShareRight', WHERE WHAT IT READS IS OF BULK AT MOST 1048576: true; the input reads as it did. -/
def shareRightUptoRow : OpenClaim := { program := "ytagdibogjlmgmaa", sum := "c882fc55419abbf19b11b8a21cef8d7a07c018829f3e627531527f12a3ec977d", func := "supercargo/supercargolaw04.ShareRight", spec := "shareRight", unfollowed := true, recurses := true, named := ["math/bits.divideError", "math/bits.overflowError"], apart := false, narrowed := true }
def ShareRightUptoSaid : Prop := shareRightUptoRow.holds Try.pinned (OpenSpec.upto shareRightSpec)

/-- 'supercargolaw04.ShareEven', WHERE WHAT IT READS IS OF BULK AT MOST 1048576: true; the input reads as it did. -/
def shareEvenUptoRow : OpenClaim := { program := "ytagdibogjlmgmaa", sum := "c882fc55419abbf19b11b8a21cef8d7a07c018829f3e627531527f12a3ec977d", func := "supercargo/supercargolaw04.ShareEven", spec := "shareEven", unfollowed := true, recurses := true, named := ["math/bits.divideError", "math/bits.overflowError"], apart := false, narrowed := true }
def ShareEvenUptoSaid : Prop := shareEvenUptoRow.holds Try.pinned (OpenSpec.upto shareEvenSpec)

end Rows
end Go.Proofs.Ytagdibogjlmgmaa
