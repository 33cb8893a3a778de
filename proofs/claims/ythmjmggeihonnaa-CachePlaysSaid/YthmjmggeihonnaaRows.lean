/-
  No cell of these rows narrows 'for every input' (looked for: loops, veiled, ifaces, maps, wideKeys, modest, calm, conditions, laid).
  DERIVED. THE GIVEN ROWS OF THIS SEAT. 6 by the template 'for every input the law returns true; each argument reads behind the call as it read before'; 0 by the template 'total and deterministic' (their statements: YthmjmggeihonnaaTotals.lean).
  GIVEN WITH THE SEED: the statements are not yours to turn. If you find one false, say at which input.
  Laid BY PROGRAM, IN A SANDBOX (cutbox-rows.mjs): the forced cells as the released guide's own fill.sh prints them over the translation 92ffc4eb1d1b26b9… (all of the seat's roots in one cut). By AI agents, Wed Nov 11 2026. No macro, syntax, notation, axiom, sorry.
-/
import Derived.Test.YthmjmggeihonnaaChecked
import GoSem.Claim
import GoSem.ClaimJoined
import GoSem.ClaimMapViews
import Derived.JoinedTies
import Derived.KernelRfl
namespace Go.Proofs.Ythmjmggeihonnaa
/- THE CELL 'sum', in the pinned program and in every row, IS THE sha256 OF THE DUMP (.gsa) THAT YthmjmggeihonnaaProg.lean LOADS. Nothing in Lean hashes anything: it is a label: what it is worth is what the hold of that sum in a sandbox is worth. -/
noncomputable def Try.pinned : Pinned := { name := "ythmjmggeihonnaa", sum := "92ffc4eb1d1b26b9899a2f6aa921d509de1b99549b4e9f8c82ebc0615a9db184", checked := Try.checked }
namespace Rows
def none {H : Type} : Left H := { results := [], args := [] }

/-- 'evenhandlaw18.CachePlays': WHATEVER THE INPUT: true; the input reads as it did. -/
def cachePlaysSpec : ChangeSpec := { name := "cachePlays", fn := fun _ => fun
  | [d1, d2] => { results := [.lit (.bool true)], args := [d1, d2] }
  | _ => none }
def cachePlaysRow : OpenClaim := { program := "ythmjmggeihonnaa", sum := "92ffc4eb1d1b26b9899a2f6aa921d509de1b99549b4e9f8c82ebc0615a9db184", func := "evenhand/evenhandlaw18.CachePlays", spec := "cachePlays", unfollowed := true, recurses := true, apart := false }
def CachePlaysSaid : Prop := cachePlaysRow.holds Try.pinned (OpenSpec.ofChange cachePlaysSpec)

/-- ITS FALSE NEIGHBOUR: 'it returns false'. Refute it at one input. -/
def cachePlaysWrong : ChangeSpec := { name := "cachePlays", fn := fun _ => fun
  | [d1, d2] => { results := [.lit (.bool false)], args := [d1, d2] }
  | _ => none }
def CachePlaysWrongFalsely : Prop := cachePlaysRow.holds Try.pinned (OpenSpec.ofChange cachePlaysWrong)

/-- 'evenhandlaw18.CacheBounds': WHATEVER THE INPUT: true; the input reads as it did. -/
def cacheBoundsSpec : ChangeSpec := { name := "cacheBounds", fn := fun _ => fun
  | [d1, d2] => { results := [.lit (.bool true)], args := [d1, d2] }
  | _ => none }
def cacheBoundsRow : OpenClaim := { program := "ythmjmggeihonnaa", sum := "92ffc4eb1d1b26b9899a2f6aa921d509de1b99549b4e9f8c82ebc0615a9db184", func := "evenhand/evenhandlaw18.CacheBounds", spec := "cacheBounds", unfollowed := true, recurses := true, apart := false }
def CacheBoundsSaid : Prop := cacheBoundsRow.holds Try.pinned (OpenSpec.ofChange cacheBoundsSpec)

/-- ITS FALSE NEIGHBOUR: 'it returns false'. Refute it at one input. -/
def cacheBoundsWrong : ChangeSpec := { name := "cacheBounds", fn := fun _ => fun
  | [d1, d2] => { results := [.lit (.bool false)], args := [d1, d2] }
  | _ => none }
def CacheBoundsWrongFalsely : Prop := cacheBoundsRow.holds Try.pinned (OpenSpec.ofChange cacheBoundsWrong)

/-- 'evenhandlaw18.CacheOldest': WHATEVER THE INPUT: true; the input reads as it did. -/
def cacheOldestSpec : ChangeSpec := { name := "cacheOldest", fn := fun _ => fun
  | [d1, d2] => { results := [.lit (.bool true)], args := [d1, d2] }
  | _ => none }
def cacheOldestRow : OpenClaim := { program := "ythmjmggeihonnaa", sum := "92ffc4eb1d1b26b9899a2f6aa921d509de1b99549b4e9f8c82ebc0615a9db184", func := "evenhand/evenhandlaw18.CacheOldest", spec := "cacheOldest", unfollowed := true, recurses := true, apart := false }
def CacheOldestSaid : Prop := cacheOldestRow.holds Try.pinned (OpenSpec.ofChange cacheOldestSpec)

/-- ITS FALSE NEIGHBOUR: 'it returns false'. Refute it at one input. -/
def cacheOldestWrong : ChangeSpec := { name := "cacheOldest", fn := fun _ => fun
  | [d1, d2] => { results := [.lit (.bool false)], args := [d1, d2] }
  | _ => none }
def CacheOldestWrongFalsely : Prop := cacheOldestRow.holds Try.pinned (OpenSpec.ofChange cacheOldestWrong)

/-- 'evenhandlaw18.CacheAgain': WHATEVER THE INPUT: true; the input reads as it did. -/
def cacheAgainSpec : ChangeSpec := { name := "cacheAgain", fn := fun _ => fun
  | [d1, d2] => { results := [.lit (.bool true)], args := [d1, d2] }
  | _ => none }
def cacheAgainRow : OpenClaim := { program := "ythmjmggeihonnaa", sum := "92ffc4eb1d1b26b9899a2f6aa921d509de1b99549b4e9f8c82ebc0615a9db184", func := "evenhand/evenhandlaw18.CacheAgain", spec := "cacheAgain", unfollowed := true, recurses := true, apart := false }
def CacheAgainSaid : Prop := cacheAgainRow.holds Try.pinned (OpenSpec.ofChange cacheAgainSpec)

/-- ITS FALSE NEIGHBOUR: 'it returns false'. Refute it at one input. -/
def cacheAgainWrong : ChangeSpec := { name := "cacheAgain", fn := fun _ => fun
  | [d1, d2] => { results := [.lit (.bool false)], args := [d1, d2] }
  | _ => none }
def CacheAgainWrongFalsely : Prop := cacheAgainRow.holds Try.pinned (OpenSpec.ofChange cacheAgainWrong)

/-- 'evenhandlaw18.CacheDrops': WHATEVER THE INPUT: true; the input reads as it did. -/
def cacheDropsSpec : ChangeSpec := { name := "cacheDrops", fn := fun _ => fun
  | [d1, d2] => { results := [.lit (.bool true)], args := [d1, d2] }
  | _ => none }
def cacheDropsRow : OpenClaim := { program := "ythmjmggeihonnaa", sum := "92ffc4eb1d1b26b9899a2f6aa921d509de1b99549b4e9f8c82ebc0615a9db184", func := "evenhand/evenhandlaw18.CacheDrops", spec := "cacheDrops", unfollowed := true, recurses := true, apart := false }
def CacheDropsSaid : Prop := cacheDropsRow.holds Try.pinned (OpenSpec.ofChange cacheDropsSpec)

/-- ITS FALSE NEIGHBOUR: 'it returns false'. Refute it at one input. -/
def cacheDropsWrong : ChangeSpec := { name := "cacheDrops", fn := fun _ => fun
  | [d1, d2] => { results := [.lit (.bool false)], args := [d1, d2] }
  | _ => none }
def CacheDropsWrongFalsely : Prop := cacheDropsRow.holds Try.pinned (OpenSpec.ofChange cacheDropsWrong)

/-- 'evenhandlaw18.CacheOne': WHATEVER THE INPUT: true; the input reads as it did. -/
def cacheOneSpec : ChangeSpec := { name := "cacheOne", fn := fun _ => fun
  | [d] => { results := [.lit (.bool true)], args := [d] }
  | _ => none }
def cacheOneRow : OpenClaim := { program := "ythmjmggeihonnaa", sum := "92ffc4eb1d1b26b9899a2f6aa921d509de1b99549b4e9f8c82ebc0615a9db184", func := "evenhand/evenhandlaw18.CacheOne", spec := "cacheOne", unfollowed := true, recurses := true, apart := false }
def CacheOneSaid : Prop := cacheOneRow.holds Try.pinned (OpenSpec.ofChange cacheOneSpec)

/-- ITS FALSE NEIGHBOUR: 'it returns false'. Refute it at one input. -/
def cacheOneWrong : ChangeSpec := { name := "cacheOne", fn := fun _ => fun
  | [d] => { results := [.lit (.bool false)], args := [d] }
  | _ => none }
def CacheOneWrongFalsely : Prop := cacheOneRow.holds Try.pinned (OpenSpec.ofChange cacheOneWrong)

/- THE SECOND FORM. 'bulk': how many values and letters a reading holds, each counted each time it is reached (what is shared counts as often as it is met; a slice's spare places count too). A statement '..UptoSaid' is the law's where the arguments, and the package variables that the reading takes, are together of bulk at most 1048576: NARROWER than '..Said'. Prove '..Said' where nothing that the law and all that it calls make is longer than what came in: it says more and counts as full. Else prove '..UptoSaid'. A law counts once. -/
mutual
def uptoBulk {H : Type} : DataW H → Nat
  | .lit (.string bytes) => bytes.length + 1
  | .lit _ => 1
  | .nil => 1
  | .ptr d => uptoBulk d + 1
  | .slice elems spare => uptoBulkAll elems + uptoBulkAll spare + 1
  | .agg parts => uptoBulkAll parts + 1
  | .iface _ d => uptoBulk d + 1
  | .map entries => uptoBulkEntries entries + 1
  | .held _ => 1
def uptoBulkAll {H : Type} : List (DataW H) → Nat
  | [] => 0
  | d :: r => uptoBulk d + uptoBulkAll r
def uptoBulkEntries {H : Type} : List (Lit × DataW H) → Nat
  | [] => 0
  | x :: r => uptoBulkEntry x + uptoBulkEntries r
def uptoBulkEntry {H : Type} : Lit × DataW H → Nat
  | (.string bytes, d) => bytes.length + uptoBulk d + 1
  | (_, d) => uptoBulk d + 1
 end
def uptoSmall : (H : Type) → List (DataW H) → Bool := fun _ ds => decide (uptoBulkAll ds ≤ 1048576)
def OpenSpec.upto (s : _root_.Go.ChangeSpec) : _root_.Go.OpenSpec := { _root_.Go.OpenSpec.ofChange s with cond := some uptoSmall }

/-- 'evenhandlaw18.CachePlays', WHERE WHAT IT READS IS OF BULK AT MOST 1048576: true; the input reads as it did. -/
def cachePlaysUptoRow : OpenClaim := { program := "ythmjmggeihonnaa", sum := "92ffc4eb1d1b26b9899a2f6aa921d509de1b99549b4e9f8c82ebc0615a9db184", func := "evenhand/evenhandlaw18.CachePlays", spec := "cachePlays", unfollowed := true, recurses := true, apart := false, narrowed := true }
def CachePlaysUptoSaid : Prop := cachePlaysUptoRow.holds Try.pinned (OpenSpec.upto cachePlaysSpec)

/-- 'evenhandlaw18.CacheBounds', WHERE WHAT IT READS IS OF BULK AT MOST 1048576: true; the input reads as it did. -/
def cacheBoundsUptoRow : OpenClaim := { program := "ythmjmggeihonnaa", sum := "92ffc4eb1d1b26b9899a2f6aa921d509de1b99549b4e9f8c82ebc0615a9db184", func := "evenhand/evenhandlaw18.CacheBounds", spec := "cacheBounds", unfollowed := true, recurses := true, apart := false, narrowed := true }
def CacheBoundsUptoSaid : Prop := cacheBoundsUptoRow.holds Try.pinned (OpenSpec.upto cacheBoundsSpec)

/-- 'evenhandlaw18.CacheOldest', WHERE WHAT IT READS IS OF BULK AT MOST 1048576: true; the input reads as it did. -/
def cacheOldestUptoRow : OpenClaim := { program := "ythmjmggeihonnaa", sum := "92ffc4eb1d1b26b9899a2f6aa921d509de1b99549b4e9f8c82ebc0615a9db184", func := "evenhand/evenhandlaw18.CacheOldest", spec := "cacheOldest", unfollowed := true, recurses := true, apart := false, narrowed := true }
def CacheOldestUptoSaid : Prop := cacheOldestUptoRow.holds Try.pinned (OpenSpec.upto cacheOldestSpec)

/-- 'evenhandlaw18.CacheAgain', WHERE WHAT IT READS IS OF BULK AT MOST 1048576: true; the input reads as it did. -/
def cacheAgainUptoRow : OpenClaim := { program := "ythmjmggeihonnaa", sum := "92ffc4eb1d1b26b9899a2f6aa921d509de1b99549b4e9f8c82ebc0615a9db184", func := "evenhand/evenhandlaw18.CacheAgain", spec := "cacheAgain", unfollowed := true, recurses := true, apart := false, narrowed := true }
def CacheAgainUptoSaid : Prop := cacheAgainUptoRow.holds Try.pinned (OpenSpec.upto cacheAgainSpec)

/-- 'evenhandlaw18.CacheDrops', WHERE WHAT IT READS IS OF BULK AT MOST 1048576: true; the input reads as it did. -/
def cacheDropsUptoRow : OpenClaim := { program := "ythmjmggeihonnaa", sum := "92ffc4eb1d1b26b9899a2f6aa921d509de1b99549b4e9f8c82ebc0615a9db184", func := "evenhand/evenhandlaw18.CacheDrops", spec := "cacheDrops", unfollowed := true, recurses := true, apart := false, narrowed := true }
def CacheDropsUptoSaid : Prop := cacheDropsUptoRow.holds Try.pinned (OpenSpec.upto cacheDropsSpec)

/-- 'evenhandlaw18.CacheOne', WHERE WHAT IT READS IS OF BULK AT MOST 1048576: true; the input reads as it did. -/
def cacheOneUptoRow : OpenClaim := { program := "ythmjmggeihonnaa", sum := "92ffc4eb1d1b26b9899a2f6aa921d509de1b99549b4e9f8c82ebc0615a9db184", func := "evenhand/evenhandlaw18.CacheOne", spec := "cacheOne", unfollowed := true, recurses := true, apart := false, narrowed := true }
def CacheOneUptoSaid : Prop := cacheOneUptoRow.holds Try.pinned (OpenSpec.upto cacheOneSpec)

end Rows
end Go.Proofs.Ythmjmggeihonnaa
