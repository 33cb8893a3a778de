/- The table of instructions (code.sorts), and code.of. -/
import Derived.Test.YtgiegkacilfofabDoorKeep
namespace Go.Proofs.YtgiegkacilfofabDoor
set_option linter.unusedVariables false
set_option linter.unusedSimpArgs false
open Go.RowKit

structure SortR where
  nm : ByteArray
  takes : Int
  leaves : Int
  more : Int
  has : Int
def sorts : List SortR := [
  ⟨⟨#[63]⟩, 0, 0, -1, 0⟩,
  ⟨⟨#[112, 117, 115, 104]⟩, 0, 1, 0, 2⟩,
  ⟨⟨#[108, 111, 97, 100]⟩, 0, 1, 0, 1⟩,
  ⟨⟨#[115, 116, 111, 114, 101]⟩, 1, 0, 0, 1⟩,
  ⟨⟨#[110, 101, 103]⟩, 1, 1, 0, 0⟩,
  ⟨⟨#[110, 111, 116]⟩, 1, 1, 0, 0⟩,
  ⟨⟨#[97, 100, 100]⟩, 2, 1, 0, 0⟩,
  ⟨⟨#[115, 117, 98]⟩, 2, 1, 0, 0⟩,
  ⟨⟨#[109, 117, 108]⟩, 2, 1, 2, 0⟩,
  ⟨⟨#[100, 105, 118]⟩, 2, 1, 7, 0⟩,
  ⟨⟨#[109, 111, 100]⟩, 2, 1, 7, 0⟩,
  ⟨⟨#[108, 101, 115, 115]⟩, 2, 1, 0, 0⟩,
  ⟨⟨#[115, 97, 109, 101]⟩, 2, 1, 0, 0⟩,
  ⟨⟨#[97, 110, 100]⟩, 2, 1, 0, 0⟩,
  ⟨⟨#[111, 114]⟩, 2, 1, 0, 0⟩,
  ⟨⟨#[106, 117, 109, 112]⟩, 0, 0, 0, 1⟩,
  ⟨⟨#[122, 101, 114, 111]⟩, 1, 0, 0, 1⟩,
  ⟨⟨#[99, 97, 108, 108]⟩, 0, 1, 9, 1⟩,
  ⟨⟨#[114, 101, 116, 117, 114, 110]⟩, 1, 0, 1, 0⟩,
  ⟨⟨#[112, 114, 105, 110, 116]⟩, 1, 0, 4, 0⟩,
  ⟨⟨#[107, 101, 101, 112]⟩, 1, 0, 4, 0⟩,
  ⟨⟨#[105, 110, 112, 117, 116]⟩, 0, 0, 3, 3⟩,
  ⟨⟨#[97, 114, 114, 97, 121]⟩, 0, 0, 19, 3⟩,
  ⟨⟨#[103, 101, 116]⟩, 1, 1, 2, 1⟩,
  ⟨⟨#[115, 101, 116]⟩, 2, 0, 2, 1⟩,
  ⟨⟨#[99, 108, 111, 99, 107]⟩, 0, 1, 1, 0⟩]
def SortR.cells (s : SortR) : List Value := [.string s.nm, .int .i64 s.takes, .int .i64 s.leaves, .int .i64 s.more, .int .i64 s.has]
/-- the table in memory -/
def SortsIs (w : World) : Prop := ∀ (i : Nat) (s : SortR), sorts[i]? = some s → ∀ (j : Nat) u, s.cells[j]? = some u → w.cell? ⟨0, i * 5 + j, none⟩ = some u
theorem SortsIs.kept {w w' : World} {S : Nat → Prop} (h : SortsIs w) (hc : Chg S w w') (hn : ¬ S 0) : SortsIs w' := fun i s hs j u hu => hc.cell (h i s hs j u hu) hn
theorem SortsIs.keep {w w' : World} (h : SortsIs w) (hb : Below w.heap.size w w') : SortsIs w' := h.kept (Below.chg hb) (fun x => x)
theorem SortsIs.at_ {w : World} (h : SortsIs w) {i : Nat} {s : SortR} (hs : sorts[i]? = some s) : w.cell? ⟨0, i * 5, none⟩ = some (.string s.nm) ∧ w.cell? ⟨0, i * 5 + 1, none⟩ = some (.int .i64 s.takes) ∧ w.cell? ⟨0, i * 5 + 2, none⟩ = some (.int .i64 s.leaves) ∧ w.cell? ⟨0, i * 5 + 3, none⟩ = some (.int .i64 s.more) ∧ w.cell? ⟨0, i * 5 + 4, none⟩ = some (.int .i64 s.has) :=
  ⟨h i s hs 0 _ rfl, h i s hs 1 _ rfl, h i s hs 2 _ rfl, h i s hs 3 _ rfl, h i s hs 4 _ rfl⟩

set_option maxHeartbeats 1000000 in
set_option maxRecDepth 100000 in
theorem of_any {w : World} (h : SortsIs w) (op : Nat) (s : SortR) (h1 : 1 ≤ op) (hs : sorts[op]? = some s) : Calls Tryd.prog 41 #[.int .i64 op] w fun e w' => e = .returned (.agg #[.string s.nm, .int .i64 s.takes, .int .i64 s.leaves, .int .i64 s.more, .int .i64 s.has]) ∧ Below w.heap.size w w' := by
  have h25 : op < 26 := (List.getElem?_eq_some_iff.1 hs).1
  have h25' : (op : Int) ≤ 25 := by omega
  have h1' : (1 : Int) ≤ (op : Int) := by omega
  obtain ⟨c0, c1, c2, c3, c4⟩ := h.at_ hs
  have hg : 0 < w.heap.size := World.block_lt_of_cell? _ _ c0
  obtain ⟨nm, tk, lv, mo, ha⟩ := s
  simp only at c0 c1 c2 c3 c4
  clear hs
  go_enter Tryd.func41, Tryd.ntmps41
  go_wp2
  exact bodyPost_ret (v := .agg #[.string nm, .int .i64 tk, .int .i64 lv, .int .i64 mo, .int .i64 ha]) (by simp [results, Tryd.results41, go_sem]) rfl ⟨rfl, (Below.refl _ _).alloc (Nat.le_refl _) _⟩
end Go.Proofs.YtgiegkacilfofabDoor
