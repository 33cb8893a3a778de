/- code.Text of any row of instructions: the names, strings.Builder's WriteString at this dump, a line, the text. -/
import Derived.Test.YtgiegkacilfofabDoorFoldRun
import Derived.Test.YtgiegkacilfofabDoorSorts
import Derived.Test.YtgiegkacilfofabDoorShelf
import Derived.Test.YtgiegkacilfofabDoorBodyRd
import Derived.Shelf.Strings.Builder1
import Derived.Lib.AppendStr
import Derived.Lib.ItoaLen
import Derived.Lib.AppendIntMem
import Derived.Deep.CutBlock
import Derived.Deep.LoopGhost
import Derived.Deep.QuietTactic
import Derived.Test.YtgiegkacilfofabDoorOrd
import Derived.Deep.AppendLies
namespace Go.Proofs.YtgiegkacilfofabDoor
set_option linter.unusedVariables false
set_option linter.unusedSimpArgs false
open Go.RowKit

theorem sort_nm (nm : ByteArray) (tk lv mo ha : Int) (w : World) : (Instr.field 105 (.agg #[.string nm, .int .i64 tk, .int .i64 lv, .int .i64 mo, .int .i64 ha]) 0).run Tryd.prog w = .ok (.string nm) w := by kernel_rfl
theorem sort_has (nm : ByteArray) (tk lv mo ha : Int) (w : World) : (Instr.field 105 (.agg #[.string nm, .int .i64 tk, .int .i64 lv, .int .i64 mo, .int .i64 ha]) 4).run Tryd.prog w = .ok (.int .i64 ha) w := by kernel_rfl

def TxtIs (w : World) : Prop := SortsIs w ∧ Lib.TabIs Tryd.prog w "internal/strconv.uint64pow10" .u64 Lib.pow10Tab
theorem TxtIs.keep {w w' : World} (h : TxtIs w) (hb : Below w.heap.size w w') : TxtIs w' := ⟨h.1.keep hb, Lib.tabBelow_of_tabIs h.2 w' hb⟩
def sortOf (op : Int) : SortR := sorts.getD (if 1 ≤ op ∧ op ≤ 25 then op.toNat else 0) ⟨ByteArray.empty, 0, 0, 0, 0⟩
theorem sortOf_get (op : Int) : sorts[if 1 ≤ op ∧ op ≤ 25 then op.toNat else 0]? = some (sortOf op) := by
  have hl : sorts.length = 26 := rfl
  unfold sortOf
  rw [List.getD_eq_getElem?_getD, List.getElem?_eq_getElem (by split <;> omega)]
  rfl
theorem sortOf_all (op : Int) {p : SortR → Prop} (h : ∀ s ∈ sorts, p s) : p (sortOf op) := h _ (List.mem_of_getElem? (sortOf_get op))
set_option maxHeartbeats 1000000 in
set_option maxRecDepth 100000 in
theorem of_gen {w : World} (h : SortsIs w) (op : Int) : Calls Tryd.prog 41 #[.int .i64 op] w fun e w' => e = .returned (.agg #[.string (sortOf op).nm, .int .i64 (sortOf op).takes, .int .i64 (sortOf op).leaves, .int .i64 (sortOf op).more, .int .i64 (sortOf op).has]) ∧ Below w.heap.size w w' := by
  by_cases ho : 1 ≤ op ∧ op ≤ 25
  · have hg := sortOf_get op
    rw [if_pos ho] at hg
    have C := of_any h op.toNat (sortOf op) (by omega) hg
    rw [Int.toNat_of_nonneg (by omega)] at C
    exact C
  · have hs := sortOf_get op
    rw [if_neg ho] at hs
    obtain ⟨c0, c1, c2, c3, c4⟩ := h.at_ hs
    have hg : 0 < w.heap.size := World.block_lt_of_cell? _ _ c0
    generalize sortOf op = s at *
    obtain ⟨nm, tk, lv, mo, ha⟩ := s
    simp only [Nat.zero_mul, Nat.zero_add] at c0 c1 c2 c3 c4 ⊢
    clear hs
    by_cases h1 : 1 ≤ op
    · have h2 : decide (op ≤ 25) = false := decide_eq_false (by omega)
      clear ho
      go_enter Tryd.func41, Tryd.ntmps41
      go_wp2
      exact bodyPost_ret (v := .agg #[.string nm, .int .i64 tk, .int .i64 lv, .int .i64 mo, .int .i64 ha]) (by simp [results, Tryd.results41, go_sem]) rfl ⟨rfl, (Below.refl _ _).alloc (Nat.le_refl _) _⟩
    · clear ho
      go_enter Tryd.func41, Tryd.ntmps41
      go_wp2
      exact bodyPost_ret (v := .agg #[.string nm, .int .i64 tk, .int .i64 lv, .int .i64 mo, .int .i64 ha]) (by simp [results, Tryd.results41, go_sem]) rfl ⟨rfl, (Below.refl _ _).alloc (Nat.le_refl _) _⟩
set_option maxRecDepth 100000 in
theorem name_gen {w : World} (h : SortsIs w) (op : Int) : Calls Tryd.prog 40 #[.int .i64 op] w fun e w' => e = .returned (.string (sortOf op).nm) ∧ Below w.heap.size w w' := by
  have C := Lib.hid (of_gen h op)
  generalize sortOf op = s at *
  obtain ⟨nm, tk, lv, mo, ha⟩ := s
  simp only at C
  clear h
  go_enter Tryd.func40, Tryd.ntmps40
  go_wp2_with fail
  refine C.out.mono ?_; rintro e w1 ⟨rfl, hb⟩
  have HB := Lib.hid hb
  clear hb
  have hf := sort_nm nm tk lv mo ha w1
  go_wp2_with fail
  go_ret
  exact ⟨rfl, HB.out⟩

theorem sizeB : (Tryd.prog.info? 77).map (·.size) = some 2 := by kernel_rfl
theorem liesB : liesAt Tryd.prog Tryd.prog.depth 77 (2 / Tryd.prog.cellsOf 77) 0 77 1 = true := by kernel_rfl
theorem infoByte : (Tryd.prog.info? 5).map (fun i => (i.zero, i.size, i.bytes)) = some (some (.int .u8 0), 1, 1) := by kernel_rfl
theorem infoStr : (Tryd.prog.info? 9).map (fun i => (i.zero, i.size, i.bytes)) = some (some (.string ByteArray.empty), 1, 16) := by kernel_rfl

set_option maxHeartbeats 1000000 in
set_option maxRecDepth 100000 in
theorem check_used (b : Nat) (w : World) (h0 : w.cell? ⟨b, 0, none⟩ = some (.pointer (some ⟨b, 0, none⟩))) :
    Calls Tryd.prog 38 #[.pointer (some ⟨b, 0, none⟩)] w fun e w' => e = .returned (.tuple #[]) ∧ w' = w := by
  obtain ⟨j, hj, _⟩ := Option.map_eq_some_iff.1 sizeB
  go_enter Tryd.func38, Tryd.ntmps38
  go_wp2
  rw [Lib.run_neq_ptr_same w _ Tryd.underlying74 hj]
  go_wp2
  go_end0
  exact ⟨rfl, rfl⟩
set_option maxHeartbeats 1000000 in
set_option maxRecDepth 100000 in
theorem check_fresh (b : Nat) (w : World) (h0 : w.cell? ⟨b, 0, none⟩ = some (.pointer none)) (hsh : w.shape? b = some (77, 2)) (hfz : w.frozen? ⟨b, 0, none⟩ = false) :
    Calls Tryd.prog 38 #[.pointer (some ⟨b, 0, none⟩)] w fun e w' => e = .returned (.tuple #[]) ∧ w' = w.setCell ⟨b, 0, none⟩ (.pointer (some ⟨b, 0, none⟩)) := by
  obtain ⟨j, hj, hjs⟩ := Option.map_eq_some_iff.1 sizeB
  go_enter Tryd.func38, Tryd.ntmps38
  go_wp2
  rw [Lib.run_to_unsafe w ⟨b, 0, none⟩ Tryd.underlying74 Tryd.underlying117 hj (by rw [hjs]; decide) hsh (Nat.zero_lt_succ 1)]
  simp only [Result.andThen]
  rw [Oper.upon_value]
  go_wp2
  rw [run_callFunc_extern Tryd.func49 (by kernel_rfl) (by kernel_rfl) (by kernel_rfl) (e := Extern.AbiNoEscape.same) (by kernel_rfl)]
  rw [Lib.run_noEscape]
  simp only [Result.andThen]
  rw [Oper.upon_value]
  go_wp2
  rw [Lib.run_from_unsafe w ⟨b, 0, none⟩ Tryd.underlying117 Tryd.underlying74 hj hsh liesB]
  simp only [Result.andThen]
  rw [Oper.upon_value]
  go_wp2
  go_end0
  exact ⟨rfl, rfl⟩
theorem check_any (B b : Nat) (bs : List Value) (w : World) (h : Lib.IsBuilder 77 5 B b bs w) :
    Calls Tryd.prog 38 #[.pointer (some ⟨b, 0, none⟩)] w fun e w' => e = .returned (.tuple #[]) ∧ (Lib.BuilderAt 77 5 B b (.pointer (some ⟨b, 0, none⟩)) bs w' ∧ Below B w w') := by
  rcases h with h | h
  · refine (check_fresh b w h.cell0 h.shape h.frozen0).mono ?_
    rintro e w' ⟨rfl, rfl⟩
    exact ⟨rfl, h.used _, (Below.refl B w).setCell (p := ⟨b, 0, none⟩) h.1 _⟩
  · refine (check_used b w h.cell0).mono ?_
    rintro e w' ⟨rfl, rfl⟩
    exact ⟨rfl, h, Below.refl B _⟩
set_option maxHeartbeats 2000000 in
set_option maxRecDepth 100000 in
theorem write_any (B b : Nat) (bs : List Value) (s : ByteArray) (w : World) (h : Lib.IsBuilder 77 5 B b bs w) (hlen : bs.length + s.size ≤ 140737488355328) (hBw : B ≤ w.heap.size) :
    Calls Tryd.prog 27 #[.pointer (some ⟨b, 0, none⟩), .string s] w fun e w' => e = .returned (.tuple #[.int .i64 s.size, .nilIface]) ∧ (Lib.BuilderAt 77 5 B b (.pointer (some ⟨b, 0, none⟩)) (bs ++ Lib.strCells s) w' ∧ Below B w w') := by
  obtain ⟨i0, hi, hz0, hz1, hz2⟩ := info_parts infoByte
  go_enter Tryd.func27, Tryd.ntmps27
  go_wp2_with fail
  refine (check_any B b bs _ h).mono ?_
  rintro e w1 ⟨rfl, h1, hb1⟩
  obtain ⟨hB, v, hbk, hown, hne⟩ := h1
  have c0 : w1.cell? ⟨b, 0, none⟩ = some (.pointer (some ⟨b, 0, none⟩)) := by rw [Lib.cell_of_heap hbk]; rfl
  have c1 : w1.cell? ⟨b, 1, none⟩ = some v := by rw [Lib.cell_of_heap hbk]; rfl
  go_wp2_with (at_builtin; refine Lib.wpList_append_own_string _ rfl _ _ 75 9 rfl B 5 i0 Tryd.underlying75 Tryd.underlying9 hi hz0 hz1 hz2 _ _ _ rfl hown s rfl ?c3 ?c4 ?c5 ?_)
  case c3 => unfold maxLen; omega
  case c4 => omega
  case c5 => have := hb1.size; omega
  intro v' w2 hown' hgrow _
  have hlt : b < w1.heap.size := lt_of_heap hbk
  have hb2 : w2.heap[b]? = some (.cells #[.pointer (some ⟨b, 0, none⟩), v] 77 (0, 0)) := by
    rw [hgrow.block b hlt (fun e => hne e.symm)]
    exact hbk
  have d0 : w2.cell? ⟨b, 0, none⟩ = some (.pointer (some ⟨b, 0, none⟩)) := by rw [Lib.cell_of_heap hb2]; rfl
  have d1 : w2.cell? ⟨b, 1, none⟩ = some v := by rw [Lib.cell_of_heap hb2]; rfl
  have f1 : w2.frozen? ⟨b, 1, none⟩ = false := Lib.frozen_of_heap hb2 1
  obtain ⟨ao, n', cap, rfl⟩ : ∃ ao n' cap, v' = .slice ao n' cap := by
    rcases hown'.2 with ⟨hv, _⟩ | ⟨g, cap, cur, hv, _⟩
    · exact ⟨_, _, _, hv⟩
    · exact ⟨_, _, _, hv⟩
  go_wp2
  go_ret2
  refine ⟨rfl, ?_, ?_⟩
  · exact Lib.BuilderAt.put (T := 77) (e := 5) hB hb2 (bs' := bs ++ Lib.strCells s) (by simpa [Lib.strCells_length] using hown') (by decide)
  · exact (hb1.grown hgrow (by have := hb1.size; omega) (fun k hk => (hown.lt k hk).1)).setCell (p := ⟨b, 1, none⟩) hB _

/-- a line -/
def lineW (p : Nat) (s : SortR) (a n : Int) : List ByteArray :=
  [⟨(Lib.itoa p).toArray⟩, s.nm] ++ (if s.has = 1 ∨ s.has = 3 then [⟨(Lib.itoa a).toArray⟩] else []) ++ (if s.has = 2 ∨ s.has = 3 then [⟨(Lib.itoa n).toArray⟩] else [])
def lineL (p : Nat) (s : SortR) (a n : Int) : ByteArray := ⟨(Lib.join ((lineW p s a n).map (·.data.toList)) [32]).toArray⟩ ++ ⟨#[10]⟩
def strs (l : List ByteArray) : List Value := l.map Value.string
theorem strs_one (l : List ByteArray) : ∀ u ∈ strs l, u.oneCell' = true := fun u hu => by
  obtain ⟨s, _, rfl⟩ := List.mem_map.1 hu
  rfl

theorem joinTail_len (sep : List UInt8) : ∀ r : List (List UInt8), (Lib.joinTail sep r).length = (r.map List.length).sum + r.length * sep.length
  | [] => by simp [Lib.joinTail]
  | x :: r => by
    have ih := joinTail_len sep r
    unfold Lib.joinTail at ih ⊢
    simp only [List.map_cons, List.flatten_cons, List.length_append, List.sum_cons, List.length_cons]
    rw [ih, Nat.add_mul]
    omega
theorem join_le (xs : List (List UInt8)) (sep : List UInt8) : (Lib.join xs sep).length ≤ (xs.map List.length).sum + xs.length * sep.length := by
  cases xs with
  | nil => simp [Lib.join_nil]
  | cons x r =>
    rw [Lib.join_cons, List.length_append, joinTail_len]
    simp only [List.map_cons, List.sum_cons, List.length_cons]
    rw [Nat.add_mul]
    omega
theorem src_str {w : World} {B : Nat} {x : ByteArray} (h : w.heap[B]? = some (.cells #[.string x] 9 (0, 0))) : Src w (.slice (some ⟨B, 0, none⟩) 1 1) 1 (strs [x]) :=
  .inr ⟨B, 0, 1, rfl, lt_of_heap h, Nat.le_refl _, by simp [maxLen], fun j u hu => by rw [Nat.zero_add, cell_of_block h]; simpa [strs] using hu⟩
theorem row_two {w : World} {G : Nat} {x y : ByteArray} (h : w.heap[G]? = some (.cells #[.string x, .string y] 9 (0, 0))) : w.ownsRow 0 9 1 (.slice (some ⟨G, 0, none⟩) 2 2) 2 (strs [x, y]) :=
  ⟨rfl, .inr ⟨G, 2, _, rfl, Nat.zero_le _, h, Nat.le_refl _, by simp [maxLen], rfl, rfl⟩⟩

theorem join_small (xs : List ByteArray) (h4 : xs.length ≤ 10) (h5 : ∀ x ∈ xs, x.data.toList.length ≤ 100) : (Lib.join (xs.map (·.data.toList)) [32]).length ≤ 2000 := by
  have hj := join_le (xs.map (·.data.toList)) [32]
  have hsum : ∀ l : List ByteArray, (∀ x ∈ l, x.data.toList.length ≤ 100) → ((l.map (·.data.toList)).map List.length).sum ≤ l.length * 100 := fun l => by
    induction l with
    | nil => intro _; simp
    | cons x l ih =>
      intro hx
      have e1 := hx x (by simp)
      have e2 := ih (fun y hy => hx y (by simp [hy]))
      simp only [List.map_cons, List.sum_cons, List.length_cons] at e2 ⊢
      omega
  have h6 := hsum xs h5
  rw [List.length_map] at hj
  simp only [List.length_cons, List.length_nil] at hj
  omega

set_option maxHeartbeats 8000000 in
set_option maxRecDepth 100000 in
theorem line_any {w : World} (h : TxtIs w) (op a n : Int) (p : Nat) (s : SortR) (hs : sortOf op = s) (ha : In64 a) (hn : In64 n) (hp : p ≤ 1048576) :
    Calls Tryd.prog 28 #[.agg #[.int .i64 op, .int .i64 a, .int .i64 n], .int .i64 p] w fun e w' => e = .returned (.string (lineL p s a n)) ∧ Below w.heap.size w w' := by
  obtain ⟨i0, hi, hz0, hz1, hz2⟩ := info_parts infoStr
  have COF : Hid (∀ wx, Below w.heap.size w wx → Calls Tryd.prog 41 #[.int .i64 op] wx fun e w' => e = .returned (.agg #[.string s.nm, .int .i64 s.takes, .int .i64 s.leaves, .int .i64 s.more, .int .i64 s.has]) ∧ Below wx.heap.size wx w') := Lib.hid (fun wx hb => by rw [← hs]; exact of_gen (h.keep hb).1 op)
  have CNM : Hid (∀ wx, Below w.heap.size w wx → Calls Tryd.prog 40 #[.int .i64 op] wx fun e w' => e = .returned (.string s.nm) ∧ Below wx.heap.size wx w') := Lib.hid (fun wx hb => by rw [← hs]; exact name_gen (h.keep hb).1 op)
  have za : -9223372036854775808 ≤ a ∧ a ≤ 9223372036854775807 := ha
  have zn : -9223372036854775808 ≤ n ∧ n ≤ 9223372036854775807 := hn
  have zp : -9223372036854775808 ≤ (p : Int) ∧ (p : Int) ≤ 9223372036854775807 := by omega
  obtain ⟨sa, hsa⟩ : ∃ sa : ByteArray, sa = ⟨(Lib.itoa a).toArray⟩ := ⟨_, rfl⟩
  obtain ⟨sn, hsn⟩ : ∃ sn : ByteArray, sn = ⟨(Lib.itoa n).toArray⟩ := ⟨_, rfl⟩
  obtain ⟨sp, hsp⟩ : ∃ sp : ByteArray, sp = ⟨(Lib.itoa p).toArray⟩ := ⟨_, rfl⟩
  have CIA : Hid (∀ wx, Below w.heap.size w wx → Calls Tryd.prog 39 #[.int .i64 a] wx fun e w' => e = .returned (.string sa) ∧ Below wx.heap.size wx w') := Lib.hid (fun wx hb => by rw [hsa]; exact (Tryd.strconv_Itoa a za.1 za.2 wx (h.keep hb).2).mono (by rintro e w' ⟨h1, k, os, rfl⟩; exact ⟨h1, Lib.below_grow _ _ (Nat.le_refl _) _ _⟩))
  have CIP : Hid (∀ wx, Below w.heap.size w wx → Calls Tryd.prog 39 #[.int .i64 p] wx fun e w' => e = .returned (.string sp) ∧ Below wx.heap.size wx w') := Lib.hid (fun wx hb => by rw [hsp]; exact (Tryd.strconv_Itoa p zp.1 zp.2 wx (h.keep hb).2).mono (by rintro e w' ⟨h1, k, os, rfl⟩; exact ⟨h1, Lib.below_grow _ _ (Nat.le_refl _) _ _⟩))
  have CFN : Hid (∀ wx, Below w.heap.size w wx → Calls Tryd.prog 42 #[.int .i64 n, .int .i64 10] wx fun e w' => e = .returned (.string sn) ∧ Below wx.heap.size wx w') := Lib.hid (fun wx hb => by rw [hsn]; exact (Tryd.strconv_FormatInt_10 n zn.1 zn.2 wx (h.keep hb).2).mono (by rintro e w' ⟨h1, k, os, rfl⟩; exact ⟨h1, Lib.below_grow _ _ (Nat.le_refl _) _ _⟩))
  have hall : ∀ x ∈ sorts, x.has = 0 ∨ x.has = 1 ∨ x.has = 2 ∨ x.has = 3 := by decide
  have hhas := hs ▸ sortOf_all op hall
  have hlen : s.nm.size ≤ 100 := hs ▸ sortOf_all op (p := fun s => s.nm.size ≤ 100) (by decide)
  have hL : lineL p s a n = ⟨(Lib.join (([sp, s.nm] ++ (if s.has = 1 ∨ s.has = 3 then [sa] else []) ++ (if s.has = 2 ∨ s.has = 3 then [sn] else [])).map (·.data.toList)) [32]).toArray⟩ ++ ⟨#[10]⟩ := by rw [hsa, hsn, hsp]; rfl
  rw [hL]
  have zsa : sa.data.toList.length ≤ 21 := by rw [hsa]; exact Lib.itoa_length_le a za.1 za.2
  have zsn : sn.data.toList.length ≤ 21 := by rw [hsn]; exact Lib.itoa_length_le n zn.1 zn.2
  have zsp : sp.data.toList.length ≤ 21 := by rw [hsp]; exact Lib.itoa_length_le p zp.1 zp.2
  obtain ⟨nm, tk, lv, mo, hz⟩ := s
  simp only at COF CNM hlen hhas ⊢
  have znm : nm.data.toList.length ≤ 100 := hlen
  have HZZ := Lib.hid (And.intro zsa (And.intro zsn (And.intro zsp znm)))
  have HSO := Lib.hid h
  clear hs hall hL hsa hsn hsp zsa zsn zsp znm hlen h ha hn hp za zn zp
  have CJ : Hid (∀ (bk c : Nat) (xs : List ByteArray) (wx : World), (∀ (j : Nat) x, xs[j]? = some x → wx.cell? ⟨bk, 0 + j, none⟩ = some (.string x)) → bk < wx.heap.size → xs.length ≤ c → xs.length ≤ 10 → (∀ x ∈ xs, x.data.toList.length ≤ 100) → Calls Tryd.prog 43 #[.slice (some ⟨bk, 0, none⟩) xs.length c, .string ⟨#[32]⟩] wx fun e w' => e = .returned (.string ⟨(Lib.join (xs.map (·.data.toList)) [32]).toArray⟩) ∧ Below wx.heap.size wx w') := Lib.hid (fun bk c xs wx h1 h2 h3 h4 h5 =>
    Tryd.strings_Join bk 0 c xs ⟨#[32]⟩ wx h1 h2 (by omega) h3 (by
      have := join_small xs h4 h5
      show (Lib.join (xs.map (·.data.toList)) [32]).length ≤ _
      omega))
  obtain ⟨wa, hwa⟩ : ∃ wa, wa = w.alloc (.cells #[.int .i64 op, .int .i64 a, .int .i64 n] 44) := ⟨_, rfl⟩
  obtain ⟨B0, hB0⟩ : ∃ B0, B0 = w.heap.size := ⟨_, rfl⟩
  have HA : Hid (wa.heap[B0]? = some (.cells #[.int .i64 op, .int .i64 a, .int .i64 n] 44 (0, 0)) ∧ Below w.heap.size w wa) := Lib.hid ⟨by rw [hwa]; exact heap_new' hB0.symm, by rw [hwa]; exact (Below.refl _ _).alloc (Nat.le_refl _) _⟩
  have HW := Lib.hid (And.intro hB0 hwa)
  clear hwa hB0
  go_enter Tryd.func28, Tryd.ntmps28
  go_upto_region 1 with fail
  rw [← HW.out.1, ← HW.out.2]
  go_cut [5] from 6 to 11 (fun v wx => ∃ G : Nat, v = .slice (some ⟨G, 0, none⟩) 2 2 ∧ Hid (wx.heap[G]? = some (.cells #[.string sp, .string nm] 9 (0, 0)) ∧ Below wa.heap.size wa wx ∧ B0 < G))
  case first =>
    obtain ⟨wd, hwd⟩ : ∃ wd, wd = wa.drew := ⟨_, rfl⟩
    have hb : Below wa.heap.size wa wd := by rw [hwd]; exact (Below.refl _ _).drew
    have SCX : Hid (∀ wx, Below wa.heap.size wa wx → wx.cell? ⟨B0, 0, none⟩ = some (.int .i64 op) ∧ True) := Lib.hid (fun wx hb => ⟨cell_of_block ((Below.chg hb).heap HA.out.1 (fun x => x)) 0, trivial⟩)
    have hS := SCX.out wd hb
    refine wp_region_ord (S := fun w' => w'.cell? ⟨B0, 0, none⟩ = some (.int .i64 op) ∧ True) (N := fun i => true) (by kernel_rfl) [(0, true), (2, true), (3, true), (1, false), (4, false), (5, false), (6, true)] (by kernel_rfl) ?_
    rw [← hwd]
    clear hwd
    iterate 3 (refine ord_look rfl hS rfl (by intro w hS; obtain ⟨p0, p1⟩ := hS; go_simp; with_reducible rfl) (fun c a w h => h) ?_; simp only [Act.put, List.setIfInBounds_toArray, List.set_cons_succ, List.set_cons_zero])
    refine ord_act rfl rfl (fun K hK => ?_)
    refine wp_call 39 _ _ Tryd.func39 rfl (by kernel_rfl) _ _ rfl #[.int .i64 p] (by simp [Act.eval]) (R := fun v w1 => v = .string sp ∧ Below wd.heap.size wd w1) (calls_ret (CIP.out _ (bel_trans HA.out.2 hb)) (by rintro e w1 ⟨rfl, h⟩; exact ⟨_, rfl, rfl, h⟩)) ?_
    rintro v wd2 ⟨rfl, hb0⟩
    have hb2 := bel_trans hb hb0
    have hS := SCX.out wd2 hb2
    refine hK _ _ ⟨fun _ => hS, ?_⟩
    clear hK K hb0
    clear hb
    have hb := hb2
    clear hb2
    try simp only [Act.put, List.setIfInBounds_toArray, List.set_cons_succ, List.set_cons_zero]
    refine ord_act rfl rfl (fun K hK => ?_)
    refine wp_call 40 _ _ Tryd.func40 rfl (by kernel_rfl) _ _ rfl #[.int .i64 op] (by simp [Act.eval]) (R := fun v w1 => v = .string nm ∧ Below wd2.heap.size wd2 w1) (calls_ret (CNM.out _ (bel_trans HA.out.2 hb)) (by rintro e w1 ⟨rfl, h⟩; exact ⟨_, rfl, rfl, h⟩)) ?_
    rintro v w1 ⟨rfl, hb1⟩
    have hb2 := bel_trans hb hb1
    have hS1 := SCX.out w1 hb2
    refine hK _ _ ⟨fun _ => hS1, ?_⟩
    clear hK K hb1 hS
    try simp only [Act.put, List.setIfInBounds_toArray, List.set_cons_succ, List.set_cons_zero]
    refine ord_act rfl rfl (fun K hK => ?_)
    go_simp
    obtain ⟨w2, hw2⟩ : ∃ w2, w2 = w1.alloc (.cells #[.string sp, .string nm] 9) := ⟨_, rfl⟩
    obtain ⟨G, hG⟩ : ∃ G, G = w1.heap.size := ⟨_, rfl⟩
    rw [← hw2, ← hG]
    have hb3 : Below wa.heap.size wa w2 := by rw [hw2]; exact hb2.alloc hb2.size _
    have hG2 : w2.heap[G]? = some (.cells #[.string sp, .string nm] 9 (0, 0)) := by rw [hw2]; exact heap_new' hG.symm
    have hBG : B0 < G := by have := lt_of_heap HA.out.1; have := hb2.size; omega
    have hS := SCX.out w2 hb3
    refine hK _ _ ⟨fun _ => hS, ?_⟩
    clear hK K hw2 hG hS1
    try simp only [Act.put, List.setIfInBounds_toArray, List.set_cons_succ, List.set_cons_zero]
    (refine ord_look rfl hS rfl (by intro w hS; obtain ⟨p0, p1⟩ := hS; go_simp; with_reducible rfl) (fun c a w h => h) ?_; simp only [Act.put, List.setIfInBounds_toArray, List.set_cons_succ, List.set_cons_zero])
    refine ord_end ?_
    have HRS := Lib.hid (And.intro hG2 (And.intro hb3 hBG))
    clear hG2 hb3 hS
    go_wp2_with fail
    go_meet
    case rel => exact ⟨G, rfl, HRS⟩
  case rest =>
    obtain ⟨G, rfl, HG⟩ := hcut
    obtain ⟨wq0, hwq⟩ : ∃ wq0 : World, wq0 = wc := ⟨_, rfl⟩
    rw [← hwq] at HG ⊢
    clear hwq
    have c0' := 0
    clear c0'
    have HX0 := Lib.hid (And.intro ((Below.chg HG.out.2.1).heap HA.out.1 (fun x => x)) (bel_trans HA.out.2 HG.out.2.1))
    have HR0 := Lib.hid (row_two HG.out.1)
    have HO0 : Hid (∀ k, (Value.slice (some ⟨G, 0, none⟩) 2 2).ownBlock = some k → B0 < k) := Lib.hid (fun k hk => by injection hk with hk; rw [← hk]; exact HG.out.2.2)
    rcases hhas with hh | hh | hh | hh
    · subst hh
      have c0 := cell_of_block HX0.out.1 0
      have c1 := cell_of_block HX0.out.1 1
      have c2 := cell_of_block HX0.out.1 2
      simp at c0 c1 c2
      go_wp2_with fail
      refine (COF.out _ HX0.out.2).mono ?_; rintro e wq1 ⟨rfl, hb1⟩
      clear c0 c1 c2
      have HX1 := Lib.hid (And.intro ((Below.chg hb1).heap HX0.out.1 (fun x => x)) (bel_trans HX0.out.2 hb1))
      have HR1 := Lib.hid (ownsRow_kept HR0.out (Below.chg hb1) (fun _ _ x => x))
      clear hb1
      have hf1 := sort_has nm tk lv mo 0 wq1
      have c0 := cell_of_block HX1.out.1 0
      have c1 := cell_of_block HX1.out.1 1
      have c2 := cell_of_block HX1.out.1 2
      simp at c0 c1 c2
      go_wp2_with fail
      refine (COF.out _ HX1.out.2).mono ?_; rintro e wq2 ⟨rfl, hb2⟩
      clear c0 c1 c2
      have HX2 := Lib.hid (And.intro ((Below.chg hb2).heap HX1.out.1 (fun x => x)) (bel_trans HX1.out.2 hb2))
      have HR2 := Lib.hid (ownsRow_kept HR1.out (Below.chg hb2) (fun _ _ x => x))
      clear hb2
      have hf2 := sort_has nm tk lv mo 0 wq2
      have c0 := cell_of_block HX2.out.1 0
      have c1 := cell_of_block HX2.out.1 1
      have c2 := cell_of_block HX2.out.1 2
      simp at c0 c1 c2
      obtain ⟨g, cap, e, hgl, hcells⟩ := ownsRow_at HR2.out (by omega)
      injection e with e1 e2 e3
      have hcl : 2 ≤ cap := by
        rcases HR2.out.2 with ⟨e, _⟩ | ⟨_, _, _, e, _, _, h, _⟩
        · rw [e1] at e; cases e
        · injection e with _ _ e; omega
      have CJJ := Lib.hid (CJ.out g cap [sp, nm] wq2 (fun j x hx => by rw [Nat.zero_add]; exact hcells j _ (by show ([sp, nm].map Value.string)[j]? = _; rw [List.getElem?_map, hx]; rfl)) hgl hcl (by simp) (fun x hx => by
        simp only [List.mem_cons, List.not_mem_nil, or_false] at hx
        have z := HZZ.out
        rcases hx with rfl | rfl
        · omega
        · omega))
      injection e1 with e1
      injection e1 with e1
      subst e1 e3
      have hJs : (⟨(Lib.join ([sp, nm].map (·.data.toList)) [32]).toArray⟩ : ByteArray).size ≤ 2000 := join_small [sp, nm] (by simp) (fun x hx => by
        simp only [List.mem_cons, List.not_mem_nil, or_false] at hx
        have z := HZZ.out
        rcases hx with rfl | rfl
        · omega
        · omega)
      obtain ⟨J, hJ⟩ : ∃ J : ByteArray, J = ⟨(Lib.join ([sp, nm].map (·.data.toList)) [32]).toArray⟩ := ⟨_, rfl⟩
      rw [← hJ] at CJJ hJs
      have HJ := Lib.hid hJ
      clear hJ
      clear hcells hcl hgl e2
      go_wp2_with fail
      refine CJJ.out.mono ?_; rintro e w9 ⟨rfl, hb9⟩
      have HB9 := Lib.hid (bel_trans HX2.out.2 hb9)
      clear hb9
      go_wp2_with fail
      go_ret
      refine ⟨?_, HB9.out⟩
      rw [HJ.out]
      rfl
    · subst hh
      have c0 := cell_of_block HX0.out.1 0
      have c1 := cell_of_block HX0.out.1 1
      have c2 := cell_of_block HX0.out.1 2
      simp at c0 c1 c2
      go_wp2_with fail
      refine (COF.out _ HX0.out.2).mono ?_; rintro e wq1 ⟨rfl, hb1⟩
      clear c0 c1 c2
      have HX1 := Lib.hid (And.intro ((Below.chg hb1).heap HX0.out.1 (fun x => x)) (bel_trans HX0.out.2 hb1))
      have HR1 := Lib.hid (ownsRow_kept HR0.out (Below.chg hb1) (fun _ _ x => x))
      clear hb1
      have hf1 := sort_has nm tk lv mo 1 wq1
      have c0 := cell_of_block HX1.out.1 0
      have c1 := cell_of_block HX1.out.1 1
      have c2 := cell_of_block HX1.out.1 2
      simp at c0 c1 c2
      go_wp2_with fail
      refine (CIA.out _ HX1.out.2).mono ?_; rintro e wz1 ⟨rfl, hz1⟩
      have HXz1 := Lib.hid (And.intro ((Below.chg hz1).heap HX1.out.1 (fun x => x)) (bel_trans HX1.out.2 hz1))
      have HRz1 := Lib.hid (ownsRow_kept HR1.out (Below.chg hz1) (fun _ _ x => x))
      clear hz1
      obtain ⟨W, hW⟩ : ∃ W, W = wz1.alloc (.cells #[.string sa] 9) := ⟨_, rfl⟩
      obtain ⟨B, hB⟩ : ∃ B, B = wz1.heap.size := ⟨_, rfl⟩
      have hWB : W.heap[B]? = some (.cells #[.string sa] 9 (0, 0)) := by rw [hW]; exact heap_new' hB.symm
      have hbW : Below wz1.heap.size wz1 W := by rw [hW]; exact (Below.refl _ _).alloc (Nat.le_refl _) _
      have HRW := Lib.hid (ownsRow_kept HRz1.out (Below.chg hbW) (fun _ _ x => x))
      have HSW := Lib.hid (src_str hWB)
      have HBW := Lib.hid (bel_trans HXz1.out.2 hbW)
      have HXW := Lib.hid ((Below.chg hbW).heap HXz1.out.1 (fun x => x))
      have HWW := Lib.hid (And.intro hW hB)
      clear hWB hbW hW hB
      go_wp2_with (at_builtin; rw [← HWW.out.1, ← HWW.out.2]; refine wpList_app rfl _ _ 103 rfl 0 9 i0 _ 1 16 Tryd.underlying103 hi hz0 hz1 hz2 rfl (by omega) (.slice (some ⟨G, 0, none⟩) 2 2) 2 _ rfl HRW.out _ 1 (strs [sa]) rfl HSW.out rfl (strs_one _) (by simp [maxLen]) (by omega) (by omega) ?_; intro v2 wq2 ho2 hg2 hat2; obtain ⟨_, A2, c2p, rfl⟩ := ownsRow_slice ho2; have HX2 := Lib.hid (And.intro ((Chg.of_grown hg2).heap HXW.out (fun e => by have h := HO0.out _ e; omega)) (HBW.out.trans ((Chg.of_grown hg2).below (B := w.heap.size) (fun k e => by have h := HO0.out k e; have := HW.out.1; omega) HBW.out.size))); have HO2 : Hid (∀ k, (Value.slice A2 (2 + 1) c2p).ownBlock = some k → B0 < k) := Lib.hid (fun k hk => by
        rcases hat2 with e | e
        · rw [e] at hk; exact HO0.out k hk
        · rw [e] at hk; injection hk with hk; have := lt_of_heap HXW.out; omega); have HR2 : Hid (wq2.ownsRow 0 9 1 (.slice A2 (2 + 1) c2p) (2 + 1) (strs ([sp, nm] ++ [sa]))) := Lib.hid ho2; clear hg2 hat2 ho2; clear c0 c1 c2; have c0 := cell_of_block HX2.out.1 0; have c1 := cell_of_block HX2.out.1 1; have c2 := cell_of_block HX2.out.1 2; simp at c0 c1 c2)
      go_wp2_with fail
      refine (COF.out _ HX2.out.2).mono ?_; rintro e wq3 ⟨rfl, hb3⟩
      clear c0 c1 c2
      have HX3 := Lib.hid (And.intro ((Below.chg hb3).heap HX2.out.1 (fun x => x)) (bel_trans HX2.out.2 hb3))
      have HR3 := Lib.hid (ownsRow_kept HR2.out (Below.chg hb3) (fun _ _ x => x))
      clear hb3
      have hf3 := sort_has nm tk lv mo 1 wq3
      have c0 := cell_of_block HX3.out.1 0
      have c1 := cell_of_block HX3.out.1 1
      have c2 := cell_of_block HX3.out.1 2
      simp at c0 c1 c2
      obtain ⟨g, cap, e, hgl, hcells⟩ := ownsRow_at HR3.out (by omega)
      injection e with e1 e2 e3
      have hcl : 3 ≤ cap := by
        rcases HR3.out.2 with ⟨e, _⟩ | ⟨_, _, _, e, _, _, h, _⟩
        · rw [e1] at e; cases e
        · injection e with _ _ e; omega
      have CJJ := Lib.hid (CJ.out g cap [sp, nm, sa] wq3 (fun j x hx => by rw [Nat.zero_add]; exact hcells j _ (by show ([sp, nm, sa].map Value.string)[j]? = _; rw [List.getElem?_map, hx]; rfl)) hgl hcl (by simp) (fun x hx => by
        simp only [List.mem_cons, List.not_mem_nil, or_false] at hx
        have z := HZZ.out
        rcases hx with rfl | rfl | rfl
        · omega
        · omega
        · omega))
      subst e1 e3
      have hJs : (⟨(Lib.join ([sp, nm, sa].map (·.data.toList)) [32]).toArray⟩ : ByteArray).size ≤ 2000 := join_small [sp, nm, sa] (by simp) (fun x hx => by
        simp only [List.mem_cons, List.not_mem_nil, or_false] at hx
        have z := HZZ.out
        rcases hx with rfl | rfl | rfl
        · omega
        · omega
        · omega)
      obtain ⟨J, hJ⟩ : ∃ J : ByteArray, J = ⟨(Lib.join ([sp, nm, sa].map (·.data.toList)) [32]).toArray⟩ := ⟨_, rfl⟩
      rw [← hJ] at CJJ hJs
      have HJ := Lib.hid hJ
      clear hJ
      clear hcells hcl hgl e2
      go_wp2_with fail
      refine CJJ.out.mono ?_; rintro e w9 ⟨rfl, hb9⟩
      have HB9 := Lib.hid (bel_trans HX3.out.2 hb9)
      clear hb9
      go_wp2_with fail
      go_ret
      refine ⟨?_, HB9.out⟩
      rw [HJ.out]
      rfl
    · subst hh
      have c0 := cell_of_block HX0.out.1 0
      have c1 := cell_of_block HX0.out.1 1
      have c2 := cell_of_block HX0.out.1 2
      simp at c0 c1 c2
      go_wp2_with fail
      refine (COF.out _ HX0.out.2).mono ?_; rintro e wq1 ⟨rfl, hb1⟩
      clear c0 c1 c2
      have HX1 := Lib.hid (And.intro ((Below.chg hb1).heap HX0.out.1 (fun x => x)) (bel_trans HX0.out.2 hb1))
      have HR1 := Lib.hid (ownsRow_kept HR0.out (Below.chg hb1) (fun _ _ x => x))
      clear hb1
      have hf1 := sort_has nm tk lv mo 2 wq1
      have c0 := cell_of_block HX1.out.1 0
      have c1 := cell_of_block HX1.out.1 1
      have c2 := cell_of_block HX1.out.1 2
      simp at c0 c1 c2
      go_wp2_with fail
      refine (COF.out _ HX1.out.2).mono ?_; rintro e wq2 ⟨rfl, hb2⟩
      clear c0 c1 c2
      have HX2 := Lib.hid (And.intro ((Below.chg hb2).heap HX1.out.1 (fun x => x)) (bel_trans HX1.out.2 hb2))
      have HR2 := Lib.hid (ownsRow_kept HR1.out (Below.chg hb2) (fun _ _ x => x))
      clear hb2
      have hf2 := sort_has nm tk lv mo 2 wq2
      have c0 := cell_of_block HX2.out.1 0
      have c1 := cell_of_block HX2.out.1 1
      have c2 := cell_of_block HX2.out.1 2
      simp at c0 c1 c2
      go_wp2_with fail
      refine (CFN.out _ HX2.out.2).mono ?_; rintro e wz2 ⟨rfl, hz2⟩
      have HXz2 := Lib.hid (And.intro ((Below.chg hz2).heap HX2.out.1 (fun x => x)) (bel_trans HX2.out.2 hz2))
      have HRz2 := Lib.hid (ownsRow_kept HR2.out (Below.chg hz2) (fun _ _ x => x))
      clear hz2
      obtain ⟨W, hW⟩ : ∃ W, W = wz2.alloc (.cells #[.string sn] 9) := ⟨_, rfl⟩
      obtain ⟨B, hB⟩ : ∃ B, B = wz2.heap.size := ⟨_, rfl⟩
      have hWB : W.heap[B]? = some (.cells #[.string sn] 9 (0, 0)) := by rw [hW]; exact heap_new' hB.symm
      have hbW : Below wz2.heap.size wz2 W := by rw [hW]; exact (Below.refl _ _).alloc (Nat.le_refl _) _
      have HRW := Lib.hid (ownsRow_kept HRz2.out (Below.chg hbW) (fun _ _ x => x))
      have HSW := Lib.hid (src_str hWB)
      have HBW := Lib.hid (bel_trans HXz2.out.2 hbW)
      have HXW := Lib.hid ((Below.chg hbW).heap HXz2.out.1 (fun x => x))
      have HWW := Lib.hid (And.intro hW hB)
      clear hWB hbW hW hB
      go_wp2_with (at_builtin; rw [← HWW.out.1, ← HWW.out.2]; refine wpList_app rfl _ _ 103 rfl 0 9 i0 _ 1 16 Tryd.underlying103 hi hz0 hz1 hz2 rfl (by omega) (.slice (some ⟨G, 0, none⟩) 2 2) 2 _ rfl HRW.out _ 1 (strs [sn]) rfl HSW.out rfl (strs_one _) (by simp [maxLen]) (by omega) (by omega) ?_; intro v3 wq3 ho3 hg3 hat3; obtain ⟨_, A3, c3p, rfl⟩ := ownsRow_slice ho3; have HX3 := Lib.hid (And.intro ((Chg.of_grown hg3).heap HXW.out (fun e => by have h := HO0.out _ e; omega)) (HBW.out.trans ((Chg.of_grown hg3).below (B := w.heap.size) (fun k e => by have h := HO0.out k e; have := HW.out.1; omega) HBW.out.size))); have HO3 : Hid (∀ k, (Value.slice A3 (2 + 1) c3p).ownBlock = some k → B0 < k) := Lib.hid (fun k hk => by
        rcases hat3 with e | e
        · rw [e] at hk; exact HO0.out k hk
        · rw [e] at hk; injection hk with hk; have := lt_of_heap HXW.out; omega); have HR3 : Hid (wq3.ownsRow 0 9 1 (.slice A3 (2 + 1) c3p) (2 + 1) (strs ([sp, nm] ++ [sn]))) := Lib.hid ho3; clear hg3 hat3 ho3; clear c0 c1 c2; have c0 := cell_of_block HX3.out.1 0; have c1 := cell_of_block HX3.out.1 1; have c2 := cell_of_block HX3.out.1 2; simp at c0 c1 c2)
      obtain ⟨g, cap, e, hgl, hcells⟩ := ownsRow_at HR3.out (by omega)
      injection e with e1 e2 e3
      have hcl : 3 ≤ cap := by
        rcases HR3.out.2 with ⟨e, _⟩ | ⟨_, _, _, e, _, _, h, _⟩
        · rw [e1] at e; cases e
        · injection e with _ _ e; omega
      have CJJ := Lib.hid (CJ.out g cap [sp, nm, sn] wq3 (fun j x hx => by rw [Nat.zero_add]; exact hcells j _ (by show ([sp, nm, sn].map Value.string)[j]? = _; rw [List.getElem?_map, hx]; rfl)) hgl hcl (by simp) (fun x hx => by
        simp only [List.mem_cons, List.not_mem_nil, or_false] at hx
        have z := HZZ.out
        rcases hx with rfl | rfl | rfl
        · omega
        · omega
        · omega))
      subst e1 e3
      have hJs : (⟨(Lib.join ([sp, nm, sn].map (·.data.toList)) [32]).toArray⟩ : ByteArray).size ≤ 2000 := join_small [sp, nm, sn] (by simp) (fun x hx => by
        simp only [List.mem_cons, List.not_mem_nil, or_false] at hx
        have z := HZZ.out
        rcases hx with rfl | rfl | rfl
        · omega
        · omega
        · omega)
      obtain ⟨J, hJ⟩ : ∃ J : ByteArray, J = ⟨(Lib.join ([sp, nm, sn].map (·.data.toList)) [32]).toArray⟩ := ⟨_, rfl⟩
      rw [← hJ] at CJJ hJs
      have HJ := Lib.hid hJ
      clear hJ
      clear hcells hcl hgl e2
      go_wp2_with fail
      refine CJJ.out.mono ?_; rintro e w9 ⟨rfl, hb9⟩
      have HB9 := Lib.hid (bel_trans HX3.out.2 hb9)
      clear hb9
      go_wp2_with fail
      go_ret
      refine ⟨?_, HB9.out⟩
      rw [HJ.out]
      rfl
    · subst hh
      have c0 := cell_of_block HX0.out.1 0
      have c1 := cell_of_block HX0.out.1 1
      have c2 := cell_of_block HX0.out.1 2
      simp at c0 c1 c2
      go_wp2_with fail
      refine (COF.out _ HX0.out.2).mono ?_; rintro e wq1 ⟨rfl, hb1⟩
      clear c0 c1 c2
      have HX1 := Lib.hid (And.intro ((Below.chg hb1).heap HX0.out.1 (fun x => x)) (bel_trans HX0.out.2 hb1))
      have HR1 := Lib.hid (ownsRow_kept HR0.out (Below.chg hb1) (fun _ _ x => x))
      clear hb1
      have hf1 := sort_has nm tk lv mo 3 wq1
      have c0 := cell_of_block HX1.out.1 0
      have c1 := cell_of_block HX1.out.1 1
      have c2 := cell_of_block HX1.out.1 2
      simp at c0 c1 c2
      go_wp2_with fail
      refine (CIA.out _ HX1.out.2).mono ?_; rintro e wz1 ⟨rfl, hz1⟩
      have HXz1 := Lib.hid (And.intro ((Below.chg hz1).heap HX1.out.1 (fun x => x)) (bel_trans HX1.out.2 hz1))
      have HRz1 := Lib.hid (ownsRow_kept HR1.out (Below.chg hz1) (fun _ _ x => x))
      clear hz1
      obtain ⟨W, hW⟩ : ∃ W, W = wz1.alloc (.cells #[.string sa] 9) := ⟨_, rfl⟩
      obtain ⟨B, hB⟩ : ∃ B, B = wz1.heap.size := ⟨_, rfl⟩
      have hWB : W.heap[B]? = some (.cells #[.string sa] 9 (0, 0)) := by rw [hW]; exact heap_new' hB.symm
      have hbW : Below wz1.heap.size wz1 W := by rw [hW]; exact (Below.refl _ _).alloc (Nat.le_refl _) _
      have HRW := Lib.hid (ownsRow_kept HRz1.out (Below.chg hbW) (fun _ _ x => x))
      have HSW := Lib.hid (src_str hWB)
      have HBW := Lib.hid (bel_trans HXz1.out.2 hbW)
      have HXW := Lib.hid ((Below.chg hbW).heap HXz1.out.1 (fun x => x))
      have HWW := Lib.hid (And.intro hW hB)
      clear hWB hbW hW hB
      go_wp2_with (at_builtin; rw [← HWW.out.1, ← HWW.out.2]; refine wpList_app rfl _ _ 103 rfl 0 9 i0 _ 1 16 Tryd.underlying103 hi hz0 hz1 hz2 rfl (by omega) (.slice (some ⟨G, 0, none⟩) 2 2) 2 _ rfl HRW.out _ 1 (strs [sa]) rfl HSW.out rfl (strs_one _) (by simp [maxLen]) (by omega) (by omega) ?_; intro v2 wq2 ho2 hg2 hat2; obtain ⟨_, A2, c2p, rfl⟩ := ownsRow_slice ho2; have HX2 := Lib.hid (And.intro ((Chg.of_grown hg2).heap HXW.out (fun e => by have h := HO0.out _ e; omega)) (HBW.out.trans ((Chg.of_grown hg2).below (B := w.heap.size) (fun k e => by have h := HO0.out k e; have := HW.out.1; omega) HBW.out.size))); have HO2 : Hid (∀ k, (Value.slice A2 (2 + 1) c2p).ownBlock = some k → B0 < k) := Lib.hid (fun k hk => by
        rcases hat2 with e | e
        · rw [e] at hk; exact HO0.out k hk
        · rw [e] at hk; injection hk with hk; have := lt_of_heap HXW.out; omega); have HR2 : Hid (wq2.ownsRow 0 9 1 (.slice A2 (2 + 1) c2p) (2 + 1) (strs ([sp, nm] ++ [sa]))) := Lib.hid ho2; clear hg2 hat2 ho2; clear c0 c1 c2; have c0 := cell_of_block HX2.out.1 0; have c1 := cell_of_block HX2.out.1 1; have c2 := cell_of_block HX2.out.1 2; simp at c0 c1 c2)
      go_wp2_with fail
      refine (COF.out _ HX2.out.2).mono ?_; rintro e wq3 ⟨rfl, hb3⟩
      clear c0 c1 c2
      have HX3 := Lib.hid (And.intro ((Below.chg hb3).heap HX2.out.1 (fun x => x)) (bel_trans HX2.out.2 hb3))
      have HR3 := Lib.hid (ownsRow_kept HR2.out (Below.chg hb3) (fun _ _ x => x))
      clear hb3
      have hf3 := sort_has nm tk lv mo 3 wq3
      have c0 := cell_of_block HX3.out.1 0
      have c1 := cell_of_block HX3.out.1 1
      have c2 := cell_of_block HX3.out.1 2
      simp at c0 c1 c2
      go_wp2_with fail
      refine (CFN.out _ HX3.out.2).mono ?_; rintro e wz3 ⟨rfl, hz3⟩
      have HXz3 := Lib.hid (And.intro ((Below.chg hz3).heap HX3.out.1 (fun x => x)) (bel_trans HX3.out.2 hz3))
      have HRz3 := Lib.hid (ownsRow_kept HR3.out (Below.chg hz3) (fun _ _ x => x))
      clear hz3
      obtain ⟨W, hW⟩ : ∃ W, W = wz3.alloc (.cells #[.string sn] 9) := ⟨_, rfl⟩
      obtain ⟨B, hB⟩ : ∃ B, B = wz3.heap.size := ⟨_, rfl⟩
      have hWB : W.heap[B]? = some (.cells #[.string sn] 9 (0, 0)) := by rw [hW]; exact heap_new' hB.symm
      have hbW : Below wz3.heap.size wz3 W := by rw [hW]; exact (Below.refl _ _).alloc (Nat.le_refl _) _
      have HRW := Lib.hid (ownsRow_kept HRz3.out (Below.chg hbW) (fun _ _ x => x))
      have HSW := Lib.hid (src_str hWB)
      have HBW := Lib.hid (bel_trans HXz3.out.2 hbW)
      have HXW := Lib.hid ((Below.chg hbW).heap HXz3.out.1 (fun x => x))
      have HWW := Lib.hid (And.intro hW hB)
      clear hWB hbW hW hB
      go_wp2_with (at_builtin; rw [← HWW.out.1, ← HWW.out.2]; refine wpList_app rfl _ _ 103 rfl 0 9 i0 _ 1 16 Tryd.underlying103 hi hz0 hz1 hz2 rfl (by omega) (.slice A2 3 c2p) 3 _ rfl HRW.out _ 1 (strs [sn]) rfl HSW.out rfl (strs_one _) (by simp [maxLen]) (by omega) (by omega) ?_; intro v4 wq4 ho4 hg4 hat4; obtain ⟨_, A4, c4p, rfl⟩ := ownsRow_slice ho4; have HX4 := Lib.hid (And.intro ((Chg.of_grown hg4).heap HXW.out (fun e => by have h := HO2.out _ e; omega)) (HBW.out.trans ((Chg.of_grown hg4).below (B := w.heap.size) (fun k e => by have h := HO2.out k e; have := HW.out.1; omega) HBW.out.size))); have HO4 : Hid (∀ k, (Value.slice A4 (3 + 1) c4p).ownBlock = some k → B0 < k) := Lib.hid (fun k hk => by
        rcases hat4 with e | e
        · rw [e] at hk; exact HO2.out k hk
        · rw [e] at hk; injection hk with hk; have := lt_of_heap HXW.out; omega); have HR4 : Hid (wq4.ownsRow 0 9 1 (.slice A4 (3 + 1) c4p) (3 + 1) (strs (([sp, nm] ++ [sa]) ++ [sn]))) := Lib.hid ho4; clear hg4 hat4 ho4; clear c0 c1 c2; have c0 := cell_of_block HX4.out.1 0; have c1 := cell_of_block HX4.out.1 1; have c2 := cell_of_block HX4.out.1 2; simp at c0 c1 c2)
      obtain ⟨g, cap, e, hgl, hcells⟩ := ownsRow_at HR4.out (by omega)
      injection e with e1 e2 e3
      have hcl : 4 ≤ cap := by
        rcases HR4.out.2 with ⟨e, _⟩ | ⟨_, _, _, e, _, _, h, _⟩
        · rw [e1] at e; cases e
        · injection e with _ _ e; omega
      have CJJ := Lib.hid (CJ.out g cap [sp, nm, sa, sn] wq4 (fun j x hx => by rw [Nat.zero_add]; exact hcells j _ (by show ([sp, nm, sa, sn].map Value.string)[j]? = _; rw [List.getElem?_map, hx]; rfl)) hgl hcl (by simp) (fun x hx => by
        simp only [List.mem_cons, List.not_mem_nil, or_false] at hx
        have z := HZZ.out
        rcases hx with rfl | rfl | rfl | rfl
        · omega
        · omega
        · omega
        · omega))
      subst e1 e3
      have hJs : (⟨(Lib.join ([sp, nm, sa, sn].map (·.data.toList)) [32]).toArray⟩ : ByteArray).size ≤ 2000 := join_small [sp, nm, sa, sn] (by simp) (fun x hx => by
        simp only [List.mem_cons, List.not_mem_nil, or_false] at hx
        have z := HZZ.out
        rcases hx with rfl | rfl | rfl | rfl
        · omega
        · omega
        · omega
        · omega)
      obtain ⟨J, hJ⟩ : ∃ J : ByteArray, J = ⟨(Lib.join ([sp, nm, sa, sn].map (·.data.toList)) [32]).toArray⟩ := ⟨_, rfl⟩
      rw [← hJ] at CJJ hJs
      have HJ := Lib.hid hJ
      clear hJ
      clear hcells hcl hgl e2
      go_wp2_with fail
      refine CJJ.out.mono ?_; rintro e w9 ⟨rfl, hb9⟩
      have HB9 := Lib.hid (bel_trans HX4.out.2 hb9)
      clear hb9
      go_wp2_with fail
      go_ret
      refine ⟨?_, HB9.out⟩
      rw [HJ.out]
      rfl
def lineOf (x : InsR) (p : Nat) : ByteArray := lineL p (sortOf x.op) x.a x.n
def textL (l : List InsR) : Nat → List UInt8
  | 0 => []
  | k + 1 => textL l k ++ (match l[k]? with | some x => (lineOf x k).data.toList | none => [])
theorem lineOf_len {x : InsR} (h : Full x) {p : Nat} (hp : p ≤ 1048576) : (lineOf x p).data.toList.length ≤ 2001 := by
  have za : -9223372036854775808 ≤ x.a ∧ x.a ≤ 9223372036854775807 := h.a
  have zn : -9223372036854775808 ≤ x.n ∧ x.n ≤ 9223372036854775807 := h.n
  have h1 := Lib.itoa_length_le x.a za.1 za.2
  have h2 := Lib.itoa_length_le x.n zn.1 zn.2
  have h3 := Lib.itoa_length_le (p : Int) (by omega) (by omega)
  have h4 : (sortOf x.op).nm.data.toList.length ≤ 100 := sortOf_all x.op (p := fun s => s.nm.size ≤ 100) (by decide)
  have hj := join_small (lineW p (sortOf x.op) x.a x.n) (by
    unfold lineW
    split <;> split <;> simp) (fun y hy => by
    have e1 : ∀ l : List UInt8, (⟨l.toArray⟩ : ByteArray).data.toList.length = l.length := fun l => by simp
    unfold lineW at hy
    simp only [List.mem_append, List.mem_cons, List.not_mem_nil, or_false] at hy
    rcases hy with ((rfl | rfl) | hy) | hy
    · rw [e1]; omega
    · exact h4
    · split at hy
      · rw [List.mem_singleton.1 hy, e1]; omega
      · cases hy
    · split at hy
      · rw [List.mem_singleton.1 hy, e1]; omega
      · cases hy)
  unfold lineOf lineL
  rw [ByteArray.data_append, Array.toList_append, List.length_append]
  simp only [List.toList_toArray, List.length_cons, List.length_nil]
  omega
theorem textL_len {l : List InsR} (h : ∀ x ∈ l, Full x) : ∀ k, k ≤ 1048576 → (textL l k).length ≤ k * 2001
  | 0, _ => by rw [textL]; exact Nat.zero_le _
  | k + 1, hk => by
    have ih := textL_len h k (by omega)
    rw [textL, List.length_append, Nat.add_mul]
    cases hx : l[k]? with
    | none =>
      exact Nat.add_le_add ih (Nat.zero_le _)
    | some x =>
      have := lineOf_len (h x (List.mem_of_getElem? hx)) (p := k) (by omega)
      exact Nat.add_le_add ih (by rw [Nat.one_mul]; exact this)
theorem builder_kept {T e : TypeId} {B b : Nat} {bs : List Value} {w w' : World} {S : Nat → Prop} (h : Lib.IsBuilder T e B b bs w) (hc : Chg S w w') (hS : ∀ k, S k → k < B) : Lib.IsBuilder T e B b bs w' := by
  rcases h with ⟨hB, v, h1, h2, h3⟩ | ⟨hB, v, h1, h2, h3⟩
  · exact .inl ⟨hB, v, hc.heap h1 (fun e => by have := hS _ e; omega), ownsRow_kept h2 hc (fun k hk e => by have := hS _ e; have := (h2.lt k hk).1; omega), h3⟩
  · exact .inr ⟨hB, v, hc.heap h1 (fun e => by have := hS _ e; omega), ownsRow_kept h2 hc (fun k hk e => by have := hS _ e; have := (h2.lt k hk).1; omega), h3⟩

set_option maxHeartbeats 4000000 in
set_option maxRecDepth 100000 in
theorem text_any {w : World} (h : TxtIs w) {v : Value} {l : List InsR} (hs : Src w v l.length (insCells l)) (hl : l.length ≤ 1048576) (hsm : ∀ x ∈ l, Full x) :
    Calls Tryd.prog 13 #[v] w fun e w' => e = .returned (.string ⟨(textL l l.length).toArray⟩) ∧ Below w.heap.size w w' := by
  obtain ⟨_, A, c, rfl⟩ := hs.bound
  have HSO := Lib.hid h
  have HS := Lib.hid hs
  have HSM := Lib.hid hsm
  obtain ⟨n, hn⟩ : ∃ n, n = l.length := ⟨_, rfl⟩
  have HN := Lib.hid hn
  rw [← hn] at hl ⊢
  obtain ⟨b, hb⟩ : ∃ b, b = w.heap.size := ⟨_, rfl⟩
  obtain ⟨wa, hwa⟩ : ∃ wa, wa = w.alloc (.cells #[.pointer none, .slice none 0 0] 77) := ⟨_, rfl⟩
  have HBU : Hid (Lib.IsBuilder 77 5 b b [] wa ∧ Below b w wa) := Lib.hid ⟨by rw [hb, hwa]; exact Lib.fresh_isBuilder _ _ w, by rw [hb, hwa]; exact (Below.refl _ _).alloc (Nat.le_refl _) _⟩
  have HW := Lib.hid (And.intro hb hwa)
  clear hs hsm hn hb hwa h
  go_enter Tryd.func13, Tryd.ntmps13
  go_upto_region 2 with fail
  rw [← HW.out.1, ← HW.out.2]
  go_wp2_with fail
  go_loopg [8] n (fun k i wr => ∃ j : Nat, j ≤ n ∧ k = n - j ∧ i = .int .i64 j ∧ Hid (Lib.IsBuilder 77 5 b b (Lib.byteCells (textL l j)) wr ∧ Below b w wr))
  case atStart => exact ⟨0, by omega, rfl, rfl, HBU⟩
  case round =>
    clear HBU
    obtain ⟨j, hj, hk, rfl, HB⟩ := hrel
    have HK := Lib.hid hk
    clear hk
    have hbw : Below w.heap.size w wr := by rw [← HW.out.1]; exact HB.out.2
    have HBW := Lib.hid hbw
    have hbz : b ≤ wr.heap.size := by rw [HW.out.1]; exact hbw.size
    clear hbw
    by_cases hlt : j < n
    · have hjl : j < l.length := by rw [← HN.out]; exact hlt
      obtain ⟨sb, so, cap, e, hsb, hcp, c0, c1, c2⟩ := (HS.out.kept (Below.chg HBW.out) (.inr (fun _ _ x => x))).get j hjl
      injection e with e1 e2 e3
      subst e1 e3
      rw [← HN.out] at hcp
      have hx := HSM.out l[j] (List.getElem_mem _)
      have htx : textL l (j + 1) = textL l j ++ (lineOf l[j] j).data.toList := by rw [textL, List.getElem?_eq_getElem hjl]
      have hll := lineOf_len hx (p := j) (by omega)
      have htl := textL_len HSM.out j (by omega)
      have hlo : lineOf l[j] j = lineL j (sortOf l[j].op) l[j].a l[j].n := rfl
      obtain ⟨x, hxe⟩ : ∃ x, l[j] = x := ⟨_, rfl⟩
      rw [hxe] at hx htx hll hlo c0 c1 c2
      obtain ⟨o, ho⟩ : ∃ o, x.op = o := ⟨_, rfl⟩
      obtain ⟨a, hae⟩ : ∃ a, x.a = a := ⟨_, rfl⟩
      obtain ⟨m, hme⟩ : ∃ m, x.n = m := ⟨_, rfl⟩
      obtain ⟨L, hL⟩ : ∃ L, lineOf x j = L := ⟨_, rfl⟩
      rw [hL] at htx hll hlo
      rw [ho, hae, hme] at hlo
      rw [ho] at c0
      rw [hae] at c1
      rw [hme] at c2
      have ha2 := hx.a
      have hm2 := hx.n
      rw [hae] at ha2
      rw [hme] at hm2
      have CL : Hid (∀ wx, Below w.heap.size w wx → Calls Tryd.prog 28 #[.agg #[.int .i64 o, .int .i64 a, .int .i64 m], .int .i64 j] wx fun e w' => e = .returned (.string L) ∧ Below wx.heap.size wx w') := Lib.hid (fun wx hb => by
        rw [hlo]
        exact line_any (HSO.out.keep hb) o a m j (sortOf o) rfl ha2 hm2 (by omega))
      have HTX := Lib.hid (And.intro htx (And.intro hll htl))
      clear hx htx hll htl hlo hxe ho hae hme hL ha2 hm2 hjl hsb e2
      obtain ⟨w1, hw1⟩ : ∃ w1, w1 = wr.alloc (.cells #[.int .i64 o, .int .i64 a, .int .i64 m] 44) := ⟨_, rfl⟩
      obtain ⟨P, hP⟩ : ∃ P, P = wr.heap.size := ⟨_, rfl⟩
      have hb1 : Below wr.heap.size wr w1 := by rw [hw1]; exact (Below.refl _ _).alloc (Nat.le_refl _) _
      have hP1 : w1.heap[P]? = some (.cells #[.int .i64 o, .int .i64 a, .int .i64 m] 44 (0, 0)) := by rw [hw1]; exact heap_new' hP.symm
      have HB1 := Lib.hid hb1
      have HP1 := Lib.hid hP1
      have HWW := Lib.hid (And.intro hP hw1)
      clear hb1 hP1 hw1 hP
      go_upto_region 5 with fail
      rw [← HWW.out.1, ← HWW.out.2]
      clear c0 c1 c2
      have c0 := cell_of_block HP1.out 0
      have c1 := cell_of_block HP1.out 1
      have c2 := cell_of_block HP1.out 2
      simp at c0 c1 c2
      go_wp2_with fail
      refine (CL.out _ (bel_trans HBW.out HB1.out)).mono ?_; rintro e w2 ⟨rfl, hb2⟩
      clear c0 c1 c2
      have hbr2 := bel_trans HB1.out hb2
      have hbu2 := builder_kept HB.out.1 (Below.chg hbr2) (fun k hk => hk.elim)
      have CW := Lib.hid (write_any b b _ L w2 hbu2 (by rw [Lib.byteCells_length]; have h1 := HTX.out.2.1; have h2 := HTX.out.2.2; have h3 : L.data.toList.length = L.size := rfl; omega) (by have := hbr2.size; omega))
      have HBR := Lib.hid hbr2
      clear hb2 hbr2 hbu2
      go_wp2_with fail
      refine CW.out.mono ?_; rintro e w3 ⟨rfl, hb3, hb4⟩
      have HB3 : Hid (Lib.IsBuilder 77 5 b b (Lib.byteCells (textL l (j + 1))) w3 ∧ Below b w w3) := Lib.hid ⟨by
        rw [HTX.out.1]
        have e : Lib.byteCells (textL l j ++ L.data.toList) = Lib.byteCells (textL l j) ++ Lib.strCells L := by simp [Lib.byteCells, Lib.strCells]
        rw [e]
        exact .inr hb3, (HB.out.2.trans (HBR.out.mono hbz)).trans hb4⟩
      clear hb3 hb4
      go_wp2_with fail
      go_roundg (n - (j + 1))
      case measure => have := HK.out; omega
      case rel => exact ⟨j + 1, by omega, rfl, by go_num, HB3⟩
    · obtain rfl : j = n := by omega
      have CS := Lib.hid (Tryd.Builder_String_any b b (textL l j) wr HB.out.1 hbz)
      go_wp2_with fail
      refine CS.out.mono ?_; rintro e w2 ⟨rfl, hb2⟩
      have HE : Hid (Below w.heap.size w w2) := Lib.hid (by rw [← HW.out.1]; exact HB.out.2.trans hb2)
      clear hb2
      go_wp2_with fail
      go_ret
      exact ⟨rfl, HE.out⟩
end Go.Proofs.YtgiegkacilfofabDoor
