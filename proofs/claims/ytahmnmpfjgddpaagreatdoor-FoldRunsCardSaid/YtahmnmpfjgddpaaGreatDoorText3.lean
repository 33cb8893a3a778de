/- code.Text: the text (numbers below 100). -/
import Derived.Test.YtahmnmpfjgddpaaGreatDoorText2
namespace Go.Proofs.YtahmnmpfjgddpaaGreatDoor
set_option linter.unusedVariables false
set_option linter.unusedSimpArgs false
open Go.RowKit

def sortOf (op : Nat) : SortR := sorts.getD op ⟨ByteArray.empty, 0, 0, 0, 0⟩
def lineOf (x : InsR) (p : Nat) : ByteArray := lineL p (sortOf x.op.toNat) x.a.toNat x.n.toNat
def textL (l : List InsR) : Nat → List UInt8
  | 0 => []
  | k + 1 => textL l k ++ (match l[k]? with | some x => (lineOf x k).data.toList | none => [])
/-- its numbers are below 100 -/
structure Small (x : InsR) : Prop where
  o0 : 1 ≤ x.op
  o1 : x.op ≤ 25
  a0 : 0 ≤ x.a
  a1 : x.a < 100
  n0 : 0 ≤ x.n
  n1 : x.n < 100
theorem sortOf_get {op : Nat} (h : op ≤ 25) : sorts[op]? = some (sortOf op) := by
  have hl : sorts.length = 26 := rfl
  unfold sortOf
  rw [List.getD_eq_getElem?_getD, List.getElem?_eq_getElem (by omega)]
  rfl
theorem sortOf_nm {op : Nat} (h : op ≤ 25) : (sortOf op).nm.size ≤ 100 := by
  have hall : ∀ x ∈ sorts, x.nm.size ≤ 100 := by decide
  exact hall _ (List.mem_of_getElem? (sortOf_get h))
theorem lineOf_len {x : InsR} (h : Small x) {p : Nat} (hp : p < 100) : (lineOf x p).data.toList.length ≤ 2001 := by
  have ha : x.a.toNat < 100 := by have := h.a0; have := h.a1; omega
  have hn : x.n.toNat < 100 := by have := h.n0; have := h.n1; omega
  have ho : x.op.toNat ≤ 25 := by have := h.o1; omega
  have h1 := dec_len x.a.toNat ha
  have h2 := dec_len x.n.toNat hn
  have h3 := dec_len p hp
  have h4 : (sortOf x.op.toNat).nm.data.toList.length ≤ 100 := sortOf_nm ho
  have hj := join_small (lineW p (sortOf x.op.toNat) x.a.toNat x.n.toNat) (by
    unfold lineW
    split <;> split <;> simp) (fun y hy => by
    have e1 : ∀ l : List UInt8, (⟨l.toArray⟩ : ByteArray).data.toList.length = l.length := fun l => by simp
    unfold lineW at hy
    simp only [List.mem_append, List.mem_cons, List.not_mem_nil, or_false] at hy
    rcases hy with ((rfl | rfl) | hy) | hy
    · rw [e1]; omega
    · exact h4
    · split at hy
      · rw [List.mem_singleton.1 hy, e1]; omega
      · cases hy
    · split at hy
      · rw [List.mem_singleton.1 hy, e1]; omega
      · cases hy)
  unfold lineOf lineL
  rw [ByteArray.data_append, Array.toList_append, List.length_append]
  simp only [List.toList_toArray, List.length_cons, List.length_nil]
  omega
theorem textL_len {l : List InsR} (h : ∀ x ∈ l, Small x) : ∀ k, k ≤ 100 → (textL l k).length ≤ k * 2001
  | 0, _ => by rw [textL]; exact Nat.zero_le _
  | k + 1, hk => by
    have ih := textL_len h k (by omega)
    rw [textL, List.length_append, Nat.add_mul]
    cases hx : l[k]? with
    | none =>
      exact Nat.add_le_add ih (Nat.zero_le _)
    | some x =>
      have := lineOf_len (h x (List.mem_of_getElem? hx)) (p := k) (by omega)
      exact Nat.add_le_add ih (by rw [Nat.one_mul]; exact this)
theorem builder_kept {T e : TypeId} {B b : Nat} {bs : List Value} {w w' : World} {S : Nat → Prop} (h : Lib.IsBuilder T e B b bs w) (hc : Chg S w w') (hS : ∀ k, S k → k < B) : Lib.IsBuilder T e B b bs w' := by
  rcases h with ⟨hB, v, h1, h2, h3⟩ | ⟨hB, v, h1, h2, h3⟩
  · exact .inl ⟨hB, v, hc.heap h1 (fun e => by have := hS _ e; omega), ownsRow_kept h2 hc (fun k hk e => by have := hS _ e; have := (h2.lt k hk).1; omega), h3⟩
  · exact .inr ⟨hB, v, hc.heap h1 (fun e => by have := hS _ e; omega), ownsRow_kept h2 hc (fun k hk e => by have := hS _ e; have := (h2.lt k hk).1; omega), h3⟩

set_option maxHeartbeats 4000000 in
set_option maxRecDepth 100000 in
theorem text_any {w : World} (h : SortsIs w) {v : Value} {l : List InsR} (hs : Src w v l.length (insCells l)) (hl : l.length < 100) (hsm : ∀ x ∈ l, Small x) :
    Calls Tryz.prog 16 #[v] w fun e w' => e = .returned (.string ⟨(textL l l.length).toArray⟩) ∧ Below w.heap.size w w' := by
  obtain ⟨_, A, c, rfl⟩ := hs.bound
  have HSO := Lib.hid h
  have HS := Lib.hid hs
  have HSM := Lib.hid hsm
  obtain ⟨n, hn⟩ : ∃ n, n = l.length := ⟨_, rfl⟩
  have HN := Lib.hid hn
  rw [← hn] at hl ⊢
  obtain ⟨b, hb⟩ : ∃ b, b = w.heap.size := ⟨_, rfl⟩
  obtain ⟨wa, hwa⟩ : ∃ wa, wa = w.alloc (.cells #[.pointer none, .slice none 0 0] 79) := ⟨_, rfl⟩
  have HBU : Hid (Lib.IsBuilder 79 5 b b [] wa ∧ Below b w wa) := Lib.hid ⟨by rw [hb, hwa]; exact Lib.fresh_isBuilder _ _ w, by rw [hb, hwa]; exact (Below.refl _ _).alloc (Nat.le_refl _) _⟩
  have HW := Lib.hid (And.intro hb hwa)
  clear hs hsm hn hb hwa h
  go_enter Tryz.func16, Tryz.ntmps16
  go_upto_region 2 with fail
  rw [← HW.out.1, ← HW.out.2]
  go_wp2_with fail
  go_loopg [8] n (fun k i wr => ∃ j : Nat, j ≤ n ∧ k = n - j ∧ i = .int .i64 j ∧ Hid (Lib.IsBuilder 79 5 b b (Lib.byteCells (textL l j)) wr ∧ Below b w wr))
  case atStart => exact ⟨0, by omega, rfl, rfl, HBU⟩
  case round =>
    clear HBU
    obtain ⟨j, hj, hk, rfl, HB⟩ := hrel
    have HK := Lib.hid hk
    clear hk
    have hbw : Below w.heap.size w wr := by rw [← HW.out.1]; exact HB.out.2
    have HBW := Lib.hid hbw
    have hbz : b ≤ wr.heap.size := by rw [HW.out.1]; exact hbw.size
    clear hbw
    by_cases hlt : j < n
    · have hjl : j < l.length := by rw [← HN.out]; exact hlt
      obtain ⟨sb, so, cap, e, hsb, hcp, c0, c1, c2⟩ := (HS.out.kept (Below.chg HBW.out) (.inr (fun _ _ x => x))).get j hjl
      injection e with e1 e2 e3
      subst e1 e3
      rw [← HN.out] at hcp
      have hx := HSM.out l[j] (List.getElem_mem _)
      have htx : textL l (j + 1) = textL l j ++ (lineOf l[j] j).data.toList := by rw [textL, List.getElem?_eq_getElem hjl]
      have hll := lineOf_len hx (p := j) (by omega)
      have htl := textL_len HSM.out j (by omega)
      have hlo : lineOf l[j] j = lineL j (sortOf l[j].op.toNat) l[j].a.toNat l[j].n.toNat := rfl
      obtain ⟨x, hxe⟩ : ∃ x, l[j] = x := ⟨_, rfl⟩
      rw [hxe] at hx htx hll hlo c0 c1 c2
      obtain ⟨o, a, m, ho, hae, hme⟩ : ∃ o a m : Nat, x.op = o ∧ x.a = a ∧ x.n = m := ⟨x.op.toNat, x.a.toNat, x.n.toNat, by have := hx.o0; omega, by have := hx.a0; omega, by have := hx.n0; omega⟩
      obtain ⟨L, hL⟩ : ∃ L, lineOf x j = L := ⟨_, rfl⟩
      rw [hL] at htx hll hlo
      rw [ho, hae, hme] at hlo
      simp only [Int.toNat_natCast] at hlo
      rw [ho] at c0
      rw [hae] at c1
      rw [hme] at c2
      have ho1 := hx.o0
      have ho2 := hx.o1
      have ha2 := hx.a1
      have hm2 := hx.n1
      rw [ho] at ho1 ho2
      rw [hae] at ha2
      rw [hme] at hm2
      have CL : Hid (∀ wx, Below w.heap.size w wx → Calls Tryz.prog 30 #[.agg #[.int .i64 o, .int .i64 a, .int .i64 m], .int .i64 j] wx fun e w' => e = .returned (.string L) ∧ Below wx.heap.size wx w') := Lib.hid (fun wx hb => by
        rw [hlo]
        exact line_any (HSO.out.keep hb) o a m j (sortOf o) (by omega) (sortOf_get (by omega)) (by omega) (by omega) (by omega) (sortOf_nm (by omega)))
      have HTX := Lib.hid (And.intro htx (And.intro hll htl))
      clear hx htx hll htl hlo hxe ho hae hme hL ho1 ho2 ha2 hm2 hjl hsb e2
      obtain ⟨w1, hw1⟩ : ∃ w1, w1 = wr.alloc (.cells #[.int .i64 o, .int .i64 a, .int .i64 m] 42) := ⟨_, rfl⟩
      obtain ⟨P, hP⟩ : ∃ P, P = wr.heap.size := ⟨_, rfl⟩
      have hb1 : Below wr.heap.size wr w1 := by rw [hw1]; exact (Below.refl _ _).alloc (Nat.le_refl _) _
      have hP1 : w1.heap[P]? = some (.cells #[.int .i64 o, .int .i64 a, .int .i64 m] 42 (0, 0)) := by rw [hw1]; exact heap_new' hP.symm
      have HB1 := Lib.hid hb1
      have HP1 := Lib.hid hP1
      have HWW := Lib.hid (And.intro hP hw1)
      clear hb1 hP1 hw1 hP
      go_upto_region 5 with fail
      rw [← HWW.out.1, ← HWW.out.2]
      clear c0 c1 c2
      have c0 := cell_of_block HP1.out 0
      have c1 := cell_of_block HP1.out 1
      have c2 := cell_of_block HP1.out 2
      simp at c0 c1 c2
      go_wp2_with fail
      refine (CL.out _ (bel_trans HBW.out HB1.out)).mono ?_; rintro e w2 ⟨rfl, hb2⟩
      clear c0 c1 c2
      have hbr2 := bel_trans HB1.out hb2
      have hbu2 := builder_kept HB.out.1 (Below.chg hbr2) (fun k hk => hk.elim)
      have CW := Lib.hid (write_any b b _ L w2 hbu2 (by rw [Lib.byteCells_length]; have h1 := HTX.out.2.1; have h2 := HTX.out.2.2; have h3 : L.data.toList.length = L.size := rfl; omega) (by have := hbr2.size; omega))
      have HBR := Lib.hid hbr2
      clear hb2 hbr2 hbu2
      go_wp2_with fail
      refine CW.out.mono ?_; rintro e w3 ⟨rfl, hb3, hb4⟩
      have HB3 : Hid (Lib.IsBuilder 79 5 b b (Lib.byteCells (textL l (j + 1))) w3 ∧ Below b w w3) := Lib.hid ⟨by
        rw [HTX.out.1]
        have e : Lib.byteCells (textL l j ++ L.data.toList) = Lib.byteCells (textL l j) ++ Lib.strCells L := by simp [Lib.byteCells, Lib.strCells]
        rw [e]
        exact .inr hb3, (HB.out.2.trans (HBR.out.mono hbz)).trans hb4⟩
      clear hb3 hb4
      go_wp2_with fail
      go_roundg (n - (j + 1))
      case measure => have := HK.out; omega
      case rel => exact ⟨j + 1, by omega, rfl, by go_num, HB3⟩
    · obtain rfl : j = n := by omega
      have CS := Lib.hid (Tryz.Builder_String_any b b (textL l j) wr HB.out.1 hbz)
      go_wp2_with fail
      refine CS.out.mono ?_; rintro e w2 ⟨rfl, hb2⟩
      have HE : Hid (Below w.heap.size w w2) := Lib.hid (by rw [← HW.out.1]; exact HB.out.2.trans hb2)
      clear hb2
      go_wp2_with fail
      go_ret
      exact ⟨rfl, HE.out⟩
end Go.Proofs.YtahmnmpfjgddpaaGreatDoor
