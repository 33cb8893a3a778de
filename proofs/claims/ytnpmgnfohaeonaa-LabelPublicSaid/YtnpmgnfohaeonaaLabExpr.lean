/- label: the checker's expr and stmt. -/
import Derived.Test.YtnpmgnfohaeonaaLabMap
import Derived.Test.YtnpmgnfohaeonaaOrd
import Derived.Deep.CutRange
import Derived.Deep.CutBlock
namespace Go.Proofs.Ytnpmgnfohaeonaa
set_option linter.unusedVariables false
set_option linter.unusedSimpArgs false
open Go.RowKit

/-- does a call tell a secret? -/
def callv (ps : List ByteArray) (l : List ExprT) : Nat → Bool
  | 0 => false
  | k + 1 => callv ps l k || (!great (ps.getD k ByteArray.empty) && leaksv l k)
def ownE (prm : ByteArray → List ByteArray) (op : Int) (name : ByteArray) (l : List ExprT) : Bool :=
  if op = 4 then leaksv l 0 else if op = 11 ∨ op = 12 then leaksv l 1 else if op = 5 then callv (prm name) l (prm name).length else false
/-- tells a secret (G1) -/
def tellE (prm : ByteArray → List ByteArray) : ExprT → Bool
  | .mk op _ name l => ownE prm op name l || l.attach.any (fun ⟨x, _⟩ => tellE prm x)
theorem tellE_eq (prm : ByteArray → List ByteArray) (op n : Int) (name : ByteArray) (l : List ExprT) : tellE prm (.mk op n name l) = (ownE prm op name l || l.any (tellE prm)) := by
  rw [tellE]
  congr 1
  rw [List.any_subtype (g := tellE prm) (fun x h => rfl)]
  simp
def ownS (prm : ByteArray → List ByteArray) (pub : Bool) (op : Int) (name : ByteArray) (l : List ExprT) : Bool :=
  if op = 2 then leaksv l 0 || (!great name && leaksv l 1) else if op = 1 then !great name && leaksv l 0 else if op = 9 then pub && leaksv l 0 else if op = 5 ∨ op = 7 ∨ op = 8 then leaksv l 0 else false
def tellS (prm : ByteArray → List ByteArray) (pub : Bool) : StmtT → Bool
  | .mk op name _ l body els => ownS prm pub op name l || l.any (tellE prm) || body.attach.any (fun ⟨x, _⟩ => tellS prm pub x) || els.attach.any (fun ⟨x, _⟩ => tellS prm pub x)
theorem tellS_eq (prm : ByteArray → List ByteArray) (pub : Bool) (op : Int) (name : ByteArray) (n : Int) (l : List ExprT) (body els : List StmtT) : tellS prm pub (.mk op name n l body els) = (ownS prm pub op name l || l.any (tellE prm) || body.any (tellS prm pub) || els.any (tellS prm pub)) := by
  rw [tellS]
  rw [List.any_subtype (g := tellS prm pub) (fun x h => rfl), List.any_subtype (g := tellS prm pub) (fun x h => rfl)]
  simp

set_option maxHeartbeats 8000000 in
set_option maxRecDepth 100000 in
theorem expr_any (k : Nat) : ∀ (t : ExprT), SizeOf.sizeOf t < k → ∀ (w : World) (X Y : Nat → Prop) (cs : List Value) (ck : Nat) (pub : Bool) (prm : ByteArray → List ByteArray), Ck w Y ck pub prm → IsExpr w X t cs →
    Calls Try.prog 31 #[.pointer (some ⟨ck, 0, none⟩), .agg cs.toArray] w fun e w' => e = .returned (.bool (tellE prm t)) ∧ Below w.heap.size w w' := by
  induction k with
  | zero => intro t h; omega
  | succ k ih =>
    intro t hk w X Y cs ck pub prm hck h
    cases h with
    | mk op n name l A c f hs hr h =>
      show Calls Try.prog 31 #[.pointer (some ⟨ck, 0, none⟩), .agg #[.int .i64 op, .int .i64 n, .string name, .slice A l.length c]] w _
      rw [tellE_eq]
      suffices hsuf : ∀ w0, w0 = w → Calls Try.prog 31 #[.pointer (some ⟨ck, 0, none⟩), .agg #[.int .i64 op, .int .i64 n, .string name, .slice A l.length c]] w fun e w' => e = .returned (.bool (ownE prm op name l || l.any (tellE prm))) ∧ Below w0.heap.size w0 w' from hsuf w rfl
      intro w0 hw0
      have hb0 : Below w0.heap.size w0 (w.alloc (.cells #[.int .i64 op, .int .i64 n, .string name, .slice A l.length c] 28)) := by rw [hw0]; exact (Below.refl _ _).alloc (Nat.le_refl _) _
      have hex : Exprs w0 X A c l := by rw [hw0]; exact ⟨f, hr, h⟩
      have hck0 : Ck w0 Y ck pub prm := by rw [hw0]; exact hck
      have HE := Lib.hid hex
      have HCK := Lib.hid hck0
      have HB0 := Lib.hid hb0
      have HW0 := Lib.hid hw0
      have hsb : (w.alloc (.cells #[.int .i64 op, .int .i64 n, .string name, .slice A l.length c] 28)).heap[w.heap.size]? = some (.cells #[.int .i64 op, .int .i64 n, .string name, .slice A l.length c] 28 (0, 0)) := heap_new _ _
      have HSB : Hid (∀ wx, Below (w.alloc (.cells #[.int .i64 op, .int .i64 n, .string name, .slice A l.length c] 28)).heap.size (w.alloc (.cells #[.int .i64 op, .int .i64 n, .string name, .slice A l.length c] 28)) wx → wx.cell? ⟨w.heap.size, 2, none⟩ = some (.string name) ∧ wx.cell? ⟨w.heap.size, 3, none⟩ = some (.slice A l.length c)) := Lib.hid (fun wx hb => by
        have := (Below.chg hb).heap hsb (fun x => x)
        exact ⟨cell_of_block this 2, cell_of_block this 3⟩)
      have HIH : Hid (∀ wx, Below w0.heap.size w0 wx → Calls Try.prog 26 #[.slice A l.length c, .func (.func 31) #[.pointer (some ⟨ck, 0, none⟩)] #[]] wx fun e w' => e = .returned (.bool (l.any (tellE prm))) ∧ Below wx.heap.size wx w') := Lib.hid (fun wx hb =>
        ceHas ck (tellE prm) (HE.out.keep hb) (fun x hx w' cs hb' hie => ih x (by have := size_mem hx op n name; omega) w' X Y cs ck pub prm ((HCK.out.keep hb).keep hb') hie))
      have HLK : Hid (∀ wx, Below w0.heap.size w0 wx → ∀ i, i ≤ 8796093022208 → Calls Try.prog 30 #[.slice A l.length c, .int .i64 (i : Nat)] wx fun e w' => e = .returned (.bool (leaksv l i)) ∧ Below wx.heap.size wx w') := Lib.hid (fun wx hb i hi => leaks_any (HE.out.keep hb) i hi)
      clear hr h hex hck0 hb0 hsb hk ih hck hw0
      generalize l.any (tellE prm) = ra at *
      obtain ⟨ow, how⟩ : ∃ ow, ownE prm op name l = ow := ⟨_, rfl⟩
      rw [how]
      have HOW := Lib.hid how
      clear how
      go_enter Try.func31, Try.ntmps31
      go_upto_block 0 with fail
      have hwb : (w.alloc (.cells #[.int .i64 op, .int .i64 n, .string name, .slice A l.length c] 28)).heap.size = w.heap.size + 1 := by simp
      generalize hwa : (w.alloc (.cells #[.int .i64 op, .int .i64 n, .string name, .slice A l.length c] 28)) = wa at *
      clear hwa hwb
      go_cut [5] from 10 to 48 (fun a5 wx => a5 = .bool ow ∧ Below w0.heap.size w0 wx ∧ Below wa.heap.size wa wx)
      case first =>
        obtain ⟨e2, e3⟩ := HSB.out wa (Below.refl _ _)
        have HS := Lib.hid hs
        clear hs
        have hcs : op = 4 ∨ op = 11 ∨ op = 12 ∨ op = 5 ∨ (¬ op = 4 ∧ ¬ op = 11 ∧ ¬ op = 12 ∧ ¬ op = 5) := by omega
        rcases hcs with rfl | rfl | rfl | rfl | ⟨h4, h11, h12, h5⟩
        · -- an index
          go_wp2_with fail
          refine (HLK.out _ HB0.out 0 (by decide)).mono ?_; rintro e w1 ⟨rfl, hb1⟩
          go_wp2_with fail
          go_meet
          case rel => exact ⟨by rw [← HOW.out]; rfl, bel_trans HB0.out hb1, hb1⟩
        · go_wp2_with fail
          refine (HLK.out _ HB0.out 1 (by decide)).mono ?_; rintro e w1 ⟨rfl, hb1⟩
          go_wp2_with fail
          go_meet
          case rel => exact ⟨by rw [← HOW.out]; rfl, bel_trans HB0.out hb1, hb1⟩
        · go_wp2_with fail
          refine (HLK.out _ HB0.out 1 (by decide)).mono ?_; rintro e w1 ⟨rfl, hb1⟩
          go_wp2_with fail
          go_meet
          case rel => exact ⟨by rw [← HOW.out]; rfl, bel_trans HB0.out hb1, hb1⟩
        · go_wp2_with fail
          have HOW2 : Hid (callv (prm name) l (prm name).length = ow) := Lib.hid (by rw [← HOW.out]; rfl)
          obtain ⟨m, A2, c2, X2, hst, hlk⟩ := HCK.out.look name HS.out
          have HST := Lib.hid hst
          have hmx := hst.1.max
          generalize prm name = ps at *
          obtain ⟨np, hnp⟩ : ∃ np, np = ps.length := ⟨_, rfl⟩
          rw [← hnp] at hmx hlk HOW2
          have HNP := Lib.hid hnp
          obtain ⟨g1, g2, g3⟩ := hlk wa HB0.out
          have hS0 : wa.drew.cell? ⟨ck, 0, none⟩ = some (.map (some m)) ∧ wa.drew.cell? ⟨w.heap.size, 2, none⟩ = some (.string name) ∧ (Instr.lookup 50 (.map (some m)) (.string name) false).run Try.prog wa.drew = .ok (.slice A2 np c2) wa.drew := ⟨g1, e2, (hlk wa.drew HB0.out.drew).2.2⟩
          clear hst hlk g1 g2 g3 hnp
          refine wp_region_ord (S := fun w' => w'.cell? ⟨ck, 0, none⟩ = some (.map (some m)) ∧ w'.cell? ⟨w.heap.size, 2, none⟩ = some (.string name) ∧ (Instr.lookup 50 (.map (some m)) (.string name) false).run Try.prog w' = .ok (.slice A2 np c2) w') (N := fun i => true) (by kernel_rfl) [(0, true), (1, true), (2, true), (3, true), (4, true), (5, true), (6, true), (7, true), (8, true)] (by kernel_rfl) ?_
          iterate 9 (refine ord_look rfl hS0 rfl (by intro w hS; obtain ⟨h1, h2, h3⟩ := hS; go_simp; with_reducible rfl) (fun c a w h => h) ?_; try simp only [Act.put, List.setIfInBounds_toArray, List.set_cons_succ, List.set_cons_zero])
          refine ord_end ?_
          clear hS0 e2 e3
          have hbd : Below w0.heap.size w0 wa.drew ∧ Below wa.heap.size wa wa.drew := ⟨HB0.out.drew, (Below.refl _ _).drew⟩
          have HBD := Lib.hid hbd
          clear hbd
          generalize wa.drew = wd at *
          go_wp2_with fail
          go_loopg [5, 31] np (fun k b v wr => ∃ j : Nat, j ≤ np ∧ k = np - j ∧ v = .int .i64 j ∧ b = .bool (callv ps l j) ∧ Hid (Below w0.heap.size w0 wr ∧ Below wa.heap.size wa wr))
          case atStart => exact ⟨0, by omega, rfl, rfl, rfl, HBD⟩
          case round =>
            obtain ⟨j, hj, hk, rfl, rfl, HB⟩ := hrel
            have HK := Lib.hid hk
            clear hk HBD
            by_cases hlt : j < np
            · obtain ⟨b, off, rfl, hc⟩ := HST.out.get j (by rw [← HNP.out]; exact hlt)
              have d0 := hc wr HB.out.1
              have hgd : ps.getD j ByteArray.empty = ps[j]'(by rw [← HNP.out]; exact hlt) := by rw [List.getD_eq_getElem?_getD, List.getElem?_eq_getElem (by rw [← HNP.out]; exact hlt)]; rfl
              rw [← hgd] at d0
              obtain ⟨q, hq⟩ : ∃ q, ps.getD j ByteArray.empty = q := ⟨_, rfl⟩
              have hcs : callv ps l (j + 1) = (callv ps l j || (!great q && leaksv l j)) := by rw [← hq]; rfl
              rw [hq] at d0
              obtain ⟨s2, s3⟩ := HSB.out wr HB.out.2
              have HCS := Lib.hid hcs
              clear hc hgd hq hcs
              have hj64 : j ≤ 8796093022208 := by omega
              obtain ⟨cb, hcb⟩ : ∃ cb, callv ps l j = cb := ⟨_, rfl⟩
              rw [hcb] at HCS ⊢
              clear hcb
              cases cb with
              | true =>
                go_wp2_with fail
                go_roundg (np - (j + 1))
                case measure => have := HK.out; omega
                case rel => exact ⟨j + 1, by omega, rfl, by go_num, by rw [HCS.out]; rfl, HB⟩
              | false =>
                go_wp2_with fail
                refine (secret_any _ _).mono ?_; rintro e w1 ⟨rfl, rfl⟩
                obtain ⟨g, hg⟩ : ∃ g, great q = g := ⟨_, rfl⟩
                rw [hg] at HCS ⊢
                clear hg
                cases g with
                | true =>
                  go_wp2_with fail
                  go_roundg (np - (j + 1))
                  case measure => have := HK.out; omega
                  case rel => exact ⟨j + 1, by omega, rfl, by go_num, by rw [HCS.out]; rfl, HB⟩
                | false =>
                  go_wp2_with fail
                  refine (HLK.out _ HB.out.1 j hj64).mono ?_; rintro e w2 ⟨rfl, hb2⟩
                  go_wp2_with fail
                  go_roundg (np - (j + 1))
                  case measure => have := HK.out; omega
                  case rel => exact ⟨j + 1, by omega, rfl, by go_num, by rw [HCS.out]; simp, Lib.hid ⟨bel_trans HB.out.1 hb2, bel_trans HB.out.2 hb2⟩⟩
            · obtain rfl : j = np := by omega
              rw [HOW2.out]
              go_wp2_with fail
              go_meet
              case rel => exact ⟨rfl, HB.out.1, HB.out.2⟩
        · go_wp2_with fail
          go_meet
          case rel => exact ⟨by rw [← HOW.out]; unfold ownE; rw [if_neg h4, if_neg (by omega), if_neg h5], HB0.out, Below.refl _ _⟩
      case rest =>
        obtain ⟨rfl, hb1, hb2⟩ := hcut
        obtain ⟨s2, s3⟩ := HSB.out _ hb2
        clear HOW
        cases ow with
        | true =>
          go_wp2_with fail
          go_ret
          exact ⟨by simp, hb1⟩
        | false =>
          go_wp2_with fail
          refine (HIH.out _ hb1).mono ?_; rintro e w2 ⟨rfl, hb3⟩
          go_wp2_with fail
          go_ret
          exact ⟨by simp, bel_trans hb1 hb3⟩
theorem expr_tree {t : ExprT} {w : World} {X Y : Nat → Prop} {cs : List Value} {ck : Nat} {pub : Bool} {prm : ByteArray → List ByteArray} (hc : Ck w Y ck pub prm) (h : IsExpr w X t cs) :
    Calls Try.prog 31 #[.pointer (some ⟨ck, 0, none⟩), .agg cs.toArray] w fun e w' => e = .returned (.bool (tellE prm t)) ∧ Below w.heap.size w w' := expr_any (SizeOf.sizeOf t + 1) t (Nat.lt_succ_self _) w X Y cs ck pub prm hc h
end Go.Proofs.Ytnpmgnfohaeonaa
