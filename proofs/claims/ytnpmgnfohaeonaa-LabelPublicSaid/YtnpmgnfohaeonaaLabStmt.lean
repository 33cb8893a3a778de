/- label: the checker's stmt. -/
import Derived.Test.YtnpmgnfohaeonaaLabExpr
namespace Go.Proofs.Ytnpmgnfohaeonaa
set_option linter.unusedVariables false
set_option linter.unusedSimpArgs false
open Go.RowKit

theorem size_memS {l : List StmtT} {x : StmtT} (h : x ∈ l) : SizeOf.sizeOf x < SizeOf.sizeOf l := List.sizeOf_lt_of_mem h
set_option maxHeartbeats 8000000 in
set_option maxRecDepth 100000 in
theorem stmt_any (k : Nat) : ∀ (t : StmtT), SizeOf.sizeOf t < k → ∀ (w : World) (X Y : Nat → Prop) (cs : List Value) (ck : Nat) (pub : Bool) (prm : ByteArray → List ByteArray), Ck w Y ck pub prm → IsStmt w X t cs →
    Calls Try.prog 23 #[.pointer (some ⟨ck, 0, none⟩), .agg cs.toArray] w fun e w' => e = .returned (.bool (tellS prm pub t)) ∧ Below w.heap.size w w' := by
  induction k with
  | zero => intro t h; omega
  | succ k ih =>
    intro t hk w X Y cs ck pub prm hck h
    cases h with
    | mk op name n l body els A B E c cb ce f fb fe hs hr h hrb hbd hre hel =>
      show Calls Try.prog 23 #[.pointer (some ⟨ck, 0, none⟩), .agg #[.int .i64 op, .string name, .int .i64 n, .slice A l.length c, .slice B body.length cb, .slice E els.length ce]] w _
      rw [tellS_eq]
      suffices hsuf : ∀ w0, w0 = w → Calls Try.prog 23 #[.pointer (some ⟨ck, 0, none⟩), .agg #[.int .i64 op, .string name, .int .i64 n, .slice A l.length c, .slice B body.length cb, .slice E els.length ce]] w fun e w' => e = .returned (.bool (ownS prm pub op name l || l.any (tellE prm) || body.any (tellS prm pub) || els.any (tellS prm pub))) ∧ Below w0.heap.size w0 w' from hsuf w rfl
      intro w0 hw0
      have hb0 : Below w0.heap.size w0 (w.alloc (.cells #[.int .i64 op, .string name, .int .i64 n, .slice A l.length c, .slice B body.length cb, .slice E els.length ce] 42)) := by rw [hw0]; exact (Below.refl _ _).alloc (Nat.le_refl _) _
      have hex : Exprs w0 X A c l := by rw [hw0]; exact ⟨f, hr, h⟩
      have hexb : Stmts w0 X B cb body := by rw [hw0]; exact ⟨fb, hrb, hbd⟩
      have hexe : Stmts w0 X E ce els := by rw [hw0]; exact ⟨fe, hre, hel⟩
      have hck0 : Ck w0 Y ck pub prm := by rw [hw0]; exact hck
      have HE := Lib.hid hex
      have HEB := Lib.hid hexb
      have HEE := Lib.hid hexe
      have HCK := Lib.hid hck0
      have HB0 := Lib.hid hb0
      have HPUB := Lib.hid hck0.pub
      have hsb : (w.alloc (.cells #[.int .i64 op, .string name, .int .i64 n, .slice A l.length c, .slice B body.length cb, .slice E els.length ce] 42)).heap[w.heap.size]? = some (.cells #[.int .i64 op, .string name, .int .i64 n, .slice A l.length c, .slice B body.length cb, .slice E els.length ce] 42 (0, 0)) := heap_new _ _
      have HSB : Hid (∀ wx, Below (w.alloc (.cells #[.int .i64 op, .string name, .int .i64 n, .slice A l.length c, .slice B body.length cb, .slice E els.length ce] 42)).heap.size (w.alloc (.cells #[.int .i64 op, .string name, .int .i64 n, .slice A l.length c, .slice B body.length cb, .slice E els.length ce] 42)) wx → wx.cell? ⟨w.heap.size, 1, none⟩ = some (.string name) ∧ wx.cell? ⟨w.heap.size, 3, none⟩ = some (.slice A l.length c) ∧ wx.cell? ⟨w.heap.size, 4, none⟩ = some (.slice B body.length cb) ∧ wx.cell? ⟨w.heap.size, 5, none⟩ = some (.slice E els.length ce)) := Lib.hid (fun wx hb => by
        have := (Below.chg hb).heap hsb (fun x => x)
        exact ⟨cell_of_block this 1, cell_of_block this 3, cell_of_block this 4, cell_of_block this 5⟩)
      have HIH : Hid (∀ wx, Below w0.heap.size w0 wx → Calls Try.prog 26 #[.slice A l.length c, .func (.func 31) #[.pointer (some ⟨ck, 0, none⟩)] #[]] wx fun e w' => e = .returned (.bool (l.any (tellE prm))) ∧ Below wx.heap.size wx w') := Lib.hid (fun wx hb =>
        ceHas ck (tellE prm) (HE.out.keep hb) (fun x hx w' cs hb' hie => expr_tree ((HCK.out.keep hb).keep hb') hie))
      have HIB : Hid (∀ wx, Below w0.heap.size w0 wx → Calls Try.prog 22 #[.slice B body.length cb, .func (.func 23) #[.pointer (some ⟨ck, 0, none⟩)] #[]] wx fun e w' => e = .returned (.bool (body.any (tellS prm pub))) ∧ Below wx.heap.size wx w') := Lib.hid (fun wx hb =>
        csHas ck (tellS prm pub) (HEB.out.keep hb) (fun x hx w' cs hb' hie => ih x (by have := size_memS hx; simp only [StmtT.mk.sizeOf_spec] at hk; omega) w' X Y cs ck pub prm ((HCK.out.keep hb).keep hb') hie))
      have HIE : Hid (∀ wx, Below w0.heap.size w0 wx → Calls Try.prog 22 #[.slice E els.length ce, .func (.func 23) #[.pointer (some ⟨ck, 0, none⟩)] #[]] wx fun e w' => e = .returned (.bool (els.any (tellS prm pub))) ∧ Below wx.heap.size wx w') := Lib.hid (fun wx hb =>
        csHas ck (tellS prm pub) (HEE.out.keep hb) (fun x hx w' cs hb' hie => ih x (by have := size_memS hx; simp only [StmtT.mk.sizeOf_spec] at hk; omega) w' X Y cs ck pub prm ((HCK.out.keep hb).keep hb') hie))
      have HLK : Hid (∀ wx, Below w0.heap.size w0 wx → ∀ i, i ≤ 8796093022208 → Calls Try.prog 30 #[.slice A l.length c, .int .i64 (i : Nat)] wx fun e w' => e = .returned (.bool (leaksv l i)) ∧ Below wx.heap.size wx w') := Lib.hid (fun wx hb i hi => leaks_any (HE.out.keep hb) i hi)
      clear hr h hrb hbd hre hel hex hexb hexe hck0 hb0 hsb hk ih hck hw0
      generalize l.any (tellE prm) = ra at *
      generalize body.any (tellS prm pub) = rb at *
      generalize els.any (tellS prm pub) = re at *
      obtain ⟨ow, how⟩ : ∃ ow, ownS prm pub op name l = ow := ⟨_, rfl⟩
      rw [how]
      have HOW := Lib.hid how
      clear how
      generalize body.length = lb at *
      generalize els.length = le at *
      go_enter Try.func23, Try.ntmps23
      go_upto_block 0 with fail
      generalize hwa : (w.alloc (.cells #[.int .i64 op, .string name, .int .i64 n, .slice A l.length c, .slice B lb cb, .slice E le ce] 42)) = wa at *
      clear hwa
      go_cut [5] from 8 to 52 (fun a5 wx => a5 = .bool ow ∧ Below w0.heap.size w0 wx ∧ Below wa.heap.size wa wx)
      case first =>
        obtain ⟨e1, e3, _, _⟩ := HSB.out wa (Below.refl _ _)
        have e9 := HPUB.out wa HB0.out
        have HS := Lib.hid hs
        clear hs
        obtain ⟨r0, hr0⟩ : ∃ r0, leaksv l 0 = r0 := ⟨_, rfl⟩
        obtain ⟨r1, hr1⟩ : ∃ r1, leaksv l 1 = r1 := ⟨_, rfl⟩
        obtain ⟨g, hg⟩ : ∃ g, great name = g := ⟨_, rfl⟩
        have HL0 : Hid (∀ wx, Below w0.heap.size w0 wx → Calls Try.prog 30 #[.slice A l.length c, .int .i64 0] wx fun e w' => e = .returned (.bool r0) ∧ Below wx.heap.size wx w') := Lib.hid (fun wx hb => by rw [← hr0]; exact HLK.out wx hb 0 (by decide))
        have HL1 : Hid (∀ wx, Below w0.heap.size w0 wx → Calls Try.prog 30 #[.slice A l.length c, .int .i64 1] wx fun e w' => e = .returned (.bool r1) ∧ Below wx.heap.size wx w') := Lib.hid (fun wx hb => by rw [← hr1]; exact HLK.out wx hb 1 (by decide))
        have HSC : Hid (∀ wx, Calls Try.prog 19 #[.string name] wx fun e w' => e = .returned (.bool g) ∧ wx = w') := Lib.hid (fun wx => (secret_any name wx).mono (fun e w' ⟨h1, h2⟩ => ⟨by rw [h1, hg], h2.symm⟩))
        have hov : ownS prm pub op name l = if op = 2 then r0 || (!g && r1) else if op = 1 then !g && r0 else if op = 9 then pub && r0 else if op = 5 ∨ op = 7 ∨ op = 8 then r0 else false := by unfold ownS; rw [hr0, hr1, hg]
        rw [HOW.out] at hov
        have HOV := Lib.hid hov
        clear hr0 hr1 hg hov HLK
        have hcs : op = 2 ∨ op = 1 ∨ op = 9 ∨ op = 5 ∨ op = 7 ∨ op = 8 ∨ (¬ op = 2 ∧ ¬ op = 1 ∧ ¬ op = 9 ∧ ¬ op = 5 ∧ ¬ op = 7 ∧ ¬ op = 8) := by omega
        rcases hcs with rfl | rfl | rfl | rfl | rfl | rfl | ⟨h2, h1, h9, h5, h7, h8⟩
        · obtain rfl : ow = (r0 || (!g && r1)) := HOV.out
          clear HOV HOW
          go_wp2_with fail
          refine (HL0.out _ HB0.out).mono ?_; rintro e w1 ⟨rfl, hb1⟩
          obtain ⟨e1', e3', _, _⟩ := HSB.out w1 hb1
          cases r0 with
          | true =>
            go_wp2_with fail
            go_meet
            case rel => exact ⟨by simp, bel_trans HB0.out hb1, hb1⟩
          | false =>
            go_wp2_with fail
            refine (HSC.out _).mono ?_; rintro e w2 ⟨rfl, rfl⟩
            cases g with
            | true =>
              go_wp2_with fail
              go_meet
              case rel => exact ⟨by simp, bel_trans HB0.out hb1, hb1⟩
            | false =>
              go_wp2_with fail
              refine (HL1.out _ (bel_trans HB0.out hb1)).mono ?_; rintro e w3 ⟨rfl, hb3⟩
              go_wp2_with fail
              go_meet
              case rel => exact ⟨by simp, bel_trans (bel_trans HB0.out hb1) hb3, bel_trans hb1 hb3⟩
        · obtain rfl : ow = (!g && r0) := HOV.out
          clear HOV HOW
          go_wp2_with fail
          refine (HSC.out _).mono ?_; rintro e w2 ⟨rfl, rfl⟩
          cases g with
          | true =>
            go_wp2_with fail
            go_meet
            case rel => exact ⟨by simp, HB0.out, Below.refl _ _⟩
          | false =>
            go_wp2_with fail
            refine (HL0.out _ HB0.out).mono ?_; rintro e w3 ⟨rfl, hb3⟩
            go_wp2_with fail
            go_meet
            case rel => exact ⟨by simp, bel_trans HB0.out hb3, hb3⟩
        · obtain rfl : ow = (pub && r0) := HOV.out
          clear HOV HOW
          cases pub with
          | false =>
            go_wp2_with fail
            go_meet
            case rel => exact ⟨by simp, HB0.out, Below.refl _ _⟩
          | true =>
            go_wp2_with fail
            refine (HL0.out _ HB0.out).mono ?_; rintro e w3 ⟨rfl, hb3⟩
            go_wp2_with fail
            go_meet
            case rel => exact ⟨by simp, bel_trans HB0.out hb3, hb3⟩
        iterate 3
          · obtain rfl : ow = r0 := HOV.out
            clear HOV HOW
            go_wp2_with fail
            refine (HL0.out _ HB0.out).mono ?_; rintro e w3 ⟨rfl, hb3⟩
            go_wp2_with fail
            go_meet
            case rel => exact ⟨rfl, bel_trans HB0.out hb3, hb3⟩
        · obtain rfl : ow = false := by rw [HOV.out, if_neg h2, if_neg h1, if_neg h9, if_neg (by omega)]
          clear HOV HOW
          go_wp2_with fail
          go_meet
          case rel => exact ⟨rfl, HB0.out, Below.refl _ _⟩
      case rest =>
        obtain ⟨rfl, hb1, hb2⟩ := hcut
        obtain ⟨s1, s3, s4, s5⟩ := HSB.out _ hb2
        clear HOW
        cases ow with
        | true =>
          go_wp2_with fail
          go_ret
          exact ⟨by simp, hb1⟩
        | false =>
          go_wp2_with fail
          refine (HIH.out _ hb1).mono ?_; rintro e w2 ⟨rfl, hb3⟩
          clear s1 s3 s4 s5
          obtain ⟨s1, s3, s4, s5⟩ := HSB.out w2 (bel_trans hb2 hb3)
          cases ra with
          | true =>
            go_wp2_with fail
            go_ret
            exact ⟨by simp, bel_trans hb1 hb3⟩
          | false =>
            go_wp2_with fail
            refine (HIB.out _ (bel_trans hb1 hb3)).mono ?_; rintro e w3 ⟨rfl, hb4⟩
            clear s1 s3 s4 s5
            obtain ⟨s1, s3, s4, s5⟩ := HSB.out w3 (bel_trans (bel_trans hb2 hb3) hb4)
            cases rb with
            | true =>
              go_wp2_with fail
              go_ret
              exact ⟨by simp, bel_trans (bel_trans hb1 hb3) hb4⟩
            | false =>
              go_wp2_with fail
              refine (HIE.out _ (bel_trans (bel_trans hb1 hb3) hb4)).mono ?_; rintro e w4 ⟨rfl, hb5⟩
              go_wp2_with fail
              go_ret
              exact ⟨by simp, bel_trans (bel_trans (bel_trans hb1 hb3) hb4) hb5⟩
theorem stmts_has {l : List StmtT} {w : World} {X Y : Nat → Prop} {A : Option Addr} {c : Nat} {ck : Nat} {pub : Bool} {prm : ByteArray → List ByteArray} (hc : Ck w Y ck pub prm) (h : Stmts w X A c l) :
    Calls Try.prog 22 #[.slice A l.length c, .func (.func 23) #[.pointer (some ⟨ck, 0, none⟩)] #[]] w fun e w' => e = .returned (.bool (l.any (tellS prm pub))) ∧ Below w.heap.size w w' :=
  csHas ck (tellS prm pub) h (fun x hx w' cs hb hie => stmt_any (SizeOf.sizeOf x + 1) x (Nat.lt_succ_self _) w' X Y cs ck pub prm (hc.keep hb) hie)
end Go.Proofs.Ytnpmgnfohaeonaa
