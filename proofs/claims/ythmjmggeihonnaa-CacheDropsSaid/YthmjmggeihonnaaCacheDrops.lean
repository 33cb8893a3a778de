/- CacheDrops: the walk of the law. -/
import Derived.Test.YthmjmggeihonnaaCacheOldest
import Derived.Test.YthmjmggeihonnaaRd
namespace Go.Proofs.Ythmjmggeihonnaa
set_option linter.unusedVariables false
set_option linter.unusedSimpArgs false
open Go.RowKit Go.Deep

theorem opens_bools (n : Nat) : Rd.Opens Try.prog 56 (Rd.slice Rd.bool 1) n := fun H enc W base spare held fuel cs x hf =>
  Rd.opens_slice Try.underlying56 (by kernel_rfl) (by decide) (by kernel_rfl) (Rd.opens_bool Try.underlying4 n) H enc W base spare held fuel cs x (by omega)

theorem CB.otherX {w0 w : World} {X : Nat → Prop} {c : Nat} {cap : Int} {n : Nat} {l : List (Int × List InsR)} {w' : World} (h : CB w0 w X c cap n l) (hX0 : ∀ k, X k → w0.heap.size ≤ k) (hc : Chg X w w') : CB w0 w' (Old X w w') c cap n l := by
  obtain ⟨hb, ⟨S, hs, h1⟩, hx⟩ := h
  exact ⟨hb.trans (hc.below hX0 hb.size), ⟨S, hs.kept hc (fun k hk hX => (h1 k hk).2.2 hX), fun k hk => ⟨(h1 k hk).1, Nat.lt_of_lt_of_le (h1 k hk).2.1 hc.size, fun hX => hX.elim (h1 k hk).2.2 (fun e => by have := (h1 k hk).2.1; omega)⟩⟩, fun k hk => hk.elim (fun h => Nat.lt_of_lt_of_le (hx k h) hc.size) (fun h => h.2)⟩

def ent2 (t : Nat) : Int × List InsR := (100 + (t : Int), oneR t)
/-- those of j that were not dropped -/
def leftN (dr : Nat → Bool) (j : Nat) : List Nat := (List.range j).filter (fun t => !dr t)
def dl (dr : Nat → Bool) (C j : Nat) : List (Int × List InsR) := (leftN dr j ++ List.range' j (C - j)).map ent1
def el (dr : Nat → Bool) (C i : Nat) : List (Int × List InsR) := (leftN dr C).map ent1 ++ (List.range' (leftN dr C).length (i - (leftN dr C).length)).map ent2

theorem leftN_lt {dr : Nat → Bool} {j t : Nat} (h : t ∈ leftN dr j) : t < j := by
  have := (List.mem_filter.1 h).1
  exact List.mem_range.1 this
theorem leftN_succ (dr : Nat → Bool) (j : Nat) : leftN dr (j + 1) = leftN dr j ++ (if dr j then [] else [j]) := by
  unfold leftN
  rw [List.range_succ, List.filter_append]
  cases h : dr j <;> simp [List.filter_cons, h]
theorem leftN_length (dr : Nat → Bool) (j : Nat) : (leftN dr j).length ≤ j := by
  have := List.length_filter_le (fun t => !dr t) (List.range j)
  rwa [List.length_range] at this
theorem dl_zero (dr : Nat → Bool) (C : Nat) : dl dr C 0 = winl C C := by
  unfold dl winl
  rw [Nat.sub_self, Nat.sub_zero]
  rfl
theorem dl_keep {dr : Nat → Bool} {C j : Nat} (h : j < C) (hd : dr j = false) : dl dr C (j + 1) = dl dr C j := by
  unfold dl
  rw [leftN_succ, hd]
  obtain ⟨r, hr⟩ : ∃ r, C - j = r + 1 := ⟨C - j - 1, by omega⟩
  rw [hr, show C - (j + 1) = r by omega, List.range'_succ]
  simp
theorem dl_drop {dr : Nat → Bool} {C j : Nat} (h : j < C) (hd : dr j = true) : (getl (dl dr C j) j).isSome = true ∧ (dl dr C j).filter (fun e => e.1 != (j : Int)) = dl dr C (j + 1) := by
  obtain ⟨r, hr⟩ : ∃ r, C - j = r + 1 := ⟨C - j - 1, by omega⟩
  have e : dl dr C j = (leftN dr j).map ent1 ++ ent1 j :: (List.range' (j + 1) r).map ent1 := by
    unfold dl
    rw [hr, List.range'_succ, List.map_append, List.map_cons]
  have e2 : dl dr C (j + 1) = (leftN dr j).map ent1 ++ (List.range' (j + 1) r).map ent1 := by
    unfold dl
    rw [leftN_succ, hd, show C - (j + 1) = r by omega, List.map_append]
    simp
  constructor
  · unfold getl
    rw [Option.isSome_map, List.find?_isSome]
    exact ⟨ent1 j, by rw [e]; simp, by simp [ent1]⟩
  · rw [e, e2, List.filter_append, List.filter_cons, if_neg (by simp [ent1])]
    congr 1
    · rw [List.filter_eq_self]
      intro x hx
      obtain ⟨t, ht, rfl⟩ := List.mem_map.1 hx
      have := leftN_lt ht
      simp only [ent1, bne_iff_ne, ne_eq]
      omega
    · rw [List.filter_eq_self]
      intro x hx
      obtain ⟨t, ht, rfl⟩ := List.mem_map.1 hx
      rw [List.mem_range'_1] at ht
      simp only [ent1, bne_iff_ne, ne_eq]
      omega
theorem dl_end (dr : Nat → Bool) (C : Nat) : dl dr C C = (leftN dr C).map ent1 := by
  unfold dl
  rw [Nat.sub_self]
  simp
theorem el_start (dr : Nat → Bool) (C : Nat) : el dr C (leftN dr C).length = dl dr C C := by
  rw [dl_end]
  unfold el
  rw [Nat.sub_self]
  simp
theorem el_key {dr : Nat → Bool} {C i : Nat} {e : Int × List InsR} (h : e ∈ el dr C i) : (∃ t : Nat, t < C ∧ e = ent1 t) ∨ ∃ t : Nat, t < i ∧ e = ent2 t := by
  rcases List.mem_append.1 h with h | h
  · obtain ⟨t, ht, rfl⟩ := List.mem_map.1 h
    exact .inl ⟨t, leftN_lt ht, rfl⟩
  · obtain ⟨t, ht, rfl⟩ := List.mem_map.1 h
    rw [List.mem_range'_1] at ht
    exact .inr ⟨t, by omega, rfl⟩
theorem el_length {dr : Nat → Bool} {C i : Nat} (h : (leftN dr C).length ≤ i) : (el dr C i).length = i := by
  unfold el
  rw [List.length_append, List.length_map, List.length_map, List.length_range']
  omega
theorem el_none {dr : Nat → Bool} {C i : Nat} (k : Int) (hC : C ≤ 32) (h1 : 100 + (i : Int) ≤ k) : getl (el dr C i) k = none := by
  unfold getl
  rw [Option.map_eq_none_iff, List.find?_eq_none]
  intro e he
  rcases el_key he with ⟨t, ht, rfl⟩ | ⟨t, ht, rfl⟩
  · simp only [ent1, beq_iff_eq]; omega
  · simp only [ent2, beq_iff_eq]; omega
theorem el_put {dr : Nat → Bool} {C i : Nat} (hC : C ≤ 32) (h0 : (leftN dr C).length ≤ i) (h : i < C) : putv C (el dr C i) (100 + (i : Int)) (oneR i) = (0, false, el dr C (i + 1)) := by
  unfold putv
  rw [el_none _ hC (Int.le_refl _), el_length h0, if_neg (by simp), if_neg (by omega)]
  unfold el
  rw [show i + 1 - (leftN dr C).length = (i - (leftN dr C).length) + 1 by omega, List.range'_1_concat, List.map_append, List.append_assoc]
  rw [show (leftN dr C).length + (i - (leftN dr C).length) = i by omega]
  rfl
theorem el_put_full {dr : Nat → Bool} {C : Nat} (hC0 : 1 ≤ C) (hC : C ≤ 32) (f : Int) (hf : f = ((el dr C C).map Prod.fst).headD 0) (hn : ((el dr C C).map Prod.fst).Nodup) : ∃ l', putv C (el dr C C) 999 (oneR 1) = (f, true, l') ∧ l'.length = C := by
  have hl := el_length (leftN_length dr C)
  unfold putv
  rw [el_none _ hC (by omega), if_neg (by simp), if_pos (by rw [hl]), ← hf]
  refine ⟨_, rfl, ?_⟩
  cases he : el dr C C with
  | nil => rw [he] at hl; simp at hl; omega
  | cons e t =>
    rw [he] at hl hf hn
    have hfe : f = e.1 := hf
    rw [List.map_cons, List.nodup_cons] at hn
    rw [List.length_append, List.filter_cons, if_neg (by simp [hfe]), List.filter_eq_self.2]
    · simpa using hl
    · intro x hx
      simp only [bne_iff_ne, ne_eq]
      intro e2
      exact hn.1 (List.mem_map.2 ⟨x, hx, by rw [e2, hfe]⟩)
theorem el_head {dr : Nat → Bool} {C : Nat} (h : 0 < (leftN dr C).length) : ((el dr C C).map Prod.fst).headD 0 = (((leftN dr C).map (fun t : Nat => (t : Int))).getD 0 0) := by
  unfold el
  cases hl : leftN dr C with
  | nil => rw [hl] at h; simp at h
  | cons a t => simp [ent1]
theorem dl_fst (dr : Nat → Bool) (C : Nat) : (dl dr C C).map Prod.fst = (leftN dr C).map (fun t : Nat => (t : Int)) := by
  rw [dl_end, List.map_map]
  rfl

def leftI (dr : Nat → Bool) (j : Nat) : List Int := (leftN dr j).map (fun t : Nat => (t : Int))
def D1Rel (w0 : World) (c C : Nat) (k : Nat) (i : Value) (wr : World) : Prop :=
  ∃ (j : Nat), j ≤ C ∧ k = C - j ∧ i = .int .i64 j ∧ CB w0 wr (fun _ => False) c C j (winl C j)
def D2Rel (w0 : World) (c C : Nat) (dr : Nat → Bool) (k : Nat) (v i : Value) (wr : World) : Prop :=
  ∃ (j : Nat), j ≤ C ∧ k = C - j ∧ i = .int .i64 j ∧ ∃ X A r cp, v = .slice A r cp ∧ r = (leftN dr j).length ∧ CB w0 wr X c C C (dl dr C j) ∧ wr.ownsRow 0 3 1 v r (ints (leftI dr j)) ∧ (∀ k, v.ownBlock = some k → X k) ∧ ∀ k, X k → w0.heap.size ≤ k
def D3Rel (w0 : World) (c C r : Nat) (dr : Nat → Bool) (v : Value) (k : Nat) (i : Value) (wr : World) : Prop :=
  ∃ (j n : Nat), j ≤ C ∧ r ≤ j ∧ n ≤ C + j ∧ k = C + 1 + r - j ∧ i = .int .i64 j ∧ ∃ X, CB w0 wr X c C n (el dr C j) ∧ Tmp w0 wr X v r (ints (leftI dr C))

set_option maxHeartbeats 8000000 in
set_option maxRecDepth 100000 in
theorem cacheDrops_walk (q : Int) (A : Option Addr) (cap : Nat) (l : List Bool) (w : World) (hq : (Lit.int .i64 q).wf = true) (hr : Rd.bool.C w A l) (hl : l.length * 1 ≤ 140737488351232) :
    Calls Try.prog 7 #[.int .i64 q, .slice A l.length cap] w fun e w' => e = .returned (.bool true) ∧ Below w.heap.size w w' := by
  suffices hs : ∀ w0, w0 = w → ∀ len, len = l.length → Calls Try.prog 7 #[.int .i64 q, .slice A len cap] w fun e w' => e = .returned (.bool true) ∧ Below w0.heap.size w0 w' from hs w rfl _ rfl
  intro w0 hw0 len hlen
  obtain ⟨i0, hi, hz0, hz1, hz2⟩ := info_parts infoInt
  have HR := Lib.hid hr
  have HW := Lib.hid hw0
  have HL := Lib.hid hlen
  have hlm : len ≤ 9223372036854775807 := by omega
  clear hr hw0 hl hlen hq
  obtain ⟨m, hm⟩ : ∃ m, bits .and .i64 q 31 = m := ⟨_, rfl⟩
  have hm0 : 0 ≤ m ∧ m ≤ 31 := by rw [← hm, and_mask5]; omega
  obtain ⟨hm0, hm1⟩ := hm0
  obtain ⟨C, hC⟩ : ∃ C : Nat, (C : Int) = 1 + m := ⟨(1 + m).toNat, by omega⟩
  have hC1 : 1 ≤ C := by omega
  have hC2 : C ≤ 32 := by omega
  have HC : Hid (clampc (C : Int) = (C : Int)) := Lib.hid (by unfold clampc; rw [if_neg (by omega), if_neg (by omega)])
  obtain ⟨dr, hdr⟩ : ∃ dr : Nat → Bool, dr = fun t => l.getD t false := ⟨_, rfl⟩
  have HD := Lib.hid hdr
  have HCM := Lib.hid hC
  clear hdr hC
  go_enter Try.func7, Try.ntmps7
  go_wp2_with fail
  refine (shown_any _).mono ?_; rintro e w1 ⟨rfl, hb1⟩
  have HB1 : Hid (Below w0.heap.size w0 w1) := by rw [HW.out]; exact hb1
  clear hb1
  go_wp2_with fail
  rw [← HCM.out]
  refine (CB.new HB1.out C C HC.out).mono ?_; rintro e w2 ⟨c, rfl, h2⟩
  clear hm hm0 hm1
  go_wp2_with fail
  go_loopg [8] C (fun k i wr => D1Rel w0 c C k i wr)
  case atStart => exact ⟨0, by omega, rfl, rfl, by have e : winl C 0 = [] := by simp [winl]
                                                   rw [e]; exact h2⟩
  case round =>
    clear h2
    obtain ⟨j, hj, hk, rfl, h2⟩ := hrel
    have HK := Lib.hid hk
    clear hk
    by_cases hlt : j < C
    · have hltI : (j : Int) < (C : Int) := by omega
      go_wp2_with fail
      refine (h2.one j).mono ?_; rintro e w3 ⟨g, cp, rfl, t1, h3, _⟩
      clear h2
      go_wp2_with fail
      refine (h3.put j (WalkArith.wf_i64 (by omega)) _ (oneR j) t1 (by simp [oneR]) (by omega) 0 false _ (winl_put_room (C := C) hlt)).mono ?_; rintro e w4 ⟨rfl, h4, _⟩
      replace h4 := h4.free
      clear h3 t1
      go_wp2_with fail
      go_roundg (C - (j + 1))
      case measure => have := HK.out; omega
      case rel => exact ⟨j + 1, by omega, rfl, by go_num, h4⟩
    · obtain rfl : j = C := by omega
      go_wp2_with fail
      go_loopg [7, 9] j (fun k v i wr => D2Rel w0 c j dr k v i wr)
      case atStart => exact ⟨0, by omega, rfl, rfl, (fun _ => False), none, 0, 0, rfl, rfl, by rw [dl_zero]; exact h2, World.ownsRow_nil _ _ _ _, (fun k hk => by cases hk), fun k hk => False.elim hk⟩
      case round =>
        clear h2
        obtain ⟨t, ht, hk, rfl, X, A7, r, cp7, rfl, hr, h2, hown, hX1, hX2⟩ := hrel
        have HK := Lib.hid hk
        have HRR := Lib.hid hr
        have HO := Lib.hid hown
        have HX1 := Lib.hid hX1
        have HX2 := Lib.hid hX2
        have hr32 : r ≤ 32 := by rw [hr]; have := leftN_length dr t; omega
        clear hk hr hown hX1 hX2
        by_cases hlt : t < j
        · have hltI : (t : Int) < (j : Int) := by omega
          have htw : (Lit.int .i64 (t : Int)).wf = true := WalkArith.wf_i64 (by omega)
          cases hd : dr t with
          | true =>
            have htl : l[t]? = some true := by
              have := hd
              rw [HD.out] at this
              simp only [List.getD_eq_getElem?_getD] at this
              cases hx : l[t]? with
              | none => rw [hx] at this; cases this
              | some x => rw [hx] at this; simp at this; rw [this]
            have hlen : t < len := by rw [HL.out]; exact (List.getElem?_eq_some_iff.1 htl).1
            have hlenI : (t : Int) < (len : Int) := by omega
            obtain ⟨b, off, rfl, hx⟩ := HR.out (by rw [← HL.out]; omega)
            obtain ⟨cs, _, hcs, rfl⟩ := hx t true htl
            have ct0 := hcs 0 _ rfl
            have ct : wr.cell? ⟨b, off + t, none⟩ = some (.bool true) := by
              have hbb := h2.bel
              rw [HW.out] at hbb
              have := (hbb.cell (World.block_lt_of_cell? w _ ct0)).trans ct0
              simpa [Rd.bool] using this
            have HDL := Lib.hid (dl_drop hlt hd)
            have HRS : Hid (leftN dr (t + 1) = leftN dr t) := Lib.hid (by rw [leftN_succ, hd]; simp)
            clear hd htl hx hcs ct0
            go_wp2_with fail
            refine (h2.drop t htw true _ HDL.out).mono ?_; rintro e w4 ⟨rfl, h4, hc4⟩
            have ho4 := ownsRow_kept HO.out hc4 (fun k hk e => e.2 (HX1.out k hk))
            clear h2 hc4 ct
            have HO4 := Lib.hid ho4
            clear ho4
            go_wp2_with fail
            go_roundg (j - (t + 1))
            case measure => have := HK.out; omega
            case rel => exact ⟨t + 1, by omega, rfl, by go_num, X, A7, r, cp7, rfl, by rw [HRS.out]; exact HRR.out, h4, by unfold leftI; rw [HRS.out]; exact HO4.out, HX1.out, HX2.out⟩
          | false =>
            have HDL : Hid (dl dr j (t + 1) = dl dr j t) := Lib.hid (dl_keep hlt hd)
            have HRS : Hid (leftN dr (t + 1) = leftN dr t ++ [t]) := Lib.hid (by rw [leftN_succ, hd]; simp)
            have HLI : Hid (ints (leftI dr t) ++ [.int .i64 t] = ints (leftI dr (t + 1))) := Lib.hid (by unfold leftI ints; rw [HRS.out]; simp)
            by_cases hlen : t < len
            · have hlenI : (t : Int) < (len : Int) := by omega
              have htl : l[t]? = some false := by
                have := hd
                rw [HD.out] at this
                simp only [List.getD_eq_getElem?_getD] at this
                have e : l[t]? = some l[t] := List.getElem?_eq_getElem (by rw [← HL.out]; exact hlen)
                rw [e] at this ⊢
                simpa using this
              obtain ⟨b, off, rfl, hx⟩ := HR.out (by rw [← HL.out]; omega)
              obtain ⟨cs, _, hcs, rfl⟩ := hx t false htl
              have ct0 := hcs 0 _ rfl
              have ct : wr.cell? ⟨b, off + t, none⟩ = some (.bool false) := by
                have hbb := h2.bel
                rw [HW.out] at hbb
                have := (hbb.cell (World.block_lt_of_cell? w _ ct0)).trans ct0
                simpa [Rd.bool] using this
              clear hd htl hx hcs ct0
              have HX1' := HX1
              go_wp2_with (at_builtin; refine wpList_append_lies _ rfl _ _ _ rfl 0 3 i0 _ 1 8 Try.underlying45 hi hz0 hz1 hz2 rfl (by omega) (.slice A7 r cp7) r (ints (leftI dr t)) rfl (HO.out.alloc _) ⟨wr.heap.size, 0, none⟩ 1 1 [.int .i64 t] rfl rfl (World.news_of_block (cs := #[.int .i64 t]) (t := 3) (fr := (0, 0)) (heap_new _ _)) (by simp [Value.oneCell']) (by omega) (by unfold maxLen; omega) (by omega) (by omega) (wr.heap.size + 1) (by simp) ?_; intro g cp' w4 hown4 hgrow hat hgl)
              have hc4 : Chg X wr w4 := ((Chg.refl X wr).alloc _).grownBy hgrow (fun k hk _ => HX1.out k hk)
              have h4 := h2.otherX HX2.out hc4
              have hg : Old X wr w4 g := by
                rcases hat with hat | hat
                · exact .inl (HX1.out g hat)
                · exact .inr ⟨by omega, hgl⟩
              have HX2' : Hid (∀ k, Old X wr w4 k → w0.heap.size ≤ k) := Lib.hid (fun k hk => hk.elim (HX2.out k) (fun e => Nat.le_trans h2.bel.size e.1))
              have HG := Lib.hid hg
              have HO4 := Lib.hid hown4
              clear h2 hc4 hown4 hgrow hat hgl hg
              go_roundg (j - (t + 1))
              case measure => have := HK.out; omega
              case rel => exact ⟨t + 1, by omega, rfl, by go_num, _, some ⟨g, 0, none⟩, r + 1, cp', rfl, by rw [HRS.out, List.length_append, ← HRR.out]; rfl, by rw [HDL.out]; exact h4, by rw [← HLI.out]; exact HO4.out, (fun k hk => by injection hk with hk; rw [← hk]; exact HG.out), HX2'.out⟩
            · have hlenI : ¬ (t : Int) < (len : Int) := by omega
              clear hd
              have HX1' := HX1
              go_wp2_with (at_builtin; refine wpList_append_lies _ rfl _ _ _ rfl 0 3 i0 _ 1 8 Try.underlying45 hi hz0 hz1 hz2 rfl (by omega) (.slice A7 r cp7) r (ints (leftI dr t)) rfl (HO.out.alloc _) ⟨wr.heap.size, 0, none⟩ 1 1 [.int .i64 t] rfl rfl (World.news_of_block (cs := #[.int .i64 t]) (t := 3) (fr := (0, 0)) (heap_new _ _)) (by simp [Value.oneCell']) (by omega) (by unfold maxLen; omega) (by omega) (by omega) (wr.heap.size + 1) (by simp) ?_; intro g cp' w4 hown4 hgrow hat hgl)
              have hc4 : Chg X wr w4 := ((Chg.refl X wr).alloc _).grownBy hgrow (fun k hk _ => HX1.out k hk)
              have h4 := h2.otherX HX2.out hc4
              have hg : Old X wr w4 g := by
                rcases hat with hat | hat
                · exact .inl (HX1.out g hat)
                · exact .inr ⟨by omega, hgl⟩
              have HX2' : Hid (∀ k, Old X wr w4 k → w0.heap.size ≤ k) := Lib.hid (fun k hk => hk.elim (HX2.out k) (fun e => Nat.le_trans h2.bel.size e.1))
              have HG := Lib.hid hg
              have HO4 := Lib.hid hown4
              clear h2 hc4 hown4 hgrow hat hgl hg
              go_roundg (j - (t + 1))
              case measure => have := HK.out; omega
              case rel => exact ⟨t + 1, by omega, rfl, by go_num, _, some ⟨g, 0, none⟩, r + 1, cp', rfl, by rw [HRS.out, List.length_append, ← HRR.out]; rfl, by rw [HDL.out]; exact h4, by rw [← HLI.out]; exact HO4.out, (fun k hk => by injection hk with hk; rw [← hk]; exact HG.out), HX2'.out⟩
        · obtain rfl : t = j := by omega
          have hlr : (leftI dr t).length = r := by unfold leftI; rw [List.length_map]; exact HRR.out.symm
          have HLR := Lib.hid hlr
          go_wp2_with fail
          refine (h2.held (leftI dr t) (dl_fst dr t)).mono ?_; rintro e w3 ⟨A3, cp3, rfl, _, t3, h3, hc3⟩
          rw [hlr] at t3 ⊢
          have t7 : Tmp w0 w3 (Old X wr w3) (.slice A7 r cp7) r (ints (leftI dr t)) := ⟨Src.of_row (ownsRow_kept HO.out hc3 (fun _ _ x => x)), fun k hk => .inr (.inl (HX1.out k hk))⟩
          have hX7 : ∀ k, (Value.slice A7 r cp7).ownBlock = some k → Old X wr w3 k := fun k hk => .inl (HX1.out k hk)
          have HX7 := Lib.hid hX7
          have hsm : Calls Try.prog 23 #[.slice A3 r cp3, .slice A7 r cp7] w3 fun e w' => e = .returned (.bool true) ∧ ∃ m, w' = w3.drewN m := by
            have := same_any (xs := leftI dr t) (ys := leftI dr t) (w := w3) (a := .slice A3 r cp3) (b := .slice A7 r cp7) (by rw [hlr]; exact t3.src) (by rw [hlr]; exact t7.src)
            rwa [decide_eq_true rfl] at this
          have HS := Lib.hid hsm
          clear hlr h2 t3 hc3 hX7 hsm
          go_wp2_with fail
          refine HS.out.mono ?_; rintro e w4 ⟨rfl, m4, rfl⟩
          replace h3 := h3.drewN m4
          replace t7 := t7.drewN m4
          clear HS
          generalize w3.drewN m4 = w5 at *
          have hrI : (0 : Int) ≤ r := by omega
          have hrC : r ≤ t := by have := leftN_length dr t; have := HRR.out; omega
          go_wp2_with fail
          go_loopg [10] (t + 1) (fun k i wr => D3Rel w0 c t r dr (.slice A7 r cp7) k i wr)
          case atStart => exact ⟨r, t, hrC, Nat.le_refl _, by omega, by omega, rfl, _, by have e := el_start dr t; rw [← HRR.out] at e; rw [e]; exact h3, t7⟩
          case round =>
            clear h3 t7
            obtain ⟨u, n, hu1, hu2, hn, hk, rfl, X, h3, t7⟩ := hrel
            have HKK := Lib.hid hk
            have hle : (leftN dr t).length ≤ u := by rw [← HRR.out]; exact hu2
            clear hk
            by_cases hlt : u < t
            · have hltI : (u : Int) < (t : Int) := by omega
              have hwu : (Lit.int .i64 (100 + (u : Int))).wf = true := WalkArith.wf_i64 (by omega)
              have ew : IntKind.i64.wrap (100 + (u : Int)) = 100 + (u : Int) := by rw [IntKind.wrap_i64]; omega
              have HP := Lib.hid (el_put (dr := dr) hC2 hle hlt)
              clear hle
              go_wp2_with fail
              refine (h3.one u).mono ?_; rintro e w6 ⟨g6, cp6, rfl, t6, h6, hc6⟩
              replace t7 := t7.keptO hc6
              clear h3 hc6
              go_wp2_with fail
              refine (h6.put (100 + (u : Int)) hwu _ (oneR u) t6 (by simp [oneR]) (by omega) 0 false _ HP.out).mono ?_; rintro e w8 ⟨rfl, h8, hc8⟩
              replace t7 := t7.keptC hc8
              clear h6 t6 hc8
              go_wp2_with fail
              go_roundg (t + 1 + r - (u + 1))
              case measure => have := HKK.out; omega
              case rel => exact ⟨u + 1, n + 1, by omega, by omega, by omega, rfl, by go_num, _, h8, t7⟩
            · obtain rfl : u = t := by omega
              have hel := el_length hle
              obtain ⟨ys, hys⟩ : ∃ ys, ys = (el dr u u).map Prod.fst := ⟨_, rfl⟩
              have hyl : ys.length = u := by rw [hys, List.length_map, hel]
              obtain ⟨f, hf⟩ : ∃ f, f = ys.headD 0 := ⟨_, rfl⟩
              have hy0 : ys[0]? = some f := by
                cases hy : ys with
                | nil => rw [hy] at hyl; simp at hyl; omega
                | cons a b => rw [hf, hy]; rfl
              obtain ⟨l', hl', hl2⟩ := el_put_full (dr := dr) hC1 hC2 f (by rw [hf, hys]) h3.nodup
              have HF : Hid (0 < r → (leftI dr u)[0]? = some f) := Lib.hid (fun h0 => by
                have h1 := el_head (dr := dr) (C := u) (by rw [← HRR.out]; exact h0)
                rw [← hys, ← hf] at h1
                unfold leftI
                have hlen : 0 < (leftN dr u).length := by rw [← HRR.out]; exact h0
                rw [h1, List.getD_eq_getElem?_getD, List.getElem?_eq_getElem (by simpa using hlen)]
                rfl)
              have HP := Lib.hid hl'
              have HLL := Lib.hid hl2
              have HYS := Lib.hid hys
              have HYL := Lib.hid hyl
              have HY0 := Lib.hid hy0
              clear hel hle hys hyl hf hy0 hl' hl2
              go_wp2_with fail
              refine (h3.held ys HYS.out.symm).mono ?_; rintro e w6 ⟨A6, cp6, rfl, _, t6, h6, hc6⟩
              rw [HYL.out] at t6 ⊢
              replace t7 := t7.keptO hc6
              clear h3 hc6
              have hcell : ∃ b off, A6 = some ⟨b, off, none⟩ ∧ w6.cell? ⟨b, off, none⟩ = some (.int .i64 f) := by
                rcases t6.src with ⟨_, h0, _⟩ | ⟨b, off, cap, e, _, _, _, hc⟩
                · omega
                · injection e with e1 e2 e3
                  exact ⟨b, off, e1, hc 0 _ (by unfold ints; rw [List.getElem?_map, HY0.out]; rfl)⟩
              obtain ⟨b6, o6, rfl, hcf⟩ := hcell
              have hu0 : (0 : Int) < (u : Int) := by omega
              clear t6
              go_wp2_with fail
              refine (h6.one 1).mono ?_; rintro e w8 ⟨g8, cp8, rfl, t8, h8, hc8⟩
              replace t7 := t7.keptO hc8
              clear h6 hc8 hcf
              go_wp2_with fail
              refine (h8.put 999 (by decide) _ (oneR 1) t8 (by simp [oneR]) (by omega) f true l' HP.out).mono ?_; rintro e w9 ⟨rfl, h9, hc9⟩
              replace t7 := t7.keptC hc9
              clear h8 t8 hc9
              by_cases hr0 : r = 0
              · have hr0I : (r : Int) = 0 := by omega
                subst hr0
                clear t7
                go_wp2_with fail
                refine (h9.len u (by rw [HLL.out])).mono ?_; rintro e w10 ⟨rfl, rfl⟩
                go_wp2_with fail
                go_ret
                exact ⟨rfl, h9.bel⟩
              · have hcell : ∃ b off, A7 = some ⟨b, off, none⟩ ∧ w9.cell? ⟨b, off, none⟩ = some (.int .i64 f) := by
                  rcases t7.src with ⟨_, h0, _⟩ | ⟨b, off, cap, e, _, _, _, hc⟩
                  · omega
                  · injection e with e1 e2 e3
                    exact ⟨b, off, e1, hc 0 _ (by unfold ints; rw [List.getElem?_map, HF.out (by omega)]; rfl)⟩
                obtain ⟨b7, o7, rfl, hcf⟩ := hcell
                have hr0I : ¬ (r : Int) = 0 := by omega
                have hr0J : (0 : Int) < (r : Int) := by omega
                clear t7
                go_wp2_with fail
                refine (h9.len u (by rw [HLL.out])).mono ?_; rintro e w10 ⟨rfl, rfl⟩
                go_wp2_with fail
                go_ret
                exact ⟨rfl, h9.bel⟩
end Go.Proofs.Ythmjmggeihonnaa
