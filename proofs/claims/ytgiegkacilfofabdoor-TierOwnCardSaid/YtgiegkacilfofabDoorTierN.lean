/- tier: New's first region. -/
import Derived.Test.YtgiegkacilfofabDoorTierM
import Derived.Test.YtgiegkacilfofabDoorOrdT
import Derived.RegionTactic
namespace Go.Proofs.YtgiegkacilfofabDoor
set_option linter.unusedVariables false
set_option linter.unusedSimpArgs false
open Go.RowKit Go.Conc

set_option maxHeartbeats 8000000 in
set_option maxRecDepth 100000 in
theorem tnew_any {w : World} {A : Option Addr} {cA : Nat} {fs : List FnR} {Vp : Value} {pub : List (List Bool)} {B : Option Addr} {n cB : Nat} {picks : List Int} (q : Int) (hf : FnsIs w (.slice A fs.length cA) fs) (hp : PubIs w Vp pub) (hk : NumSrc w (.slice B n cB) picks) (hn : n ≤ 1048576) (hfl : fs.length ≤ 1048576) (hfs : ∀ f ∈ fs, f.l.length ≤ 1048576 ∧ ∀ y ∈ f.l, Full y) (hpl : pub.length * 24 ≤ 140737488351232) (hpr : ∀ r ∈ pub, r.length ≤ 140737488351232) (hpi : ∀ z ∈ picks, In64 z) :
    Calls Tryd.prog 7 #[.agg #[.slice A fs.length cA], Vp, .int .i64 q, .slice B n cB] w fun e w' => ∃ m tag x, e = .returned (.pointer (some ⟨m, 0, none⟩)) ∧ TC w' tag m (clampc q) 0 x ⟨fs, pub, picks, [], fun _ => none, []⟩ ∧ (∀ k, tag k ≠ 0 → w.heap.size ≤ k) ∧ Below w.heap.size w w' := by
  obtain ⟨k, hkk⟩ : ∃ z, z = fs.length := ⟨_, rfl⟩
  rw [← hkk] at hf hfl ⊢
  obtain ⟨w1, hw1⟩ : ∃ z, z = w.alloc (.cells #[.slice A k cA] 28) := ⟨_, rfl⟩
  obtain ⟨Q0, hQ0⟩ : ∃ z, z = w.heap.size := ⟨_, rfl⟩
  have HW := Lib.hid (And.intro hw1 hQ0)
  obtain ⟨AP, cP, rfl, hp1, hp2, hp3⟩ := hp
  obtain ⟨pl, hpn⟩ : ∃ z, z = pub.length := ⟨_, rfl⟩
  rw [← hpn] at hp1 hp3 hpl ⊢
  have HPL := Lib.hid hpn
  have HPR := Lib.hid hpr
  have HPI := Lib.hid hpi
  have HPU := Lib.hid hp3
  have HKK := Lib.hid hkk
  have HF := Lib.hid hf
  have HPK := Lib.hid hk
  have HFS := Lib.hid hfs
  clear hw1 hQ0 hkk hf hk hfs hpn hpr hp3 hpi
  refine calls_of_wpn Tryd.func7 rfl ?_
  simp only [Tryd.ntmps7, List.size_toArray, List.length_cons, List.length_nil, Nat.reduceAdd, Nat.reduceSub, Array.replicate_succ, Array.replicate_zero, List.push_toArray, List.append_toArray, List.nil_append, List.cons_append]
  refine wpn_seq_k (fun K hK => ?_)
  go_wp2_with fail
  rw [← HW.out.1, ← HW.out.2]
  try clear hK
  try clear K
  refine wpn_seq_k (fun K hK => ?_)
  go_cut [9] from 19 to 26 (fun v wx => ∃ m c mp ch, v = .pointer (some ⟨m, 0, none⟩) ∧ Hid (N0 w1 wx (clampc q) n m c mp ch))
  case first J K' hJ hK' =>
    obtain ⟨wd, hwd⟩ : ∃ wd, wd = w1.drew := ⟨_, rfl⟩
    have hcd : Chg (fun _ => False) w1 wd := by rw [hwd]; exact (Chg.refl _ _).drew
    have hmk := fun w => mkPicks n hn w
    have hmm := fun w => run_makeMap (P := Tryd.prog) 52 w
    refine wp_region_tree (S := fun _ => True) (N := fun i => true) (by kernel_rfl) (.look 0 (.look 2 (.look 3 (.fork3 1 (.fork 4 (.act 5 (.look 6 (.act 7 (.look 8 .done)))) 5 (.act 4 (.look 6 (.act 7 (.look 8 .done))))) 4 (.fork 1 (.act 5 (.look 6 (.act 7 (.look 8 .done)))) 5 (.act 1 (.look 6 (.act 7 (.look 8 .done))))) 5 (.fork 1 (.act 4 (.look 6 (.act 7 (.look 8 .done)))) 4 (.act 1 (.look 6 (.act 7 (.look 8 .done))))))))) (by kernel_rfl) ?_
    rw [← hwd]
    clear hwd
    iterate 3 (refine tree_look rfl trivial rfl (by intro w hS; go_simp; with_reducible rfl) (fun c a w h => h) ?_; simp only [Act.put, List.setIfInBounds_toArray, List.set_cons_succ, List.set_cons_zero])
    refine tree_fork3 rfl rfl rfl rfl rfl rfl (fun K hK => ?_) (fun K hK => ?_) (fun K hK => ?_)
    · refine wp_call 14 _ _ Tryd.func14 rfl (by kernel_rfl) _ _ rfl #[.int .i64 q] (by simp [Act.eval]) (R := fun v w' => ∃ c, v = .pointer (some ⟨c, 0, none⟩) ∧ CacheIs w' (fun k => wd.heap.size ≤ k) c (clampc q) 0 [] ∧ Chg (fun _ => False) wd w') (calls_ret (cache_new_any q wd) (by rintro e w' ⟨c, rfl, a, b⟩; exact ⟨_, rfl, c, rfl, a, b⟩)) ?_
      rintro v ya ⟨c, rfl, hca, hcx⟩
      replace hca := hca.bound
      have hss := hcx.size
      refine hK _ _ ⟨fun _ => trivial, ?_⟩
      clear hK K
      have hccya := hcx
      clear hcx
      try simp only [Act.put, List.setIfInBounds_toArray, List.set_cons_succ, List.set_cons_zero]
      refine tree_fork rfl rfl rfl rfl (fun K hK => ?_) (fun K hK => ?_)
      · go_simp
        obtain ⟨yb, hyb⟩ : ∃ z, z = ya.alloc (.chan n #[] false 0 0 false) := ⟨_, rfl⟩
        obtain ⟨ch, hchq⟩ : ∃ z, z = ya.heap.size := ⟨_, rfl⟩
        rw [← hyb, ← hchq]
        have hcx : Chg (fun _ => False) ya yb := by rw [hyb]; exact (Chg.refl _ _).alloc _
        have hch : yb.heap[ch]? = some (.chan n #[] false 0 0 false) := by rw [hyb]; exact heap_new' hchq.symm
        have hsch : yb.heap.size = ya.heap.size + 1 := by rw [hyb]; simp
        refine hK _ _ ⟨fun _ => trivial, ?_⟩
        clear hK K hyb
        replace hca := hca.kept hcx (fun _ _ x => x)
        have hccyb := hcx
        replace hchq := Lib.hid hchq
        replace hsch := Lib.hid hsch
        clear hcx
        try simp only [Act.put, List.setIfInBounds_toArray, List.set_cons_succ, List.set_cons_zero]
        refine tree_act rfl rfl (fun K hK => ?_)
        go_simp
        obtain ⟨yc, hyc⟩ : ∃ z, z = yb.alloc (.map #[] 0) := ⟨_, rfl⟩
        obtain ⟨mp, hmpq⟩ : ∃ z, z = yb.heap.size := ⟨_, rfl⟩
        rw [← hyc, ← hmpq]
        have hcx : Chg (fun _ => False) yb yc := by rw [hyc]; exact (Chg.refl _ _).alloc _
        have hmp : GMap yc mp 0 (fun _ => none) := by rw [hyc, hmpq]; exact gmap_made _
        have hsmp : yc.heap.size = yb.heap.size + 1 := by rw [hyc]; simp
        refine hK _ _ ⟨fun _ => trivial, ?_⟩
        clear hK K hyc
        replace hca := hca.kept hcx (fun _ _ x => x)
        replace hch := hcx.heap hch (fun x => x)
        have hccyc := hcx
        replace hmpq := Lib.hid hmpq
        replace hsmp := Lib.hid hsmp
        clear hcx
        try simp only [Act.put, List.setIfInBounds_toArray, List.set_cons_succ, List.set_cons_zero]
        (refine tree_look rfl trivial rfl (by intro w hS; go_simp; with_reducible rfl) (fun c a w h => h) ?_; simp only [Act.put, List.setIfInBounds_toArray, List.set_cons_succ, List.set_cons_zero])
        refine tree_act rfl rfl (fun K hK => ?_)
        go_simp
        obtain ⟨wm, hwm⟩ : ∃ z, z = yc.alloc (.cells #[.pointer (some ⟨c, 0, none⟩), .slice none 0 0, .slice none 0 0, .chan (some ch), .pointer none, .map (some mp), .slice none 0 0] 55) := ⟨_, rfl⟩
        obtain ⟨m, hmq⟩ : ∃ z, z = yc.heap.size := ⟨_, rfl⟩
        rw [← hwm, ← hmq]
        have hcx : Chg (fun _ => False) yc wm := by rw [hwm]; exact (Chg.refl _ _).alloc _
        have hbx : wm.heap[m]? = some (.cells #[.pointer (some ⟨c, 0, none⟩), .slice none 0 0, .slice none 0 0, .chan (some ch), .pointer none, .map (some mp), .slice none 0 0] 55 (0, 0)) := by rw [hwm]; exact heap_new' hmq.symm
        have hswm : wm.heap.size = yc.heap.size + 1 := by rw [hwm]; simp
        refine hK _ _ ⟨fun _ => trivial, ?_⟩
        clear hK K hwm
        replace hca := hca.kept hcx (fun _ _ x => x)
        replace hch := hcx.heap hch (fun x => x)
        replace hmp := GMap.kept hmp hcx (fun x => x)
        replace hmq := Lib.hid hmq
        replace hswm := Lib.hid hswm
        try simp only [Act.put, List.setIfInBounds_toArray, List.set_cons_succ, List.set_cons_zero]
        (refine tree_look rfl trivial rfl (by intro w hS; go_simp; with_reducible rfl) (fun c a w h => h) ?_; simp only [Act.put, List.setIfInBounds_toArray, List.set_cons_succ, List.set_cons_zero])
        refine tree_end ?_
        replace hmq := hmq.out
        replace hswm := hswm.out
        replace hchq := hchq.out
        replace hsch := hsch.out
        replace hmpq := hmpq.out
        replace hsmp := hsmp.out
        have hN : N0 w1 wm (clampc q) n m c mp ch := ⟨((((hcd.then hccya).then hccyb).then hccyc).then hcx).to_below, hbx, ⟨_, hca, fun k hk => ⟨by have := hk.1; have := hcd.size; have := hccya.size; have := hccyb.size; omega, by have := hk.2; have := hccya.size; have := hccyb.size; have := hccyc.size; omega, by have := hk.1; have := hk.2; have := hccya.size; have := hccyb.size; have := hccyc.size; omega, by have := hk.1; have := hk.2; have := hccya.size; have := hccyb.size; have := hccyc.size; omega, by have := hk.1; have := hk.2; have := hccya.size; have := hccyb.size; have := hccyc.size; omega⟩⟩, hmp, hch, ⟨by have := hcd.size; have := hccya.size; have := hccyb.size; have := hccyc.size; omega, by have := hcd.size; have := hccya.size; have := hccyb.size; have := hccyc.size; omega, by have := hcd.size; have := hccya.size; have := hccyb.size; have := hccyc.size; omega⟩, ⟨by have := hcd.size; have := hccya.size; have := hccyb.size; have := hccyc.size; omega, by have := hcd.size; have := hccya.size; have := hccyb.size; have := hccyc.size; omega, by have := hcd.size; have := hccya.size; have := hccyb.size; have := hccyc.size; omega⟩⟩
        have HN := Lib.hid hN
        clear hN hca hch hmp hbx hcx hmq hswm hchq hsch hmpq hsmp
        refine hK' _ _ (Met.intro (hJ _ _ ?_))
        (repeat apply Exists.intro)
        refine ⟨?rel, rfl⟩
        case rel => exact ⟨m, c, mp, ch, rfl, HN⟩

      · go_simp
        obtain ⟨yb, hyb⟩ : ∃ z, z = ya.alloc (.map #[] 0) := ⟨_, rfl⟩
        obtain ⟨mp, hmpq⟩ : ∃ z, z = ya.heap.size := ⟨_, rfl⟩
        rw [← hyb, ← hmpq]
        have hcx : Chg (fun _ => False) ya yb := by rw [hyb]; exact (Chg.refl _ _).alloc _
        have hmp : GMap yb mp 0 (fun _ => none) := by rw [hyb, hmpq]; exact gmap_made _
        have hsmp : yb.heap.size = ya.heap.size + 1 := by rw [hyb]; simp
        refine hK _ _ ⟨fun _ => trivial, ?_⟩
        clear hK K hyb
        replace hca := hca.kept hcx (fun _ _ x => x)
        have hccyb := hcx
        replace hmpq := Lib.hid hmpq
        replace hsmp := Lib.hid hsmp
        clear hcx
        try simp only [Act.put, List.setIfInBounds_toArray, List.set_cons_succ, List.set_cons_zero]
        refine tree_act rfl rfl (fun K hK => ?_)
        go_simp
        obtain ⟨yc, hyc⟩ : ∃ z, z = yb.alloc (.chan n #[] false 0 0 false) := ⟨_, rfl⟩
        obtain ⟨ch, hchq⟩ : ∃ z, z = yb.heap.size := ⟨_, rfl⟩
        rw [← hyc, ← hchq]
        have hcx : Chg (fun _ => False) yb yc := by rw [hyc]; exact (Chg.refl _ _).alloc _
        have hch : yc.heap[ch]? = some (.chan n #[] false 0 0 false) := by rw [hyc]; exact heap_new' hchq.symm
        have hsch : yc.heap.size = yb.heap.size + 1 := by rw [hyc]; simp
        refine hK _ _ ⟨fun _ => trivial, ?_⟩
        clear hK K hyc
        replace hca := hca.kept hcx (fun _ _ x => x)
        replace hmp := GMap.kept hmp hcx (fun x => x)
        have hccyc := hcx
        replace hchq := Lib.hid hchq
        replace hsch := Lib.hid hsch
        clear hcx
        try simp only [Act.put, List.setIfInBounds_toArray, List.set_cons_succ, List.set_cons_zero]
        (refine tree_look rfl trivial rfl (by intro w hS; go_simp; with_reducible rfl) (fun c a w h => h) ?_; simp only [Act.put, List.setIfInBounds_toArray, List.set_cons_succ, List.set_cons_zero])
        refine tree_act rfl rfl (fun K hK => ?_)
        go_simp
        obtain ⟨wm, hwm⟩ : ∃ z, z = yc.alloc (.cells #[.pointer (some ⟨c, 0, none⟩), .slice none 0 0, .slice none 0 0, .chan (some ch), .pointer none, .map (some mp), .slice none 0 0] 55) := ⟨_, rfl⟩
        obtain ⟨m, hmq⟩ : ∃ z, z = yc.heap.size := ⟨_, rfl⟩
        rw [← hwm, ← hmq]
        have hcx : Chg (fun _ => False) yc wm := by rw [hwm]; exact (Chg.refl _ _).alloc _
        have hbx : wm.heap[m]? = some (.cells #[.pointer (some ⟨c, 0, none⟩), .slice none 0 0, .slice none 0 0, .chan (some ch), .pointer none, .map (some mp), .slice none 0 0] 55 (0, 0)) := by rw [hwm]; exact heap_new' hmq.symm
        have hswm : wm.heap.size = yc.heap.size + 1 := by rw [hwm]; simp
        refine hK _ _ ⟨fun _ => trivial, ?_⟩
        clear hK K hwm
        replace hca := hca.kept hcx (fun _ _ x => x)
        replace hch := hcx.heap hch (fun x => x)
        replace hmp := GMap.kept hmp hcx (fun x => x)
        replace hmq := Lib.hid hmq
        replace hswm := Lib.hid hswm
        try simp only [Act.put, List.setIfInBounds_toArray, List.set_cons_succ, List.set_cons_zero]
        (refine tree_look rfl trivial rfl (by intro w hS; go_simp; with_reducible rfl) (fun c a w h => h) ?_; simp only [Act.put, List.setIfInBounds_toArray, List.set_cons_succ, List.set_cons_zero])
        refine tree_end ?_
        replace hmq := hmq.out
        replace hswm := hswm.out
        replace hchq := hchq.out
        replace hsch := hsch.out
        replace hmpq := hmpq.out
        replace hsmp := hsmp.out
        have hN : N0 w1 wm (clampc q) n m c mp ch := ⟨((((hcd.then hccya).then hccyb).then hccyc).then hcx).to_below, hbx, ⟨_, hca, fun k hk => ⟨by have := hk.1; have := hcd.size; have := hccya.size; have := hccyb.size; omega, by have := hk.2; have := hccya.size; have := hccyb.size; have := hccyc.size; omega, by have := hk.1; have := hk.2; have := hccya.size; have := hccyb.size; have := hccyc.size; omega, by have := hk.1; have := hk.2; have := hccya.size; have := hccyb.size; have := hccyc.size; omega, by have := hk.1; have := hk.2; have := hccya.size; have := hccyb.size; have := hccyc.size; omega⟩⟩, hmp, hch, ⟨by have := hcd.size; have := hccya.size; have := hccyb.size; have := hccyc.size; omega, by have := hcd.size; have := hccya.size; have := hccyb.size; have := hccyc.size; omega, by have := hcd.size; have := hccya.size; have := hccyb.size; have := hccyc.size; omega⟩, ⟨by have := hcd.size; have := hccya.size; have := hccyb.size; have := hccyc.size; omega, by have := hcd.size; have := hccya.size; have := hccyb.size; have := hccyc.size; omega, by have := hcd.size; have := hccya.size; have := hccyb.size; have := hccyc.size; omega⟩⟩
        have HN := Lib.hid hN
        clear hN hca hch hmp hbx hcx hmq hswm hchq hsch hmpq hsmp
        refine hK' _ _ (Met.intro (hJ _ _ ?_))
        (repeat apply Exists.intro)
        refine ⟨?rel, rfl⟩
        case rel => exact ⟨m, c, mp, ch, rfl, HN⟩


    · go_simp
      obtain ⟨ya, hya⟩ : ∃ z, z = wd.alloc (.chan n #[] false 0 0 false) := ⟨_, rfl⟩
      obtain ⟨ch, hchq⟩ : ∃ z, z = wd.heap.size := ⟨_, rfl⟩
      rw [← hya, ← hchq]
      have hcx : Chg (fun _ => False) wd ya := by rw [hya]; exact (Chg.refl _ _).alloc _
      have hch : ya.heap[ch]? = some (.chan n #[] false 0 0 false) := by rw [hya]; exact heap_new' hchq.symm
      have hsch : ya.heap.size = wd.heap.size + 1 := by rw [hya]; simp
      refine hK _ _ ⟨fun _ => trivial, ?_⟩
      clear hK K hya
      have hccya := hcx
      replace hchq := Lib.hid hchq
      replace hsch := Lib.hid hsch
      clear hcx
      try simp only [Act.put, List.setIfInBounds_toArray, List.set_cons_succ, List.set_cons_zero]
      refine tree_fork rfl rfl rfl rfl (fun K hK => ?_) (fun K hK => ?_)
      · refine wp_call 14 _ _ Tryd.func14 rfl (by kernel_rfl) _ _ rfl #[.int .i64 q] (by simp [Act.eval]) (R := fun v w' => ∃ c, v = .pointer (some ⟨c, 0, none⟩) ∧ CacheIs w' (fun k => ya.heap.size ≤ k) c (clampc q) 0 [] ∧ Chg (fun _ => False) ya w') (calls_ret (cache_new_any q ya) (by rintro e w' ⟨c, rfl, a, b⟩; exact ⟨_, rfl, c, rfl, a, b⟩)) ?_
        rintro v yb ⟨c, rfl, hca, hcx⟩
        replace hca := hca.bound
        have hss := hcx.size
        refine hK _ _ ⟨fun _ => trivial, ?_⟩
        clear hK K
        replace hch := hcx.heap hch (fun x => x)
        have hccyb := hcx
        clear hcx
        try simp only [Act.put, List.setIfInBounds_toArray, List.set_cons_succ, List.set_cons_zero]
        refine tree_act rfl rfl (fun K hK => ?_)
        go_simp
        obtain ⟨yc, hyc⟩ : ∃ z, z = yb.alloc (.map #[] 0) := ⟨_, rfl⟩
        obtain ⟨mp, hmpq⟩ : ∃ z, z = yb.heap.size := ⟨_, rfl⟩
        rw [← hyc, ← hmpq]
        have hcx : Chg (fun _ => False) yb yc := by rw [hyc]; exact (Chg.refl _ _).alloc _
        have hmp : GMap yc mp 0 (fun _ => none) := by rw [hyc, hmpq]; exact gmap_made _
        have hsmp : yc.heap.size = yb.heap.size + 1 := by rw [hyc]; simp
        refine hK _ _ ⟨fun _ => trivial, ?_⟩
        clear hK K hyc
        replace hch := hcx.heap hch (fun x => x)
        replace hca := hca.kept hcx (fun _ _ x => x)
        have hccyc := hcx
        replace hmpq := Lib.hid hmpq
        replace hsmp := Lib.hid hsmp
        clear hcx
        try simp only [Act.put, List.setIfInBounds_toArray, List.set_cons_succ, List.set_cons_zero]
        (refine tree_look rfl trivial rfl (by intro w hS; go_simp; with_reducible rfl) (fun c a w h => h) ?_; simp only [Act.put, List.setIfInBounds_toArray, List.set_cons_succ, List.set_cons_zero])
        refine tree_act rfl rfl (fun K hK => ?_)
        go_simp
        obtain ⟨wm, hwm⟩ : ∃ z, z = yc.alloc (.cells #[.pointer (some ⟨c, 0, none⟩), .slice none 0 0, .slice none 0 0, .chan (some ch), .pointer none, .map (some mp), .slice none 0 0] 55) := ⟨_, rfl⟩
        obtain ⟨m, hmq⟩ : ∃ z, z = yc.heap.size := ⟨_, rfl⟩
        rw [← hwm, ← hmq]
        have hcx : Chg (fun _ => False) yc wm := by rw [hwm]; exact (Chg.refl _ _).alloc _
        have hbx : wm.heap[m]? = some (.cells #[.pointer (some ⟨c, 0, none⟩), .slice none 0 0, .slice none 0 0, .chan (some ch), .pointer none, .map (some mp), .slice none 0 0] 55 (0, 0)) := by rw [hwm]; exact heap_new' hmq.symm
        have hswm : wm.heap.size = yc.heap.size + 1 := by rw [hwm]; simp
        refine hK _ _ ⟨fun _ => trivial, ?_⟩
        clear hK K hwm
        replace hca := hca.kept hcx (fun _ _ x => x)
        replace hch := hcx.heap hch (fun x => x)
        replace hmp := GMap.kept hmp hcx (fun x => x)
        replace hmq := Lib.hid hmq
        replace hswm := Lib.hid hswm
        try simp only [Act.put, List.setIfInBounds_toArray, List.set_cons_succ, List.set_cons_zero]
        (refine tree_look rfl trivial rfl (by intro w hS; go_simp; with_reducible rfl) (fun c a w h => h) ?_; simp only [Act.put, List.setIfInBounds_toArray, List.set_cons_succ, List.set_cons_zero])
        refine tree_end ?_
        replace hmq := hmq.out
        replace hswm := hswm.out
        replace hchq := hchq.out
        replace hsch := hsch.out
        replace hmpq := hmpq.out
        replace hsmp := hsmp.out
        have hN : N0 w1 wm (clampc q) n m c mp ch := ⟨((((hcd.then hccya).then hccyb).then hccyc).then hcx).to_below, hbx, ⟨_, hca, fun k hk => ⟨by have := hk.1; have := hcd.size; have := hccya.size; have := hccyb.size; omega, by have := hk.2; have := hccya.size; have := hccyb.size; have := hccyc.size; omega, by have := hk.1; have := hk.2; have := hccya.size; have := hccyb.size; have := hccyc.size; omega, by have := hk.1; have := hk.2; have := hccya.size; have := hccyb.size; have := hccyc.size; omega, by have := hk.1; have := hk.2; have := hccya.size; have := hccyb.size; have := hccyc.size; omega⟩⟩, hmp, hch, ⟨by have := hcd.size; have := hccya.size; have := hccyb.size; have := hccyc.size; omega, by have := hcd.size; have := hccya.size; have := hccyb.size; have := hccyc.size; omega, by have := hcd.size; have := hccya.size; have := hccyb.size; have := hccyc.size; omega⟩, ⟨by have := hcd.size; have := hccya.size; have := hccyb.size; have := hccyc.size; omega, by have := hcd.size; have := hccya.size; have := hccyb.size; have := hccyc.size; omega, by have := hcd.size; have := hccya.size; have := hccyb.size; have := hccyc.size; omega⟩⟩
        have HN := Lib.hid hN
        clear hN hca hch hmp hbx hcx hmq hswm hchq hsch hmpq hsmp
        refine hK' _ _ (Met.intro (hJ _ _ ?_))
        (repeat apply Exists.intro)
        refine ⟨?rel, rfl⟩
        case rel => exact ⟨m, c, mp, ch, rfl, HN⟩

      · go_simp
        obtain ⟨yb, hyb⟩ : ∃ z, z = ya.alloc (.map #[] 0) := ⟨_, rfl⟩
        obtain ⟨mp, hmpq⟩ : ∃ z, z = ya.heap.size := ⟨_, rfl⟩
        rw [← hyb, ← hmpq]
        have hcx : Chg (fun _ => False) ya yb := by rw [hyb]; exact (Chg.refl _ _).alloc _
        have hmp : GMap yb mp 0 (fun _ => none) := by rw [hyb, hmpq]; exact gmap_made _
        have hsmp : yb.heap.size = ya.heap.size + 1 := by rw [hyb]; simp
        refine hK _ _ ⟨fun _ => trivial, ?_⟩
        clear hK K hyb
        replace hch := hcx.heap hch (fun x => x)
        have hccyb := hcx
        replace hmpq := Lib.hid hmpq
        replace hsmp := Lib.hid hsmp
        clear hcx
        try simp only [Act.put, List.setIfInBounds_toArray, List.set_cons_succ, List.set_cons_zero]
        refine tree_act rfl rfl (fun K hK => ?_)
        refine wp_call 14 _ _ Tryd.func14 rfl (by kernel_rfl) _ _ rfl #[.int .i64 q] (by simp [Act.eval]) (R := fun v w' => ∃ c, v = .pointer (some ⟨c, 0, none⟩) ∧ CacheIs w' (fun k => yb.heap.size ≤ k) c (clampc q) 0 [] ∧ Chg (fun _ => False) yb w') (calls_ret (cache_new_any q yb) (by rintro e w' ⟨c, rfl, a, b⟩; exact ⟨_, rfl, c, rfl, a, b⟩)) ?_
        rintro v yc ⟨c, rfl, hca, hcx⟩
        replace hca := hca.bound
        have hss := hcx.size
        refine hK _ _ ⟨fun _ => trivial, ?_⟩
        clear hK K
        replace hch := hcx.heap hch (fun x => x)
        replace hmp := GMap.kept hmp hcx (fun x => x)
        have hccyc := hcx
        clear hcx
        try simp only [Act.put, List.setIfInBounds_toArray, List.set_cons_succ, List.set_cons_zero]
        (refine tree_look rfl trivial rfl (by intro w hS; go_simp; with_reducible rfl) (fun c a w h => h) ?_; simp only [Act.put, List.setIfInBounds_toArray, List.set_cons_succ, List.set_cons_zero])
        refine tree_act rfl rfl (fun K hK => ?_)
        go_simp
        obtain ⟨wm, hwm⟩ : ∃ z, z = yc.alloc (.cells #[.pointer (some ⟨c, 0, none⟩), .slice none 0 0, .slice none 0 0, .chan (some ch), .pointer none, .map (some mp), .slice none 0 0] 55) := ⟨_, rfl⟩
        obtain ⟨m, hmq⟩ : ∃ z, z = yc.heap.size := ⟨_, rfl⟩
        rw [← hwm, ← hmq]
        have hcx : Chg (fun _ => False) yc wm := by rw [hwm]; exact (Chg.refl _ _).alloc _
        have hbx : wm.heap[m]? = some (.cells #[.pointer (some ⟨c, 0, none⟩), .slice none 0 0, .slice none 0 0, .chan (some ch), .pointer none, .map (some mp), .slice none 0 0] 55 (0, 0)) := by rw [hwm]; exact heap_new' hmq.symm
        have hswm : wm.heap.size = yc.heap.size + 1 := by rw [hwm]; simp
        refine hK _ _ ⟨fun _ => trivial, ?_⟩
        clear hK K hwm
        replace hca := hca.kept hcx (fun _ _ x => x)
        replace hch := hcx.heap hch (fun x => x)
        replace hmp := GMap.kept hmp hcx (fun x => x)
        replace hmq := Lib.hid hmq
        replace hswm := Lib.hid hswm
        try simp only [Act.put, List.setIfInBounds_toArray, List.set_cons_succ, List.set_cons_zero]
        (refine tree_look rfl trivial rfl (by intro w hS; go_simp; with_reducible rfl) (fun c a w h => h) ?_; simp only [Act.put, List.setIfInBounds_toArray, List.set_cons_succ, List.set_cons_zero])
        refine tree_end ?_
        replace hmq := hmq.out
        replace hswm := hswm.out
        replace hchq := hchq.out
        replace hsch := hsch.out
        replace hmpq := hmpq.out
        replace hsmp := hsmp.out
        have hN : N0 w1 wm (clampc q) n m c mp ch := ⟨((((hcd.then hccya).then hccyb).then hccyc).then hcx).to_below, hbx, ⟨_, hca, fun k hk => ⟨by have := hk.1; have := hcd.size; have := hccya.size; have := hccyb.size; omega, by have := hk.2; have := hccya.size; have := hccyb.size; have := hccyc.size; omega, by have := hk.1; have := hk.2; have := hccya.size; have := hccyb.size; have := hccyc.size; omega, by have := hk.1; have := hk.2; have := hccya.size; have := hccyb.size; have := hccyc.size; omega, by have := hk.1; have := hk.2; have := hccya.size; have := hccyb.size; have := hccyc.size; omega⟩⟩, hmp, hch, ⟨by have := hcd.size; have := hccya.size; have := hccyb.size; have := hccyc.size; omega, by have := hcd.size; have := hccya.size; have := hccyb.size; have := hccyc.size; omega, by have := hcd.size; have := hccya.size; have := hccyb.size; have := hccyc.size; omega⟩, ⟨by have := hcd.size; have := hccya.size; have := hccyb.size; have := hccyc.size; omega, by have := hcd.size; have := hccya.size; have := hccyb.size; have := hccyc.size; omega, by have := hcd.size; have := hccya.size; have := hccyb.size; have := hccyc.size; omega⟩⟩
        have HN := Lib.hid hN
        clear hN hca hch hmp hbx hcx hmq hswm hchq hsch hmpq hsmp
        refine hK' _ _ (Met.intro (hJ _ _ ?_))
        (repeat apply Exists.intro)
        refine ⟨?rel, rfl⟩
        case rel => exact ⟨m, c, mp, ch, rfl, HN⟩


    · go_simp
      obtain ⟨ya, hya⟩ : ∃ z, z = wd.alloc (.map #[] 0) := ⟨_, rfl⟩
      obtain ⟨mp, hmpq⟩ : ∃ z, z = wd.heap.size := ⟨_, rfl⟩
      rw [← hya, ← hmpq]
      have hcx : Chg (fun _ => False) wd ya := by rw [hya]; exact (Chg.refl _ _).alloc _
      have hmp : GMap ya mp 0 (fun _ => none) := by rw [hya, hmpq]; exact gmap_made _
      have hsmp : ya.heap.size = wd.heap.size + 1 := by rw [hya]; simp
      refine hK _ _ ⟨fun _ => trivial, ?_⟩
      clear hK K hya
      have hccya := hcx
      replace hmpq := Lib.hid hmpq
      replace hsmp := Lib.hid hsmp
      clear hcx
      try simp only [Act.put, List.setIfInBounds_toArray, List.set_cons_succ, List.set_cons_zero]
      refine tree_fork rfl rfl rfl rfl (fun K hK => ?_) (fun K hK => ?_)
      · refine wp_call 14 _ _ Tryd.func14 rfl (by kernel_rfl) _ _ rfl #[.int .i64 q] (by simp [Act.eval]) (R := fun v w' => ∃ c, v = .pointer (some ⟨c, 0, none⟩) ∧ CacheIs w' (fun k => ya.heap.size ≤ k) c (clampc q) 0 [] ∧ Chg (fun _ => False) ya w') (calls_ret (cache_new_any q ya) (by rintro e w' ⟨c, rfl, a, b⟩; exact ⟨_, rfl, c, rfl, a, b⟩)) ?_
        rintro v yb ⟨c, rfl, hca, hcx⟩
        replace hca := hca.bound
        have hss := hcx.size
        refine hK _ _ ⟨fun _ => trivial, ?_⟩
        clear hK K
        replace hmp := GMap.kept hmp hcx (fun x => x)
        have hccyb := hcx
        clear hcx
        try simp only [Act.put, List.setIfInBounds_toArray, List.set_cons_succ, List.set_cons_zero]
        refine tree_act rfl rfl (fun K hK => ?_)
        go_simp
        obtain ⟨yc, hyc⟩ : ∃ z, z = yb.alloc (.chan n #[] false 0 0 false) := ⟨_, rfl⟩
        obtain ⟨ch, hchq⟩ : ∃ z, z = yb.heap.size := ⟨_, rfl⟩
        rw [← hyc, ← hchq]
        have hcx : Chg (fun _ => False) yb yc := by rw [hyc]; exact (Chg.refl _ _).alloc _
        have hch : yc.heap[ch]? = some (.chan n #[] false 0 0 false) := by rw [hyc]; exact heap_new' hchq.symm
        have hsch : yc.heap.size = yb.heap.size + 1 := by rw [hyc]; simp
        refine hK _ _ ⟨fun _ => trivial, ?_⟩
        clear hK K hyc
        replace hmp := GMap.kept hmp hcx (fun x => x)
        replace hca := hca.kept hcx (fun _ _ x => x)
        have hccyc := hcx
        replace hchq := Lib.hid hchq
        replace hsch := Lib.hid hsch
        clear hcx
        try simp only [Act.put, List.setIfInBounds_toArray, List.set_cons_succ, List.set_cons_zero]
        (refine tree_look rfl trivial rfl (by intro w hS; go_simp; with_reducible rfl) (fun c a w h => h) ?_; simp only [Act.put, List.setIfInBounds_toArray, List.set_cons_succ, List.set_cons_zero])
        refine tree_act rfl rfl (fun K hK => ?_)
        go_simp
        obtain ⟨wm, hwm⟩ : ∃ z, z = yc.alloc (.cells #[.pointer (some ⟨c, 0, none⟩), .slice none 0 0, .slice none 0 0, .chan (some ch), .pointer none, .map (some mp), .slice none 0 0] 55) := ⟨_, rfl⟩
        obtain ⟨m, hmq⟩ : ∃ z, z = yc.heap.size := ⟨_, rfl⟩
        rw [← hwm, ← hmq]
        have hcx : Chg (fun _ => False) yc wm := by rw [hwm]; exact (Chg.refl _ _).alloc _
        have hbx : wm.heap[m]? = some (.cells #[.pointer (some ⟨c, 0, none⟩), .slice none 0 0, .slice none 0 0, .chan (some ch), .pointer none, .map (some mp), .slice none 0 0] 55 (0, 0)) := by rw [hwm]; exact heap_new' hmq.symm
        have hswm : wm.heap.size = yc.heap.size + 1 := by rw [hwm]; simp
        refine hK _ _ ⟨fun _ => trivial, ?_⟩
        clear hK K hwm
        replace hca := hca.kept hcx (fun _ _ x => x)
        replace hch := hcx.heap hch (fun x => x)
        replace hmp := GMap.kept hmp hcx (fun x => x)
        replace hmq := Lib.hid hmq
        replace hswm := Lib.hid hswm
        try simp only [Act.put, List.setIfInBounds_toArray, List.set_cons_succ, List.set_cons_zero]
        (refine tree_look rfl trivial rfl (by intro w hS; go_simp; with_reducible rfl) (fun c a w h => h) ?_; simp only [Act.put, List.setIfInBounds_toArray, List.set_cons_succ, List.set_cons_zero])
        refine tree_end ?_
        replace hmq := hmq.out
        replace hswm := hswm.out
        replace hchq := hchq.out
        replace hsch := hsch.out
        replace hmpq := hmpq.out
        replace hsmp := hsmp.out
        have hN : N0 w1 wm (clampc q) n m c mp ch := ⟨((((hcd.then hccya).then hccyb).then hccyc).then hcx).to_below, hbx, ⟨_, hca, fun k hk => ⟨by have := hk.1; have := hcd.size; have := hccya.size; have := hccyb.size; omega, by have := hk.2; have := hccya.size; have := hccyb.size; have := hccyc.size; omega, by have := hk.1; have := hk.2; have := hccya.size; have := hccyb.size; have := hccyc.size; omega, by have := hk.1; have := hk.2; have := hccya.size; have := hccyb.size; have := hccyc.size; omega, by have := hk.1; have := hk.2; have := hccya.size; have := hccyb.size; have := hccyc.size; omega⟩⟩, hmp, hch, ⟨by have := hcd.size; have := hccya.size; have := hccyb.size; have := hccyc.size; omega, by have := hcd.size; have := hccya.size; have := hccyb.size; have := hccyc.size; omega, by have := hcd.size; have := hccya.size; have := hccyb.size; have := hccyc.size; omega⟩, ⟨by have := hcd.size; have := hccya.size; have := hccyb.size; have := hccyc.size; omega, by have := hcd.size; have := hccya.size; have := hccyb.size; have := hccyc.size; omega, by have := hcd.size; have := hccya.size; have := hccyb.size; have := hccyc.size; omega⟩⟩
        have HN := Lib.hid hN
        clear hN hca hch hmp hbx hcx hmq hswm hchq hsch hmpq hsmp
        refine hK' _ _ (Met.intro (hJ _ _ ?_))
        (repeat apply Exists.intro)
        refine ⟨?rel, rfl⟩
        case rel => exact ⟨m, c, mp, ch, rfl, HN⟩

      · go_simp
        obtain ⟨yb, hyb⟩ : ∃ z, z = ya.alloc (.chan n #[] false 0 0 false) := ⟨_, rfl⟩
        obtain ⟨ch, hchq⟩ : ∃ z, z = ya.heap.size := ⟨_, rfl⟩
        rw [← hyb, ← hchq]
        have hcx : Chg (fun _ => False) ya yb := by rw [hyb]; exact (Chg.refl _ _).alloc _
        have hch : yb.heap[ch]? = some (.chan n #[] false 0 0 false) := by rw [hyb]; exact heap_new' hchq.symm
        have hsch : yb.heap.size = ya.heap.size + 1 := by rw [hyb]; simp
        refine hK _ _ ⟨fun _ => trivial, ?_⟩
        clear hK K hyb
        replace hmp := GMap.kept hmp hcx (fun x => x)
        have hccyb := hcx
        replace hchq := Lib.hid hchq
        replace hsch := Lib.hid hsch
        clear hcx
        try simp only [Act.put, List.setIfInBounds_toArray, List.set_cons_succ, List.set_cons_zero]
        refine tree_act rfl rfl (fun K hK => ?_)
        refine wp_call 14 _ _ Tryd.func14 rfl (by kernel_rfl) _ _ rfl #[.int .i64 q] (by simp [Act.eval]) (R := fun v w' => ∃ c, v = .pointer (some ⟨c, 0, none⟩) ∧ CacheIs w' (fun k => yb.heap.size ≤ k) c (clampc q) 0 [] ∧ Chg (fun _ => False) yb w') (calls_ret (cache_new_any q yb) (by rintro e w' ⟨c, rfl, a, b⟩; exact ⟨_, rfl, c, rfl, a, b⟩)) ?_
        rintro v yc ⟨c, rfl, hca, hcx⟩
        replace hca := hca.bound
        have hss := hcx.size
        refine hK _ _ ⟨fun _ => trivial, ?_⟩
        clear hK K
        replace hmp := GMap.kept hmp hcx (fun x => x)
        replace hch := hcx.heap hch (fun x => x)
        have hccyc := hcx
        clear hcx
        try simp only [Act.put, List.setIfInBounds_toArray, List.set_cons_succ, List.set_cons_zero]
        (refine tree_look rfl trivial rfl (by intro w hS; go_simp; with_reducible rfl) (fun c a w h => h) ?_; simp only [Act.put, List.setIfInBounds_toArray, List.set_cons_succ, List.set_cons_zero])
        refine tree_act rfl rfl (fun K hK => ?_)
        go_simp
        obtain ⟨wm, hwm⟩ : ∃ z, z = yc.alloc (.cells #[.pointer (some ⟨c, 0, none⟩), .slice none 0 0, .slice none 0 0, .chan (some ch), .pointer none, .map (some mp), .slice none 0 0] 55) := ⟨_, rfl⟩
        obtain ⟨m, hmq⟩ : ∃ z, z = yc.heap.size := ⟨_, rfl⟩
        rw [← hwm, ← hmq]
        have hcx : Chg (fun _ => False) yc wm := by rw [hwm]; exact (Chg.refl _ _).alloc _
        have hbx : wm.heap[m]? = some (.cells #[.pointer (some ⟨c, 0, none⟩), .slice none 0 0, .slice none 0 0, .chan (some ch), .pointer none, .map (some mp), .slice none 0 0] 55 (0, 0)) := by rw [hwm]; exact heap_new' hmq.symm
        have hswm : wm.heap.size = yc.heap.size + 1 := by rw [hwm]; simp
        refine hK _ _ ⟨fun _ => trivial, ?_⟩
        clear hK K hwm
        replace hca := hca.kept hcx (fun _ _ x => x)
        replace hch := hcx.heap hch (fun x => x)
        replace hmp := GMap.kept hmp hcx (fun x => x)
        replace hmq := Lib.hid hmq
        replace hswm := Lib.hid hswm
        try simp only [Act.put, List.setIfInBounds_toArray, List.set_cons_succ, List.set_cons_zero]
        (refine tree_look rfl trivial rfl (by intro w hS; go_simp; with_reducible rfl) (fun c a w h => h) ?_; simp only [Act.put, List.setIfInBounds_toArray, List.set_cons_succ, List.set_cons_zero])
        refine tree_end ?_
        replace hmq := hmq.out
        replace hswm := hswm.out
        replace hchq := hchq.out
        replace hsch := hsch.out
        replace hmpq := hmpq.out
        replace hsmp := hsmp.out
        have hN : N0 w1 wm (clampc q) n m c mp ch := ⟨((((hcd.then hccya).then hccyb).then hccyc).then hcx).to_below, hbx, ⟨_, hca, fun k hk => ⟨by have := hk.1; have := hcd.size; have := hccya.size; have := hccyb.size; omega, by have := hk.2; have := hccya.size; have := hccyb.size; have := hccyc.size; omega, by have := hk.1; have := hk.2; have := hccya.size; have := hccyb.size; have := hccyc.size; omega, by have := hk.1; have := hk.2; have := hccya.size; have := hccyb.size; have := hccyc.size; omega, by have := hk.1; have := hk.2; have := hccya.size; have := hccyb.size; have := hccyc.size; omega⟩⟩, hmp, hch, ⟨by have := hcd.size; have := hccya.size; have := hccyb.size; have := hccyc.size; omega, by have := hcd.size; have := hccya.size; have := hccyb.size; have := hccyc.size; omega, by have := hcd.size; have := hccya.size; have := hccyb.size; have := hccyc.size; omega⟩, ⟨by have := hcd.size; have := hccya.size; have := hccyb.size; have := hccyc.size; omega, by have := hcd.size; have := hccya.size; have := hccyb.size; have := hccyc.size; omega, by have := hcd.size; have := hccya.size; have := hccyb.size; have := hccyc.size; omega⟩⟩
        have HN := Lib.hid hN
        clear hN hca hch hmp hbx hcx hmq hswm hchq hsch hmpq hsmp
        refine hK' _ _ (Met.intro (hJ _ _ ?_))
        (repeat apply Exists.intro)
        refine ⟨?rel, rfl⟩
        case rel => exact ⟨m, c, mp, ch, rfl, HN⟩
  obtain ⟨m, c, mp, ch, rfl, HN0⟩ := hcut
  refine hK _ _ ?_
  try clear hK
  try clear K
  have hc1 : Chg (fun _ => False) w w1 := by rw [HW.out.1]; exact (Chg.refl _ _).alloc _
  have hxq : w1.heap[Q0]? = some (.cells #[.slice A k cA] 28 (0, 0)) := by rw [HW.out.1]; exact heap_new' HW.out.2.symm
  have hQ1 := lt_of_heap hxq
  have HL : Hid (w.heap.size ≤ w1.heap.size ∧ w1.heap.size ≤ wc.heap.size ∧ Q0 < w1.heap.size ∧ w1.heap.size ≤ m ∧ m < wc.heap.size) := Lib.hid ⟨hc1.size, HN0.out.bel.size, hQ1, HN0.out.lo.1, lt_of_heap HN0.out.box⟩
  have HBW : Hid (Below w.heap.size w wc) := Lib.hid (hc1.to_below.trans (HN0.out.bel.mono hc1.size))
  have HXQ : Hid (wc.heap[Q0]? = some (.cells #[.slice A k cA] 28 (0, 0))) := Lib.hid ((Below.chg HN0.out.bel).heap hxq (fun x => x))
  have H0 : Hid (N1 (fun w l => FnCells w (fs.take 0) l) 39 5 wc wc m (.slice none 0 0) 0 []) := Lib.hid (N1.start (fun w' => by rw [List.take_zero]; exact fnCells_nil w'))
  have y1 := cell_of_block HXQ.out 0
  simp at y1
  clear hc1 hxq hQ1
  refine wpn_seq_k (fun K hK => ?_)
  go_wp2_with fail
  go_loopg [30] k (fun z i wr => ∃ (j : Nat) (V : Value) (xs : List Value), j ≤ k ∧ z = k - j ∧ i = .int .i64 j ∧ Hid (N1 (fun w l => FnCells w (fs.take j) l) 39 5 wc wr m V j xs) ∧ Hid (wr.heap[m]? = some (.cells #[.pointer (some ⟨c, 0, none⟩), V, .slice none 0 0, .chan (some ch), .pointer none, .map (some mp), .slice none 0 0] 55 (0, 0))))
  case atStart => exact ⟨0, _, _, by omega, rfl, rfl, H0, Lib.hid HN0.out.box⟩
  case round =>
    clear H0
    obtain ⟨j, V, xs, hj, hkz, rfl, HP, HX⟩ := hrel
    have HKZ := Lib.hid hkz
    clear hkz y1
    have hbwr : Below w.heap.size w wr := HBW.out.trans (HP.out.chg.below (fun k e => by have := HL.out; have e : k = m := e; omega) HBW.out.size)
    by_cases hlt : j < k
    · have hjf : j < fs.length := by rw [← HKK.out]; exact hlt
      obtain ⟨b, off, cap, B, cB, e, hb, hcap, ⟨q0, q1, q2, q3, q4⟩, hsrc⟩ := HF.out.get j hjf
      injection e with e1 e3 e2
      subst e1 e2
      clear e3
      have hkc := Below.chg hbwr
      have q0 := hkc.cell q0 (fun x => x)
      have q1 := hkc.cell q1 (fun x => x)
      have q2 := hkc.cell q2 (fun x => x)
      have q3 := hkc.cell q3 (fun x => x)
      have q4 := hkc.cell q4 (fun x => x)
      have hsrc := hsrc.keepB hbwr
      have hfm := HFS.out fs[j] (List.getElem_mem _)
      have htk : fs.take (j + 1) = fs.take j ++ [fs[j]] := List.take_succ_eq_append_getElem hjf
      obtain ⟨f, hf⟩ : ∃ f, f = fs[j] := ⟨_, rfl⟩
      rw [← hf] at q0 q1 q2 q3 q4 hsrc hfm htk
      clear hf
      obtain ⟨nm, ps, vs, ar, l⟩ := f
      simp only at q0 q1 q2 q3 q4 hsrc hfm
      obtain ⟨ln, hln⟩ : ∃ ln, ln = l.length := ⟨_, rfl⟩
      have hcp := hsrc.cap
      have hl1 := hfm.1
      rw [← hln] at q4 hcp hsrc hl1
      rw [← HKK.out] at hcap
      obtain ⟨wp, hwp⟩ : ∃ z, z = wr.alloc (.cells #[.string nm, .int .i64 ps, .int .i64 vs, .int .i64 ar, .slice B ln cB] 39) := ⟨_, rfl⟩
      obtain ⟨P, hP⟩ : ∃ z, z = wr.heap.size := ⟨_, rfl⟩
      have d1 : Chg (fun _ => False) wr wp := by rw [hwp]; exact (Chg.refl _ _).alloc _
      have p1 : wp.heap[P]? = some (.cells #[.string nm, .int .i64 ps, .int .i64 vs, .int .i64 ar, .slice B ln cB] 39 (0, 0)) := by rw [hwp]; exact heap_new' hP.symm
      have CL := Lib.hid (cloneIns_any (hsrc.keepB (Below.mono (Chg.to_below d1) (Nat.le_refl _))) (by rw [hln]; exact insCells_length _) (insCells_one _) (show ln ≤ 5864062014634 by omega))
      have t4 := cell_of_block p1 4
      simp at t4
      have HWP := Lib.hid (And.intro hwp hP)
      have HD1 := Lib.hid (And.intro d1 p1)
      have HLN := Lib.hid (And.intro hln htk)
      have HB := Lib.hid hbwr
      clear hwp hP d1 p1 hln htk hbwr hkc hsrc hfm hb
      go_upto_region 5 with fail
      rw [← HWP.out.1, ← HWP.out.2]
      clear q0 q1 q2 q3 q4
      go_wp2_with fail
      refine CL.out.mono ?_; rintro e wv ⟨vc, rfl, hown, hfar, hcv⟩
      obtain ⟨_, C, d, rfl⟩ := ownsRow_slice hown
      clear CL t4
      have p2 := hcv.heap HD1.out.2 (fun x => x)
      have t4 := cell_of_block p2 4
      have f4 := frozen_of_block p2 4
      simp at t4
      have p3 := heap_set p2 4 (.slice C ln d)
      obtain ⟨w2, hw2⟩ : ∃ z, z = wv.setCell ⟨P, 4, none⟩ (.slice C ln d) := ⟨_, rfl⟩
      have hset2 : Chg (fun k => k = P) wv w2 := by rw [hw2]; exact Chg.set_cell (w := wv) ⟨P, 4, none⟩ _
      rw [← hw2] at p3
      have HW2 := Lib.hid hw2
      have hPs := HWP.out.2
      have hs1 := HD1.out.1.size
      have hb2 : Below wr.heap.size wr w2 := (HD1.out.1.to_below.trans (hcv.below (fun k h => h.elim) hs1)).trans (hset2.below (fun k e => by have e : k = P := e; omega) (Nat.le_trans hs1 hcv.size))
      have hCb : ∀ k, (Value.slice C ln d).ownBlock = some k → wr.heap.size ≤ k ∧ k < w2.heap.size ∧ k ≠ P := fun k hk => ⟨by have := hfar k hk; omega, by have := ownsRow_lt hown k hk; have := hset2.size; omega, by have := hfar k hk; have := lt_of_heap HD1.out.2; omega⟩
      have hsC : Src w2 (.slice C ln d) ln (insCells l) := Src.of_row (ownsRow_kept hown hset2 (fun k hk e => (hCb k hk).2.2 e))
      have HB2 := Lib.hid (And.intro hb2 (And.intro hCb hsC))
      clear hown hfar hcv p2 hw2 hset2 hPs hs1 hb2 hCb hsC
      go_upto_region 6 with fail
      rw [← HW2.out]
      clear t4 f4
      obtain ⟨_, AV, cV, rfl⟩ := ownsRow_slice HP.out.row
      obtain ⟨wd, hwd⟩ : ∃ z, z = w2.drew := ⟨_, rfl⟩
      have hcd : Chg (fun _ => False) w2 wd := by rw [hwd]; exact (Chg.refl _ _).drew
      obtain ⟨S, hS⟩ : ∃ S : World → Prop, S = fun w' => w'.heap[m]? = some (.cells #[.pointer (some ⟨c, 0, none⟩), .slice AV j cV, .slice none 0 0, .chan (some ch), .pointer none, .map (some mp), .slice none 0 0] 55 (0, 0)) ∧ w'.heap[P]? = some (.cells #[.string nm, .int .i64 ps, .int .i64 vs, .int .i64 ar, .slice C ln d] 39 (0, 0)) := ⟨_, rfl⟩
      have SC : Hid (∀ w', S w' → w'.cell? ⟨m, 1, none⟩ = some (.slice AV j cV) ∧ w'.cell? ⟨P, 0, none⟩ = some (.string nm) ∧ w'.cell? ⟨P, 1, none⟩ = some (.int .i64 ps) ∧ w'.cell? ⟨P, 2, none⟩ = some (.int .i64 vs) ∧ w'.cell? ⟨P, 3, none⟩ = some (.int .i64 ar) ∧ w'.cell? ⟨P, 4, none⟩ = some (.slice C ln d)) := Lib.hid (by
        intro w' h
        rw [hS] at h
        exact ⟨cell_of_block h.1 1, cell_of_block h.2 0, cell_of_block h.2 1, cell_of_block h.2 2, cell_of_block h.2 3, cell_of_block h.2 4⟩)
      have hSd : S wd := by rw [hS]; exact ⟨hcd.heap ((Below.chg HB2.out.1).heap HX.out (fun x => x)) (fun x => x), hcd.heap p3 (fun x => x)⟩
      have HSE := Lib.hid hS
      have HCD := Lib.hid hcd
      obtain ⟨i0, hi, hz0, hz1, hz2⟩ := info_parts infoFn
      clear hS hcd p3
      refine wp_region_ord (S := S) (N := fun i => i != 12) (by kernel_rfl) [(0, true), (1, true), (2, true), (3, true), (4, true), (5, true), (6, true), (7, false), (8, false), (9, true), (10, true), (11, true), (12, false)] (by kernel_rfl) ?_
      rw [← hwd]
      clear hwd
      iterate 7 (refine ord_look rfl hSd rfl (by intro w hS; obtain ⟨s1, s2, s3, s4, s5, s6⟩ := SC.out w hS; go_simp; with_reducible rfl) (fun c a w h => h) ?_; simp only [Act.put, List.setIfInBounds_toArray, List.set_cons_succ, List.set_cons_zero])
      refine ord_act rfl rfl (fun K hK => ?_)
      go_simp
      obtain ⟨wx, hwx⟩ : ∃ z, z = wd.alloc (.cells #[.string nm, .int .i64 ps, .int .i64 vs, .int .i64 ar, .slice C ln d] 39) := ⟨_, rfl⟩
      rw [← hwx]
      have hcx : Chg (fun _ => False) wd wx := by rw [hwx]; exact (Chg.refl _ _).alloc _
      have hSx : S wx := by have h := hSd; rw [HSE.out] at h ⊢; exact ⟨hcx.heap h.1 (fun x => x), hcx.heap h.2 (fun x => x)⟩
      have HROW : Hid (wx.ownsRow 0 39 5 (.slice AV j cV) j xs) := Lib.hid (ownsRow_kept (ownsRow_kept (ownsRow_kept HP.out.row (Below.chg HB2.out.1) (fun _ _ x => x)) HCD.out (fun _ _ x => x)) hcx (fun _ _ x => x))
      have HNEW : Hid (∀ (i : Nat) u, ([.string nm, .int .i64 ps, .int .i64 vs, .int .i64 ar, .slice C ln d] : List Value)[i]? = some u → wx.cell? ((⟨wd.heap.size, 0, none⟩ : Addr).add i) = some u) := Lib.hid (World.news_of_block (cs := #[.string nm, .int .i64 ps, .int .i64 vs, .int .i64 ar, .slice C ln d]) (t := 39) (fr := (0, 0)) (by rw [hwx]; exact heap_new _ _))
      have HSZ : Hid (wx.heap.size = wd.heap.size + 1) := Lib.hid (by rw [hwx]; simp)
      have HCX := Lib.hid hcx
      refine hK _ _ ⟨fun _ => hSx, ?_⟩
      clear hK K hSd hwx hcx
      try simp only [Act.put, List.setIfInBounds_toArray, List.set_cons_succ, List.set_cons_zero]
      refine ord_act rfl rfl (fun K hK => ?_)
      refine wp_append_lies _ _ _ _ rfl 0 39 i0 _ 5 64 Tryd.underlying26 hi hz0 hz1 hz2 rfl (by omega) (.slice AV j cV) j xs rfl HROW.out ⟨wd.heap.size, 0, none⟩ 1 1 [.string nm, .int .i64 ps, .int .i64 vs, .int .i64 ar, .slice C ln d] rfl rfl HNEW.out (by simp [Value.oneCell']) (by omega) (by unfold maxLen; omega) (by omega) (by omega) (wd.heap.size + 1) HSZ.out ?_
      intro g5 cap5 w5 hown5 hgrow5 hat5 hlt5
      have hc5 := Chg.of_grown hgrow5
      have hVm : (Value.slice AV j cV).ownBlock ≠ some m := fun e => by have := HP.out.far m e; have := HL.out; omega
      have hVP : (Value.slice AV j cV).ownBlock ≠ some P := fun e => by have := ownsRow_lt HP.out.row P e; have := HWP.out.2; omega
      have hS5 : S w5 := by have h := hSx; rw [HSE.out] at h ⊢; exact ⟨hc5.heap h.1 hVm, hc5.heap h.2 hVP⟩
      have hb5 : w5.heap[m]? = some (.cells #[.pointer (some ⟨c, 0, none⟩), .slice AV j cV, .slice none 0 0, .chan (some ch), .pointer none, .map (some mp), .slice none 0 0] 55 (0, 0)) := by have h := hS5; rw [HSE.out] at h; exact h.1
      have x1 := cell_of_block hb5 1
      have f1 := frozen_of_block hb5 1
      have hbf := heap_set hb5 1 (.slice (some ⟨g5, 0, none⟩) (j + 1) cap5)
      simp at x1
      refine hK _ _ ⟨fun _ => hS5, ?_⟩
      clear hK K hSx
      try simp only [Act.put, List.setIfInBounds_toArray, List.set_cons_succ, List.set_cons_zero]
      iterate 3 (refine ord_look rfl hS5 rfl (by intro w hS; go_simp; with_reducible rfl) (fun c a w h => h) ?_; simp only [Act.put, List.setIfInBounds_toArray, List.set_cons_succ, List.set_cons_zero])
      refine ord_act rfl rfl (fun K hK => ?_)
      go_simp
      refine hK _ _ ⟨fun h => absurd h (by decide), ?_⟩
      clear hK K
      refine ord_end ?_
      have hNX : N1 (fun w l => FnCells w (fs.take (j + 1)) l) 39 5 wc (w5.setCell ⟨m, 1, none⟩ (.slice (some ⟨g5, 0, none⟩) (j + 1) cap5)) m (.slice (some ⟨g5, 0, none⟩) (j + 1) cap5) (j + 1) (xs ++ [.string nm, .int .i64 ps, .int .i64 vs, .int .i64 ar, .slice C ln d]) := by
        refine N1.step HP.out HL.out.2.2.2.2 HB2.out.1 ((HCD.out.then HCX.out).to_below) hown5 hc5 (hat5.imp id (fun e => .inr (by have := HSZ.out; have := HCD.out.size; have := HCX.out.size; omega))) 1 (fun w' hc hD => ?_)
        have e : fs.take (j + 1) = fs.take j ++ [⟨nm, ps, vs, ar, l⟩] := HLN.out.2
        rw [e]
        have h := fn_new (f := ⟨nm, ps, vs, ar, l⟩) (A := C) (c := d) (wr := wr) (wa := w2) (fs := fs.take j) (xs := xs) (by rw [HROW.out.1, List.length_take]; omega) (by simp only; rw [← HLN.out.1]; exact HB2.out.2.2) (fun k hk => by
          simp only at hk
          rw [← HLN.out.1] at hk
          have := HB2.out.2.1 k hk
          exact ⟨this.1, this.2.1⟩) w' hc hD
        simp only at h
        rw [← HLN.out.1] at h
        exact h
      have HNX := Lib.hid hNX
      have HBF := Lib.hid hbf
      clear hNX hbf x1 f1 hb5 hS5 hown5 hgrow5 hat5 hlt5 hc5 hVm hVP
      go_wp2_with fail
      go_roundg (k - (j + 1))
      case measure => have := HKZ.out; omega
      case rel => exact ⟨j + 1, _, _, by omega, rfl, by go_num, HNX, HBF⟩
    · obtain rfl : j = k := by omega
      go_wp2_with fail
      have hN1 : N1 (fun w l => FnCells w fs l) 39 5 wc wr m V j xs := by
        have h := HP.out
        have e : fs.take j = fs := List.take_of_length_le (by rw [← HKK.out]; exact Nat.le_refl _)
        rwa [e] at h
      have HN1 := Lib.hid hN1
      have HBR := Lib.hid hbwr
      have HMR := Lib.hid (lt_of_heap HX.out)
      clear hN1 hbwr HP hlt hj HKZ
      obtain ⟨wf, rfl⟩ : ∃ z, z = wr := ⟨_, rfl⟩
      have H0 : Hid (N1 (fun w l => PubCells w (pub.take 0) l) 30 1 wf wf m (.slice none 0 0) 0 []) := Lib.hid (N1.start (fun w' => by rw [List.take_zero]; exact pubCells_nil w'))
      refine wpn_seq_k (fun K hK => ?_)
      go_wp2_with fail
      go_loopg [53] pl (fun z i wr => ∃ (p : Nat) (U : Value) (us : List Value), p ≤ pl ∧ z = pl - p ∧ i = .int .i64 p ∧ Hid (N1 (fun w l => PubCells w (pub.take p) l) 30 1 wf wr m U p us) ∧ Hid (wr.heap[m]? = some (.cells #[.pointer (some ⟨c, 0, none⟩), V, U, .chan (some ch), .pointer none, .map (some mp), .slice none 0 0] 55 (0, 0))))
      case atStart => exact ⟨0, _, _, by omega, rfl, rfl, H0, HX⟩
      case round =>
        clear H0
        obtain ⟨p, U, us, hp, hpz, rfl, HP, HY⟩ := hrel
        have HPZ := Lib.hid hpz
        clear hpz
        have hbwq : Below w.heap.size w wr := HBR.out.trans (HP.out.chg.below (fun k e => by have := HL.out; have e : k = m := e; omega) HBR.out.size)
        by_cases hlt : p < pl
        · have hpp : p < pub.length := by rw [← HPL.out]; exact hlt
          obtain ⟨b, off, rfl, hcs⟩ := HPU.out (by omega)
          obtain ⟨V2, q0, hbr⟩ := hcs p pub[p] (List.getElem?_eq_getElem hpp)
          have q0 := (Below.chg hbwq).cell q0 (fun x => x)
          have hrm := HPR.out pub[p] (List.getElem_mem _)
          have htk : pub.take (p + 1) = pub.take p ++ [pub[p]] := List.take_succ_eq_append_getElem hpp
          obtain ⟨r, hr⟩ : ∃ r, r = pub[p] := ⟨_, rfl⟩
          rw [← hr] at hbr hrm htk
          clear hr hcs
          have hbr := boolRow_keep hbr (Below.mono hbwq (Nat.le_refl _))
          obtain ⟨B2, c2, rfl, _⟩ := id hbr
          obtain ⟨rl, hrl⟩ : ∃ z, z = r.length := ⟨_, rfl⟩
          rw [← hrl] at q0 hrm
          have HBQ := Lib.hid (And.intro hbwq (And.intro htk (And.intro hrl hbr)))
          clear hbwq htk hrl hbr
          go_upto_region 11 with fail
          clear q0
          obtain ⟨_, UA, cU, rfl⟩ := ownsRow_slice HP.out.row
          obtain ⟨wd, hwd⟩ : ∃ z, z = wr.drew := ⟨_, rfl⟩
          have hcd : Chg (fun _ => False) wr wd := by rw [hwd]; exact (Chg.refl _ _).drew
          obtain ⟨S, hS⟩ : ∃ S : World → Prop, S = fun w' => w'.heap[m]? = some (.cells #[.pointer (some ⟨c, 0, none⟩), V, .slice UA p cU, .chan (some ch), .pointer none, .map (some mp), .slice none 0 0] 55 (0, 0)) := ⟨_, rfl⟩
          have SC : Hid (∀ w', S w' → w'.cell? ⟨m, 2, none⟩ = some (.slice UA p cU)) := Lib.hid (by
            intro w' h
            rw [hS] at h
            exact cell_of_block h 2)
          have hSd : S wd := by rw [hS]; exact hcd.heap HY.out (fun x => x)
          have HSE := Lib.hid hS
          have HCD := Lib.hid hcd
          obtain ⟨i0, hi, hz0, hz1, hz2⟩ := info_parts infoRB
          have CL : Calls Tryd.prog 16 #[.slice B2 rl c2] wd fun e w' => ∃ v', e = .returned v' ∧ w'.ownsRow 0 4 1 v' rl (bools r) ∧ (∀ k, v'.ownBlock = some k → wd.heap.size ≤ k) ∧ Chg (fun _ => False) wd w' := by
            have h := boolRow_src (boolRow_keep HBQ.out.2.2.2 hcd.to_below)
            rw [← HBQ.out.2.2.1] at h
            exact cloneBo_any h (by rw [HBQ.out.2.2.1, bools_length]; omega) (bools_one r) (by omega)
          clear hS hcd
          refine wp_region_ord (S := S) (N := fun i => i != 11) (by kernel_rfl) [(0, true), (1, true), (2, true), (3, true), (4, true), (5, true), (6, false), (7, false), (8, false), (9, true), (10, true), (11, false)] (by kernel_rfl) ?_
          rw [← hwd]
          clear hwd
          iterate 6 (refine ord_look rfl hSd rfl (by intro w hS; have s1 := SC.out w hS; go_simp; with_reducible rfl) (fun c a w h => h) ?_; simp only [Act.put, List.setIfInBounds_toArray, List.set_cons_succ, List.set_cons_zero])
          refine ord_act rfl rfl (fun K hK => ?_)
          refine wp_call 16 _ _ Tryd.func16 rfl (by kernel_rfl) _ _ rfl #[.slice B2 rl c2] (by simp [Act.eval]) (calls_ret CL (by rintro e w1 ⟨v', rfl, h⟩; exact ⟨_, rfl, h⟩)) ?_
          rintro vc wv ⟨hown, hfar, hcv⟩
          have hSv : S wv := by have h := hSd; rw [HSE.out] at h ⊢; exact hcv.heap h (fun x => x)
          refine hK _ _ ⟨fun _ => hSv, ?_⟩
          clear hK K hSd CL
          try simp only [Act.put, List.setIfInBounds_toArray, List.set_cons_succ, List.set_cons_zero]
          obtain ⟨_, C, d, rfl⟩ := ownsRow_slice hown
          have HV := Lib.hid (And.intro hown (And.intro hfar hcv))
          clear hown hfar hcv
          refine ord_act rfl rfl (fun K hK => ?_)
          go_simp
          obtain ⟨wx, hwx⟩ : ∃ z, z = wv.alloc (.cells #[.slice C rl d] 30) := ⟨_, rfl⟩
          rw [← hwx]
          have hcx : Chg (fun _ => False) wv wx := by rw [hwx]; exact (Chg.refl _ _).alloc _
          have hSx : S wx := by have h := hSv; rw [HSE.out] at h ⊢; exact hcx.heap h (fun x => x)
          have HROW : Hid (wx.ownsRow 0 30 1 (.slice UA p cU) p us) := Lib.hid (ownsRow_kept (ownsRow_kept (ownsRow_kept HP.out.row HCD.out (fun _ _ x => x)) HV.out.2.2 (fun _ _ x => x)) hcx (fun _ _ x => x))
          have HNEW : Hid (∀ (i : Nat) u, ([.slice C rl d] : List Value)[i]? = some u → wx.cell? ((⟨wv.heap.size, 0, none⟩ : Addr).add i) = some u) := Lib.hid (World.news_of_block (cs := #[.slice C rl d]) (t := 30) (fr := (0, 0)) (by rw [hwx]; exact heap_new _ _))
          have HSZ : Hid (wx.heap.size = wv.heap.size + 1) := Lib.hid (by rw [hwx]; simp)
          have HCX := Lib.hid hcx
          refine hK _ _ ⟨fun _ => hSx, ?_⟩
          clear hK K hSv hwx hcx
          try simp only [Act.put, List.setIfInBounds_toArray, List.set_cons_succ, List.set_cons_zero]
          refine ord_act rfl rfl (fun K hK => ?_)
          refine wp_append_lies _ _ _ _ rfl 0 30 i0 _ 1 24 Tryd.underlying31 hi hz0 hz1 hz2 rfl (by omega) (.slice UA p cU) p us rfl HROW.out ⟨wv.heap.size, 0, none⟩ 1 1 [.slice C rl d] rfl rfl HNEW.out (by simp [Value.oneCell']) (by omega) (by unfold maxLen; omega) (by omega) (by omega) (wv.heap.size + 1) HSZ.out ?_
          intro g5 cap5 w5 hown5 hgrow5 hat5 hlt5
          have hc5 := Chg.of_grown hgrow5
          have hUm : (Value.slice UA p cU).ownBlock ≠ some m := fun e => by have := HP.out.far m e; have := HMR.out; omega
          have hS5 : S w5 := by have h := hSx; rw [HSE.out] at h ⊢; exact hc5.heap h hUm
          have hb5 : w5.heap[m]? = some (.cells #[.pointer (some ⟨c, 0, none⟩), V, .slice UA p cU, .chan (some ch), .pointer none, .map (some mp), .slice none 0 0] 55 (0, 0)) := by have h := hS5; rw [HSE.out] at h; exact h
          have x1 := cell_of_block hb5 2
          have f1 := frozen_of_block hb5 2
          have hbf := heap_set hb5 2 (.slice (some ⟨g5, 0, none⟩) (p + 1) cap5)
          simp at x1
          refine hK _ _ ⟨fun _ => hS5, ?_⟩
          clear hK K hSx
          try simp only [Act.put, List.setIfInBounds_toArray, List.set_cons_succ, List.set_cons_zero]
          iterate 2 (refine ord_look rfl hS5 rfl (by intro w hS; go_simp; with_reducible rfl) (fun c a w h => h) ?_; simp only [Act.put, List.setIfInBounds_toArray, List.set_cons_succ, List.set_cons_zero])
          refine ord_act rfl rfl (fun K hK => ?_)
          go_simp
          refine hK _ _ ⟨fun h => absurd h (by decide), ?_⟩
          clear hK K
          refine ord_end ?_
          have hNX : N1 (fun w l => PubCells w (pub.take (p + 1)) l) 30 1 wf (w5.setCell ⟨m, 2, none⟩ (.slice (some ⟨g5, 0, none⟩) (p + 1) cap5)) m (.slice (some ⟨g5, 0, none⟩) (p + 1) cap5) (p + 1) (us ++ [.slice C rl d]) := by
            refine N1.step HP.out HMR.out ((HCD.out.then HV.out.2.2).to_below) (HCX.out.to_below) hown5 hc5 (hat5.imp id (fun e => .inr (by have := HSZ.out; have := HCX.out.size; omega))) 2 (fun w' hc hD => ?_)
            have e : pub.take (p + 1) = pub.take p ++ [r] := HBQ.out.2.1
            rw [e]
            exact pub_new (wr := wr) (wa := wv) (l := pub.take p) (xs := us) (r := r) (V := .slice C rl d) (t := 4) (by rw [HROW.out.1, List.length_take]; have := HPL.out; omega) (by rw [← HBQ.out.2.2.1]; exact HV.out.1) (fun k hk => ⟨by have := HV.out.2.1 k hk; have := HCD.out.size; omega, ownsRow_lt HV.out.1 k hk⟩) w' hc hD
          have HNX := Lib.hid hNX
          have HBF := Lib.hid hbf
          clear hNX hbf x1 f1 hb5 hS5 hown5 hgrow5 hat5 hlt5 hc5 hUm
          go_wp2_with fail
          go_roundg (pl - (p + 1))
          case measure => have := HPZ.out; omega
          case rel => exact ⟨p + 1, _, _, by omega, rfl, by go_num, HNX, HBF⟩
        · obtain rfl : p = pl := by omega
          go_wp2_with fail
          have hN2 : N1 (fun w l => PubCells w pub l) 30 1 wf wr m U p us := by
            have h := HP.out
            have e : pub.take p = pub := List.take_of_length_le (by rw [← HPL.out]; exact Nat.le_refl _)
            rwa [e] at h
          have HN2 := Lib.hid hN2
          have HBQ := Lib.hid hbwq
          have HMQ := Lib.hid (lt_of_heap HY.out)
          clear hN2 hbwq HP hlt hp HPZ
          obtain ⟨wg, rfl⟩ : ∃ z, z = wr := ⟨_, rfl⟩
          refine wpn_seq ?_
          refine wpn_seq_k (fun K hK => ?_)
          go_wp2_with fail
          try clear hK
          try clear K
          refine wpn_block ?_
          obtain ⟨I, hI⟩ : ∃ I : Nat → Act → World → Prop, I = (fun z a w' => ∃ (i : Nat) (v15 v72 v73 v74 v75 v76 v77 v78 v79 v80 : Value), a = ⟨#[.agg #[.slice A j cA], .slice AP p cP, .int .i64 q, .slice B n cB, .pointer (some ⟨Q0, 0, none⟩), undef, undef, undef, .pointer none, .pointer (some ⟨m, 0, none⟩), undef, u11, undef, u13, undef, v15, undef, undef, undef, u19, u20, u21, u22, u23, u24, u25, u26, .pointer (some ⟨Q0, 0, none⟩), .slice A j cA, .int .i64 (j : Int), .int .i64 (j : Int), .bool false, u32, u33, u34, u35, u36, u37, u38, u39, u40, u41, u42, u43, u44, u45, u46, u47, u48, u49, u50, .slice AP p cP, .int .i64 (p : Int), .int .i64 (p : Int), .bool false, u55, u56, u57, u58, u59, u60, u61, u62, u63, u64, u65, u66, u67, u68, .slice B n cB, .int .i64 (n : Int), .int .i64 (i : Int), v72, v73, v74, v75, v76, v77, v78, v79, v80, undef, undef, undef, undef, undef, undef, undef, undef, undef, undef, undef, undef, undef, undef, undef, undef, undef, undef, undef], []⟩ ∧ z = n - i ∧ i ≤ n ∧ w'.heap[ch]? = some (.chan n (nums (picks.take i)).toArray false i 0 false) ∧ Chg (fun k => k = ch) wg w') := ⟨_, rfl⟩
          have HI := Lib.hid hI
          have HCH0 : Hid (wg.heap[ch]? = some (.chan n #[] false 0 0 false)) := Lib.hid (HN2.out.chg.heap (HN1.out.chg.heap HN0.out.chan (fun e => HN0.out.ne.2.1 e.symm)) (fun e => HN0.out.ne.2.1 e.symm))
          refine wpn_loop I n (by rw [hI]; exact ⟨0, _, _, _, _, _, _, _, _, _, _, rfl, rfl, Nat.zero_le _, by rw [List.take_zero]; exact HCH0.out, Chg.refl _ _⟩) ?_
          intro z a wr hIn
          rw [hI] at hIn
          clear hI
          obtain ⟨i, v15, v72, v73, v74, v75, v76, v77, v78, v79, v80, rfl, hz, hin, hchan, hchg⟩ := hIn
          have HZ := Lib.hid hz
          have HCH := Lib.hid hchan
          have HCG := Lib.hid hchg
          have hxm := hchg.heap HY.out HN0.out.ne.2.1
          have x3 := cell_of_block hxm 3
          simp at x3
          have hbwr : Below w.heap.size w wr := HBQ.out.trans (hchg.below (fun k e => by have := HN0.out.lo; have := HL.out; have e : k = ch := e; omega) HBQ.out.size)
          have hsr := HPK.out.keep hbwr
          have HBR2 := Lib.hid hbwr
          clear hz hchan hchg hxm hbwr
          refine wpn_seq_k (fun K hK => ?_)
          by_cases hlt : i < n
          · have hip : i < picks.length := by rw [← hsr.get.1]; exact hlt
            obtain ⟨b, off, rfl, q0⟩ := hsr.get.2.2.2 i hip
            have htk : picks.take (i + 1) = picks.take i ++ [picks[i]] := List.take_succ_eq_append_getElem hip
            obtain ⟨xv, hxv⟩ : ∃ z, z = picks[i] := ⟨_, rfl⟩
            rw [← hxv] at q0 htk
            have hnp := hsr.get.1
            have HTK := Lib.hid (And.intro htk hnp)
            clear hxv htk hsr hip hnp
            go_wp2_with fail
            try clear hK
            try clear K
            refine wpn_seq_k (fun K hK => ?_)
            go_wp2_with fail
            try clear hK
            try clear K
            refine wpn_seq ?_
            refine wpn_block ?_
            refine wpn_seq_k (fun K hK => ?_)
            go_wp2_with fail
            try clear hK
            try clear K
            refine wpn_region ?_
            show opsn _ _ _ [0, 1, 2, 3, 4, 5] _ _
            iterate 5 (refine opsn_look rfl rfl (by go_simp; with_reducible rfl) ?_; simp only [Act.put, List.setIfInBounds_toArray, List.set_cons_succ, List.set_cons_zero])
            refine opsn_send rfl rfl (w₁ := wr) (c := ch) (v := .int .i64 xv) (z := .tuple #[]) (by simp [go_sem, execOp, scase, Act.eval]) HCH.out (by have := HTK.out.2; simp [nums]; omega) ?_
            simp only [Act.put]
            refine opsn_end ?_
            refine wpn_of_wp ?_
            obtain ⟨w3, hw3⟩ : ∃ w3, w3 = wr.setChan ch n ((nums (picks.take i)).toArray.push (.int .i64 xv)) false (i + 1) 0 false := ⟨_, rfl⟩
            have HC3 : Hid (Chg (fun x => x = ch) wr w3) := Lib.hid (by rw [hw3]; exact (Chg.refl (fun x => x = ch) wr).setChan (ch := ch) rfl _ _ _ _ _ _)
            have HB3 : Hid (w3.heap[ch]? = some (.chan n (nums (picks.take (i + 1))).toArray false (i + 1) 0 false)) := Lib.hid (by
              have e : (nums (picks.take (i + 1))).toArray = (nums (picks.take i)).toArray.push (.int .i64 xv) := by rw [HTK.out.1]; simp [nums]
              rw [hw3, e]
              exact heap_setChan _ _ _ _ _ _ _ _ (lt_of_heap HCH.out))
            rw [← hw3]
            clear hw3
            go_wp2_with fail
            refine ⟨n - (i + 1), by have := HZ.out; omega, ?_⟩
            rw [HI.out]
            exact ⟨i + 1, _, _, _, _, _, _, _, _, _, _, rfl, rfl, hlt, HB3.out, HCG.out.then HC3.out⟩
          · obtain rfl : i = n := by omega
            go_wp2_with fail
            try clear hK
            try clear K
            refine wpn_seq_k (fun K hK => ?_)
            go_wp2_with fail
            refine wpn_of_wp ?_
            obtain ⟨wh, rfl⟩ : ∃ z, z = wr := ⟨_, rfl⟩
            have hxq : wh.heap[Q0]? = some (.cells #[.slice A j cA] 28 (0, 0)) := HCG.out.heap (HN2.out.chg.heap (HN1.out.chg.heap HXQ.out (fun e => by have := HL.out; omega)) (fun e => by have := HL.out; omega)) (fun e => by have := HN0.out.lo; have := HL.out; have e : Q0 = ch := e; omega)
            have y1 := cell_of_block hxq 0
            simp at y1
            have HXM : Hid (wh.heap[m]? = some (.cells #[.pointer (some ⟨c, 0, none⟩), V, U, .chan (some ch), .pointer none, .map (some mp), .slice none 0 0] 55 (0, 0))) := Lib.hid (HCG.out.heap HY.out HN0.out.ne.2.1)
            have HCF : Hid (wh.heap[ch]? = some (.chan i (nums picks).toArray false i 0 false)) := Lib.hid (by
              have h := HCH.out
              have e : picks.take i = picks := List.take_of_length_le (by rw [← hsr.get.1]; exact Nat.le_refl _)
              rwa [e] at h)
            clear x3 hlt hin hxq
            obtain ⟨i0, hi, hz0, hz1, hz2⟩ := info_parts infoN8
            go_wp2_with fail
            go_loopg [16, 84] j (fun z W i wr => ∃ (t : Nat), t ≤ j ∧ z = j - t ∧ i = .int .i64 t ∧ (∃ AV cV, W = .slice AV t cV) ∧ Hid (wr.ownsRow 0 3 1 W t (nums ((fs.map (·.ps)).take t))) ∧ Hid (∀ k, W.ownBlock = some k → wh.heap.size ≤ k) ∧ Hid (Below wh.heap.size wh wr))
            case atStart => exact ⟨0, by omega, rfl, rfl, ⟨_, _, rfl⟩, Lib.hid (World.ownsRow_nil _ _ _ _), Lib.hid (fun k hk => by cases hk), Lib.hid (Below.refl _ _)⟩
            case round =>
              obtain ⟨t, ht, htz, rfl, ⟨AV, cV, rfl⟩, HROW0, HFAR, HBE⟩ := hrel
              have HTZ := Lib.hid htz
              clear htz y1
              by_cases hlt : t < j
              · have hjf : t < fs.length := by rw [← HKK.out]; exact hlt
                obtain ⟨b, off, cap, B5, cB5, e, hb, hcap, ⟨q0, q1, q2, q3, q4⟩, hsrc⟩ := HF.out.get t hjf
                injection e with e1 e3 e2
                subst e1 e2
                clear e3
                have hkc := Below.chg (HBR2.out.trans (HBE.out.mono HBR2.out.size))
                have q0 := hkc.cell q0 (fun x => x)
                have q1 := hkc.cell q1 (fun x => x)
                have q2 := hkc.cell q2 (fun x => x)
                have q3 := hkc.cell q3 (fun x => x)
                have q4 := hkc.cell q4 (fun x => x)
                have htk : (fs.map (·.ps)).take (t + 1) = (fs.map (·.ps)).take t ++ [fs[t].ps] := by
                  have h := List.take_succ_eq_append_getElem (l := fs.map (·.ps)) (i := t) (by rw [List.length_map]; exact hjf)
                  rw [List.getElem_map] at h
                  exact h
                obtain ⟨f, hf⟩ : ∃ f, f = fs[t] := ⟨_, rfl⟩
                rw [← hf] at q0 q1 q2 q3 q4 htk
                clear hf hsrc hb hkc
                obtain ⟨nm, ps, vs, ar, l⟩ := f
                simp only at q0 q1 q2 q3 q4 htk
                obtain ⟨ln, hln⟩ : ∃ ln, ln = l.length := ⟨_, rfl⟩
                rw [← hln] at q4
                rw [← HKK.out] at hcap
                clear hln
                obtain ⟨wp, hwp⟩ : ∃ z, z = wr.alloc (.cells #[.string nm, .int .i64 ps, .int .i64 vs, .int .i64 ar, .slice B5 ln cB5] 39) := ⟨_, rfl⟩
                obtain ⟨P, hP⟩ : ∃ z, z = wr.heap.size := ⟨_, rfl⟩
                have d1 : Chg (fun _ => False) wr wp := by rw [hwp]; exact (Chg.refl _ _).alloc _
                have p1 : wp.heap[P]? = some (.cells #[.string nm, .int .i64 ps, .int .i64 vs, .int .i64 ar, .slice B5 ln cB5] 39 (0, 0)) := by rw [hwp]; exact heap_new' hP.symm
                have s1 := cell_of_block p1 1
                simp at s1
                obtain ⟨wx, hwx⟩ : ∃ z, z = wp.alloc (.cells #[.int .i64 ps] 3) := ⟨_, rfl⟩
                have hcx : Chg (fun _ => False) wp wx := by rw [hwx]; exact (Chg.refl _ _).alloc _
                have HROW : Hid (wx.ownsRow 0 3 1 (.slice AV t cV) t (nums ((fs.map (·.ps)).take t))) := Lib.hid (ownsRow_kept (ownsRow_kept HROW0.out d1 (fun _ _ x => x)) hcx (fun _ _ x => x))
                have HNEW : Hid (∀ (i : Nat) u, ([.int .i64 ps] : List Value)[i]? = some u → wx.cell? ((⟨wp.heap.size, 0, none⟩ : Addr).add i) = some u) := Lib.hid (World.news_of_block (cs := #[.int .i64 ps]) (t := 3) (fr := (0, 0)) (by rw [hwx]; exact heap_new _ _))
                have HSZ : Hid (wx.heap.size = wp.heap.size + 1) := Lib.hid (by rw [hwx]; simp)
                have HC := Lib.hid (d1.then hcx)
                have HW3 := Lib.hid (And.intro hwp (And.intro hP hwx))
                have HTK := Lib.hid htk
                have HSP := Lib.hid d1.size
                clear hwp hP hwx d1 hcx htk p1
                go_upto_region 22 with fail
                rw [← HW3.out.1, ← HW3.out.2.1]
                clear q0 q1 q2 q3 q4
                go_wp2_with (at_builtin; rw [← HW3.out.2.2]; refine wpList_append_lies _ rfl _ _ _ rfl 0 3 i0 _ 1 8 Tryd.underlying58 hi hz0 hz1 hz2 rfl (by omega) (.slice AV t cV) t (nums ((fs.map (·.ps)).take t)) rfl HROW.out ⟨wp.heap.size, 0, none⟩ 1 1 [.int .i64 ps] rfl rfl HNEW.out (by simp [Value.oneCell']) (by omega) (by unfold maxLen; omega) (by omega) (by omega) (wp.heap.size + 1) HSZ.out ?_; intro g5 cap5 w5 hown5 hgrow5 hat5 hlt5; have HC5 := Lib.hid (And.intro hown5 (And.intro (Chg.of_grown hgrow5) hat5)); clear hown5 hgrow5 hat5 hlt5)
                go_roundg (j - (t + 1))
                case measure => have := HTZ.out; omega
                case rel =>
                  refine ⟨t + 1, by omega, rfl, by go_num, ⟨_, _, rfl⟩, Lib.hid ?_, Lib.hid (fun k hk => ?_), Lib.hid ?_⟩
                  · rw [HTK.out]
                    have h := HC5.out.1
                    simpa [nums] using h
                  · have hk : some g5 = some k := hk
                    injection hk with hk
                    rcases HC5.out.2.2 with e | e
                    · have := HFAR.out g5 e; omega
                    · have := HBE.out.size; have := HSP.out; omega
                  · have h1 : Below wh.heap.size wr wx := HC.out.below (fun k h => h.elim) HBE.out.size
                    exact (HBE.out.trans h1).trans (HC5.out.2.1.below (fun k h => HFAR.out k h) (Nat.le_trans HBE.out.size h1.size))
              · obtain rfl : t = j := by omega
                have hps : (fs.map (·.ps)).take t = fs.map (·.ps) := List.take_of_length_le (by rw [List.length_map, ← HKK.out]; exact Nat.le_refl _)
                have CP := Lib.hid (pnew_any (w := wr) (V := .slice AV t cV) (ps := fs.map (·.ps)) (NumSrc.of_row (t := 3) (by have h := HROW0.out; rw [hps] at h; rw [List.length_map, ← HKK.out]; exact h)) (by rw [List.length_map, ← HKK.out]; exact hfl))
                clear hps
                obtain ⟨wi, rfl⟩ : ∃ z, z = wr := ⟨_, rfl⟩
                go_wp2_with fail
                refine CP.out.mono ?_; rintro e wj ⟨p, g, rfl, hpl, hpg, hbj⟩
                have hxm := (Below.chg hbj).heap ((Below.chg HBE.out).heap HXM.out (fun x => x)) (fun x => x)
                have x4 := cell_of_block hxm 4
                have f4 := frozen_of_block hxm 4
                simp at x4
                have HJ := Lib.hid (And.intro hpl (And.intro hpg (And.intro hbj hxm)))
                clear hpl hpg hbj hxm CP
                go_wp2_with fail
                go_ret
                have hB := HBE.out.size
                have hB2 := HBR2.out.size
                have hB3 := HJ.out.2.2.1.size
                have h1 := HN1.out
                have h2 := HN2.out
                rw [HKK.out] at h1
                rw [HPL.out] at h2
                obtain ⟨tag, x, hTC, hlo⟩ := tc_new (p := p) (g := g) (cap := clampc q) HN0.out h1 h2 HCG.out HCF.out HBE.out HJ.out.2.2.1 HJ.out.1 (fun h0 => by
                  have h := HJ.out.2.1 (by rw [List.length_map]; exact h0)
                  rwa [List.length_map] at h) HJ.out.2.2.2 (by rw [← HKK.out]; exact hfl) HFS.out HPI.out
                refine ⟨m, rfl, tag, ⟨x, hTC⟩, fun k hk => by have := hlo k hk; have := HL.out; have := HW.out.2; omega, ?_⟩
                rw [HW.out.2]
                exact ((HBR2.out.trans (HBE.out.mono hB2)).trans (HJ.out.2.2.1.mono (Nat.le_trans hB2 hB))).trans ((Chg.set_cell (w := wj) ⟨m, 4, none⟩ _).below (fun k e => by have := HL.out; have e : k = m := e; omega) (Nat.le_trans (Nat.le_trans hB2 hB) hB3))
end Go.Proofs.YtgiegkacilfofabDoor
