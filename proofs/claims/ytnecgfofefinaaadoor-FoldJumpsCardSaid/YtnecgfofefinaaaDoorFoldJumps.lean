/- FoldJumps: the plain law. -/
import Derived.Test.YtnecgfofefinaaaDoorFoldSum
namespace Go.Proofs.YtnecgfofefinaaaDoor
set_option linter.unusedVariables false
set_option linter.unusedSimpArgs false
open Go.RowKit

def clockI : InsR := ⟨25, 0, 0⟩
def subI : InsR := ⟨7, 0, 0⟩
def keepI : InsR := ⟨20, 0, 0⟩
def loadsL (b : Nat) : List InsR := (List.range b).map fun (i : Nat) => (⟨2, (i : Int), 0⟩ : InsR)
def headL (T : Int) (h : Nat) : List InsR := [clockI, ⟨16, T, 0⟩] ++ List.replicate h clockI
def subsL (s : Int) (zs : List Int) : List InsR := pushR s :: zs.flatMap fun x => [pushR x, subI]
def jumpL (T : Int) (h : Nat) (s : Int) (zs : List Int) (b : Nat) : List InsR := headL T h ++ (subsL s zs ++ (keepI :: loadsL b))
def subV (s : Int) (zs : List Int) : Int := zs.foldl (fun s x => wrap64 (s - x)) s
theorem headL_len (T : Int) (h : Nat) : (headL T h).length = h + 2 := by simp [headL]
theorem subsL_len (s : Int) (zs : List Int) : (subsL s zs).length = 1 + 2 * zs.length := by
  unfold subsL
  induction zs with
  | nil => rfl
  | cons x zs ih => simp only [List.flatMap_cons, List.length_cons, List.length_append, List.length_nil] at ih ⊢; omega
theorem loadsL_len (b : Nat) : (loadsL b).length = b := by simp [loadsL]
theorem jumpL_len (T : Int) (h : Nat) (s : Int) (zs : List Int) (b : Nat) : (jumpL T h s zs b).length = h + 4 + 2 * zs.length + b := by
  simp only [jumpL, List.length_append, headL_len, subsL_len, List.length_cons, loadsL_len]; omega
theorem tail_mem {s : Int} {zs : List Int} {b : Nat} {y : InsR} (h : y ∈ subsL s zs ++ (keepI :: loadsL b)) : jumpsv y = false := by
  simp only [subsL, loadsL, List.cons_append, List.mem_cons, List.mem_append, List.mem_flatMap, List.mem_map, List.mem_range, List.not_mem_nil, or_false] at h
  rcases h with h | ⟨x, _, h | h⟩ | h | ⟨i, _, h⟩
  · rw [h]; simp [jumpsv, pushR]
  · rw [h]; simp [jumpsv, pushR]
  · rw [h]; simp [jumpsv, subI]
  · rw [h]; simp [jumpsv, keepI]
  · rw [← h]; simp [jumpsv]
theorem head_mem {T : Int} {h : Nat} {y : InsR} (hy : y ∈ headL T h) : y = ⟨16, T, 0⟩ ∨ jumpsv y = false := by
  simp only [headL, List.mem_append, List.mem_cons, List.not_mem_nil, or_false, List.mem_replicate] at hy
  rcases hy with (hy | hy) | hy
  · exact .inr (by rw [hy]; simp [jumpsv, clockI])
  · exact .inl hy
  · exact .inr (by rw [hy.2]; simp [jumpsv, clockI])
theorem jump_free {T : Int} {h : Nat} {s : Int} {zs : List Int} {b : Nat} (k : Nat) (hk : k < h + 4 + 2 * zs.length + b) (hT : T ≠ k) : freev (jumpL T h s zs b) k = true := by
  have h2 : (jumpL T h s zs b).any (hitv (k : Int)) = false := by
    rw [List.any_eq_false]
    intro y hy
    rcases List.mem_append.1 hy with hy | hy
    · rcases head_mem hy with hy | hy
      · rw [hy]; simp [hitv, hT]
      · simp [hitv, hy]
    · simp [hitv, tail_mem hy]
  unfold freev
  rw [h2, jumpL_len]
  simp
  omega
theorem fix_plain {l : List InsR} (h : ∀ y ∈ l, jumpsv y = false) (a m n : Int) : l.map (fixA a m n) = l := by
  conv => rhs; rw [← List.map_id l]
  refine List.map_congr_left fun y hy => ?_
  unfold fixA
  rw [if_neg (by simp [h y hy])]
  rfl
theorem fix_head {T : Int} {h : Nat} (hT : (h : Int) + 5 ≤ T) : (headL T h).map (fixA ((h + 2 : Nat) : Int) 3 1) = headL (T - 2) h := by
  have h1 : fixA ((h + 2 : Nat) : Int) 3 1 clockI = clockI := by unfold fixA; rw [if_neg (by simp [jumpsv, clockI])]
  have h2 : fixA ((h + 2 : Nat) : Int) 3 1 ⟨16, T, 0⟩ = ⟨16, T - 2, 0⟩ := by
    unfold fixA
    rw [if_pos ⟨by simp [jumpsv], by show ((h + 2 : Nat) : Int) < T; omega⟩]
    have h3 : ¬ (T - 3 + 1 < ((h + 2 : Nat) : Int) + 1) := by omega
    rw [if_neg h3]
    have h4 : T - 3 + 1 = T - 2 := by omega
    rw [h4]
  unfold headL
  rw [List.map_append, List.map_replicate, h1, List.map_cons, List.map_cons, List.map_nil, h1, h2]

theorem head_none {T : Int} {h : Nat} {R : List InsR} (j : Nat) (hj : j < h + 2) : ruleV (headL T h ++ R) j = none := by
  unfold ruleV
  rw [List.getElem?_append_left (by rw [headL_len]; exact hj), List.getElem?_eq_getElem (by rw [headL_len]; exact hj)]
  have hm : (headL T h)[j]'(by rw [headL_len]; exact hj) ∈ headL T h := List.getElem_mem _
  have ho : ((headL T h)[j]'(by rw [headL_len]; exact hj)).op = 25 ∨ ((headL T h)[j]'(by rw [headL_len]; exact hj)).op = 16 := by
    simp only [headL, List.mem_append, List.mem_cons, List.not_mem_nil, or_false, List.mem_replicate] at hm
    rcases hm with (hm | hm) | hm
    · left; unfold headL; rw [hm]; rfl
    · right; unfold headL; rw [hm]
    · left; unfold headL; rw [hm.2]; rfl
  simp only []
  rw [if_neg (by omega), if_neg (by omega)]

theorem jump_one (T : Int) (h : Nat) (s x : Int) (zs : List Int) (b : Nat) (hT : (h : Int) + 6 ≤ T) : firstRule (jumpL T h s (x :: zs) b) = some (jumpL (T - 2) h (wrap64 (s - x)) zs b) := by
  refine firstRule_at (i := h + 2) (by rw [jumpL_len]; simp; omega) ?_ (fun j hj => head_none j hj)
  have e : jumpL T h s (x :: zs) b = headL T h ++ (pushR s :: pushR x :: subI :: (zs.flatMap (fun x => [pushR x, subI]) ++ (keepI :: loadsL b))) := by simp [jumpL, subsL]
  have g : ∀ (k : Nat) R, (headL T h ++ R)[h + 2 + k]? = R[k]? := fun k R => by
    rw [List.getElem?_append_right (by rw [headL_len]; omega), headL_len]
    congr 1; omega
  have f1 := jump_free (T := T) (h := h) (s := s) (zs := x :: zs) (b := b) (h + 2 + 1) (by simp; omega) (by omega)
  have f2 := jump_free (T := T) (h := h) (s := s) (zs := x :: zs) (b := b) (h + 2 + 2) (by simp; omega) (by omega)
  rw [e] at f1 f2 ⊢
  have g0 := g 0 (pushR s :: pushR x :: subI :: (zs.flatMap (fun x => [pushR x, subI]) ++ (keepI :: loadsL b)))
  have g1 := g 1 (pushR s :: pushR x :: subI :: (zs.flatMap (fun x => [pushR x, subI]) ++ (keepI :: loadsL b)))
  have g2 := g 2 (pushR s :: pushR x :: subI :: (zs.flatMap (fun x => [pushR x, subI]) ++ (keepI :: loadsL b)))
  simp only [Nat.add_zero, List.getElem?_cons_zero, List.getElem?_cons_succ] at g0 g1 g2
  unfold ruleV
  rw [g0]
  simp only []
  rw [if_neg (by simp [pushR]), if_pos ⟨rfl, by simpa using f1⟩, g1]
  simp only []
  unfold behindV
  rw [if_neg (by simp [pushR]), if_neg (by simp [pushR]), if_neg (by simp [pushR]), if_neg (by
    intro hh
    rcases hh with hh | hh
    · exact hh rfl
    · have f2' : freev (headL T h ++ (pushR s :: pushR x :: subI :: (zs.flatMap (fun x => [pushR x, subI]) ++ (keepI :: loadsL b)))) (((h + 2 : Nat) : Int) + 2) = true := by simpa using f2
      rw [f2'] at hh; cases hh), g2]
  simp only []
  rw [if_neg (by simp [subI])]
  have hd : doV (subI.op + 2) (pushR s).n (pushR x).n = (wrap64 (s - x), true) := by simp [doV, subI, pushR]
  rw [hd, if_pos rfl]
  congr 1
  unfold replv repl
  have hb : (List.length [pushR (wrap64 (s - x), true).1] : Int) = 1 := rfl
  have h3 : ((3 : Nat) : Int) = 3 := rfl
  rw [List.take_left' (headL_len T h), show h + 2 + 3 = (headL T h).length + 3 by rw [headL_len], List.drop_append, List.map_append, List.map_append, hb, h3, fix_head (by omega)]
  rw [fix_plain (l := [pushR (wrap64 (s - x), true).1]) (fun y hy => by rw [List.mem_singleton.1 hy]; simp [jumpsv, pushR])]
  have hdr : List.drop ((headL T h).length + 3) (headL T h) = [] := List.drop_eq_nil_of_le (by omega)
  rw [hdr, List.nil_append, Nat.add_sub_cancel_left]
  simp only [List.drop_succ_cons, List.drop_zero]
  have htl : ∀ y ∈ zs.flatMap (fun x => [pushR x, subI]) ++ (keepI :: loadsL b), jumpsv y = false := fun y hy => tail_mem (s := s) (zs := zs) (b := b) (by simp only [subsL, List.cons_append]; exact List.mem_cons_of_mem _ hy)
  rw [fix_plain htl]
  simp [jumpL, subsL]

theorem jump_end (T : Int) (h : Nat) (s : Int) (b : Nat) (hT : T ≠ (h : Int) + 3) : firstRule (jumpL T h s [] b) = none := firstRule_not fun j hj => by
  rw [jumpL_len] at hj
  simp only [List.length_nil] at hj
  by_cases h1 : j < h + 2
  · exact head_none j h1
  · obtain ⟨k, rfl⟩ : ∃ k, j = h + 2 + k := ⟨j - (h + 2), by omega⟩
    have e : jumpL T h s [] b = headL T h ++ (pushR s :: keepI :: loadsL b) := by simp [jumpL, subsL]
    have g : ∀ (k : Nat) R, (headL T h ++ R)[h + 2 + k]? = R[k]? := fun k R => by
      rw [List.getElem?_append_right (by rw [headL_len]; omega), headL_len]
      congr 1; omega
    rw [e]
    unfold ruleV
    rw [g]
    match k with
    | 0 =>
      simp only [List.getElem?_cons_zero]
      rw [if_neg (by simp [pushR])]
      split
      · rw [show h + 2 + 0 + 1 = h + 2 + 1 from rfl, g]
        simp only [List.getElem?_cons_succ, List.getElem?_cons_zero]
        unfold behindV
        rw [if_neg (by simp [keepI]), if_neg (by simp [keepI]), if_neg (by simp [keepI]), if_pos (.inl (by simp [keepI]))]
      · rfl
    | 1 =>
      simp only [List.getElem?_cons_succ, List.getElem?_cons_zero]
      rw [if_neg (by simp [keepI]), if_neg (by simp [keepI])]
    | k + 2 =>
      simp only [List.getElem?_cons_succ]
      cases e2 : (loadsL b)[k]? with
      | none => rfl
      | some y =>
        have hy : y.op = 2 := by
          obtain ⟨i, _, rfl⟩ := List.mem_map.1 (List.mem_of_getElem? e2)
          rfl
        simp only []
        rw [if_neg (by omega), if_neg (by omega)]
theorem jump_fold (h b : Nat) (t0 : Nat) (ht : t0 < b) : ∀ (zs : List Int) (s : Int), foldv (jumpL ((h : Int) + 4 + 2 * zs.length + t0) h s zs b) = jumpL ((h : Int) + 4 + t0) h (subV s zs) [] b
  | [], s => by
    have e : (h : Int) + 4 + 2 * (([] : List Int).length : Nat) + t0 = (h : Int) + 4 + t0 := by simp
    rw [e, foldv_none (jump_end _ _ _ _ (by omega))]
    rfl
  | x :: zs, s => by
    rw [foldv_some (jump_one _ _ _ _ _ _ (by simp only [List.length_cons]; omega))]
    have e : (h : Int) + 4 + 2 * ((x :: zs).length : Nat) + t0 - 2 = (h : Int) + 4 + 2 * (zs.length : Nat) + t0 := by simp only [List.length_cons]; omega
    rw [e]
    exact jump_fold h b t0 ht zs (wrap64 (s - x))
theorem jump_wf (T : Int) (h : Nat) (s : Int) (zs : List Int) (b : Nat) (hT : In64 T) (hb : b ≤ 1000000) : ∀ y ∈ jumpL T h s zs b, WfI y := fun y hy => ⟨by
  have h0 : In64 0 := by unfold In64; omega
  simp only [jumpL, headL, subsL, loadsL, List.cons_append, List.mem_cons, List.mem_append, List.mem_flatMap, List.mem_map, List.mem_range, List.mem_replicate, List.not_mem_nil, or_false] at hy
  rcases hy with hy | hy | (hy | ⟨_, hy⟩) | hy | ⟨x, _, hy⟩ | hy | ⟨i, hi, hy⟩
  · rw [hy]; exact h0
  · rw [hy]; exact hT
  · exact hy.elim
  · rw [hy]; exact h0
  · rw [hy]; exact h0
  · rcases hy with hy | hy <;> rw [hy] <;> exact h0
  · rw [hy]; exact h0
  · rw [← hy]; show In64 (i : Int); unfold In64; omega⟩
end Go.Proofs.YtnecgfofefinaaaDoor
