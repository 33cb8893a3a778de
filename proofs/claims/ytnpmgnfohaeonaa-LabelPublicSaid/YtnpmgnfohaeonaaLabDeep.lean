/- LabelDeep: the plain law; programs that came in, with a bound on main; rows of statements that the call owns. -/
import Derived.Test.YtnpmgnfohaeonaaLabRow
import Derived.Test.YtnpmgnfohaeonaaLabRdP
import Derived.Maps.AppendAt
namespace Go.Proofs.Ytnpmgnfohaeonaa
set_option linter.unusedVariables false
set_option linter.unusedSimpArgs false
open Go.ChangeShapes Go.WideShapes Go.ChangeAt Go.RowKit

def printT (nm : ByteArray) : StmtT := .mk 5 ⟨#[]⟩ 0 [varT nm] [] []
def nestT : Nat → StmtT → StmtT
  | 0, b => b
  | j + 1, b => .mk (7 + ((j % 2 : Nat) : Int)) ⟨#[]⟩ 0 [varT ⟨#[99]⟩] [nestT j b] []
theorem gS : great ⟨#[83]⟩ = true := by decide
theorem gs : great ⟨#[115]⟩ = false := by decide
theorem gc : great ⟨#[99]⟩ = false := by decide
theorem tellS_print (prm : ByteArray → List ByteArray) (pub : Bool) (nm : ByteArray) : tellS prm pub (printT nm) = great nm := by
  unfold printT
  rw [tellS_eq]
  simp [ownS, leaksv, secE_var, tellE_var]
theorem tellS_nest (prm : ByteArray → List ByteArray) (pub : Bool) (b : StmtT) : ∀ j, tellS prm pub (nestT j b) = tellS prm pub b
  | 0 => rfl
  | j + 1 => by
    rw [nestT, tellS_eq]
    have h := tellS_nest prm pub b j
    have h7 : ownS prm pub (7 + ((j % 2 : Nat) : Int)) ⟨#[]⟩ [varT ⟨#[99]⟩] = false := by
      rcases (show j % 2 = 0 ∨ j % 2 = 1 by omega) with e | e <;> rw [e] <;> simp [ownS, leaksv, secE_var, gc]
    rw [h7]
    simp [tellE_var, h]
theorem badP_snoc (fs : List FuncT) (mn : List StmtT) (t : StmtT) : badP ⟨fs, mn ++ [t]⟩ = (badP ⟨fs, mn⟩ || tellS (prms fs) true t) := by
  unfold badP
  simp only [List.any_append, List.any_cons, List.any_nil, Bool.or_false]
  cases List.any mn (tellS (prms fs) true) <;> cases tellS (prms fs) true t <;> simp
theorem check_bad (fs : List FuncT) (mn : List StmtT) (j : Nat) : checkv ⟨fs, mn ++ [nestT j (printT ⟨#[83]⟩)]⟩ = 5 := by
  unfold checkv
  rw [badP_snoc, tellS_nest, tellS_print, gS]
  simp
theorem check_good (fs : List FuncT) (mn : List StmtT) (j : Nat) : checkv ⟨fs, mn ++ [nestT j (printT ⟨#[115]⟩)]⟩ = checkv ⟨fs, mn⟩ := by
  unfold checkv
  rw [badP_snoc, tellS_nest, tellS_print, gs, Bool.or_false]

/-- programs that came in; main is not too long -/
def rdProgS : Rd ProgT := ⟨2, fun w p cs => ∃ A c B cb, cs = [.slice A p.funcs.length c, .slice B p.main.length cb] ∧ Funcs w (Lt w) A c p.funcs ∧ Stmts w (Lt w) B cb p.main ∧ p.main.length * 104 ≤ 140737488351232⟩
theorem opens_progS : ∀ n, Rd.Opens Try.prog 25 rdProgS n := fun n H enc W base spare held fuel cs x hf h hw => by
    obtain ⟨m, hm, hl, hp⟩ := Rd.open_struct [22, 23] Try.underlying25 (by kernel_rfl) (by kernel_rfl) (by kernel_rfl) h hw
    match cs, hl with
    | [c0, c1], _ =>
      obtain ⟨y0, h0, w0⟩ := hp 0 _ c0 rfl rfl
      obtain ⟨y1, h1, w1⟩ := hp 1 _ c1 rfl rfl
      obtain ⟨xs, hk, _⟩ := Rd.opens_slice (bytes := 64) Try.underlying22 (by kernel_rfl) (by decide) (by kernel_rfl) (opens_func m) H enc W base spare held m [c0] y0 (by omega) h0 w0
      obtain ⟨A, cp, e0, hx⟩ := funcs_of hk
      obtain ⟨ys, hk2, _⟩ := Rd.opens_slice (bytes := 104) Try.underlying23 (by kernel_rfl) (by decide) (by kernel_rfl) (opens_stmt m) H enc W base spare held m [c1] y1 (by omega) h1 w1
      have hb : ys.length * 104 ≤ 140737488351232 := by obtain ⟨_, _, _, _, h, _⟩ := hk2; exact h
      obtain ⟨B, cb, e1, hy⟩ := stmts_of hk2
      subst e0 e1
      exact ⟨⟨xs, ys⟩, ⟨A, cp, B, cb, rfl, hx, hy, hb⟩, rfl⟩

theorem flatK (k : Nat) (rows : List (List Value)) (hs : ∀ ds ∈ rows, ds.length = k) (j i : Nat) (ds : List Value) (h : rows[j]? = some ds) (u : Value) (hu : ds[i]? = some u) : rows.flatten[j * k + i]? = some u := by
  induction rows generalizing j with
  | nil => simp at h
  | cons r rs ih =>
    have hr : r.length = k := hs r (by simp)
    cases j with
    | zero =>
      simp at h
      subst h
      have hi := (List.getElem?_eq_some_iff.1 hu).1
      rw [List.flatten_cons, List.getElem?_append_left (by omega)]
      simpa using hu
    | succ j =>
      have e : (j + 1) * k = j * k + k := by rw [Nat.add_mul, Nat.one_mul]
      rw [List.flatten_cons, List.getElem?_append_right (by omega), hr, show (j + 1) * k + i - k = j * k + i by omega]
      exact ih (fun ds hd => hs ds (by simp [hd])) j (by simpa using h)
theorem flatK_length (k : Nat) (rows : List (List Value)) (hs : ∀ ds ∈ rows, ds.length = k) : rows.flatten.length = rows.length * k := by
  induction rows with
  | nil => simp
  | cons r rs ih =>
    rw [List.flatten_cons, List.length_append, ih (fun ds hd => hs ds (by simp [hd])), hs r (by simp), List.length_cons, Nat.add_mul]
    omega
/-- a row of statements that the call owns -/
theorem stmts_own {w : World} {base : Nat} {A : Option Addr} {c n : Nat} {rows : List (List Value)} {l : List StmtT} (h : w.ownsRow base 42 6 (.slice A n c) n rows.flatten) (hl : rows.length = n) (hs : ∀ ds ∈ rows, ds.length = 6) (hn : l.length = n)
    (hi : ∀ (i : Nat) (t : StmtT), l[i]? = some t → ∃ ds, rows[i]? = some ds ∧ IsStmt w (Lt w) t ds) (hm : n ≤ 8796093022208) : Stmts w (Lt w) A c l := by
  have hc : n ≤ c := by
    rcases h.2 with ⟨e, h0⟩ | ⟨g, cap, cur, e, _, _, h1, _⟩
    · injection e with _ _ e3; omega
    · injection e with _ _ e3; omega
  refine ⟨fun j => rows.getD j [], ⟨by omega, by omega, fun h0 => ?_⟩, fun j x hx => ?_⟩
  · obtain ⟨g, cap, e, hlt, hcell⟩ := ownsRow_at h (by omega)
    injection e with e1 e2 e3
    subst e1
    refine ⟨g, 0, rfl, fun j hj => ⟨hlt, hlt, fun i u hu => ?_⟩⟩
    rw [Nat.zero_add]
    have hj2 : j < rows.length := by omega
    rw [List.getD_eq_getElem?_getD, List.getElem?_eq_getElem hj2] at hu
    exact hcell _ _ (flatK 6 rows hs j i rows[j] (List.getElem?_eq_getElem hj2) u hu)
  · obtain ⟨ds, e, hie⟩ := hi j x hx
    simp only [List.getD_eq_getElem?_getD, e, Option.getD_some]
    exact hie
theorem isStmt_len {w : World} {X : Nat → Prop} {t : StmtT} {ds : List Value} (h : IsStmt w X t ds) : ds.length = 6 := by cases h; rfl
/-- the cells of a row that came in, one after another -/
theorem stmts_rows {w : World} {X : Nat → Prop} {A : Option Addr} {c : Nat} {l : List StmtT} (h : Stmts w X A c l) : ∃ rows : List (List Value), rows.length = l.length ∧ (∀ ds ∈ rows, ds.length = 6) ∧ (∀ (i : Nat) (t : StmtT), l[i]? = some t → ∃ ds, rows[i]? = some ds ∧ IsStmt w X t ds) ∧
    (0 < l.length → ∃ b off, A = some ⟨b, off, none⟩ ∧ ∀ (j : Nat) u, rows.flatten[j]? = some u → w.cell? ⟨b, off + j, none⟩ = some u) := by
  obtain ⟨f, h1, h2⟩ := h
  have hs6 : ∀ ds ∈ (List.range l.length).map f, ds.length = 6 := fun ds hd => by
    obtain ⟨j, hj, rfl⟩ := List.mem_map.1 hd
    have hj := List.mem_range.1 hj
    exact isStmt_len (h2 j l[j] (List.getElem?_eq_getElem hj))
  refine ⟨(List.range l.length).map f, by simp, hs6, fun i t ht => ?_, fun h0 => ?_⟩
  · have hj := (List.getElem?_eq_some_iff.1 ht).1
    exact ⟨f i, by simp [hj], h2 i t ht⟩
  · obtain ⟨b, off, e, hx⟩ := h1.at_ h0
    refine ⟨b, off, e, fun j u hu => ?_⟩
    have hjl := (List.getElem?_eq_some_iff.1 hu).1
    rw [flatK_length 6 _ hs6, List.length_map, List.length_range] at hjl
    have hq : j / 6 < l.length := by omega
    have hr : j % 6 < (f (j / 6)).length := by
      have := isStmt_len (h2 (j / 6) l[j / 6] (List.getElem?_eq_getElem hq))
      omega
    have hf := flatK 6 _ hs6 (j / 6) (j % 6) (f (j / 6)) (by simp [hq]) (f (j / 6))[j % 6] (List.getElem?_eq_getElem hr)
    rw [show j / 6 * 6 + j % 6 = j by omega, hu] at hf
    injection hf with hf
    have := (hx (j / 6) hq).2.2 (j % 6) _ (List.getElem?_eq_getElem hr)
    rw [show off + j / 6 * 6 + j % 6 = off + j by omega] at this
    rw [this, hf]
theorem infoStmt : (Try.prog.info? 42).map (fun i => (i.zero, i.size, i.bytes)) = some (some (.agg #[.int .i64 0, .string ByteArray.empty, .int .i64 0, .slice none 0 0, .slice none 0 0, .slice none 0 0]), 6, 104) := by kernel_rfl
end Go.Proofs.Ytnpmgnfohaeonaa
