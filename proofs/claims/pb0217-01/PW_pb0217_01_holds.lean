import PyProof.Rows.All
import Wide.All
import OpenK.AllK
import Wide.FinOn
import Lean
import PySem.Challenge.RW_pb0217_01
open PySem PySem.W PyProof.Rows
set_option Elab.async false
namespace Mine
set_option maxRecDepth 100000 in
set_option maxHeartbeats 8000000 in
open_top hd for PySem.Challenge.rw_pb0217_01
end Mine

namespace Mine
def occE (n : Nat) : Bool := (Builtin.Str.occurrences (Str.ofString "\"'") ⟨#[n]⟩ 0 (Str.ofString "\"'").length 1).isEmpty
def stepS (f : Str) (n : Int) : Str :=
  if (f == Str.ofString "") = true ∧ occE n.toNat = false then ⟨#[n.toNat]⟩
  else if ((⟨#[n.toNat]⟩ : Str) == f) = true then Str.ofString "" else f
def oqI (l : List Int) : Str := l.foldl stepS (Str.ofString "")
/-- what open_quote gives back -/
def oq (x : Str) : Str := oqI (KStt.codes x)

/-- the same over plain lists: none is open, or one is -/
def stepN (f : Option Nat) (n : Nat) : Option Nat :=
  match f with
  | none => if n = 34 ∨ n = 39 then some n else none
  | some q => if n = q then none else some q
def runN (f : Option Nat) (l : List Nat) : Option Nat := l.foldl stepN f
def strOf : Option Nat → Str
  | none => Str.ofString ""
  | some q => ⟨#[q]⟩

theorem one_ne (q : Nat) : ((⟨#[q]⟩ : Str) == Str.ofString "") = false := by
  have e : (Str.ofString "") = (⟨#[]⟩ : Str) := by decide
  rw [e]
  exact beq_eq_false_iff_ne.mpr fun h => by cases h
theorem ne_one (q : Nat) : (Str.ofString "" == (⟨#[q]⟩ : Str)) = false := by
  have e : (Str.ofString "") = (⟨#[]⟩ : Str) := by decide
  rw [e]
  exact beq_eq_false_iff_ne.mpr fun h => by cases h
theorem one_eq (n q : Nat) : ((⟨#[n]⟩ : Str) == ⟨#[q]⟩) = decide (n = q) := by
  by_cases h : n = q
  · subst h; simp
  · rw [decide_eq_false h]
    exact beq_eq_false_iff_ne.mpr fun e => h (by injection e with e; simpa using e)
theorem occE_eq (n : Nat) : occE n = !decide (n = 34 ∨ n = 39) := by
  have h := StrLaws.found_one (Str.ofString "\"'") n
  have e : (Str.ofString "\"'").cps.toList = [34, 39] := by decide
  rw [e] at h
  unfold occE
  rw [← Bool.not_not (List.isEmpty _), h]
  simp
theorem stepS_str (f : Option Nat) (n : Nat) : stepS (strOf f) (n : Int) = strOf (stepN f n) := by
  have h1 : (⟨#[n]⟩ : Str) ≠ Str.ofString "" := by have := one_ne n; simpa using this
  unfold stepS
  rw [Int.toNat_natCast, occE_eq]
  cases f with
  | none => by_cases h : n = 34 ∨ n = 39 <;> simp [strOf, stepN, h, h1]
  | some q =>
    have h2 : (⟨#[q]⟩ : Str) ≠ Str.ofString "" := by have := one_ne q; simpa using this
    by_cases h : n = q <;> simp [strOf, stepN, h, h2]
theorem oqI_run : ∀ (l : List Nat) (f : Option Nat), (l.map fun (c : Nat) => (c : Int)).foldl stepS (strOf f) = strOf (runN f l)
  | [], _ => rfl
  | n :: l, f => by
    rw [List.map_cons, List.foldl_cons, stepS_str, oqI_run l]; rfl
theorem oq_run (x : Str) : oq x = strOf (runN none x.cps.toList) := oqI_run _ none
theorem run_append (f : Option Nat) (l r : List Nat) : runN f (l ++ r) = runN (runN f l) r := List.foldl_append
theorem run_cons (f : Option Nat) (n : Nat) (l : List Nat) : runN f (n :: l) = runN (stepN f n) l := rfl
theorem run_none : ∀ {l : List Nat}, 34 ∉ l → 39 ∉ l → runN none l = none
  | [], _, _ => rfl
  | n :: l, h1, h2 => by
    have a : ¬ (n = 34 ∨ n = 39) := by rintro (rfl | rfl); exact h1 (.head _); exact h2 (.head _)
    rw [run_cons, show stepN none n = none from if_neg a]
    exact run_none (fun h => h1 (.tail _ h)) fun h => h2 (.tail _ h)
theorem run_some {q : Nat} : ∀ {l : List Nat}, q ∉ l → runN (some q) l = some q
  | [], _ => rfl
  | n :: l, h => by
    have hne : n ≠ q := by rintro rfl; exact h (.head _)
    rw [run_cons, show stepN (some q) n = some q from if_neg hne]
    exact run_some fun h' => h (.tail _ h')
/-- what is open is a quote -/
theorem run_is : ∀ (l : List Nat) (f : Option Nat), (∀ q, f = some q → q = 34 ∨ q = 39) → ∀ q, runN f l = some q → q = 34 ∨ q = 39
  | [], _, h, q, e => h q e
  | n :: l, f, h, q, e => by
    refine run_is l (stepN f n) (fun q' e' => ?_) q e
    cases f with
    | none =>
      have e' : (if n = 34 ∨ n = 39 then some n else none) = some q' := e'
      split at e'
      · cases e'; assumption
      · cases e'
    | some p =>
      have e' : (if n = p then none else some p) = some q' := e'
      split at e'
      · cases e'
      · exact h q' e'

theorem at_one {x : Str} {c i : Nat} : StrLaws.At x ⟨#[c]⟩ x.length i ↔ x.cps.toList[i]? = some c := by
  unfold StrLaws.At
  rw [StrLaws.subAt_eq]
  show i + 1 ≤ x.length ∧ ((x.cps.toList.drop i).take 1 == [c]) = true ↔ _
  have hl : x.length = x.cps.toList.length := by simp [Str.length]
  rw [hl, beq_iff_eq]
  constructor
  · rintro ⟨h1, h2⟩
    have : (x.cps.toList.drop i)[0]? = some c := by
      cases hd : x.cps.toList.drop i with
      | nil => rw [hd] at h2; cases h2
      | cons a r => rw [hd] at h2; simpa using h2
    simpa using this
  · intro h
    have hi : i < x.cps.toList.length := (List.getElem?_eq_some_iff.mp h).1
    refine ⟨hi, ?_⟩
    rw [List.drop_eq_getElem_cons hi]
    have := (List.getElem?_eq_some_iff.mp h).2
    simp [this]
theorem find_one (x : Str) (c : Nat) : (Txt.find x ⟨#[c]⟩ = -1 ∧ c ∉ x.cps.toList) ∨ ∃ i : Nat, Txt.find x ⟨#[c]⟩ = (i : Int) ∧ x.cps.toList[i]? = some c ∧ ∀ k, k < i → x.cps.toList[k]? ≠ some c := by
  rcases find_whole x ⟨#[c]⟩ with ⟨h, hn⟩ | ⟨i, h, ha, hn⟩
  · refine .inl ⟨h, fun hm => ?_⟩
    obtain ⟨i, hi⟩ := List.getElem?_of_mem hm
    exact hn i (at_one.mpr hi)
  · exact .inr ⟨i, h, at_one.mp ha, fun k hk e => hn k hk (at_one.mpr e)⟩
theorem not_take {l : List Nat} {c i : Nat} (h : ∀ k, k < i → l[k]? ≠ some c) : c ∉ l.take i := fun hm => by
  obtain ⟨k, hk⟩ := List.getElem?_of_mem hm
  rw [List.getElem?_take] at hk
  split at hk
  · exact h k (by assumption) hk
  · cases hk
theorem split_at {l : List Nat} {i q : Nat} (h : l[i]? = some q) : l = l.take i ++ q :: l.drop (i + 1) := by
  obtain ⟨hi, e⟩ := List.getElem?_eq_some_iff.mp h
  exact (List.take_append_drop i l).symm.trans (by rw [List.drop_eq_getElem_cons hi, e])
theorem item_at {x : Str} {i q : Nat} (h : x.cps.toList[i]? = some q) : Txt.item x (i : Int) = ⟨#[q]⟩ := by
  obtain ⟨hi, e⟩ := List.getElem?_eq_some_iff.mp h
  have hx : i < x.length := by simpa [Str.length] using hi
  have hs : seqIndex? (i : Int) x.length = some i := by
    unfold seqIndex?
    have h0 : ¬ ((i : Int) < 0) := by omega
    simp only [h0, if_false]
    rw [if_pos (by simp only [Bool.and_eq_true, decide_eq_true_eq]; omega), Int.toNat_natCast]
  unfold Txt.item Txt.charAt
  rw [hs]
  have : x.cps[i]? = some q := by simpa using h
  simp [this]
theorem slice_at {x : Str} {i : Nat} (h : i ≤ x.length) : (Txt.slice x (some (i : Int)) none).cps.toList = x.cps.toList.drop i := by
  rw [slice_from_eq (b := (x.length : Int)) (by omega) (by omega) rfl]
  show (x.cps.toList.drop _).take _ = _
  rw [Int.toNat_natCast]
  refine List.take_of_length_le ?_
  rw [List.length_drop]
  have : x.cps.toList.length = x.length := by simp [Str.length]
  omega
theorem slice_to {x : Str} {j : Nat} (h : j ≤ x.length) : (Txt.slice x none (some (j : Int))).cps.toList = x.cps.toList.take j := by
  rw [beq_iff_eq.mp (slice_closes_toL (x := x) (j := (j : Int)) (by omega) (by omega))]
  show (x.cps.toList.drop _).take _ = _
  simp
/-- what the list of the places says -/
def Spots (x : Str) (ns : List Int) : Prop := ∀ a, a ∈ ns ↔ 0 ≤ a ∧ (a = Txt.find x (Str.ofString "'") ∨ a = Txt.find x (Str.ofString "\""))
theorem tick_is : (Str.ofString "'") = (⟨#[39]⟩ : Str) := by decide
theorem quote_is : (Str.ofString "\"") = (⟨#[34]⟩ : Str) := by decide
theorem lo_none {x V : Str} {ns : List Int} (h : oq x = oq V) (e : ns = []) (hns : Spots x ns) : Str.ofString "" = oq V := by
  subst e
  unfold Spots at hns
  rw [tick_is, quote_is] at hns
  rw [← h, oq_run]
  have h1 : 34 ∉ x.cps.toList := by
    rcases find_one x 34 with ⟨_, hn⟩ | ⟨i, hi, _⟩
    · exact hn
    · exact absurd ((hns i).mpr ⟨by omega, .inr hi.symm⟩) (by simp)
  have h2 : 39 ∉ x.cps.toList := by
    rcases find_one x 39 with ⟨_, hn⟩ | ⟨i, hi, _⟩
    · exact hn
    · exact absurd ((hns i).mpr ⟨by omega, .inl hi.symm⟩) (by simp)
  rw [run_none h1 h2]
  rfl
theorem lo_first {x : Str} {ns : List Int} {M : Int} (hns : Spots x ns) (hM : M ∈ ns) (hl : ∀ a, a ∈ ns → M ≤ a) :
    ∃ i q : Nat, M = (i : Int) ∧ x.cps.toList[i]? = some q ∧ (q = 34 ∨ q = 39) ∧ 34 ∉ x.cps.toList.take i ∧ 39 ∉ x.cps.toList.take i := by
  unfold Spots at hns
  rw [tick_is, quote_is] at hns
  obtain ⟨h0, h⟩ := (hns M).mp hM
  have other : ∀ c, (c = 34 ∨ c = 39) → ∀ k : Nat, (k : Int) < M → x.cps.toList[k]? ≠ some c := by
    intro c hc k hk e
    rcases find_one x c with ⟨_, hn⟩ | ⟨j, hj, _, hjn⟩
    · exact hn (List.mem_of_getElem? e)
    · have : M ≤ (j : Int) := hl j ((hns j).mpr ⟨by omega, by rcases hc with rfl | rfl; exact .inr hj.symm; exact .inl hj.symm⟩)
      exact hjn k (by omega) e
  rcases h with h | h
  · rcases find_one x 39 with ⟨e, _⟩ | ⟨i, hi, hq, _⟩
    · omega
    · exact ⟨i, 39, by omega, hq, .inr rfl, not_take fun k hk => other 34 (.inl rfl) k (by omega), not_take fun k hk => other 39 (.inr rfl) k (by omega)⟩
  · rcases find_one x 34 with ⟨e, _⟩ | ⟨i, hi, hq, _⟩
    · omega
    · exact ⟨i, 34, by omega, hq, .inl rfl, not_take fun k hk => other 34 (.inl rfl) k (by omega), not_take fun k hk => other 39 (.inr rfl) k (by omega)⟩
theorem lo_turn {x r : Str} {ns : List Int} {M : Int} (hns : Spots x ns) (hM : M ∈ ns) (hl : ∀ a, a ∈ ns → M ≤ a) (hr : Txt.slice x (some (M + 1)) none = r) :
    ∃ q : Nat, Txt.item x M = ⟨#[q]⟩ ∧ oq x = strOf (runN (some q) r.cps.toList) ∧ r.length < x.length := by
  obtain ⟨i, q, rfl, hq, hk, h1, h2⟩ := lo_first hns hM hl
  have hi : i < x.length := by simpa [Str.length] using (List.getElem?_eq_some_iff.mp hq).1
  have hrl : r.cps.toList = x.cps.toList.drop (i + 1) := by
    rw [← hr, show ((i : Int) + 1) = ((i + 1 : Nat) : Int) by omega]
    exact slice_at hi
  refine ⟨q, item_at hq, ?_, ?_⟩
  · rw [oq_run, hrl]
    conv => lhs; rw [split_at hq]
    rw [run_append, run_none h1 h2, run_cons, show stepN none q = some q from if_pos hk]
  · have : r.length = r.cps.toList.length := by simp [Str.length]
    rw [this, hrl, List.length_drop]
    have : x.length = x.cps.toList.length := by simp [Str.length]
    omega
theorem lo_open {x V r : Str} {ns : List Int} {M : Int} (h : oq x = oq V) (hns : Spots x ns) (hM : M ∈ ns) (hl : ∀ a, a ∈ ns → M ≤ a)
    (hr : Txt.slice x (some (M + 1)) none = r) (hf : Txt.find r (Txt.item x M) < 0) : Txt.item x M = oq V := by
  obtain ⟨q, hi, ho, _⟩ := lo_turn hns hM hl hr
  rw [hi] at hf ⊢
  rw [← h, ho]
  rcases find_one r q with ⟨_, hn⟩ | ⟨j, hj, _⟩
  · rw [run_some hn]; rfl
  · omega
theorem lo_on {x V r : Str} {ns : List Int} {M : Int} (h : oq x = oq V) (hns : Spots x ns) (hM : M ∈ ns) (hl : ∀ a, a ∈ ns → M ≤ a)
    (hr : Txt.slice x (some (M + 1)) none = r) (hf : ¬ Txt.find r (Txt.item x M) < 0) : oq (Txt.slice r (some (Txt.find r (Txt.item x M) + 1)) none) = oq V ∧ (Txt.slice r (some (Txt.find r (Txt.item x M) + 1)) none).length < x.length := by
  obtain ⟨q, hi, ho, hlt⟩ := lo_turn hns hM hl hr
  rw [hi] at hf ⊢
  refine ⟨?_, Nat.lt_of_le_of_lt (Txt.slice_le r _ _) hlt⟩
  rcases find_one r q with ⟨hj, _⟩ | ⟨j, hj, hq, hn⟩
  · omega
  · have hjl : j < r.length := by simpa [Str.length] using (List.getElem?_eq_some_iff.mp hq).1
    rw [hj, ← h, ho, oq_run, show ((j : Int) + 1) = ((j + 1 : Nat) : Int) by omega, slice_at hjl]
    conv => rhs; rw [split_at hq]
    rw [run_append, run_some (not_take hn), run_cons, show stepN (some q) q = none from if_pos rfl]
theorem lo_exit {x V : Str} (h : oq x = oq V) (e : (x != Str.ofString "") = false) : Str.ofString "" = oq V := by
  have e' : x = Str.ofString "" := by simpa using e
  rw [← h, e']; rfl
theorem lo_bounds {x : Str} {ns : List Int} {M : Int} (hns : Spots x ns) (hM : M ∈ ns) : 0 ≤ M ∧ M < (x.length : Int) := by
  obtain ⟨h0, h⟩ := (hns M).mp hM
  have h1 := fact_find x (Str.ofString "'")
  have h2 := fact_find x (Str.ofString "\"")
  have e1 : (Str.ofString "'").length = 1 := by decide
  have e2 : (Str.ofString "\"").length = 1 := by decide
  omega
theorem toList_append (x y : Str) : (x ++ y).cps.toList = x.cps.toList ++ y.cps.toList := by
  rw [PySem.Str.cps_append, Array.toList_append]
theorem oq_append (x y : Str) : oq (x ++ y) = strOf (runN (runN none x.cps.toList) y.cps.toList) := by
  rw [oq_run, toList_append, run_append]
theorem lit_x : (Str.ofString "x 'y'").cps.toList = [120, 32, 39, 121, 39] := by decide
theorem lit_a : (Str.ofString " a").cps.toList = [32, 97] := by decide
theorem lit_t : (Str.ofString "'").cps.toList = [39] := by decide
theorem lit_q : (Str.ofString "\"").cps.toList = [34] := by decide
/-- at every cut: what the parts leave open -/
theorem law_facts {y : Str} {k : Int} {j : Nat} (hk : k = (j : Int)) (hj : j ≤ y.length) :
    (oq (Txt.slice y none (some k)) = Str.ofString "" ∧ oq y = oq (Txt.slice y (some k) none) ∧ oq (Txt.slice y none (some k) ++ Str.ofString "x 'y'") = Str.ofString "" ∧ oq (Txt.slice y none (some k) ++ Str.ofString "'") = Str.ofString "'" ∧ oq (Txt.slice y none (some k) ++ Str.ofString "\"") = Str.ofString "\"") ∨
    (oq (Txt.slice y none (some k)) = Str.ofString "'" ∧ oq (Txt.slice y none (some k) ++ Str.ofString "'") = Str.ofString "" ∧ oq (Txt.slice y none (some k) ++ Str.ofString " a" ++ Str.ofString "\"") = Str.ofString "'") ∨
    (oq (Txt.slice y none (some k)) = Str.ofString "\"" ∧ oq (Txt.slice y none (some k) ++ Str.ofString "\"") = Str.ofString "" ∧ oq (Txt.slice y none (some k) ++ Str.ofString " a" ++ Str.ofString "'") = Str.ofString "\"") := by
  subst hk
  have hA := slice_to hj
  have hB := slice_at hj
  have hs : y.cps.toList = (Txt.slice y none (some (j : Int))).cps.toList ++ (Txt.slice y (some (j : Int)) none).cps.toList := by
    rw [hA, hB, List.take_append_drop]
  generalize Txt.slice y none (some (j : Int)) = A at *
  generalize Txt.slice y (some (j : Int)) none = B at *
  simp only [oq_run, toList_append, run_append, lit_x, lit_a, lit_t, lit_q]
  cases h : runN none A.cps.toList with
  | none =>
    refine .inl ⟨rfl, ?_, by decide +kernel, by decide +kernel, by decide +kernel⟩
    rw [hs, run_append, h]
  | some q =>
    rcases run_is _ none (fun _ e => by cases e) q h with rfl | rfl
    · exact .inr (.inr ⟨by decide +kernel, by decide +kernel, by decide +kernel⟩)
    · exact .inr (.inl ⟨by decide +kernel, by decide +kernel, by decide +kernel⟩)
end Mine

namespace Mine
theorem oqI_snoc (l : List Int) (n : Nat) : oqI (l ++ [(n : Int)]) = stepS (oqI l) n := by
  unfold oqI; rw [List.foldl_append]; rfl
theorem st0 : Str.ofString "" = oqI [] := rfl
section
variable {f : Str} {l : List Int} {n : Nat}
theorem st1 (h : f = oqI l) (a : (f == Str.ofString "") = true) (b : (Builtin.Str.occurrences (Str.ofString "\"'") ⟨#[n]⟩ 0 (Str.ofString "\"'").length 1).isEmpty = false) : (⟨#[n]⟩ : Str) = oqI (l ++ [(n : Int)]) := by
  rw [oqI_snoc, ← h]; unfold stepS; rw [if_pos ⟨a, b⟩]; rfl
theorem st2 (h : f = oqI l) (a : (f == Str.ofString "") = true) (b : (Builtin.Str.occurrences (Str.ofString "\"'") ⟨#[n]⟩ 0 (Str.ofString "\"'").length 1).isEmpty = true) (c : ((⟨#[n]⟩ : Str) == f) = true) : Str.ofString "" = oqI (l ++ [(n : Int)]) := by
  rw [oqI_snoc, ← h]; unfold stepS; rw [if_neg (by intro ⟨_, q⟩; unfold occE at q; rw [Int.toNat_natCast, b] at q; cases q), if_pos (by rw [Int.toNat_natCast]; exact c)]
theorem st3 (h : f = oqI l) (a : (f == Str.ofString "") = true) (b : (Builtin.Str.occurrences (Str.ofString "\"'") ⟨#[n]⟩ 0 (Str.ofString "\"'").length 1).isEmpty = true) (c : ((⟨#[n]⟩ : Str) == f) = false) : f = oqI (l ++ [(n : Int)]) := by
  rw [oqI_snoc, ← h]; unfold stepS; rw [if_neg (by intro ⟨_, q⟩; unfold occE at q; rw [Int.toNat_natCast, b] at q; cases q), if_neg (by rw [Int.toNat_natCast, c]; simp)]
theorem st4 (h : f = oqI l) (a : (f == Str.ofString "") = false) (c : ((⟨#[n]⟩ : Str) == f) = true) : Str.ofString "" = oqI (l ++ [(n : Int)]) := by
  rw [oqI_snoc, ← h]; unfold stepS; rw [if_neg (by intro ⟨q, _⟩; rw [a] at q; cases q), if_pos (by rw [Int.toNat_natCast]; exact c)]
theorem st5 (h : f = oqI l) (a : (f == Str.ofString "") = false) (c : ((⟨#[n]⟩ : Str) == f) = false) : f = oqI (l ++ [(n : Int)]) := by
  rw [oqI_snoc, ← h]; unfold stepS; rw [if_neg (by intro ⟨q, _⟩; rw [a] at q; cases q), if_neg (by rw [Int.toNat_natCast, c]; simp)]
end

/-- what a call of a pure def of one text gives back -/
def TxClaim (w : World) (s₀ : Shared) (mg mb : Str → Option Value) (f : Addr) (g : Str → Str) (P : Str → Prop) : Prop :=
  ∀ (news : List (Addr × Obj)) (V : Str) (T : Tok) (dp un : Nat) (gd : Option (List Code)) (cn : Str) (cs : Scope) (a : Addr) (ccd : Value) (cl : List (Str × Addr)) (outer : List Env) (A₀ : Around) (base h₀ : Heap) (L : Addr) (m : Str → Option Value) (s : Shared) (Q E : Value → Shared → Prop),
    Below A₀ base outer h₀ → Fr h₀ L s.heap m → (Mine.hd.heap_39 w.params).In h₀ → News h₀ L s.heap news → Top Mine.hd.view_39 (looseW Mine.hd.view_39 []) (ExcName.means s₀.heap) mg mb h₀ → cs.kind = .function →
    dp + 1 < recursionLimit → un + 100 < cLine → P V → (∀ (t : Tok) (h' : Heap) (tk' : Nat), Fr h₀ L h' m → News h₀ L h' news → Q (.str (g V) t) { s with heap := h', toks := tk' }) →
    wpAny (model PySem.Challenge.rw_pb0217_01.row.prog w) (ktrTop dp un gd cn cs L a ccd cl outer) (call (.ref f) [.str V T]) Q E s

set_option maxRecDepth 100000 in
set_option maxHeartbeats 8000000 in
theorem oq_call (w : World) {s₀ : Shared} {mg mb : Str → Option Value} : TxClaim w s₀ mg mb 21 oq (fun _ => True) := by
  unfold TxClaim
  w_on
  w_top on
  k_with_none
  k_fill
  k_with "pyIter str" => k_state (fun pre f => f = Mine.oqI pre) "found"
  k_with "state" => first | exact st0 | exact st1 (by assumption) (by assumption) (by assumption) | exact st2 (by assumption) (by assumption) (by assumption) (by assumption) | exact st3 (by assumption) (by assumption) (by assumption) (by assumption) | exact st4 (by assumption) (by assumption) (by assumption) | exact st5 (by assumption) (by assumption) (by assumption)
  k_with "tree" => simp only [oq, *]
  w_strict (intro news V T dp un gd cn cs fa ccd cl outer A₀ base h₀ L m s Q E hBe hFr hKI hNe hTo hki hdp hun hVl hret; refine wpAny_call ?_; k_dflt cell_enter; k_steps; all_goals cb_end hret)
end Mine

namespace Mine
/-- what the comprehension's source hands on: a written tuple of the ledger -/
def TupSrc (prog : Program) (w : World) (A : Around) (h₀ : Heap) (L : Addr) (m : Str → Option Value) (env : Env) (ct elt : Expr) (x y : Str) (scope : Scope) (cl : List (Str × Addr)) (Q : Flow → Shared → Prop) (xv : Value) (s₁ : Shared) : Prop :=
  ∃ (ax : Addr) (its : Array Value) (k : Nat) (news : List (Addr × Obj)), xv = .ref ax ∧ A.handled = none ∧ Fr h₀ L s₁.heap m ∧ News h₀ L s₁.heap news ∧ (ax, ({ cls := .type "tuple", data := .seq its k } : Obj)) ∈ news ∧ its.size ≤ sizeLine ∧
    ∀ g : Heap, LCt.CompRestT prog w A h₀ L m env ct elt x scope cl { s₁ with heap := g } (fun nw => (ax, ({ cls := .type "tuple", data := .seq its k } : Obj)) ∈ nw) (fun i v => its[i]? = some v) (LCg.FinA h₀ L m { s₁ with heap := g } y Q) its.size 0 [] news

theorem asg_tuple {prog : Program} {w : World} {A : Around} {E : Value → Shared → Prop} {s : Shared} {h₀ : Heap} {L : Addr} {m : Str → Option Value} {env : Env} {ct elt iter : Expr} {x y : Str} {px py : Pos} {scope : Scope} {cl : List (Str × Addr)} {pos spos : Pos} {Q : Flow → Shared → Prop}
    (_F₀ : Fr h₀ L s.heap m) (hLe : env.locals = L)
    (hsw : swapsWith (.ListComp elt [⟨.Name x px, iter, [ct], 0⟩] scope pos) (some (.Name y py)) spos.line env = pure true)
    (hclos : closureFor scope env = pure cl) (hcell : ∀ z ∈ scope.names, z.2 ≠ .cell) (hkind : scope.kind = .function)
    (hnames : ∀ z ∈ scope.names, z.2 = .local → scope.names.lookup z.1 = some .local) (hx : scope.names.lookup x = some .local)
    (hy : env.kindOf y = some .local) (hp : (env.scope.kind == .class || (env.scope.kind == .module && env.locals != env.globals)) = false)
    (h : wpAny (model prog w) A (eval iter env) (TupSrc prog w A h₀ L m env ct elt x y scope cl Q) E s)
    (hs : ∀ x, foldedSetIterable iter env x = pure x := by intro _; rfl) :
    wpAny (model prog w) A (exec (.Assign [.Name y py] (.ListComp elt [⟨.Name x px, iter, [ct], 0⟩] scope pos) spos) env) Q E s := by
  subst hLe
  rw [exec_Assign_Name_used _ _ _ _ hsw]
  refine wpAny_bind (wpAny_standAt (wpAny_bind ?_))
  show wpAny _ A (do let _ ← comprehension (.ListComp elt [⟨.Name x px, iter, [ct], 0⟩] scope pos) scope env _ (newList []) false (eval iter env) (some (assign (.Name y py) env))) _ _ s
  refine wpAny_bind (wpAny_mono (wpAny_comprehension_free (use := some (assign (.Name y py) env)) (Q := fun _ s' => Q .next s') rfl hs hclos hkind hnames
    (wpAny_mono h (fun xv s₁ h₁ => ?_) fun _ _ e => e)) (fun _ s' hq => wpAny_pure (wpAny_pure hq)) fun _ _ e => e)
  obtain ⟨ax, its, k, news, rfl, hh, F, N, hm, hsz, R⟩ := h₁
  have htup : s₁.heap.IsTuple ax its := ⟨_, (N _ hm).1, rfl, k, rfl⟩
  have hlt : ax < s₁.heap.objs.size := Heap.lt_size (N _ hm).1
  refine wpAny_pyIter_tuple htup ?_
  have up : ∀ b o, s₁.heap.get? b = some o → (s₁.heap.push { cls := .type "tuple_iterator", data := .fields #[.ref ax, .int 0 0] }).get? b = some o := fun b o e => Heap.get?_push_of_some _ e
  refine LCt.block_T (S := fun nw => (ax, ({ cls := .type "tuple", data := .seq its k } : Obj)) ∈ nw) (Walks.tuple hh s₁.heap.objs.size ax (Nat.ne_of_lt hlt) its) hsz
    (fun i h st => by obtain ⟨o, e, _⟩ := st.1; exact ⟨o, e⟩) (fun i h h' o nw st e e' _ N' S' => ⟨?_, ⟨_, (N' _ S').1, rfl, k, rfl⟩⟩) hcell hkind hx
    ⟨⟨_, Heap.get?_push_size _ rfl, rfl, rfl⟩, htup.at fun o e => up _ _ e⟩ (fun b hb => ?_) (F.keeps up) (N.grown up) (Nat.ne_of_lt F.ns.lt) (next_is_new F) (fun p hp => Nat.ne_of_lt (Heap.lt_size (N p hp).1)) hm (R _) ?_
  · obtain ⟨o', q, r⟩ := st.1
    rw [e] at q; cases q
    exact ⟨o, e', r⟩
  · show b < (s₁.heap.push _).objs.size
    rw [Heap.size_push]
    rcases List.mem_cons.mp hb with rfl | hb
    · exact Nat.lt_succ_self _
    · rw [List.mem_singleton.mp hb]; exact Nat.lt_succ_of_lt hlt
  · intro D C h' tk m' ys news' F' N' o1 hn hC₀ hD₀ hCL hDL hCD offC fin
    show wpAny _ A (assign (.Name y py) env (.ref D)) _ _ _
    refine wpAny_assign_Name (wpAny_storeName_local hy F'.ns (fun h₂ hn₂ hs₂ => ?_) hp)
    have F₂ : Fr h₀ env.locals h₂ (fun z => if z = y then some (.ref D) else m z) := F'.set hn₂ hs₂
    have N₂ : News h₀ env.locals h₂ ((D, LCg.lst ys) :: news') := N'.set hs₂
    refine ⟨m', hn.sameBut hs₂ hCL, fun h'' hs'' => fin D h'' _ (F₂.change hs'' hCL hC₀) (fun p hp => ⟨hs''.extBut _ _ ?_ (N₂ p hp).1, (N₂ p hp).2⟩) o1⟩
    rcases List.mem_cons.mp hp with rfl | hp
    · exact Ne.symm hCD
    · exact offC p hp

/-- two texts, the places of each in a text: what the list holds at the end -/
theorem rest_two {prog : Program} {w : World} {A : Around} {h₀ : Heap} {L : Addr} {m : Str → Option Value} {env : Env} {ct elt : Expr} {xn : Str} {scope : Scope} {cl : List (Str × Addr)} {s : Shared} {S : List (Addr × Obj) → Prop} {Fin : List Value → List (Addr × Obj) → Prop} {news : List (Addr × Obj)}
    {q₀ q₁ : Str} {t₀ t₁ : Tok} (xt : Str)
    (turn : ∀ (q : Str) (tq : Tok) (Rt : Value → List (Addr × Obj) → Prop) (Rf : List (Addr × Obj) → Prop) (I : Addr) (oI : Obj) (C : Addr) (oC : Obj) (D : Addr) (ys : List Value) (m₂ : Str → Option Value) (h : Heap) (tk : Nat) (E' : Value → Shared → Prop),
      LCg.NsObj oC m₂ → m₂ xn = some (.str q tq) → Fr h₀ L h m → News h₀ L h ((I, oI) :: (C, oC) :: (D, LCg.lst ys) :: news) → LCg.Off3 I C D news → ((@Ne Nat I C) ∧ (@Ne Nat I D) ∧ (@Ne Nat C D)) →
      (0 ≤ Txt.find xt q → ∀ t, Rt (.int (Txt.find xt q) t) news) → (¬ 0 ≤ Txt.find xt q → Rf news) →
      wpAny (model prog w) A (isTrue ct (compEnvC scope cl C env) (eval ct (compEnvC scope cl C env))) (fun ok s' => if ok = true then
        wpAny (model prog w) A (eval elt (compEnvC scope cl C env)) (LCg.CompEnd h₀ L m { s with heap := h, toks := tk } I oI C oC D (LCg.lst ys) S Rt) E' s'
        else LCg.CompEnd h₀ L m { s with heap := h, toks := tk } I oI C oC D (LCg.lst ys) S (fun _ news' => Rf news') Value.none s') E' { s with heap := h, toks := tk })
    (fin : ∀ (ys : List Value) (ns : List Int), IntsAre ys ns → (∀ a, a ∈ ns ↔ 0 ≤ a ∧ (a = Txt.find xt q₀ ∨ a = Txt.find xt q₁)) → Fin ys news) :
    LCt.CompRestT prog w A h₀ L m env ct elt xn scope cl s S (fun i v => #[Value.str q₀ t₀, Value.str q₁ t₁][i]? = some v) Fin 2 0 [] news := by
  refine LCt.CompRestT.succ ?_
  intro v I oI C oC D m₂ h tk E' hv hC hx F N off ne
  obtain rfl : Value.str q₀ t₀ = v := by simpa using hv
  refine turn q₀ t₀ _ (fun nw => LCt.CompRestT prog w A h₀ L m env ct elt xn scope cl s S (fun i v => #[Value.str q₀ t₀, Value.str q₁ t₁][i]? = some v) Fin 1 (0 + 1) [] nw) I oI C oC D _ m₂ h tk E' hC hx F N off ne (fun g0 t => ?_) (fun g0 => ?_)
  all_goals
    refine LCt.CompRestT.succ ?_
    intro v' I' oI' C' oC' D' m' h' tk' E₂ hv' hC' hx' F' N' off' ne'
    obtain rfl : Value.str q₁ t₁ = v' := by simpa using hv'
  · refine turn q₁ t₁ _ (fun nw => LCt.CompRestT prog w A h₀ L m env ct elt xn scope cl s S (fun i v => #[Value.str q₀ t₀, Value.str q₁ t₁][i]? = some v) Fin 0 (0 + 1 + 1) _ nw) I' oI' C' oC' D' _ m' h' tk' E₂ hC' hx' F' N' off' ne' (fun g1 u => ?_) (fun g1 => ?_)
    · exact fin _ [Txt.find xt q₀, Txt.find xt q₁] (.cons _ _ (.cons _ _ .nil)) fun a => by simp; omega
    · exact fin _ [Txt.find xt q₀] (.cons _ _ .nil) fun a => by simp; omega
  · refine turn q₁ t₁ _ (fun nw => LCt.CompRestT prog w A h₀ L m env ct elt xn scope cl s S (fun i v => #[Value.str q₀ t₀, Value.str q₁ t₁][i]? = some v) Fin 0 (0 + 1 + 1) _ nw) I' oI' C' oC' D' _ m' h' tk' E₂ hC' hx' F' N' off' ne' (fun g1 u => ?_) (fun g1 => ?_)
    · exact fin _ [Txt.find xt q₁] (.cons _ _ .nil) fun a => by simp; omega
    · exact fin _ [] .nil fun a => by simp; omega
end Mine

section
namespace Mine
theorem lo_same {z : Str} {v₁ v₂ v₃ : Option Value} {u m₀ : Str → Option Value} (hz : [Str.ofString "sign", Str.ofString "spots", Str.ofString "end"].contains z = false) :
    (if z = Str.ofString "end" then v₁ else if z = Str.ofString "sign" then v₂ else if z = Str.ofString "spots" then v₃ else kstB (fun z => if [Str.ofString "sign", Str.ofString "spots", Str.ofString "end"].contains z = true then u z else m₀ z) [] z) = m₀ z := by
  have h1 : z ≠ Str.ofString "sign" := by rintro rfl; simp at hz
  have h2 : z ≠ Str.ofString "spots" := by rintro rfl; simp at hz
  have h3 : z ≠ Str.ofString "end" := by rintro rfl; simp at hz
  rw [if_neg h3, if_neg h1, if_neg h2]
  show (if _ then _ else _) = _
  rw [hz]
  rfl
local macro_rules | `(tactic| units_room) => `(tactic| ktr_units)
set_option maxRecDepth 100000 in
set_option maxHeartbeats 8000000 in
theorem lo_call (w : World) {s₀ : Shared} {mg mb : Str → Option Value} : TxClaim w s₀ mg mb 26 oq (fun V => V.length ≤ 1000) := by
  unfold TxClaim
  w_on
  w_top on
  k_with_none
  k_fill
  w_strict (intro news V T dp un gd cn cs fa ccd cl outer A₀ base h₀ L m s Q E hBe hFr hKI hNe hTo hki hdp hun hVl hret; refine wpAny_call ?_; (k_dflt refine' code_defC ?k1 ?k2 ?k3 ?k4 ?k5 ?kA ?kF ?kK ?k6 ?k7 ?k8 ?k9 ?kB ?kD ?_ ?c2 ?c3 ?c4); (case kA => exact rfl); (case kF => exact rfl); (case kK => assumption); (case k1 => k_asm); (case k2 => k_asm); (case k3 => k_asm); (case k4 => k_asm); (case k5 => k_asm); (case k6 => k_is); (case k7 => k_is); (case k8 => ktr_room); (case k9 => exact BindsTo.of_eq rfl); (case kB => exact rfl); (case kD => decide +kernel); (case c2 => exact rfl); (case c3 => exact rfl); (case c4 => exact rfl); k_whole; intro g' L' h' tk' cells' FG' F' N' Y' B' X' T' l1; (k_cells Y'); (try simp only [List.cons_append, List.nil_append] at N'); (try dsimp only); (try k_lift B'); (try k_fold); repeat' (first | (k_unfold; (try dsimp only)) | ((fail_if_success (with_reducible show wpAny _ _ (storeName _ _ _) _ _ _)); k_end; wrow_close) | ((fail_if_success (with_reducible show wpAny _ _ (storeName _ _ _) _ _ _)); walk1) | ((fail_if_success (with_reducible show wpAny _ _ (storeName _ _ _) _ _ _)); dsimp only; walk1) | fail "no step"))
  have l2 : ∀ p ∈ news, p.1 ≠ L' + 1 := fun p hp => Nat.ne_of_lt (Nat.lt_succ_of_lt (l1 p hp))
  w_strict (k_dflt (refine' storeX_C (c := L' + 1) ?F ?N ?c ?U ?d ?_ ?a ?b))
  case a => rfl
  case b => rfl
  case F => k_asm
  case N => exact N'
  case c => rfl
  case U => exact UpdF.head l2
  case d => k_asm
  intro h₂ o₂ F₂ N₂ d₂
  try dsimp only at N₂
  w_strict (repeat' (first | (k_unfold; (try dsimp only)) | ((fail_if_success (with_reducible show wpAny _ _ (exec (Stmt.While _ _ _ _) _) _ _ _)); k_end; wrow_close) | ((fail_if_success (with_reducible show wpAny _ _ (exec (Stmt.While _ _ _ _) _) _ _ _)); walk1) | ((fail_if_success (with_reducible show wpAny _ _ (exec (Stmt.While _ _ _ _) _) _ _ _)); dsimp only; walk1) | fail "no step"))
  with_unfolding_all refine ksw_while (σ := Obj × Str × Nat) (fun c => (L' + 1, c.1) :: news) (fun _ => []) (fun c => c.1.data = .cell (some (.str c.2.1 c.2.2))) [Str.ofString "sign", Str.ofString "spots", Str.ofString "end"] (fun c => oq c.2.1 = oq V ∧ c.2.1.length ≤ V.length) (fun c => c.2.1.length) (o₂, V, T) F₂ N₂ d₂ (fun _ hp => nomatch hp) ⟨rfl, Nat.le_refl _⟩ ?_
  rintro ⟨o₃, x, t⟩ u h₃ tk₃ d₃ ⟨hoq, hlen⟩ F₃ N₃
  (try dsimp only at d₃); (try dsimp only at hoq); (try dsimp only at hlen); (try dsimp only at N₃); (try dsimp only at F₃); (try dsimp only)
  w_strict (repeat' (first | (k_unfold; (try dsimp only)) | ((fail_if_success (with_reducible show wpAny _ _ (exec (Stmt.Assign [_] (Expr.ListComp _ _ _ _) _) _) _ _ _)); k_end; wrow_close) | ((fail_if_success (with_reducible show wpAny _ _ (exec (Stmt.Assign [_] (Expr.ListComp _ _ _ _) _) _) _ _ _)); walk1) | ((fail_if_success (with_reducible show wpAny _ _ (exec (Stmt.Assign [_] (Expr.ListComp _ _ _ _) _) _) _ _ _)); dsimp only; walk1) | fail "no step"))
  rotate_left
  · rename (_ != _) = false => hx
    rename News _ _ _ _ => kN
    exact cb_retS hret (lo_exit hoq hx) (by k_asm) (cb_drop kN (fun p hp => List.mem_cons_of_mem _ hp))
  w_strict (k_dflt (refine asg_tuple F₃ (by rfl) (by with_unfolding_all rfl) (by with_unfolding_all rfl) (by decide) (by rfl) (by decide) (by rfl) (by rfl) (by rfl) ?_))
  w_strict (k_steps)
  dsimp only
  rename Fr _ _ _ _ => F₄
  rename News _ _ _ _ => N₄
  refine ⟨_, _, _, _, rfl, rfl, F₄, N₄, List.Mem.head _, Nat.le_of_ble_eq_true rfl, fun g => ?_⟩
  with_unfolding_all refine' rest_two x ?turn ?fin
  case turn =>
    intro q tq Rt Rf I oI C oC D ys m₂ h' tk' E' hC hx F' N' off ne hT hF
    w_strict (repeat' (first | (k_unfold; (try dsimp only)) | ((fail_if_success (with_reducible show LCg.CompEnd _ _ _ _ _ _ _ _ _ _ _ _ _ _)); k_end; wrow_close) | ((fail_if_success (with_reducible show LCg.CompEnd _ _ _ _ _ _ _ _ _ _ _ _ _ _)); walk1) | ((fail_if_success (with_reducible show LCg.CompEnd _ _ _ _ _ _ _ _ _ _ _ _ _ _)); dsimp only; walk1) | fail "no step"); all_goals (try dsimp only))
    · rename 0 ≤ _ => hge
      exact LCg.CompEnd.intro F' N' _ (fun p hp => hp) off (List.Mem.head _) (hT hge _)
    · rename ¬ 0 ≤ _ => hge
      exact LCg.CompEnd.intro F' N' _ (fun p hp => hp) off (List.Mem.head _) (hF hge)
  case fin =>
    intro ys ns hys hns D₉ h₉ tk₉ F₉ N₉ off₉
    dsimp only
    replace off₉ : _ ∧ ((L' + 1) ≠ D₉ ∧ LCg.Off1 D₉ news) := off₉
    w_strict (repeat' (first | (k_unfold; (try dsimp only)) | ((fail_if_success (with_reducible show wpAny _ _ (call (Value.builtin "min") _) _ _ _)); k_end; wrow_close) | ((fail_if_success (with_reducible show wpAny _ _ (call (Value.builtin "min") _) _ _ _)); walk1) | ((fail_if_success (with_reducible show wpAny _ _ (call (Value.builtin "min") _) _ _ _)); dsimp only; walk1) | fail "no step"))
    · rename decide (ns = []) = true => hnil
      rename News _ _ _ _ => kN
      exact cb_retS hret (lo_none hoq (of_decide_eq_true hnil) hns) (by k_asm) (cb_drop kN (fun p hp => .tail _ (.tail _ (.tail _ (.tail _ hp)))))
    rename decide (ns = []) = false => hnil
    have hpos : 0 < ns.length := List.length_pos_iff.mpr (of_decide_eq_false hnil)
    rename News _ _ _ _ => N₆
    replace N₆ : News g' L' _ ((D₉, LCg.lst ys) :: (L' + 1, o₃) :: news) := cb_drop N₆ (fun p hp => by
      rcases List.mem_cons.mp hp with rfl | hp
      · exact .tail _ (.head _)
      · exact .tail _ (.tail _ (.tail _ hp)))
    w_strict (repeat' (first | (k_unfold; (try dsimp only)) | ((fail_if_success (with_reducible show wpAny _ _ (subscriptTail _ _ _ _) _ _ _)); k_end; wrow_close) | ((fail_if_success (with_reducible show wpAny _ _ (subscriptTail _ _ _ _) _ _ _)); walk1) | ((fail_if_success (with_reducible show wpAny _ _ (subscriptTail _ _ _ _) _ _ _)); dsimp only; walk1) | fail "no step"))
    rename _ ∈ ns => hM
    rename ∀ a, a ∈ ns → _ => hMl
    obtain ⟨hM0, hM1⟩ := lo_bounds hns hM
    w_strict (refine KXi.item rfl (by omega) hM1 (by omega) ?_; intro hit; try dsimp only)
    rename Int => M₁
    w_strict (repeat' (first | (k_unfold; (try dsimp only)) | ((fail_if_success (with_reducible show wpAny _ _ (subscriptTail _ _ _ _) _ _ _)); k_end; wrow_close) | ((fail_if_success (with_reducible show wpAny _ _ (subscriptTail _ _ _ _) _ _ _)); walk1) | ((fail_if_success (with_reducible show wpAny _ _ (subscriptTail _ _ _ _) _ _ _)); dsimp only; walk1) | fail "no step"))
    rename_i M₂ _ _ _ _ hM₂ hM₂l
    obtain rfl : M₁ = M₂ := Int.le_antisymm (hMl _ hM₂) (hM₂l _ hM)
    w_strict (repeat' (first | (k_unfold; (try dsimp only)) | ((fail_if_success (with_reducible show wpAny _ _ (storeName _ _ (Value.str _ _)) _ _ _)); k_end; wrow_close) | ((fail_if_success (with_reducible show wpAny _ _ (storeName _ _ (Value.str _ _)) _ _ _)); walk1) | ((fail_if_success (with_reducible show wpAny _ _ (storeName _ _ (Value.str _ _)) _ _ _)); dsimp only; walk1) | fail "no step"))
    rename Fr _ _ _ _ => F₇
    rename News _ _ _ _ => N₇
    w_strict (k_dflt (refine' storeX_C (c := L' + 1) ?F ?N ?c ?U ?d ?_ ?a ?b))
    case a => rfl
    case b => rfl
    case F => exact F₇
    case N => exact N₇
    case c => rfl
    case U => exact UpdF.tail (fun e => off₉.2.1 e.symm) (UpdF.head l2)
    case d => exact d₃
    clear N₇ F₇
    intro h₈ o₈ F₈ N₈ d₈
    try dsimp only at N₈
    generalize hr' : Txt.slice x (some (M₁ + 1)) none = r' at *
    w_strict (repeat' (first | (k_unfold; (try dsimp only)) | ((fail_if_success (with_reducible show wpAny _ _ (storeName _ _ (Value.str _ _)) _ _ _)); k_end; wrow_close) | ((fail_if_success (with_reducible show wpAny _ _ (storeName _ _ (Value.str _ _)) _ _ _)); walk1) | ((fail_if_success (with_reducible show wpAny _ _ (storeName _ _ (Value.str _ _)) _ _ _)); dsimp only; walk1) | fail "no step"))
    · rename _ < (0 : Int) => hlt
      rename News _ _ _ _ => kN
      exact cb_retS hret (lo_open hoq hns hM hMl hr' hlt) (by k_asm) (cb_drop kN (fun p hp => .tail _ (.tail _ hp)))
    rename ¬ (_ < (0 : Int)) => hge
    rename Fr _ _ _ _ => F₇
    rename News _ _ _ _ => N₇
    w_strict (k_dflt (refine' storeX_C (c := L' + 1) ?F ?N ?c ?U ?d ?_ ?a ?b))
    case a => rfl
    case b => rfl
    case F => exact F₇
    case N => exact N₇
    case c => rfl
    case U => exact UpdF.tail (fun e => off₉.2.1 e.symm) (UpdF.head l2)
    case d => exact d₈
    clear N₇ F₇
    intro hA oA FA NA dA
    try dsimp only at NA
    w_strict (repeat' (first | (k_unfold; (try dsimp only)) | ((fail_if_success (with_reducible show KswEnd _ _ _ _ _ _ _ _ _ _ _ _)); k_end; wrow_close) | ((fail_if_success (with_reducible show KswEnd _ _ _ _ _ _ _ _ _ _ _ _)); walk1) | ((fail_if_success (with_reducible show KswEnd _ _ _ _ _ _ _ _ _ _ _ _)); dsimp only; walk1) | fail "no step"))
    obtain ⟨hq, hls⟩ := lo_on hoq hns hM hMl hr' hge
    exact ksw_end (oA, _, _) FA NA (fun p hp => .tail _ hp) dA (fun _ hp => nomatch hp) (by intro z _ hz; exact lo_same hz) ⟨hq, Nat.le_trans (Nat.le_of_lt hls) hlen⟩ hls
end Mine
end

namespace Mine
/-- what a call of _law_text gives back: a short text -/
def TextClaim (w : World) (s₀ : Shared) (mg mb : Str → Option Value) (f : Addr) : Prop :=
  ∀ (news : List (Addr × Obj)) (l : Addr) (vs : List Value) (ns : List Int) (dp un : Nat) (gd : Option (List Code)) (cn : Str) (cs : Scope) (a : Addr) (ccd : Value) (cl : List (Str × Addr)) (outer : List Env) (A₀ : Around) (base h₀ : Heap) (L : Addr) (m : Str → Option Value) (s : Shared) (Q E : Value → Shared → Prop),
    Below A₀ base outer h₀ → Fr h₀ L s.heap m → (Mine.hd.heap_39 w.params).In h₀ → News h₀ L s.heap news → Top Mine.hd.view_39 (looseW Mine.hd.view_39 []) (ExcName.means s₀.heap) mg mb h₀ → cs.kind = .function →
    base.IsList l vs.toArray → IntsAre vs ns → ns.length ≤ 63 →
    dp + 1 < recursionLimit → un + 100 < cLine → (∀ (y : Str) (t : Tok) (h' : Heap) (tk' : Nat), y.length ≤ 30 → Fr h₀ L h' m → News h₀ L h' news → Q (.str y t) { s with heap := h', toks := tk' }) →
    wpAny (model PySem.Challenge.rw_pb0217_01.row.prog w) (ktrTop dp un gd cn cs L a ccd cl outer) (call (.ref f) [.ref l]) Q E s

theorem menu_six {prog : Program} {w : World} {A : Around} {E : Value → Shared → Prop} {s : Shared} {value slice : Expr} {t : Addr} {u : Tok} {a b c d e f : Str} {ta tb tc td te tf : Tok} {k : Int} {Q : Value → Shared → Prop}
    (ht : IsTup s.heap t [Value.str a ta, .str b tb, .str c tc, .str d td, .str e te, .str f tf].toArray) (h0 : 0 ≤ k) (h1 : k < 6) (ha : a.length = 1) (hb : b.length = 1) (hc : c.length = 1) (hd : d.length = 1) (he : e.length = 1) (hf : f.length = 1)
    (h : ∀ (z : Str) (tz : Tok), z.length = 1 → Q (.str z tz) s)
    (hs : subscripted slice false (.ref t) (.int k u) = operate [.ref t, .int k u] (getItem (.ref t) (.int k u)) := by with_unfolding_all rfl) :
    wpAny (model prog w) A (subscriptTail value slice (.ref t) (.int k u)) Q E s := by
  have hk : k = 0 ∨ k = 1 ∨ k = 2 ∨ k = 3 ∨ k = 4 ∨ k = 5 := by omega
  rcases hk with rfl | rfl | rfl | rfl | rfl | rfl
  · exact item_tupleT (j := 0) ht (by decide) (by decide) rfl rfl (h _ _ ha) hs
  · exact item_tupleT (j := 1) ht (by decide) (by decide) rfl rfl (h _ _ hb) hs
  · exact item_tupleT (j := 2) ht (by decide) (by decide) rfl rfl (h _ _ hc) hs
  · exact item_tupleT (j := 3) ht (by decide) (by decide) rfl rfl (h _ _ hd) hs
  · exact item_tupleT (j := 4) ht (by decide) (by decide) rfl rfl (h _ _ he) hs
  · exact item_tupleT (j := 5) ht (by decide) (by decide) rfl rfl (h _ _ hf) hs

theorem inner_end {f z : Str} {A : Nat} {pre : List Int} {k n : Int} (h : f.length ≤ A + pre.length) (hz : z.length = 1) (hn : 0 ≤ n) : (f ++ z).length ≤ A + (pre ++ [k]).length ∧ 0 ≤ Int.fdiv n 6 := by
  refine ⟨?_, ?_⟩
  · rw [PySem.Str.length_append, hz, List.length_append]; simp only [List.length_cons, List.length_nil]; omega
  · rw [Int.fdiv_eq_ediv_of_nonneg _ (by decide)]; omega

set_option maxRecDepth 100000 in
set_option maxHeartbeats 8000000 in
theorem text_call (w : World) {s₀ : Shared} {mg mb : Str → Option Value} : TextClaim w s₀ mg mb 33 := by
  unfold TextClaim
  w_on
  w_top on
  k_with_none
  k_fill
  w_strict (intro news l vs ns dp un gd cn cs fa ccd cl outer A₀ base h₀ L m s Q E hBe hFr hKI hNe hTo hki hls hin hns hdp hun hret; refine wpAny_call ?_; k_dflt cell_enter; repeat' (first | (k_unfold; (try dsimp only)) | ((fail_if_success (with_reducible show wpAny _ _ (exec (Stmt.For _ _ _ _ _) _) _ _ _)); k_end; wrow_close) | ((fail_if_success (with_reducible show wpAny _ _ (exec (Stmt.For _ _ _ _ _) _) _ _ _)); walk1) | ((fail_if_success (with_reducible show wpAny _ _ (exec (Stmt.For _ _ _ _ _) _) _ _ _)); dsimp only; walk1) | fail "no step"))
  w_strict (k_here; (rename Fr _ _ _ _ => lF'); (with_unfolding_all refine' For_invVF lF' ?k1 ?k2 ?_; (case k1 => exact rfl); (case k2 => exact rfl); k_whole); repeat' (first | (k_unfold; (try dsimp only)) | ((fail_if_success (with_reducible show wpAny _ _ (pyIter _) _ _ _)); k_end; wrow_close) | ((fail_if_success (with_reducible show wpAny _ _ (pyIter _) _ _ _)); walk1) | ((fail_if_success (with_reducible show wpAny _ _ (pyIter _) _ _ _)); dsimp only; walk1) | fail "no step"))
  w_strict (k_state (fun pre f => f.length ≤ 5 * pre.length) "found")
  rotate_left
  · w_strict (k_steps)
    rename News _ _ _ _ => kN
    have hlen : (List.take 6 ns).length ≤ 6 := by rw [List.length_take]; omega
    exact hret _ _ _ _ (Nat.le_trans kInv (by omega)) (by k_asm) (cb_drop kN (fun p hp => .tail _ hp))
  w_strict (repeat' (first | (k_unfold; (try dsimp only)) | ((fail_if_success (with_reducible show wpAny _ _ (exec (Stmt.For _ _ _ _ _) _) _ _ _)); k_end; wrow_close) | ((fail_if_success (with_reducible show wpAny _ _ (exec (Stmt.For _ _ _ _ _) _) _ _ _)); walk1) | ((fail_if_success (with_reducible show wpAny _ _ (exec (Stmt.For _ _ _ _ _) _) _ _ _)); dsimp only; walk1) | fail "no step"))
  rename Str => f₁
  have hn0 : 0 ≤ Int.fmod (if kN < 0 then -kN else kN) (10 ^ 12) := fmod_lo _ (by decide)
  w_strict (k_here; (rename Fr _ _ _ _ => lF'); (with_unfolding_all refine' For_invVF lF' ?k1 ?k2 ?_; (case k1 => exact rfl); (case k2 => exact rfl); k_whole); repeat' (first | (k_unfold; (try dsimp only)) | ((fail_if_success (with_reducible show wpAny _ _ (pyIter _) _ _ _)); k_end; wrow_close) | ((fail_if_success (with_reducible show wpAny _ _ (pyIter _) _ _ _)); walk1) | ((fail_if_success (with_reducible show wpAny _ _ (pyIter _) _ _ _)); dsimp only; walk1) | fail "no step"))
  w_strict (k_state_short (fun pre f n => f.length ≤ f₁.length + pre.length ∧ 0 ≤ n) "found" "number")
  rotate_left
  · w_strict (k_steps)
  w_strict (repeat' (first | (k_unfold; (try dsimp only)) | ((fail_if_success (with_reducible show wpAny _ _ (subscriptTail _ _ _ _) _ _ _)); k_end; wrow_close) | ((fail_if_success (with_reducible show wpAny _ _ (subscriptTail _ _ _ _) _ _ _)); walk1) | ((fail_if_success (with_reducible show wpAny _ _ (subscriptTail _ _ _ _) _ _ _)); dsimp only; walk1) | fail "no step"); (try dsimp only))
  rename News _ _ _ _ => N₇
  rename 0 ≤ _ => hnum
  w_strict (k_dflt (refine menu_six (News.isTup N₇ (.head _)) (fmod_lo _ (by decide)) (fmod_hi _ (by decide)) (by decide) (by decide) (by decide) (by decide) (by decide) (by decide) ?_))
  intro z tz hz
  k_with "state" => exact inner_end (by assumption) (by assumption) (by assumption)
  w_strict (k_steps)
end Mine

namespace Mine
section
variable {w : World} {s₀ : Shared} {mg mb : Str → Option Value} {news : List (Addr × Obj)} {V r : Str} {T : Tok} {dp un : Nat} {gd : Option (List Code)} {cn : Str} {cs : Scope} {a : Addr} {ccd : Value} {cl : List (Str × Addr)} {outer : List Env} {A₀ : Around} {base h₀ : Heap} {L l : Addr} {m : Str → Option Value} {s : Shared} {Q E : Value → Shared → Prop} {vs : List Value} {ns : List Int}
theorem oq_use (hB : Below A₀ base outer h₀) (F : Fr h₀ L s.heap m) (X : (Mine.hd.heap_39 w.params).In h₀) (N : News h₀ L s.heap news) (hT : Top Mine.hd.view_39 (looseW Mine.hd.view_39 []) (ExcName.means s₀.heap) mg mb h₀) (hk : cs.kind = .function)
    (hd : dp + 1 < recursionLimit) (hu : un + 100 < cLine) (hv : oq V = r) (h : ∀ (t : Tok) (h' : Heap) (tk' : Nat), Fr h₀ L h' m → News h₀ L h' news → Q (.str r t) { s with heap := h', toks := tk' }) :
    wpAny (model PySem.Challenge.rw_pb0217_01.row.prog w) (ktrTop dp un gd cn cs L a ccd cl outer) (call (.ref 21) [.str V T]) Q E s :=
  oq_call w _ _ _ _ _ _ _ _ _ _ _ _ _ _ _ _ _ _ _ _ hB F X N hT hk hd hu trivial (hv ▸ h)
theorem lo_use (hB : Below A₀ base outer h₀) (F : Fr h₀ L s.heap m) (X : (Mine.hd.heap_39 w.params).In h₀) (N : News h₀ L s.heap news) (hT : Top Mine.hd.view_39 (looseW Mine.hd.view_39 []) (ExcName.means s₀.heap) mg mb h₀) (hk : cs.kind = .function)
    (hd : dp + 1 < recursionLimit) (hu : un + 100 < cLine) (hl : V.length ≤ 1000) (hv : oq V = r) (h : ∀ (t : Tok) (h' : Heap) (tk' : Nat), Fr h₀ L h' m → News h₀ L h' news → Q (.str r t) { s with heap := h', toks := tk' }) :
    wpAny (model PySem.Challenge.rw_pb0217_01.row.prog w) (ktrTop dp un gd cn cs L a ccd cl outer) (call (.ref 26) [.str V T]) Q E s :=
  lo_call w _ _ _ _ _ _ _ _ _ _ _ _ _ _ _ _ _ _ _ _ hB F X N hT hk hd hu hl (hv ▸ h)
theorem text_use (hB : Below A₀ base outer h₀) (F : Fr h₀ L s.heap m) (X : (Mine.hd.heap_39 w.params).In h₀) (N : News h₀ L s.heap news) (hT : Top Mine.hd.view_39 (looseW Mine.hd.view_39 []) (ExcName.means s₀.heap) mg mb h₀) (hk : cs.kind = .function)
    (hls : base.IsList l vs.toArray) (hin : IntsAre vs ns) (hns : ns.length ≤ 63) (hd : dp + 1 < recursionLimit) (hu : un + 100 < cLine)
    (h : ∀ (y : Str) (t : Tok) (h' : Heap) (tk' : Nat), y.length ≤ 30 → Fr h₀ L h' m → News h₀ L h' news → Q (.str y t) { s with heap := h', toks := tk' }) :
    wpAny (model PySem.Challenge.rw_pb0217_01.row.prog w) (ktrTop dp un gd cn cs L a ccd cl outer) (call (.ref 33) [.ref l]) Q E s :=
  text_call w _ _ _ _ _ _ _ _ _ _ _ _ _ _ _ _ _ _ _ _ _ hB F X N hT hk hls hin hns hd hu h
end
theorem lit1 : oq (Str.ofString "MOVE 'it\"s' TO \"") = Str.ofString "\"" := by decide +kernel
theorem lit2 : oq (Str.ofString "'a''b'") = Str.ofString "" := by decide +kernel
theorem lit3 : oq (Str.ofString "\"'") = Str.ofString "\"" := by decide +kernel
theorem lit4 : oq (Str.ofString "''' ") = Str.ofString "'" := by decide +kernel
theorem eq_same {prog : Program} {w : World} {A : Around} {E : Value → Shared → Prop} {s : Shared} {x : Str} {t u : Tok} {Q : Value → Shared → Prop} (h : Q (.bool true) s) : wpAny (model prog w) A (compareOp .Eq (.str x t) (.str x u)) Q E s :=
  eq_str (by rw [show (x == x) = true from beq_self_eq_true x]; exact h)
theorem ne_same {prog : Program} {w : World} {A : Around} {E : Value → Shared → Prop} {s : Shared} {x : Str} {t u : Tok} {Q : Value → Shared → Prop} (h : Q (.bool false) s) : wpAny (model prog w) A (compareOp .NotEq (.str x t) (.str x u)) Q E s :=
  ne_str (by rw [show (x != x) = false from bne_self_eq_false x]; exact h)
theorem law_same {z : Str} {v₁ v₂ v₃ v₄ : Option Value} {u m₀ : Str → Option Value} (hc : z ≠ Str.ofString "cut") (hz : [Str.ofString "ahead", Str.ofString "behind", Str.ofString "mark"].contains z = false) :
    (if z = Str.ofString "mark" then v₁ else if z = Str.ofString "ahead" then v₂ else if z = Str.ofString "behind" then v₃ else if z = Str.ofString "cut" then v₄ else kstB (fun z => if [Str.ofString "ahead", Str.ofString "behind", Str.ofString "mark"].contains z = true then u z else m₀ z) [] z) = m₀ z := by
  have h1 : z ≠ Str.ofString "ahead" := by rintro rfl; simp at hz
  have h2 : z ≠ Str.ofString "behind" := by rintro rfl; simp at hz
  have h3 : z ≠ Str.ofString "mark" := by rintro rfl; simp at hz
  rw [if_neg h3, if_neg h1, if_neg h2, if_neg hc]
  show (if _ then _ else _) = _
  rw [hz]
  rfl
end Mine
local macro_rules | `(tactic| walk_at "compareOp Eq str str") => `(tactic| (with_reducible refine Mine.eq_same ?_))
local macro_rules | `(tactic| walk_at "compareOp NotEq str str") => `(tactic| (with_reducible refine Mine.ne_same ?_))
local macro_rules | `(tactic| walk_at "call ref") => `(tactic| (k_here; (with_reducible show wpAny _ _ (call (Value.ref 33) [Value.ref _]) _ _ _); k_dflt (refine' Mine.text_use ?k1 ?k2 ?k3 ?k4 ?k5 ?k6 ?kl ?ki ?kn ?k7 ?k8 ?_; (case k1 => k_asm); (case k2 => k_asm); (case k3 => k_asm); (case k4 => k_asm); (case k5 => k_asm); (case k6 => exact rfl); (case kl => k_asm); (case ki => l_ints); (case kn => omega); (case k7 => ktr_room); (case k8 => ktr_units)); intro y9 t9 h9 tk9 b9 F9 N9; (try dsimp only); (try k_fold)))
local macro_rules | `(tactic| walk_at "call ref") => `(tactic| (k_here; (with_reducible show wpAny _ _ (call (Value.ref 26) [Value.str _ _]) _ _ _); k_dflt (refine' Mine.lo_use ?k1 ?k2 ?k3 ?k4 ?k5 ?k6 ?k7 ?k8 ?kl ?k9 ?_; (case k1 => k_asm); (case k2 => k_asm); (case k3 => k_asm); (case k4 => k_asm); (case k5 => k_asm); (case k6 => exact rfl); (case k7 => ktr_room); (case k8 => ktr_units); (case kl => with_reducible assumption); (case k9 => with_reducible first | assumption | exact rfl)); intro t9 h9 tk9 F9 N9; (try dsimp only); (try k_fold)))
local macro_rules | `(tactic| walk_at "call ref") => `(tactic| (k_here; (with_reducible show wpAny _ _ (call (Value.ref 21) [Value.str _ _]) _ _ _); k_dflt (refine' Mine.oq_use ?k1 ?k2 ?k3 ?k4 ?k5 ?k6 ?k7 ?k8 ?k9 ?_; (case k1 => k_asm); (case k2 => k_asm); (case k3 => k_asm); (case k4 => k_asm); (case k5 => k_asm); (case k6 => exact rfl); (case k7 => ktr_room); (case k8 => ktr_units); (case k9 => with_reducible first | assumption | exact Mine.lit1 | exact Mine.lit2 | exact Mine.lit3 | exact Mine.lit4 | exact rfl)); intro t9 h9 tk9 F9 N9; (try dsimp only); (try k_fold)))
set_option maxRecDepth 100000 in
set_option maxHeartbeats 8000000 in
theorem PySem.Challenge.cw_pb0217_01_holds : PySem.Challenge.rw_pb0217_01.Holds := by
  k_with_none
  refine Mine.hd ?_
  w_strict (k_go0; (all_goals try k_fold); repeat' (first | (k_unfold; (try dsimp only)) | ((fail_if_success (with_reducible show wpAny _ _ (exec (Stmt.For (Expr.Name _ _) (Expr.Call _ _ _ _) _ _ _) _) _ _ _)); k_end; wrow_close) | ((fail_if_success (with_reducible show wpAny _ _ (exec (Stmt.For (Expr.Name _ _) (Expr.Call _ _ _ _) _ _ _) _) _ _ _)); walk1) | ((fail_if_success (with_reducible show wpAny _ _ (exec (Stmt.For (Expr.Name _ _) (Expr.Call _ _ _ _) _ _ _) _) _ _ _)); dsimp only; walk1) | fail "no step"))
  rename Str => y
  rename Str.length _ ≤ 30 => hy
  w_strict (k_here; (rename Fr _ _ _ _ => lF'); (with_unfolding_all refine' For_invVF lF' ?k1 ?k2 ?_; (case k1 => exact rfl); (case k2 => exact rfl); k_whole); repeat' (first | (k_unfold; (try dsimp only)) | ((fail_if_success (with_reducible show wpAny _ _ (pyIter _) _ _ _)); k_end; wrow_close) | ((fail_if_success (with_reducible show wpAny _ _ (pyIter _) _ _ _)); walk1) | ((fail_if_success (with_reducible show wpAny _ _ (pyIter _) _ _ _)); dsimp only; walk1) | fail "no step"))
  rename IsRange _ _ _ _ _ _ _ _ => hRg
  rename Fr _ _ _ _ => F₁
  w_strict (with_unfolding_all refine' kst_range (σ := Unit) (fun _ => []) (fun _ => []) (fun _ => True) [Str.ofString "ahead", Str.ofString "behind", Str.ofString "mark"] (fun _ _ => True) () (by rfl) hRg (by exact small_one (by omega) (by omega) (by omega) (by omega)) (by exact rangeSize_nat _ _) F₁ News.nil trivial (fun _ hp => nomatch hp) trivial ?_ ?_)
  · intro c pre k t u h tk own hk hlt _ _ _ F₂ N₂
    try dsimp only [List.nil_append] at F₂ N₂
    have hj : pre.length ≤ y.length := by omega
    have hAl : (Txt.slice y none (some k)).length ≤ 1000 := Nat.le_trans (Txt.slice_le _ _ _) (by omega)
    have hBl : (Txt.slice y (some k) none).length ≤ 1000 := Nat.le_trans (Txt.slice_le _ _ _) (by omega)
    rcases Mine.law_facts (y := y) (k := k) (j := pre.length) (by omega) hj with ⟨f1, f2, f3, f4, f5⟩ | ⟨f1, f2, f3⟩ | ⟨f1, f2, f3⟩
    · w_strict (repeat' (first | (k_unfold; (try dsimp only)) | ((fail_if_success (with_reducible show InvEndN _ _ _ _ _ _ _)); k_end; wrow_close) | ((fail_if_success (with_reducible show InvEndN _ _ _ _ _ _ _)); walk1) | ((fail_if_success (with_reducible show InvEndN _ _ _ _ _ _ _)); dsimp only; walk1) | fail "no step"))
      rename Fr _ _ _ _ => Fe
      rename News _ _ _ _ => Ne
      exact kst_end () Fe Ne (fun p hp => nomatch hp) (fun p hp => .tail _ hp) rfl trivial (fun p hp => nomatch hp) (by intro z hc _ hz; exact Mine.law_same hc hz) trivial
    · w_strict (repeat' (first | (k_unfold; (try dsimp only)) | ((fail_if_success (with_reducible show InvEndN _ _ _ _ _ _ _)); k_end; wrow_close) | ((fail_if_success (with_reducible show InvEndN _ _ _ _ _ _ _)); walk1) | ((fail_if_success (with_reducible show InvEndN _ _ _ _ _ _ _)); dsimp only; walk1) | fail "no step"))
      rename Fr _ _ _ _ => Fe
      rename News _ _ _ _ => Ne
      exact kst_end () Fe Ne (fun p hp => nomatch hp) (fun p hp => .tail _ (.tail _ hp)) rfl trivial (fun p hp => nomatch hp) (by intro z hc _ hz; exact Mine.law_same hc hz) trivial
    · w_strict (repeat' (first | (k_unfold; (try dsimp only)) | ((fail_if_success (with_reducible show InvEndN _ _ _ _ _ _ _)); k_end; wrow_close) | ((fail_if_success (with_reducible show InvEndN _ _ _ _ _ _ _)); walk1) | ((fail_if_success (with_reducible show InvEndN _ _ _ _ _ _ _)); dsimp only; walk1) | fail "no step"))
      rename Fr _ _ _ _ => Fe
      rename News _ _ _ _ => Ne
      exact kst_end () Fe Ne (fun p hp => nomatch hp) (fun p hp => .tail _ (.tail _ hp)) rfl trivial (fun p hp => nomatch hp) (by intro z hc _ hz; exact Mine.law_same hc hz) trivial
  · intro c u h tk _ _ F₂ N₂
    try dsimp only at F₂ N₂
    have hyl : y.length ≤ 1000 := by omega
    w_strict (k_steps)
