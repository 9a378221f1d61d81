/- The framework, part Tkn. -/
import Derived.Test.YtpecepipllbghaaDoorOq
import Derived.Test.YtpecepipllbghaaDoorOy
set_option linter.unusedSimpArgs false
set_option linter.unusedVariables false
/- Tokens, on both sides. -/
namespace Go.Fw
open Go Go.Proofs
set_option linter.unusedSectionVars false
set_option linter.unnecessarySimpa false

/-- A pattern and an end. -/
structure Bst where
  p : Int
  t : Int
/-- The best of the first patterns. -/
def tk (ds : List Df) (s : List UInt8) (f : Nat) : Nat → Bst
  | 0 => ⟨0, f⟩
  | k + 1 => if (tk ds s f k).t < longest (ds.getD k ⟨[], []⟩) s f then ⟨k, longest (ds.getD k ⟨[], []⟩) s f⟩ else tk ds s f k
theorem tk_succ (ds : List Df) (s : List UInt8) (f k : Nat) : tk ds s f (k + 1) = if (tk ds s f k).t < longest (ds.getD k ⟨[], []⟩) s f then ⟨k, longest (ds.getD k ⟨[], []⟩) s f⟩ else tk ds s f k := rfl
theorem tk_bd (ds : List Df) (s : List UInt8) {f : Nat} (hf : f ≤ s.length) : ∀ k, (f : Int) ≤ (tk ds s f k).t ∧ (tk ds s f k).t ≤ s.length ∧ 0 ≤ (tk ds s f k).p ∧ ((tk ds s f k).p < k ∨ (tk ds s f k).p = 0)
  | 0 => ⟨by simp [tk], by simp [tk]; omega, by simp [tk], by simp [tk]⟩
  | k + 1 => by
    obtain ⟨h1, h2, h3, h4⟩ := tk_bd ds s hf k
    have := longest_bd (ds.getD k ⟨[], []⟩) s hf
    rw [tk_succ]
    split
    · exact ⟨by simp only; omega, by simp only; omega, by simp only; omega, .inl (by simp only; omega)⟩
    · exact ⟨h1, h2, h3, by omega⟩
theorem tk_ge (ds : List Df) (s : List UInt8) (f : Nat) : ∀ k j, j < k → longest (ds.getD j ⟨[], []⟩) s f ≤ (tk ds s f k).t
  | 0, j, h => by omega
  | k + 1, j, h => by
    have ih := tk_ge ds s f k j
    rw [tk_succ]
    rcases Nat.lt_or_ge j k with h1 | h1
    · have := ih h1
      split
      · simp only; omega
      · exact this
    · have : j = k := by omega
      subst this
      split
      · simp only; omega
      · omega
/-- If there is one, it is that of the first pattern of those with the longest part. -/
theorem tk_is (ds : List Df) (s : List UInt8) (f : Nat) : ∀ k, (f : Int) < (tk ds s f k).t → ∃ p : Nat, p < k ∧ (tk ds s f k).p = p ∧ (tk ds s f k).t = longest (ds.getD p ⟨[], []⟩) s f ∧ ∀ j, j < p → longest (ds.getD j ⟨[], []⟩) s f < (tk ds s f k).t
  | 0, h => by simp [tk] at h
  | k + 1, h => by
    rw [tk_succ] at h ⊢
    by_cases hc : (tk ds s f k).t < longest (ds.getD k ⟨[], []⟩) s f
    · rw [if_pos hc]
      exact ⟨k, by omega, rfl, rfl, fun j hj => by have := tk_ge ds s f k j hj; simp only; omega⟩
    · rw [if_neg hc] at h ⊢
      obtain ⟨p, h1, h2, h3, h4⟩ := tk_is ds s f k h
      exact ⟨p, by omega, h2, h3, h4⟩

def tokD (p f t : Int) : D := .agg [iD p, iD f, iD t]
/-- Is there a token? -/
def tkOk (ds : List Df) (s : List UInt8) (f : Nat) : Bool := decide ((f : Int) < (tk ds s f ds.length).t)
def tkD (ds : List Df) (s : List UInt8) (f : Nat) : D := if tkOk ds s f then tokD (tk ds s f ds.length).p f (tk ds s f ds.length).t else tokD 0 0 0
def tkR (ds : List Df) (s : List UInt8) (f : Nat) : List D := [tkD ds s f, .bool (tkOk ds s f)]

theorem okPats_get {ds : List Df} (h : okPats ds = true) {i : Nat} (hi : i < ds.length) : okDf (ds.getD i ⟨[], []⟩) = true := by
  simp only [okPats, Bool.and_eq_true, List.all_eq_true] at h
  have e := (getD_row (xs := ds) (i := i) ⟨[], []⟩ hi).1
  exact h.2 _ (List.mem_of_getElem? e)
theorem okPats_len {ds : List Df} (h : okPats ds = true) : 1 ≤ ds.length ∧ ds.length ≤ 4 := by
  simp only [okPats, Bool.and_eq_true, inR, decide_eq_true_eq] at h
  omega

set_option maxHeartbeats 800000 in
set_option maxRecDepth 100000 in
theorem c_nextToken (ds : List Df) (s : List UInt8) (f : Nat) (h : okPats ds = true) (hs : s.all isL = true) (hl : s.length ≤ 1000) (hf : f ≤ s.length) : TCalls Tryd.prog 18 [.d (dsD ds), sA s, iA f] fun r => r = tkR ds s f := by
  refine tcalls_intro Ty.mixed Tryd.func18 rfl rfl rfl [10] (by kernel_rfl) (by simp) ?_
  have hdl := okPats_len h
  simp
  refine LoopVC.at { k : Nat // k ≤ ds.length } (fun k => [(1, sA s), (2, iA f), (6, .ptr 600 0), (8, .ptr 800 0), (15, .d (dsD ds)), (16, iA ds.length), (17, iA k.1)]) (fun k => [(600, .bx [.d (iD 0), .d (iD 0), .d (iD 0)]), (800, .bx [.d (iD (tk ds s f k.1).p), .d (iD f), .d (iD (tk ds s f k.1).t)])]) [600, 800] (fun k => ds.length - k.1) ⟨0, by omega⟩ (by simp) (by simp [tk]) ?_
  rintro ⟨k, hk⟩
  rcases Nat.lt_or_ge k ds.length with hkl | hkl
  · have a1 := getD_row (xs := ds) (i := k) ⟨[], []⟩ hkl
    have hok := okPats_get h hkl
    have hst := tk_succ ds s f k
    have hlg := c_longest (ds.getD k ⟨[], []⟩) s f hok hs hl hf
    generalize ds.getD k ⟨[], []⟩ = a at *
    simp [hkl, a1, Df.d]
    refine .dval hlg rfl (by simp [Df.d]) rfl ?_
    simp
    refine ⟨fun hlt => ?_, fun hge => ?_⟩
    · rw [if_pos hlt] at hst
      refine ⟨k + 1, .mk ?_ ?_, by omega, by omega⟩
      · simp; exact wrap64 (by omega) (by omega)
      · simp [hst]
    · rw [if_neg (by omega)] at hst
      refine ⟨k + 1, .mk ?_ ?_, by omega, by omega⟩
      · simp; exact wrap64 (by omega) (by omega)
      · simp [hst]
  · have : k = ds.length := by omega
    subst this
    have hb := tk_bd ds s hf ds.length
    simp
    refine ⟨fun heq => ?_, fun hne => ?_⟩
    · have : tkOk ds s f = false := by simp [tkOk]; omega
      simp [tkR, tkD, this, tokD]
    · have : tkOk ds s f = true := by simp [tkOk]; omega
      simp [tkR, tkD, this, tokD]
end Go.Fw

/- Next tokens, on both sides. -/
namespace Go.Fw
open Go Go.Proofs
set_option linter.unusedSectionVars false
set_option linter.unnecessarySimpa false

def nxOk (ds : List Df) (s : List UInt8) (f : Int) : Prop := okPats ds = true ∧ textOk s = true ∧ 0 ≤ f ∧ f ≤ s.length
/-- The next token, for any arguments. -/
def NxR (ds : List Df) (s : List UInt8) (f : Int) (r : List D) : Prop := (nxOk ds s f ∧ r = tkR ds s f.toNat) ∨ (¬ nxOk ds s f ∧ r = [tokD 0 0 0, .bool false])
theorem NxR.uniq {ds : List Df} {s : List UInt8} {f : Int} {r q : List D} (h : NxR ds s f r) (h' : NxR ds s f q) : r = q := by
  rcases h with ⟨h1, rfl⟩ | ⟨h1, rfl⟩ <;> rcases h' with ⟨g1, rfl⟩ | ⟨g1, rfl⟩
  · rfl
  · exact absurd h1 g1
  · exact absurd g1 h1
  · rfl

theorem not_nx {ds : List Df} {s : List UInt8} {f : Int} (h : ¬ nxOk ds s f) : (okPats ds && textOk s && inR f 0 s.length) = false := by
  rw [Bool.eq_false_iff]
  intro hc
  simp only [Bool.and_eq_true, inR, decide_eq_true_eq] at hc
  exact h ⟨hc.1.1, hc.1.2, by omega, by omega⟩

def tkB (ds : List Df) (s : List UInt8) (f k : Nat) : List AV := if (f : Int) < (tk ds s f k).t then [.d (iD (tk ds s f k).p), .d (iD f), .d (iD (tk ds s f k).t)] else [.d (iD 0), .d (iD 0), .d (iD 0)]

set_option maxHeartbeats 800000 in
set_option maxRecDepth 100000 in
theorem c_sNextToken (ds : List Df) (s : List UInt8) (f : Int) (hdl : ds.length ≤ 9223372036854775807) (hdf : ∀ a ∈ ds, a.fine) (hsl : s.length ≤ 9223372036854775807) : TCalls Tryd.prog 29 [.d (dsD ds), sA s, iA f] (NxR ds s f) := by
  refine tcalls_intro Ty.mixed Tryd.func29 rfl rfl rfl [] (by kernel_rfl) (by simp) ?_
  simp
  by_cases hV : nxOk ds s f
  · obtain ⟨h1, h2, h3, h4⟩ := hV
    have hwl : (s.length : Int) ≤ 30 := letters_len h2
    obtain ⟨f, rfl⟩ : ∃ z : Nat, f = z := ⟨f.toNat, by omega⟩
    have hf : f ≤ s.length := by omega
    have hin : inR (f : Int) 0 s.length = true := by simp [inR]; omega
    have hd4 := okPats_len h1
    have hT : NxR ds s f (tkR ds s f) := .inl ⟨⟨h1, h2, h3, h4⟩, by simp⟩
    refine LoopVC.at { k : Nat // k ≤ ds.length } (fun k => [(0, .d (dsD ds)), (1, sA s), (2, iA f), (6, .ptr 600 0), (8, .ptr 800 0), (9, .d (.bool (decide ((f : Int) < (tk ds s f k.1).t)))), (10, iA k.1)]) (fun k => [(600, .bx [.d (iD 0), .d (iD 0), .d (iD 0)]), (800, .bx (tkB ds s f k.1))]) [600, 800] (fun k => ds.length - k.1) ⟨0, by omega⟩ (by simp [tk]) (by simp [tkB, tk]) ?_
    rintro ⟨k, hk⟩
    simp
    refine .flat (fun _ => c_sPatternsValid ds hdl hdf) rfl (by simp) rfl (by simp) ?_
    rw [h1]
    simp
    refine .flat (fun _ => c_sTextValid s hsl) rfl (by simp) rfl (by simp) ?_
    rw [h2]
    simp
    refine .flat (fun _ => c_l1In _ _ _) rfl (by simp) rfl (by simp) ?_
    rw [hin]
    simp
    have hb := tk_bd ds s hf k
    refine ⟨fun hkl => ?_, fun hkl => ?_⟩
    · have a1 := getD_row (xs := ds) (i := k) ⟨[], []⟩ hkl
      have hok := okPats_get h1 hkl
      have hst := tk_succ ds s f k
      have hlg := c_l19Longest (ds.getD k ⟨[], []⟩) s f hok (letters_all h2) (by omega) hf
      generalize ds.getD k ⟨[], []⟩ = a at *
      generalize longest a s f = e at *
      simp [hkl, a1, Df.d]
      refine .dval hlg rfl (by simp [Df.d]) rfl ?_
      unfold tkB
      by_cases hfo : (f : Int) < (tk ds s f k).t
      · simp [hfo]
        refine ⟨fun g1 g2 => ?_, fun hno => ?_⟩
        · rw [if_pos g2] at hst
          refine ⟨k + 1, ⟨by omega, .mk ?_ ?_⟩, by omega⟩
          · simp [hst, g1]; exact wrap64 (by omega) (by omega)
          · simp [hst, g1, tkB]
        · rw [if_neg (fun g2 => by have := hno (by omega); omega)] at hst
          refine ⟨k + 1, ⟨by omega, .mk ?_ ?_⟩, by omega⟩
          · simp [hst, hfo]; exact wrap64 (by omega) (by omega)
          · simp [hst, hfo, tkB]
      · have ht : (tk ds s f k).t = f := by omega
        simp [hfo]
        refine ⟨fun g1 => ?_, fun hno => ?_⟩
        · rw [if_pos (by omega)] at hst
          refine ⟨k + 1, ⟨by omega, .mk ?_ ?_⟩, by omega⟩
          · simp [hst, g1]; exact wrap64 (by omega) (by omega)
          · simp [hst, g1, tkB]
        · rw [if_neg (by omega)] at hst
          refine ⟨k + 1, ⟨by omega, .mk ?_ ?_⟩, by omega⟩
          · simp [hst, hfo]; exact wrap64 (by omega) (by omega)
          · simp [hst, hfo, tkB]
    · have : k = ds.length := by omega
      subst this
      unfold tkR tkD at hT
      unfold tkB
      cases hk : tkOk ds s f with
      | true =>
        rw [hk] at hT
        have hlt : (f : Int) < (tk ds s f ds.length).t := by simpa [tkOk] using hk
        simp [hlt, tokD] at hT ⊢
        exact hT
      | false =>
        rw [hk] at hT
        have hlt : ¬ (f : Int) < (tk ds s f ds.length).t := by simpa [tkOk] using hk
        simp [hlt, tokD] at hT ⊢
        exact hT
  · have hn := not_nx hV
    have hR : NxR ds s f [tokD 0 0 0, .bool false] := .inr ⟨hV, rfl⟩
    refine LoopVC.at Unit (fun _ => [(0, .d (dsD ds)), (1, sA s), (2, iA f), (6, .ptr 600 0), (8, .ptr 800 0), (9, .d (.bool false)), (10, iA 0)]) (fun _ => [(600, .bx [.d (iD 0), .d (iD 0), .d (iD 0)]), (800, .bx [.d (iD 0), .d (iD 0), .d (iD 0)])]) [600, 800] (fun _ => 0) () (by simp) (by simp) ?_
    rintro ⟨⟩
    simp
    refine .flat (fun _ => c_sPatternsValid ds hdl hdf) rfl (by simp) rfl (by simp) ?_
    simp
    refine .flat (fun _ => c_sTextValid s hsl) rfl (by simp) rfl (by simp) ?_
    simp
    refine .flat (fun _ => c_l1In _ _ _) rfl (by simp) rfl (by simp) ?_
    simp
    refine ⟨fun _ y1 y2 y3 => ?_, fun _ => hR⟩
    rw [y1, y2, y3] at hn
    cases hn
end Go.Fw

/- The tokens of a text, on both sides. -/
namespace Go.Fw
open Go Go.Proofs
set_option linter.unusedSectionVars false
set_option linter.unnecessarySimpa false

/-- Where the k-th token begins. -/
def atK (ds : List Df) (s : List UInt8) : Nat → Nat
  | 0 => 0
  | k + 1 => if tkOk ds s (atK ds s k) then (tk ds s (atK ds s k) ds.length).t.toNat else atK ds s k
theorem atK_succ {ds : List Df} {s : List UInt8} {k : Nat} (h : tkOk ds s (atK ds s k) = true) : atK ds s (k + 1) = (tk ds s (atK ds s k) ds.length).t.toNat := by rw [atK, if_pos h]
theorem atK_le (ds : List Df) (s : List UInt8) : ∀ k, atK ds s k ≤ s.length
  | 0 => by simp [atK]
  | k + 1 => by
    have ih := atK_le ds s k
    have hb := tk_bd ds s ih ds.length
    rw [atK]
    split <;> omega
theorem atK_inc {ds : List Df} {s : List UInt8} {k : Nat} (h : tkOk ds s (atK ds s k) = true) : atK ds s k < atK ds s (k + 1) := by
  rw [atK_succ h]
  have : (atK ds s k : Int) < (tk ds s (atK ds s k) ds.length).t := by simpa [tkOk] using h
  omega
theorem atK_ge {ds : List Df} {s : List UInt8} : ∀ {k : Nat}, (∀ j, j < k → tkOk ds s (atK ds s j) = true) → k ≤ atK ds s k
  | 0, _ => Nat.zero_le _
  | k + 1, h => by
    have ih := atK_ge (k := k) fun j hj => h j (by omega)
    have := atK_inc (h k (by omega))
    omega
def toksD (ds : List Df) (s : List UInt8) (k : Nat) : List D := (List.range k).map fun j => tkD ds s (atK ds s j)
theorem toksD_succ (ds : List Df) (s : List UInt8) (k : Nat) : toksD ds s (k + 1) = toksD ds s k ++ [tkD ds s (atK ds s k)] := by simp [toksD, List.range_succ]
theorem toksD_len (ds : List Df) (s : List UInt8) (k : Nat) : (toksD ds s k).length = k := by simp [toksD]
/-- All tokens. -/
def TksAll (ds : List Df) (s : List UInt8) (k : Nat) : Prop := (∀ j, j < k → tkOk ds s (atK ds s j) = true) ∧ tkOk ds s (atK ds s k) = false
theorem TksAll.uniq {ds : List Df} {s : List UInt8} {k k' : Nat} (h : TksAll ds s k) (h' : TksAll ds s k') : k = k' := by
  rcases Nat.lt_trichotomy k k' with h1 | h1 | h1
  · have := h'.1 k h1; rw [h.2] at this; cases this
  · exact h1
  · have := h.1 k' h1; rw [h'.2] at this; cases this
def TksR (ds : List Df) (s : List UInt8) (r : List D) : Prop :=
  ((okPats ds = true ∧ textOk s = true) ∧ ∃ k, TksAll ds s k ∧ r = [.list (toksD ds s k), iD (atK ds s k)]) ∨ (¬ (okPats ds = true ∧ textOk s = true) ∧ r = [.list [], iD (-1)])
theorem TksR.uniq {ds : List Df} {s : List UInt8} {r q : List D} (h : TksR ds s r) (h' : TksR ds s q) : r = q := by
  rcases h with ⟨h1, k, h2, rfl⟩ | ⟨h1, rfl⟩ <;> rcases h' with ⟨g1, k', g2, rfl⟩ | ⟨g1, rfl⟩
  · rw [h2.uniq g2]
  · exact absurd h1 g1
  · exact absurd g1 h1
  · rfl
theorem tksR_some {ds : List Df} {s : List UInt8} (h1 : okPats ds = true) (h2 : textOk s = true) {k : Nat} (h : TksAll ds s k) {L : List D} (hL : L = toksD ds s k) : TksR ds s [.list L, iD (atK ds s k)] := .inl ⟨⟨h1, h2⟩, k, h, by rw [hL]⟩

set_option maxHeartbeats 800000 in
set_option maxRecDepth 100000 in
theorem c_Tokens (ds : List Df) (s : List UInt8) (hdl : ds.length ≤ 9223372036854775807) (hdf : ∀ a ∈ ds, a.fine) (hsl : s.length ≤ 9223372036854775807) : TCalls Tryd.prog 8 [.d (dsD ds), sA s] (TksR ds s) := by
  refine tcalls_intro Ty.mixed Tryd.func8 rfl rfl rfl [] (by kernel_rfl) (by simp) ?_
  simp
  refine .dval (c_PatternsValid ds hdl hdf) rfl (by simp) rfl ?_
  simp
  refine .flat (fun _ => c_TextValid s hsl) rfl (by simp) rfl (by simp) ?_
  simp
  refine ⟨fun hno => .inr ⟨fun ⟨h1, h2⟩ => by rw [h1, h2] at hno; simp at hno, rfl⟩, fun h1 h2 => ?_⟩
  have hwl : (s.length : Int) ≤ 30 := letters_len h2
  have hsa := letters_all h2
  refine LoopVC.wk (Wk.adoptSl 6 601 3 rfl (by simp)) ?_
  refine LoopVC.at { k : Nat // ∀ j, j < k → tkOk ds s (atK ds s j) = true } (fun k => [(0, .d (dsD ds)), (1, sA s), (6, .sl 3 601 0 k.1), (7, iA (atK ds s k.1))]) (fun k => [(601, .ar 3 (toksD ds s k.1))]) [601] (fun k => s.length + 1 - atK ds s k.1) ⟨0, by omega⟩ (by simp [atK]) (by simp [toksD]) ?_
  rintro ⟨k, hk⟩
  have hle := atK_le ds s k
  have hge := atK_ge hk
  have htl := toksD_len ds s k
  simp
  refine .tdat (c_nextToken ds s (atK ds s k) h1 hsa (by omega) hle) rfl (by simp) ?_
  rintro _ rfl
  unfold tkR
  cases hok : tkOk ds s (atK ds s k) with
  | false =>
    have hR := tksR_some h1 h2 (k := k) ⟨hk, hok⟩ (L := List.take k (toksD ds s k)) (List.take_of_length_le (by omega))
    unfold tkD
    rw [hok]
    simp [tokD, htl] at hR ⊢
    exact hR
  | true =>
    have hsu := atK_succ hok
    have hin := atK_inc hok
    have hts := toksD_succ ds s k
    have hb := tk_bd ds s hle ds.length
    have hds : tkD ds s (atK ds s k) = tokD (tk ds s (atK ds s k) ds.length).p (atK ds s k) (tk ds s (atK ds s k) ds.length).t := by unfold tkD; rw [hok]; rfl
    rw [hds] at hts ⊢
    have hte : (tk ds s (atK ds s k) ds.length).t = (atK ds s (k + 1) : Nat) := by rw [hsu]; omega
    rw [hte] at hts ⊢
    generalize (tk ds s (atK ds s k) ds.length).p = P at *
    simp [tokD, htl]
    refine ⟨⟨by omega, by omega⟩, k + 1, .mk (by simp) (by simp [hts, tokD]), ⟨fun j hj => ?_, by omega⟩⟩
    rcases Nat.lt_or_ge j k with h3 | h3
    · exact hk j h3
    · have : j = k := by omega
      subst this; exact hok
set_option maxHeartbeats 800000 in
set_option maxRecDepth 100000 in
theorem c_sTokens (ds : List Df) (s : List UInt8) (hdl : ds.length ≤ 9223372036854775807) (hdf : ∀ a ∈ ds, a.fine) (hsl : s.length ≤ 9223372036854775807) : TCalls Tryd.prog 15 [.d (dsD ds), sA s] (TksR ds s) := by
  refine tcalls_intro Ty.mixed Tryd.func15 rfl rfl rfl [] (by kernel_rfl) (by simp) ?_
  simp
  refine .dval (c_sPatternsValid ds hdl hdf) rfl (by simp) rfl ?_
  simp
  refine .flat (fun _ => c_sTextValid s hsl) rfl (by simp) rfl (by simp) ?_
  simp
  refine ⟨fun hno => .inr ⟨fun ⟨h1, h2⟩ => by rw [h1, h2] at hno; simp at hno, rfl⟩, fun h1 h2 => ?_⟩
  have hwl : (s.length : Int) ≤ 30 := letters_len h2
  have hsa := letters_all h2
  refine LoopVC.at { k : Nat // ∀ j, j < k → tkOk ds s (atK ds s j) = true } (fun k => [(0, .d (dsD ds)), (1, sA s), (6, .sl 3 1000 0 k.1), (7, iA (atK ds s k.1))]) (fun k => [(1000, .ar 3 (toksD ds s k.1))]) [1000] (fun k => s.length + 1 - atK ds s k.1) ⟨0, by omega⟩ (by simp [atK]) (by simp [toksD]) ?_
  rintro ⟨k, hk⟩
  have hle := atK_le ds s k
  have hge := atK_ge hk
  have htl := toksD_len ds s k
  simp
  refine .tdat (c_sNextToken ds s (atK ds s k) hdl hdf hsl) rfl (by simp) ?_
  intro r hr
  have hr : r = tkR ds s (atK ds s k) := by
    rcases hr with ⟨_, h⟩ | ⟨h, _⟩
    · simpa using h
    · exact absurd ⟨h1, h2, by omega, by omega⟩ h
  subst hr
  unfold tkR
  cases hok : tkOk ds s (atK ds s k) with
  | false =>
    have hR := tksR_some h1 h2 (k := k) ⟨hk, hok⟩ (L := List.take k (toksD ds s k)) (List.take_of_length_le (by omega))
    unfold tkD
    rw [hok]
    simp [tokD, htl] at hR ⊢
    exact hR
  | true =>
    have hsu := atK_succ hok
    have hin := atK_inc hok
    have hts := toksD_succ ds s k
    have hb := tk_bd ds s hle ds.length
    have hds : tkD ds s (atK ds s k) = tokD (tk ds s (atK ds s k) ds.length).p (atK ds s k) (tk ds s (atK ds s k) ds.length).t := by unfold tkD; rw [hok]; rfl
    rw [hds] at hts ⊢
    have hte : (tk ds s (atK ds s k) ds.length).t = (atK ds s (k + 1) : Nat) := by rw [hsu]; omega
    rw [hte] at hts ⊢
    generalize (tk ds s (atK ds s k) ds.length).p = P at *
    simp [tokD, htl]
    refine ⟨⟨by omega, by omega⟩, k + 1, .mk (by simp) (by simp [hts, tokD]), ⟨fun j hj => ?_, by omega⟩⟩
    rcases Nat.lt_or_ge j k with h3 | h3
    · exact hk j h3
    · have : j = k := by omega
      subst this; exact hok
end Go.Fw

/- The law about tokens that follow each other. -/
namespace Go.Fw
open Go Go.Proofs
set_option linter.unusedSectionVars false
set_option linter.unnecessarySimpa false

set_option maxRecDepth 100000 in
theorem c_DrawTokens (code : List UInt8) : TCalls Tryd.prog 13 [.d (.list (codeD code))] fun y => ∃ (ds : List Df) (s : List UInt8), y = [dsD ds, sD s] ∧ ds.length ≤ 5 ∧ (∀ a ∈ ds, a.tiny) ∧ s.length ≤ 200 := by
  refine tcalls_intro Ty.mixed Tryd.func13 rfl rfl rfl [] (by kernel_rfl) (by simp) ?_
  simp
  refine .fresh 700 (c_l20Open code) (by omega) (by simp) rfl (by simp) ?_
  rintro _ ⟨code', rfl, hc⟩
  simp [rdB]
  refine .lend (b := rdB (codeD code') 0) (d_l20Patterns code' (by omega) 0 14 (by omega) (by omega) (by omega)) (by simp [rdB]) (by simp) rfl (by simp) ?_
  rintro _ _ ⟨q, rfl, h1, h2, ds, rfl, hd, ht⟩
  simp [rdB]
  refine .lend (b := rdB (codeD code') q) (d_l20Long code' (by omega) q 14 (by omega) (by omega) (by omega)) (by simp [rdB]) (by simp) rfl (by simp) ?_
  rintro _ _ ⟨q2, rfl, h3, h4, s, rfl, hs⟩
  simp [rdB]
  exact ⟨ds, s, ⟨rfl, rfl⟩, hd, ht, hs⟩
theorem toksD_get {ds : List Df} {s : List UInt8} {k j : Nat} (h : ∀ j, j < k → tkOk ds s (atK ds s j) = true) (hj : j < k) : ∃ P : Int, (toksD ds s k)[j]? = some (tokD P (atK ds s j) (atK ds s (j + 1) : Nat)) ∧ (∀ h, (toksD ds s k)[j]'h = tokD P (atK ds s j) (atK ds s (j + 1) : Nat)) ∧ P = (tk ds s (atK ds s j) ds.length).p := by
  have hok := h j hj
  have hb := tk_bd ds s (atK_le ds s j) ds.length
  have e : tkD ds s (atK ds s j) = tokD (tk ds s (atK ds s j) ds.length).p (atK ds s j) (atK ds s (j + 1) : Nat) := by
    unfold tkD
    rw [hok, atK_succ hok, Int.toNat_of_nonneg (by omega)]; rfl
  refine ⟨_, ?_, fun h => ?_, rfl⟩
  · simp [toksD, hj, e]
  · simp [toksD, e]

end Go.Fw
