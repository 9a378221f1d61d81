/- The cheapest word: the program and the reference. -/
import Derived.Test.YtfldfcibjkhpnaaMq
import Derived.Test.YtfldfcibjkhpnaaLf
set_option linter.unusedSimpArgs false
set_option linter.unusedVariables false
namespace Go.Fw
open Go Go.Proofs

/-- What is found. -/
def CheapIs (n : Int) (rs : List Rd) (L : Int) (r : List D) : Prop :=
  (¬ (okRoads n rs = true ∧ 0 ≤ L ∧ L ≤ 8) ∧ r = [sD [], iD (-1), .bool false]) ∨
  ((okRoads n rs = true ∧ 0 ≤ L ∧ L ≤ 8) ∧ ∃ b c, Chp n.toNat rs (fun w => w.all isL = true ∧ w.length < L.toNat + 1) b c ∧ r = [sD b, iD c, .bool (decide (0 ≤ c))])
theorem rdOk_of {n : Int} {rs : List Rd} (h : okRoads n rs = true) : ∀ m ∈ rs, rdOk n.toNat m := fun m hm => by
  have := (okRoads_of h).2.2.2 m hm
  exact ⟨by omega, by omega, by omega, by omega, by omega⟩
theorem cw_bd {n : Int} {rs : List Rd} (h : okRoads n rs = true) (w : List UInt8) : -1 ≤ cw n.toNat rs w ∧ cw n.toNat rs w ≤ 99 * w.length := by
  obtain ⟨h1, h2, h3, h4⟩ := okRoads_of h
  exact (costs_bd (n := n.toNat) (rs := rs) (by omega) (fun m hm => by have := h4 m hm; omega) w).getD (by rw [costs_len]; omega) 0
theorem cw_best {N : Nat} {rs : List Rd} {w : List UInt8} (h : okRoads N rs = true) (hw : wordOk w = true) : bestC N rs w = cw N rs w := by
  unfold bestC cw; rw [h, hw]; simp
theorem chp_bd {n : Int} {rs : List Rd} {S : List UInt8 → Prop} {b : List UInt8} {c : Int} {k : Nat} (h : okRoads n rs = true) (hc : Chp n.toNat rs S b c) (hS : ∀ w, S w → w.length ≤ k) : b.length ≤ k ∧ -1 ≤ c ∧ c ≤ 99 * k := by
  rcases hc with ⟨rfl, rfl, _⟩ | ⟨h1, h2, h3, _⟩
  · simp; omega
  · have := cw_bd h b
    have := hS _ h1
    refine ⟨by omega, by omega, by omega⟩
/-- One word more. -/
theorem chp_one (N : Nat) (rs : List Rd) (w : List UInt8) (h : -1 ≤ cw N rs w) : Chp N rs (fun v => v = w) (if 0 ≤ cw N rs w then w else []) (cw N rs w) := by
  by_cases h0 : 0 ≤ cw N rs w
  · rw [if_pos h0]; exact .inr ⟨rfl, h0, rfl, by rintro v rfl _; exact .inr ⟨rfl, Int.le_refl _⟩⟩
  · rw [if_neg h0]; exact .inl ⟨by omega, rfl, by rintro v rfl; omega⟩

structure BC where
  m : Nat
  b : List UInt8
  c : Int
set_option maxRecDepth 100000 in
theorem c_CheapestWord (n : Int) (rs : List Rd) (L : Int) (hr0 : rs.length ≤ 9223372036854775807) : TCalls Try.prog 34 [.d (roadsD n rs), iA L] (CheapIs n rs L) := by
  refine tcalls_intro Ty.mixed Try.func34 rfl rfl rfl [2] (by kernel_rfl) (by simp) ?_
  simp [roadsD, rsD]
  refine .dval (c_RoadsValid n rs hr0) rfl (by simp) rfl ?_
  simp
  refine .flat (fun _ => c_within L 0 8) rfl (by simp) rfl (by simp) ?_
  simp
  refine ⟨fun hno => .inl ⟨?_, rfl⟩, fun hv hL => ?_⟩
  · rintro ⟨h1, h2⟩
    rcases hno with h | h
    · rw [h1] at h; cases h
    · simp [inR] at h; omega
  have hL' : 0 ≤ L ∧ L ≤ 8 := by simpa [inR] using hL
  obtain ⟨l, rfl⟩ : ∃ l : Nat, L = l := ⟨L.toNat, by omega⟩
  obtain ⟨N, rfl⟩ : ∃ N : Nat, n = N := by have := (okRoads_of hv).1; exact ⟨n.toNat, by omega⟩
  have hw1 : IntKind.i64.wrap ((l : Int) + 1) = ((l + 1 : Nat) : Int) := by rw [wrap64 (by omega) (by omega)]; rfl
  rw [hw1]
  refine .dval (c_shorter (l + 1) (by omega)) rfl (by simp) rfl ?_
  simp
  have hb := shorterN_bd (n := l + 1) (by omega)
  have h9 : shorterN (l + 1) ≤ shorterN 9 := shorterN_mono (by omega)
  have h98 : shorterN 9 ≤ 10000 := by decide
  obtain ⟨M, hM⟩ : ∃ M : Nat, shorterN (l + 1) = M := ⟨(shorterN (l + 1)).toNat, by omega⟩
  rw [hM] at h9 ⊢
  refine LoopVC.at { x : BC // x.m ≤ M ∧ Chp N rs (fun w => w.all isL = true ∧ num w < x.m) x.b x.c } (fun x => [(1, iA l), (2, .dp [iA N, .d (rsD rs)]), (7, sA x.1.b), (8, iA x.1.c), (23, iA M), (24, iA x.1.m)]) (fun _ => []) [] (fun x => M - x.1.m) ⟨⟨0, [], -1⟩, Nat.zero_le _, .inl ⟨rfl, rfl, fun w hw => ?_⟩⟩ (by simp [rsD]) (by simp) ?_
  · have h1 := wv_bd hw.1
    have h2 : 0 ≤ shorterN w.length := by have := shorterN_mono (Nat.zero_le w.length); simpa [shorterN] using this
    have h3 := hw.2
    unfold num at h3
    simp at h3; omega
  rintro ⟨⟨m, b, c⟩, hm, hc⟩
  simp only at hm hc
  rcases Nat.lt_or_ge m M with hmM | hmM
  · obtain ⟨w1, w2⟩ := wordAt_is (m := (m : Int)) (by omega) (by omega)
    simp [show (m : Int) < M by omega]
    refine .tdat (c_WordAt m (by omega)) rfl (by simp) ?_
    rintro _ rfl
    rw [if_pos ⟨by omega, by omega⟩]
    have hwl : (wordAt m).length < 9 := (num_lt w1 (n := 9)).1 (by rw [w2]; omega)
    have hwo : wordOk (wordAt m) = true := wordOk_of.2 ⟨w1, by omega⟩
    simp
    have hbc : DCalls Try.prog 62 [.d (roadsD N rs), sA (wordAt m)] fun y => y = iD (cw N rs (wordAt m)) := c_bestCost N rs (wordAt m) hv hwo
    refine .dval hbc rfl (by simp [roadsD, rsD]) rfl ?_
    have hcw := cw_bd hv (wordAt m)
    have hone := chp_one N rs (wordAt m) hcw.1
    have hadd := hc.add hone (fun s t hs ht => by rw [ht, w2]; exact hs.2)
    have hadd' := hadd.congr (T := fun w => w.all isL = true ∧ num w < ((m + 1 : Nat) : Int)) (fun w => by
      constructor
      · rintro (h | h)
        · exact ⟨h.1, by have := h.2; omega⟩
        · subst h; exact ⟨w1, by omega⟩
      · rintro ⟨h1, h2⟩
        by_cases e : num w < m
        · exact .inl ⟨h1, e⟩
        · exact .inr (num_inj h1 w1 (by omega)))
    generalize cw N rs (wordAt m) = v at *
    simp
    refine ⟨fun h => ⟨h, fun h2 => ⟨h, h2⟩⟩, fun h1 h2 => ?_, fun hno => ?_⟩
    · rw [if_pos ⟨h1, by omega⟩, if_pos h1, if_pos ⟨h1, by omega⟩] at hadd'
      refine ⟨⟨m + 1, wordAt m, v⟩, .mk (by simp; exact wrap64 (by omega) (by omega)) (by simp), ⟨hmM, by simpa using hadd'⟩, ?_⟩
      simp only; omega
    · have hno' : ¬ (0 ≤ v ∧ (c < 0 ∨ v < c)) := by omega
      rw [if_neg hno', if_neg hno'] at hadd'
      refine ⟨⟨m + 1, b, c⟩, .mk (by simp; exact wrap64 (by omega) (by omega)) (by simp), ⟨hmM, by simpa using hadd'⟩, ?_⟩
      simp only; omega
  · have : m = M := by omega
    subst this
    simp
    refine .inr ⟨⟨hv, hL'⟩, b, c, hc.congr fun w => ?_, rfl⟩
    constructor
    · rintro ⟨h1, h2⟩; exact ⟨h1, (num_lt h1).1 (by simp; omega)⟩
    · rintro ⟨h1, h2⟩; exact ⟨h1, by have := (num_lt h1 (n := l + 1)).2 (by simpa using h2); omega⟩
end Go.Fw
