/- G7: the two laws of the machine's runtime, over all numbers. -/
import Derived.Test.YtgngceifpdjbiaaSG6
set_option maxRecDepth 100000
set_option linter.unusedVariables false
namespace Go.ScX
open Go.ScE Go.Proofs
theorem end_S {a b l0 h0 l1 h1 : Int} {ex : List (Int × List Int)} (hB : Holds ⟨[l0, l1], [h0, h1], ex⟩ [a, b]) (h : evSF ⟨[l0, l1], [h0, h1], ex⟩ stb2 extS 3000 4 [s0, s1] [] = (pbool true, [], true)) : D23 4 [pint .i64 a, pint .i64 b] [] = (pbool true, [], true) := by
  have := nat_S hB 4 _ _ _ _ h
  rw [two_c, clA_c cl_true] at this
  exact this
theorem end_N {a b l0 h0 l1 h1 : Int} {ex : List (Int × List Int)} (hB : Holds ⟨[l0, l1], [h0, h1], ex⟩ [a, b]) (hN : Holds BN [a, b]) (h : evSF ⟨[l0, l1], [h0, h1], ex⟩ stb2 extN 3000 6 [s0, s1] [] = (pbool true, [], true)) : D23 6 [pint .i64 a, pint .i64 b] [] = (pbool true, [], true) := by
  have := nat_N hB hN 6 _ _ _ _ h
  rw [two_c, clA_c cl_true] at this
  exact this
theorem end_M {a b l0 h0 l1 h1 : Int} {ex : List (Int × List Int)} (hB : Holds ⟨[l0, l1], [h0, h1], ex⟩ [a, b]) (h : evSF ⟨[l0, l1], [h0, h1], ex⟩ stb2 extS 3000 6 [s0, s1] [] = (pbool true, [], true)) : D23 6 [pint .i64 a, pint .i64 b] [] = (pbool true, [], true) := by
  have := nat_S hB 6 _ _ _ _ h
  rw [two_c, clA_c cl_true] at this
  exact this
theorem no_ex {ρ : List Int} : ∀ g ∈ ([] : List (Int × List Int)), 0 ≤ g.1 + dotI g.2 ρ := fun g hg => by cases hg
theorem one_ex {c p q a b : Int} (h : 0 ≤ c + (p * a + q * b)) : ∀ g ∈ [(c, [p, q])], 0 ≤ g.1 + dotI g.2 [a, b] := fun g hg => by
  have := List.mem_singleton.1 hg; subst this
  simpa [dotI] using h
theorem lawS (a b : Int) (ha : mn ≤ a ∧ a ≤ mxx) (hb : mn ≤ b ∧ b ≤ mxx) : D23 4 [pint .i64 a, pint .i64 b] [] = (pbool true, [], true) := by
  by_cases h1 : a ≤ 0
  · exact end_S (holds2 ⟨ha.1, h1⟩ hb no_ex) st_a
  by_cases h2 : 301 ≤ a
  · exact end_S (holds2 ⟨h2, ha.2⟩ hb no_ex) st_b
  by_cases h3 : b ≤ -1
  · exact end_S (holds2 ⟨by omega, by omega⟩ ⟨hb.1, h3⟩ no_ex) st_c
  by_cases h4 : 301 ≤ b
  · exact end_S (holds2 ⟨by omega, by omega⟩ ⟨h4, hb.2⟩ no_ex) st_d
  by_cases h5 : b ≤ 1
  · exact end_S (holds2 ⟨by omega, by omega⟩ ⟨by omega, h5⟩ no_ex) st_e
  · exact end_S (holds2 ⟨by omega, by omega⟩ ⟨by omega, by omega⟩ no_ex) st_f
theorem lawN (a b : Int) (ha : mn ≤ a ∧ a ≤ mxx) (hb : mn ≤ b ∧ b ≤ mxx) : D23 6 [pint .i64 a, pint .i64 b] [] = (pbool true, [], true) := by
  by_cases h1 : a ≤ -1
  · exact end_M (holds2 ⟨ha.1, h1⟩ hb no_ex) nd_a
  by_cases h2 : 1001 ≤ a
  · exact end_M (holds2 ⟨h2, ha.2⟩ hb no_ex) nd_b
  by_cases h3 : b ≤ 1
  · exact end_M (holds2 ⟨by omega, by omega⟩ ⟨hb.1, h3⟩ no_ex) nd_c
  by_cases h4 : 1001 ≤ b
  · exact end_M (holds2 ⟨by omega, by omega⟩ ⟨h4, hb.2⟩ no_ex) nd_d
  have hN : Holds BN [a, b] := holds2 ⟨by omega, by omega⟩ ⟨by omega, by omega⟩ no_ex
  by_cases h5 : a + 2 ≤ b
  · exact end_N (holds2 ⟨by omega, by omega⟩ ⟨by omega, by omega⟩ (one_ex (by omega))) hN nd_e
  · exact end_N (holds2 ⟨by omega, by omega⟩ ⟨by omega, by omega⟩ (one_ex (by omega))) hN nd_f
end Go.ScX
