/- The law's texts, shown, tell themselves apart; what a list of ordered texts gives. No condition. -/
import Derived.Test.YtigpffbhkopjeaaDoorNd18
import Derived.Test.YtigpffbhkopjeaaDoorNd19
namespace Go.Proofs.YtigpffbhkopjeaaDoor
open Go.RowKit Go.Sub Go.Sort

theorem apart_of_check {Q : ByteArray → List UInt8} {T : List ByteArray} (h : (T.all fun a => T.all fun b => decide (a = b) || (!(Q a).isPrefixOf (Q b) && !(Q b).isPrefixOf (Q a))) = true) : apartQ Q T := by
  intro a ha b hb s t e
  have h1 := List.all_eq_true.1 (List.all_eq_true.1 h a ha) b hb
  simp only [Bool.or_eq_true, decide_eq_true_eq, Bool.and_eq_true, Bool.not_eq_true', Bool.eq_false_iff, ne_eq, List.isPrefixOf_iff_prefix] at h1
  rcases h1 with rfl | ⟨h1, h2⟩
  · exact ⟨rfl, List.append_cancel_left e⟩
  · rcases List.append_eq_append_iff.1 e with ⟨c, hc, _⟩ | ⟨c, hc, _⟩
    · exact absurd ⟨c, hc.symm⟩ h1
    · exact absurd ⟨c, hc.symm⟩ h2
set_option maxRecDepth 100000 in
theorem apart_texts : apartQ quoteL treeTexts := apart_of_check (by decide +kernel)
theorem show_trees (c d : List UInt8) : (showN quoteL (treeN c) = showN quoteL (treeN d)) = (treeN c = treeN d) := show_same apart_texts (good_tree c) (good_tree d)
theorem good_wide {n : NodeT} (h : goodN treeTexts n) : WideN n := fun p m hm => by
  obtain ⟨h1, h2, _⟩ := h p m hm
  exact ⟨by omega, by omega⟩
theorem wide_tree (c : List UInt8) : WideN (treeN c) := good_wide (good_tree c)
end Go.Proofs.YtigpffbhkopjeaaDoor
