/- A row of the call's own, clipped, is still a row of the call's own; no statement of the seat stands here. -/
import Derived.Test.YtddgichochdgcaaVMore
import Derived.Test.YtddgichochdgcaaVQPut
namespace Go.Proofs.YtddgichochdgcaaV.PrintWords
open Go.RowKit
theorem blk_clip (A : Option Addr) (n c c' : Nat) : (Value.slice A n c).ownBlock = (Value.slice A n c').ownBlock := by cases A <;> rfl
namespace Kd
section
variable {α : Type} {d : Kd α} {e : Nat} {w : World} {base c : Nat} {ok : Nat → Prop} {A : Option Addr} {xs : List α}
theorem R_clip (h : d.R e w base ok (.slice A xs.length c) xs) : d.R e w base ok (.slice A xs.length xs.length) xs := by
  obtain ⟨h0, inner, ho, hr⟩ := h
  exact ⟨fun k hk => h0 k (by rw [blk_clip A _ c xs.length]; exact hk), inner, ho.clipped, by rw [blk_clip A _ xs.length c]; exact hr⟩
theorem S_clip (h : Kd.S d e w base ok (.slice A xs.length c) xs) : Kd.S d e w base ok (.slice A xs.length xs.length) xs := by
  obtain ⟨f, h⟩ := h
  have hl : xs.zipIdx.length = xs.length := List.length_zipIdx
  rw [← hl] at h
  have h2 := R_clip h
  rw [hl] at h2
  exact ⟨f, h2⟩
theorem N_clip (h : Kd.N d e w base ok (.slice A xs.length c) xs) : Kd.N d e w base ok (.slice A xs.length xs.length) xs := by
  obtain ⟨h0, rows, hl, hR, hf⟩ := h
  refine ⟨fun k hk => h0 k (by rw [blk_clip A _ c xs.length]; exact hk), rows, hl, ?_, by rw [blk_clip A _ xs.length c]; exact hf⟩
  rw [← hl] at hR ⊢
  rw [blk_clip A _ rows.length c]
  exact R_clip hR
theorem q_clip {size n : Nat} {ys : List Value} (h : QRow w base e size (.slice A n c) n ys) : QRow w base e size (.slice A n n) n ys := by
  obtain ⟨h1, h2⟩ := h
  refine ⟨h1, ?_⟩
  rcases h2 with ⟨h0, A', he, hA⟩ | ⟨g, off, cap, cur, he, hb, hh, hnc, hcm, hcs, ht⟩
  · injection he with ha hb hc
    subst ha
    exact .inl ⟨h0, A, by rw [h0], hA⟩
  · injection he with ha _ hc
    subst ha; subst hc
    exact .inr ⟨g, off, n, cur, rfl, hb, hh, Nat.le_refl _, by omega, Nat.le_trans (Nat.mul_le_mul_right _ (by omega)) hcs, ht⟩
theorem Q_clip (h : Kd.Q d e w base ok (.slice A xs.length c) xs) : Kd.Q d e w base ok (.slice A xs.length xs.length) xs := by
  obtain ⟨h0, inner, ho, hr⟩ := h
  exact ⟨fun k hk => h0 k (by rw [blk_clip A _ c xs.length]; exact hk), inner, q_clip ho, by rw [blk_clip A _ xs.length c]; exact hr⟩
end
end Kd
end Go.Proofs.YtddgichochdgcaaV.PrintWords
