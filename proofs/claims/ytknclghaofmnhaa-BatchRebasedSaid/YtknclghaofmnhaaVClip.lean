/- A row of the call's own, clipped, is still a row of the call's own; no statement of the seat stands here. -/
import Derived.Test.YtknclghaofmnhaaVMore
import Derived.Test.YtknclghaofmnhaaVQPut
namespace Go.Proofs.YtknclghaofmnhaaV.PrintWords
open Go.RowKit
theorem blk_clip (A : Option Addr) (n c c' : Nat) : (Value.slice A n c).ownBlock = (Value.slice A n c').ownBlock := by cases A <;> rfl
namespace Kd
section
variable {α : Type} {d : Kd α} {e : Nat} {w : World} {base c : Nat} {ok : Nat → Prop} {A : Option Addr} {xs : List α}
theorem R_clip (h : d.R e w base ok (.slice A xs.length c) xs) : d.R e w base ok (.slice A xs.length xs.length) xs := by
  obtain ⟨h0, inner, ho, hr⟩ := h
  exact ⟨fun k hk => h0 k (by rw [blk_clip A _ c xs.length]; exact hk), inner, ho.clipped, by rw [blk_clip A _ xs.length c]; exact hr⟩
end
end Kd
end Go.Proofs.YtknclghaofmnhaaV.PrintWords

