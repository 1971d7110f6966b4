/-
  A content after a change, by the reference. Conditions: pairs in memory, not too many.
-/
import Derived.Test.YtckpepfkfjdnhaaGreatDoorNJ45
namespace Go.Proofs.YtckpepfkfjdnhaaGreatDoor
open Go.RowKit Go.Sort
variable {z : Rest}

theorem DoRet.any {org fmt len blk : Int} {a0 : Option Addr} {w w' : World} {r : Int × Int × List Pr} {e : Ending} (h : DoRet z org fmt len blk none w r e w') : DoRet z org fmt len blk a0 w r e w' := by
 obtain ⟨⟨cs, h1, h2, h3⟩, hb⟩ := h
 refine ⟨⟨cs, h1, fun h0 => ?_, h3⟩, hb⟩
 obtain ⟨a, c, k1, k2, k3, k4, k5⟩ := h2 h0
 refine ⟨a, c, k1, k2, k3, k4, fun p hp => Or.inr ?_⟩
 rcases k5 p hp with h | h
 · rw [h] at hp; cases hp
 · exact h
/-- Where the change is not skipped, the result is a new row. -/
theorem rdo_new (w : World) (B : Nat) (a : Option Addr) (cap : Nat) (l : List Pr) (org fmt len blk ap n kind id : Int) (key rec vol : By) (hP : Prs w B a l) (hB : B ≤ w.heap.size) (hlc : l.length ≤ cap) (_hcm : cap ≤ maxLen) (hl : l.length ≤ 800) (hvo : z.vol.length ≤ 9223372036854775807) (how : z.own.length ≤ 9223372036854775807)
   (hk : key.length ≤ 100000) (hr : rec.length ≤ 100000) (hv : vol.length ≤ 1000000) (hkl : ∀ p ∈ l, p.1.length ≤ 100000 ∧ p.2.length ≤ 100000)
   (hbad : ¬ (valP z org fmt len blk ap l = false ∨ chgP kind id key rec vol = false ∨ n < 1 ∨ 1099511627776 < n ∨ id ≠ z.id ∨ n ≤ ap)) :
   Calls Tryz.prog 14 #[.agg (conC z org fmt len blk ap a l.length cap), .agg (numC n kind id key rec vol)] w (DoRet z org fmt len blk none w (rdoV z org fmt len blk ap l n kind id key rec vol)) := by
 have hva : valP z org fmt len blk ap l = true := by
   cases h : valP z org fmt len blk ap l with
   | true => rfl
   | false => exact absurd (Or.inl h) hbad
 have hch : chgP kind id key rec vol = true := by
   cases h : chgP kind id key rec vol with
   | true => rfl
   | false => exact absurd (Or.inr (Or.inl h)) hbad
 have h1 : ¬ n < 1 := fun h => hbad (Or.inr (Or.inr (Or.inl h)))
 have h2 : ¬ 1099511627776 < n := fun h => hbad (Or.inr (Or.inr (Or.inr (Or.inl h))))
 have hid : id = z.id := by
   by_cases h : id = z.id
   · exact h
   · exact absurd (Or.inr (Or.inr (Or.inr (Or.inr (Or.inl h))))) hbad
 have hap : ¬ n ≤ ap := fun h => hbad (Or.inr (Or.inr (Or.inr (Or.inr (Or.inr h)))))
 by_cases k0 : kind = 0
 · exact rdo_put w B a cap l org fmt len blk ap n kind id key rec vol hP hB hlc hl hvo how hk hr hv hkl hva hch h1 h2 hid hap k0
 · by_cases k1 : kind = 1
   · exact rdo_era w B a cap l org fmt len blk ap n kind id key rec vol hP hB hlc hl hvo how hk hr hv hkl hva hch h1 h2 hid hap k1
   · by_cases k2 : kind = 2
     · exact rdo_app w B a cap l org fmt len blk ap n kind id key rec vol hP hB hlc hl hvo how hk hr hv hkl hva hch h1 h2 hid hap k2
     · exact rdo_rest w B a cap l org fmt len blk ap n kind id key rec vol hP hB hlc hl hvo how hk hr hv hkl hva hch h1 h2 hid hap ⟨k0, k1, k2⟩
theorem rdo_any (w : World) (B : Nat) (a : Option Addr) (cap : Nat) (l : List Pr) (org fmt len blk ap n kind id : Int) (key rec vol : By) (hP : Prs w B a l) (hB : B ≤ w.heap.size) (hlc : l.length ≤ cap) (hcm : cap ≤ maxLen) (hl : l.length ≤ 800) (hvo : z.vol.length ≤ 9223372036854775807) (how : z.own.length ≤ 9223372036854775807)
   (hk : key.length ≤ 100000) (hr : rec.length ≤ 100000) (hv : vol.length ≤ 1000000) (hkl : ∀ p ∈ l, p.1.length ≤ 100000 ∧ p.2.length ≤ 100000) :
   Calls Tryz.prog 14 #[.agg (conC z org fmt len blk ap a l.length cap), .agg (numC n kind id key rec vol)] w (DoRet z org fmt len blk a w (rdoV z org fmt len blk ap l n kind id key rec vol)) := by
 by_cases hbad : valP z org fmt len blk ap l = false ∨ chgP kind id key rec vol = false ∨ n < 1 ∨ 1099511627776 < n ∨ id ≠ z.id ∨ n ≤ ap
 · exact rdo_bad w B a cap l org fmt len blk ap n kind id key rec vol hP hB hlc hcm hl hvo how hk hr hv hkl hbad
 · exact (rdo_new w B a cap l org fmt len blk ap n kind id key rec vol hP hB hlc hcm hl hvo how hk hr hv hkl hbad).mono fun _ _ h => h.any

end Go.Proofs.YtckpepfkfjdnhaaGreatDoor
