/-
  Walks: the stream of blocks, by the reference. Condition: blocks of at most 60,000 bytes, a stream of at most 1,000,000,000.
  Walk: the stream of S19, for up to ten million blocks.
-/
import Derived.Test.YtckpepfkfjdnhaaGreatDoorPC
namespace Go.Proofs.YtckpepfkfjdnhaaGreatDoor

section
open Go.RowKit Go.Sort
attribute [local go_sem] ByteArray.mk_append_mk strOfNums_size ext_drop ext_take

theorem streamOf_snoc (l : List By) (r : By) : streamOf (l ++ [r]) = streamOf l ++ le2 r.length ++ r := by simp [streamOf]
theorem streamOf_take_le (l : List By) (k : Nat) : (streamOf (l.take k)).length ≤ (streamOf l).length := by
 have e : streamOf l = streamOf (l.take k) ++ streamOf (l.drop k) := by unfold streamOf; rw [← List.flatten_append, ← List.map_append, List.take_append_drop]
 rw [e, List.length_append]; omega
theorem streamOf_get_le (l : List By) (k : Nat) (h : k < l.length) : (streamOf (l.take k)).length + 2 + l[k].length ≤ (streamOf l).length := by
 have h1 := streamOf_take_le l (k + 1)
 rw [take_snoc' l k h, streamOf_snoc] at h1
 simp [le2] at h1 ⊢
 omega
theorem le2_str (n : Nat) : strOfNums [(n : Int) % 256, (n : Int) / 256] = bs (le2 n) := by
 unfold strOfNums le2
 have e1 : UInt8.ofNat ((n : Int) / 256).toNat = b8 (n / 256) := ofN (n / 256)
 have e2 : UInt8.ofNat ((n : Int) % 256).toNat = b8 (n % 256) := ofN (n % 256)
 simp only [List.map_cons, List.map_nil, e1, e2]

theorem conv_at2 {w : World} {g : Nat} {a b : Int} {t : TypeId} {fr : Nat × Nat} (hg : w.heap[g]? = some (.cells #[.int .u8 a, .int .u8 b] t fr)) : (convert 109 9 (.slice (some ⟨g, 0, none⟩) 2 2)).run Tryz.prog w = .ok (.string (strOfNums [a, b])) w :=
 conv_at w g 2 [a, b] t fr hg rfl

end

section
open Go.RowKit Go.Sort
attribute [local go_sem] ByteArray.mk_append_mk strOfNums_size ext_drop ext_take

set_option maxRecDepth 100000 in
set_option maxHeartbeats 2000000 in
theorem rstream_many (w : World) (B : Nat) (a : Option Addr) (cap : Nat) (l : List By) (h : Strs w B a l) (hB : B ≤ w.heap.size) (hl : l.length ≤ 10000000) (hs : (streamOf l).length ≤ 1000000000) (hk : ∀ r ∈ l, r.length ≤ 60000) :
   Calls Tryz.prog 88 #[.slice a l.length cap] w fun e w' => e = .returned (.string (bs (streamOf l))) ∧ Below w.heap.size w w' := by
 go_enter Tryz.func88, Tryz.ntmps88
 go_wp2
 go_loopw [3, 4, 5] (fun t k _ wr => ∃ j : Nat, j ≤ l.length ∧ k = .int .i64 j ∧ t = .string ⟨(streamOf (l.take j)).toArray⟩ ∧ Below w.heap.size w wr) (fun _ k _ _ => l.length - (intOf k).toNat)
 case atStart => exact ⟨0, by omega, rfl, rfl, Below.refl _ _⟩
 case round =>
   obtain ⟨j, hj, rfl, rfl, hb⟩ := hrel
   by_cases hlt : j < l.length
   · obtain ⟨b, off, rfl, hbb, hc⟩ := (h.below (hb.mono hB)).get hlt
     have hle := streamOf_get_le l j hlt
     have hkk := hk _ (List.getElem_mem hlt)
     have HT := Lib.hid (show streamOf (l.take (j + 1)) = streamOf (l.take j) ++ le2 l[j].length ++ l[j] by rw [take_snoc' l j hlt, streamOf_snoc])
     have hj0 : (0 : Int) ≤ (j : Int) := by omega
     have hj1 : (j : Int) < (l.length : Int) := by omega
     generalize streamOf (l.take j) = t at hle HT ⊢
     generalize l[j] = r at hc hle HT hkk
     have hcv : (convert 109 9 (.slice (some ⟨wr.heap.size, 0, none⟩) 2 2)).run Tryz.prog (wr.alloc (.cells #[.int .u8 ((r.length : Int) % 256), .int .u8 ((r.length : Int) / 256)] 5)).drew = .ok (.string (bs (le2 r.length))) (wr.alloc (.cells #[.int .u8 ((r.length : Int) % 256), .int .u8 ((r.length : Int) / 256)] 5)).drew := by
       rw [← le2_str]; exact conv_at2 (alloc_drew (w := wr) (o := .cells #[.int .u8 ((r.length : Int) % 256), .int .u8 ((r.length : Int) / 256)] 5))
     have hq : (le2 r.length).length = 2 := rfl
     generalize le2 r.length = q at hq hcv HT
     have hcA := ((((Below.refl wr.heap.size wr).alloc (Nat.le_refl _) (.cells #[.int .u8 ((r.length : Int) % 256), .int .u8 ((r.length : Int) / 256)] 5)).trans (below_drew1.mono (by simp))).cell (p := ⟨b, off + j, none⟩) (Nat.lt_of_lt_of_le hbb (Nat.le_trans hB hb.size))).trans hc
     have n3 : ¬ 9223372036854775807 < t.length + 2 := by omega
     have n4 : ¬ 9223372036854775807 < t.length + 2 + r.length := by omega
     have n1 : ¬ 9223372036854775807 < t.length + q.length := by omega
     have n2 : ¬ 9223372036854775807 < t.length + q.length + r.length := by omega
     have m1 : (r.length : Int).tmod 256 = (r.length : Int) % 256 := Int.tmod_eq_emod_of_nonneg (by omega)
     have m2 : (r.length : Int).tdiv 256 = (r.length : Int) / 256 := Int.tdiv_eq_ediv_of_nonneg (by omega)
     have m3 : IntKind.u8.wrap ((r.length : Int) % 256) = (r.length : Int) % 256 := by rw [IntKind.wrap_u8]; omega
     have m4 : IntKind.u8.wrap ((r.length : Int) / 256) = (r.length : Int) / 256 := by rw [IntKind.wrap_u8]; omega
     have m5 : IntKind.i64.wrap ((r.length : Int) / 256) = (r.length : Int) / 256 := IntWalk.i64_in _ (by omega)
     have HB := Lib.hid hb
     clear hb hkk
     go_wp2_with fail
     go_region
     have HB2 := Lib.hid (HB.out.trans ((((Below.refl wr.heap.size wr).alloc (Nat.le_refl _) (.cells #[.int .u8 ((r.length : Int) % 256), .int .u8 ((r.length : Int) / 256)] 5)).trans (below_drew1.mono (by simp))).mono HB.out.size))
     clear hcA hcv m1 m2 m3 m4 m5 n1 n2 n3 n4
     go_wp2_with fail
     go_roundw
     case rel => exact ⟨j + 1, by omega, by go_num, by rw [HT.out, List.append_assoc], HB2.out⟩
     case measure => simp [intOf]; omega
   · have hk : l.take j = l := List.take_of_length_le (by omega)
     rw [hk]
     have HB := Lib.hid hb
     clear hb
     go_wp2_with fail
     go_ret
     exact ⟨rfl, HB.out⟩
end

end Go.Proofs.YtckpepfkfjdnhaaGreatDoor
