/-
  Walks: a record behind a last block, as the reference puts it. Conditions: block sizes of 9 to 1024, texts of at most 2000 bytes.
  Walks: records of the same length, packed by the reference. Conditions: valid sizes, at most 40000 records of the length.
  Walks: whether a list holds a record of a kind that a closure tells. Condition: the closure answers and changes nothing.
-/
import Derived.Test.YtckpepfkfjdnhaaGreatDoorQS11
import Derived.Test.YtckpepfkfjdnhaaGreatDoorQB
namespace Go.Proofs.YtckpepfkfjdnhaaGreatDoor

section
open Go.RowKit Go.Sort
attribute [local go_sem] ByteArray.mk_append_mk strOfNums_size ext_drop ext_take

theorem row_set {w : World} {base : Nat} {e : TypeId} {v : Value} {l : List By} (h : w.ownsRow base e 1 v l.length (l.map sv)) (i : Nat) (hi : i < l.length) :
   ∃ g cap, v = .slice (some ⟨g, 0, none⟩) l.length cap ∧ base ≤ g ∧ g < w.heap.size ∧ w.cell? ⟨g, i, none⟩ = some (.string ⟨l[i].toArray⟩) ∧ w.frozen? ⟨g, i, none⟩ = false ∧
     ∀ (W : World) (b : By), W.heap[g]? = w.heap[g]? → (W.setCell ⟨g, i, none⟩ (.string ⟨b.toArray⟩)).ownsRow base e 1 v (l.set i b).length ((l.set i b).map sv) := by
 rcases h.2 with ⟨rfl, hn⟩ | ⟨g, cap, cur, rfl, hbase, hblk, q1, q2, q3, q4⟩
 · omega
 · have q4' : cur.toList.take l.length = l.map sv := by rw [← q4, Nat.mul_one]
   refine ⟨g, cap, rfl, hbase, lt_of_block hblk, ?_, free_at hblk i, fun W b hW => ?_⟩
   · rw [cell_of_row w g i cur e (0, 0) hblk]
     have hi2 : (l.map sv)[i]? = some (.string ⟨l[i].toArray⟩) := by simp [hi, sv]
     rw [← q4', List.getElem?_take, if_pos hi] at hi2
     simpa using hi2
   · refine ⟨by simp, Or.inr ⟨g, cap, cur.setIfInBounds i (.string ⟨b.toArray⟩), by simp, hbase, cell_row_any _ _ _ _ _ _ _ (hW.trans hblk), by simpa using q1, q2, by simpa using q3, ?_⟩⟩
     rw [Nat.mul_one, List.length_set, Array.toList_setIfInBounds, List.take_set, q4', List.map_set]; rfl
theorem set_last (l : List By) (a b : By) : (l ++ [a]).set l.length b = l ++ [b] := by
 rw [List.set_append_right _ _ (Nat.le_refl _)]; simp

theorem putB_ne (size : Nat) : ∀ (f : Nat) (b : Bool) (blk r : By), putB size f b blk r ≠ []
 | 0, _, _, _ => by simp [putB]
 | f + 1, b, blk, r => by
   unfold putB
   simp only
   split
   · simp
   · split <;> simp

/-- The head of the reference's loop. -/
structure PutSt (w : World) (size : Nat) (T : List By) (W : World) (ol : List By) (blk rs : By) (bf : Bool) (v : Value) (f : Nat) : Prop where
 bel : Below w.heap.size w W
 own : W.ownsRow w.heap.size 9 1 v (ol ++ [blk]).length ((ol ++ [blk]).map sv)
 tot : T = ol ++ putB size f bf blk rs
 fuel : rs.length + (if blk = [] then 1 else 2) ≤ f
 len : rs.length ≤ 2000
 big : blk ≠ [] → 4 ≤ blk.length
 sml : blk.length ≤ 2000
theorem PutSt.small {w W : World} {size : Nat} {T ol : List By} {blk rs : By} {bf : Bool} {v : Value} {f : Nat} (h : PutSt w size T W ol blk rs bf v f) : ol.length + 1 ≤ T.length := by
 rw [h.tot, List.length_append]
 have := List.length_pos_iff.2 (putB_ne size f bf blk rs)
 omega
end

section
open Go.RowKit Go.Sort
attribute [local go_sem] ByteArray.mk_append_mk strOfNums_size ext_drop ext_take

/-- All texts before the j-th are of a kind. -/
structure AllTo (p : By → Bool) (l : List By) (j : Nat) : Prop where
 all : ∀ i (h : i < l.length), i < j → p l[i] = true
theorem AllTo.zero (p : By → Bool) (l : List By) : AllTo p l 0 := ⟨fun i _ h => absurd h (by omega)⟩
theorem AllTo.succ {p : By → Bool} {l : List By} {j : Nat} (h : AllTo p l j) (hj : j < l.length) (hp : p l[j] = true) : AllTo p l (j + 1) :=
 ⟨fun i hi h2 => by
   rcases Nat.lt_or_ge i j with h3 | h3
   · exact h.all i hi h3
   · have e : i = j := by omega
     subst e; exact hp⟩
theorem AllTo.done {p : By → Bool} {l : List By} {j : Nat} (h : AllTo p l j) (hj : l.length ≤ j) : l.all p = true := by
 rw [List.all_eq_true]; intro x hx
 obtain ⟨i, hi, rfl⟩ := List.mem_iff_getElem.1 hx
 exact h.all i hi (by omega)
/-- What a packing gives: the blocks, or that a record is not allowed. -/
structure PackPost (w : World) (ok : Bool) (V : List By) (e : Ending) (w' : World) : Prop where
 good : ok = true → ∃ v, e = .returned (.tuple #[v, .int .i64 0]) ∧ w'.ownsRow w.heap.size 9 1 v V.length (V.map sv)
 bad : ok = false → e = .returned (.tuple #[.slice none 0 0, .int .i64 2])
 bel : Below w.heap.size w w'

end

section
open Go.RowKit Go.Sort
attribute [local go_sem] ByteArray.mk_append_mk strOfNums_size ext_drop ext_take

set_option maxRecDepth 100000 in
set_option maxHeartbeats 2000000 in
theorem indexfS_any (c1 : Option Addr) (p : By → Bool) (w : World) (B : Nat) (a : Option Addr) (cap : Nat) (l : List By) (h : Strs w B a l) (hl : l.length ≤ 1000000)
   (hf : ∀ r ∈ l, Calls Tryz.prog 210 #[.string ⟨r.toArray⟩, .pointer c1] w fun e w' => e = .returned (.bool (p r)) ∧ w = w') :
   Calls Tryz.prog 215 #[.slice a l.length cap, .func (.func 210) #[] #[.pointer c1]] w fun e w' => (∃ k : Int, e = .returned (.int .i64 k) ∧ decide (0 ≤ k) = l.any p) ∧ w = w' := by
 have HF := Lib.hid hf
 clear hf
 go_enter Tryz.func215, Tryz.ntmps215
 go_wp2_with fail
 go_loop [5, 8] (fun _ k => ∃ j : Nat, j ≤ l.length ∧ k = .int .i64 j ∧ ∀ i (hi : i < l.length), i < j → p l[i] = false) (fun _ k => l.length - (intOf k).toNat)
 case atStart => exact ⟨0, by omega, rfl, fun i hi h => absurd h (by omega)⟩
 case round =>
   obtain ⟨j, hj, rfl, hno⟩ := hrel
   by_cases hlt : j < l.length
   · obtain ⟨b, off, rfl, hbb, hc⟩ := h.get hlt
     have hF := HF.out _ (List.getElem_mem hlt)
     cases hp : p l[j]
     · rw [hp] at hF
       have HNo := Lib.hid (show ∀ i (hi : i < l.length), i < j + 1 → p l[i] = false from fun i hi h => by
         rcases Nat.lt_or_ge i j with h2 | h2
         · exact hno i hi h2
         · have e : i = j := by omega
           subst e; exact hp)
       clear hno hp
       generalize l[j] = r at hc hF
       have HC := Lib.hid hF
       clear hF
       go_wp2_with fail
       refine HC.out.mono ?_
       rintro e w1 ⟨rfl, rfl⟩
       go_wp2
       go_round
       case rel => exact ⟨j + 1, by omega, by go_num, HNo.out⟩
       case measure => simp [intOf]; omega
     · rw [hp] at hF
       have HA := Lib.hid (show l.any p = true from List.any_eq_true.2 ⟨l[j], List.getElem_mem hlt, hp⟩)
       clear hno hp
       generalize l[j] = r at hc hF
       have HC := Lib.hid hF
       clear hF
       go_wp2_with fail
       refine HC.out.mono ?_
       rintro e w1 ⟨rfl, rfl⟩
       go_wp2
       go_ret
       exact ⟨⟨_, rfl, by rw [HA.out]; simp⟩, rfl⟩
   · have HA := Lib.hid (show l.any p = false from by
       rw [List.any_eq_false]
       intro x hx
       obtain ⟨i, hi, rfl⟩ := List.mem_iff_getElem.1 hx
       rw [hno i hi (by omega)]; simp)
     clear hno
     go_wp2
     go_ret
     exact ⟨⟨-1, rfl, by rw [HA.out]; rfl⟩, rfl⟩

set_option maxRecDepth 100000 in
set_option maxHeartbeats 2000000 in
theorem containsS_any (c1 : Option Addr) (p : By → Bool) (w : World) (B : Nat) (a : Option Addr) (cap : Nat) (l : List By) (h : Strs w B a l) (hl : l.length ≤ 1000000)
   (hf : ∀ r ∈ l, Calls Tryz.prog 210 #[.string ⟨r.toArray⟩, .pointer c1] w fun e w' => e = .returned (.bool (p r)) ∧ w = w') :
   Calls Tryz.prog 180 #[.slice a l.length cap, .func (.func 210) #[] #[.pointer c1]] w fun e w' => e = .returned (.bool (l.any p)) ∧ w = w' := by
 have HI := Lib.hid (indexfS_any c1 p w B a cap l h hl hf)
 clear hf h
 go_enter Tryz.func180, Tryz.ntmps180
 go_wp2_with fail
 refine HI.out.mono ?_
 rintro e w1 ⟨⟨k, rfl, hk⟩, rfl⟩
 have HK := Lib.hid hk
 clear hk
 go_wp2
 go_ret
 rw [← HK.out]
 exact ⟨rfl, rfl⟩

set_option maxRecDepth 100000 in
set_option maxHeartbeats 2000000 in
theorem indexfA_any (c1 c2 : Option Addr) (p : By → Bool) (w : World) (B : Nat) (a : Option Addr) (cap : Nat) (l : List By) (h : Strs w B a l) (hl : l.length ≤ 1000000)
   (hf : ∀ r ∈ l, Calls Tryz.prog 181 #[.string ⟨r.toArray⟩, .pointer c1, .pointer c2] w fun e w' => e = .returned (.bool (p r)) ∧ w = w') :
   Calls Tryz.prog 215 #[.slice a l.length cap, .func (.func 181) #[] #[.pointer c1, .pointer c2]] w fun e w' => (∃ k : Int, e = .returned (.int .i64 k) ∧ decide (0 ≤ k) = l.any p) ∧ w = w' := by
 have HF := Lib.hid hf
 clear hf
 go_enter Tryz.func215, Tryz.ntmps215
 go_wp2_with fail
 go_loop [5, 8] (fun _ k => ∃ j : Nat, j ≤ l.length ∧ k = .int .i64 j ∧ ∀ i (hi : i < l.length), i < j → p l[i] = false) (fun _ k => l.length - (intOf k).toNat)
 case atStart => exact ⟨0, by omega, rfl, fun i hi h => absurd h (by omega)⟩
 case round =>
   obtain ⟨j, hj, rfl, hno⟩ := hrel
   by_cases hlt : j < l.length
   · obtain ⟨b, off, rfl, hbb, hc⟩ := h.get hlt
     have hF := HF.out _ (List.getElem_mem hlt)
     cases hp : p l[j]
     · rw [hp] at hF
       have HNo := Lib.hid (show ∀ i (hi : i < l.length), i < j + 1 → p l[i] = false from fun i hi h => by
         rcases Nat.lt_or_ge i j with h2 | h2
         · exact hno i hi h2
         · have e : i = j := by omega
           subst e; exact hp)
       clear hno hp
       generalize l[j] = r at hc hF
       have HC := Lib.hid hF
       clear hF
       go_wp2_with fail
       refine HC.out.mono ?_
       rintro e w1 ⟨rfl, rfl⟩
       go_wp2
       go_round
       case rel => exact ⟨j + 1, by omega, by go_num, HNo.out⟩
       case measure => simp [intOf]; omega
     · rw [hp] at hF
       have HA := Lib.hid (show l.any p = true from List.any_eq_true.2 ⟨l[j], List.getElem_mem hlt, hp⟩)
       clear hno hp
       generalize l[j] = r at hc hF
       have HC := Lib.hid hF
       clear hF
       go_wp2_with fail
       refine HC.out.mono ?_
       rintro e w1 ⟨rfl, rfl⟩
       go_wp2
       go_ret
       exact ⟨⟨_, rfl, by rw [HA.out]; simp⟩, rfl⟩
   · have HA := Lib.hid (show l.any p = false from by
       rw [List.any_eq_false]
       intro x hx
       obtain ⟨i, hi, rfl⟩ := List.mem_iff_getElem.1 hx
       rw [hno i hi (by omega)]; simp)
     clear hno
     go_wp2
     go_ret
     exact ⟨⟨-1, rfl, by rw [HA.out]; rfl⟩, rfl⟩

set_option maxRecDepth 100000 in
set_option maxHeartbeats 2000000 in
theorem containsA_any (c1 c2 : Option Addr) (p : By → Bool) (w : World) (B : Nat) (a : Option Addr) (cap : Nat) (l : List By) (h : Strs w B a l) (hl : l.length ≤ 1000000)
   (hf : ∀ r ∈ l, Calls Tryz.prog 181 #[.string ⟨r.toArray⟩, .pointer c1, .pointer c2] w fun e w' => e = .returned (.bool (p r)) ∧ w = w') :
   Calls Tryz.prog 180 #[.slice a l.length cap, .func (.func 181) #[] #[.pointer c1, .pointer c2]] w fun e w' => e = .returned (.bool (l.any p)) ∧ w = w' := by
 have HI := Lib.hid (indexfA_any c1 c2 p w B a cap l h hl hf)
 clear hf h
 go_enter Tryz.func180, Tryz.ntmps180
 go_wp2_with fail
 refine HI.out.mono ?_
 rintro e w1 ⟨⟨k, rfl, hk⟩, rfl⟩
 have HK := Lib.hid hk
 clear hk
 go_wp2
 go_ret
 rw [← HK.out]
 exact ⟨rfl, rfl⟩
end

end Go.Proofs.YtckpepfkfjdnhaaGreatDoor
