/-
  Walks: a record behind a last block, as the reference puts it. Conditions: block sizes of 9 to 1024, texts of at most 2000 bytes. Walks: records of the same length, packed by the reference. Conditions: valid sizes, at most 40000 records of the length. Walks: whether a list holds a record of a kind that a closure tells. Condition: the closure answers and changes nothing.
  Walks: the format of a description, as the program has it. Walks: whether a record is of an allowed length. Walks: whether records are allowed, by the program. Walks: whether a description is valid, by the program. No condition. Walks: whether a description is valid, by the program: all cases. No condition. Walks: records with lengths of their own, packed by the program. Conditions: valid sizes, at most 1000 records of at most the length.
  Walks: records that may be longer than a block, packed by the program. Conditions: valid sizes, at most 1000 records of at most the length. Walks: the head of a data set, by the program.
-/
import Derived.Test.YtcefkngblddpoaaGreatDoorG2
import Derived.Test.YtcefkngblddpoaaGreatDoorG3
namespace Go.Proofs.YtcefkngblddpoaaGreatDoor

section
set_option maxRecDepth 100000
set_option maxHeartbeats 4000000
section
open Go.RowKit Go.Sort
attribute [local go_sem] ByteArray.mk_append_mk strOfNums_size ext_drop ext_take
theorem row_set {w : World} {base : Nat} {e : TypeId} {v : Value} {l : List By} (h : w.ownsRow base e 1 v l.length (l.map sv)) (i : Nat) (hi : i < l.length) :
 ∃ g cap, v = .slice (some ⟨g, 0, none⟩) l.length cap ∧ base ≤ g ∧ g < w.heap.size ∧ w.cell? ⟨g, i, none⟩ = some (.string ⟨l[i].toArray⟩) ∧ w.frozen? ⟨g, i, none⟩ = false ∧
   ∀ (W : World) (b : By), W.heap[g]? = w.heap[g]? → (W.setCell ⟨g, i, none⟩ (.string ⟨b.toArray⟩)).ownsRow base e 1 v (l.set i b).length ((l.set i b).map sv) := by
 rcases h.2 with ⟨rfl, hn⟩ | ⟨g, cap, cur, rfl, hbase, hblk, q1, q2, q3, q4⟩
 · omega
 · have q4' : cur.toList.take l.length = l.map sv := by rw [← q4, Nat.mul_one]
   refine ⟨g, cap, rfl, hbase, lt_of_block hblk, ?_, free_at hblk i, fun W b hW => ?_⟩
   · rw [cell_of_row w g i cur e (0, 0) hblk]
     have hi2 : (l.map sv)[i]? = some (.string ⟨l[i].toArray⟩) := by simp [hi, sv]
     rw [← q4', List.getElem?_take, if_pos hi] at hi2
     simpa using hi2
   · refine ⟨by simp, Or.inr ⟨g, cap, cur.setIfInBounds i (.string ⟨b.toArray⟩), by simp, hbase, cell_row_any _ _ _ _ _ _ _ (hW.trans hblk), by simpa using q1, q2, by simpa using q3, ?_⟩⟩
     rw [Nat.mul_one, List.length_set, Array.toList_setIfInBounds, List.take_set, q4', List.map_set]; rfl
theorem set_last (l : List By) (a b : By) : (l ++ [a]).set l.length b = l ++ [b] := by
 rw [List.set_append_right _ _ (Nat.le_refl _)]; simp
theorem putB_ne (size : Nat) : ∀ (f : Nat) (b : Bool) (blk r : By), putB size f b blk r ≠ []
 | 0, _, _, _ => by simp [putB]
 | f + 1, b, blk, r => by
   unfold putB
   simp only
   split
   · simp
   · split <;> simp
theorem putB_c1 (size f : Nat) (bf : Bool) (blk r : By) (h1 : max 4 blk.length + 4 ≤ size) (h2 : r.length ≤ size - max 4 blk.length - 4) : putB size (f + 1) bf blk r = [addB blk bf false r] := by
 unfold putB; simp only; rw [if_pos ⟨h1, h2⟩]
theorem putB_c2 (size f : Nat) (bf : Bool) (blk r : By) (h1 : max 4 blk.length + 4 ≤ size) (h2 : ¬ r.length ≤ size - max 4 blk.length - 4) (h3 : 1 ≤ size - max 4 blk.length - 4) :
 putB size (f + 1) bf blk r = addB blk bf true (r.take (size - max 4 blk.length - 4)) :: putB size f true [] (r.drop (size - max 4 blk.length - 4)) := by
 conv => lhs; unfold putB
 simp only; rw [if_neg (fun h => h2 h.2), if_pos ⟨h1, h3⟩]
theorem putB_c3 (size f : Nat) (bf : Bool) (blk r : By) (h1 : ¬ (max 4 blk.length + 4 ≤ size ∧ r.length ≤ size - max 4 blk.length - 4)) (h2 : ¬ (max 4 blk.length + 4 ≤ size ∧ 1 ≤ size - max 4 blk.length - 4)) :
 putB size (f + 1) bf blk r = blk :: putB size f bf [] r := by
 conv => lhs; unfold putB
 simp only; rw [if_neg h1, if_neg h2]
theorem addB_length (blk : By) (b a : Bool) (d : By) : (addB blk b a d).length ≤ blk.length + d.length + 8 := by
 unfold addB
 rw [whole_length, List.length_append, segF_length]
 split
 · rw [List.length_drop]; omega
 · simp; omega
/-- The head of the reference's loop. -/
structure PutSt (w : World) (size : Nat) (T : List By) (W : World) (ol : List By) (blk rs : By) (bf : Bool) (v : Value) (f : Nat) : Prop where
 bel : Below w.heap.size w W
 own : W.ownsRow w.heap.size 9 1 v (ol ++ [blk]).length ((ol ++ [blk]).map sv)
 tot : T = ol ++ putB size f bf blk rs
 fuel : rs.length + (if blk = [] then 1 else 2) ≤ f
 len : rs.length ≤ 2000
 big : blk ≠ [] → 4 ≤ blk.length
 sml : blk.length ≤ 2000
theorem PutSt.small {w W : World} {size : Nat} {T ol : List By} {blk rs : By} {bf : Bool} {v : Value} {f : Nat} (h : PutSt w size T W ol blk rs bf v f) : ol.length + 1 ≤ T.length := by
 rw [h.tot, List.length_append]
 have := List.length_pos_iff.2 (putB_ne size f bf blk rs)
 omega
theorem putB_le (size : Nat) (hs : 9 ≤ size) (r last : By) (h4 : last ≠ [] → 4 ≤ last.length) : (putB size (r.length + 2) false last r).length ≤ r.length + 3 := by
 by_cases hn : last = []
 · subst hn
   rw [putB_nil size hs (r.length + 2) (r.length + 1) false r (by omega) (by omega)]
   have := restA_le size hs (r.length + 1) false r; omega
 · rw [put_add size hs last r (h4 hn)]
   have h2 : (addA size last r).2.length ≤ r.length + 1 := by
    unfold addA
    split
    · simp only
      split
      · simp
      · have := restA_le size hs (r.length + 1) true (r.drop (size - last.length - 4))
        rw [List.length_drop] at this; omega
    · exact restA_le size hs (r.length + 1) false r
   rw [List.length_append]
   split <;> simp <;> omega
theorem put_any (w : World) (size : Nat) (last r : By) (h9 : 9 ≤ size) (h10 : size ≤ 1024) (hl : last.length ≤ 2000) (h4 : last ≠ [] → 4 ≤ last.length) (hr : r.length ≤ 2000) :
 Calls Tryz.prog 206 #[.int .i64 size, .string ⟨last.toArray⟩, .string ⟨r.toArray⟩] w fun e w' =>
  ∃ v, e = .returned v ∧ w'.ownsRow w.heap.size 9 1 v (putB size (r.length + 2) false last r).length ((putB size (r.length + 2) false last r).map sv) ∧ Below w.heap.size w w' := by
 have hTl := putB_le size h9 r last h4
 have HT := Lib.hid (show putB size (r.length + 2) false last r = [] ++ putB size (r.length + 2) false last r from rfl)
 have hb0 : Below w.heap.size w (w.alloc (.cells #[.string ⟨last.toArray⟩] 9)) := (Below.refl _ _).alloc (Nat.le_refl _) _
 have ho0 := World.ownsRow_lit (base := w.heap.size) (e := 9) (size := 1) w #[.string ⟨last.toArray⟩] 1 (Nat.le_refl _) (by simp [maxLen]) rfl
 have HS := Lib.hid (show PutSt w size (putB size (r.length + 2) false last r) _ [] last r false _ (r.length + 2) from ⟨hb0, ho0, rfl, by split <;> omega, hr, h4, hl⟩)
 clear hb0 ho0 HT
 generalize putB size (r.length + 2) false last r = T at hTl HS ⊢
 obtain ⟨i0, hi0, hz0, hz1, hz2⟩ := info_parts info9
 go_enter Tryz.func206, Tryz.ntmps206
 go_wp2_with fail
 go_loopw [2, 7, 8] (fun rc v bfv wr => ∃ ol blk rs bf f, rc = .string ⟨rs.toArray⟩ ∧ bfv = .bool bf ∧ PutSt w size T wr ol blk rs bf v f) (fun _ v _ _ => T.length + 1 - (match v with | .slice _ n _ => n | _ => 0))
 case atStart => exact ⟨[], last, r, false, r.length + 2, rfl, rfl, HS.out⟩
 case round =>
  clear HS
  obtain ⟨ol, blk, rs, bf, f, rfl, rfl, hS⟩ := hrel
  have hsm := hS.small
  have hbs := hS.sml
  have hrl := hS.len
  have hbig := hS.big
  have hfu := hS.fuel
  obtain ⟨f', rfl⟩ : ∃ f', f = f' + 1 := ⟨f - 1, by split at hfu <;> omega⟩
  obtain ⟨g, cap, rfl, hg, hgl, hcell, hfr, hset⟩ := row_set hS.own ol.length (by simp)
  rw [List.getElem_append_right (Nat.le_refl _)] at hcell
  simp only [Nat.sub_self, List.getElem_cons_zero] at hcell
  have hrow := hS.own
  have htot := hS.tot
  have hbel := hS.bel
  rw [show (ol ++ [blk]).length = ol.length + 1 by simp] at hrow ⊢
  have HSET := Lib.hid (fun (W : World) (b : By) (h : W.heap[g]? = wr.heap[g]?) => (by
   have h2 := hset W b h
   rw [set_last, show (ol ++ [blk]).length = ol.length + 1 by simp] at h2; exact h2 : (W.setCell ⟨g, ol.length, none⟩ (.string ⟨b.toArray⟩)).ownsRow w.heap.size 9 1 (.slice (some ⟨g, 0, none⟩) (ol.length + 1) cap) (ol ++ [b]).length ((ol ++ [b]).map sv)))
  clear hset hS
  by_cases hn : blk = []
  · subst hn
    obtain ⟨room, hroom⟩ : ∃ room : Nat, room = size - 8 := ⟨_, rfl⟩
    have hri : (size : Int) - 4 - 4 = (room : Int) := by omega
    have hr1 : 1 ≤ room := by omega
    have hmx : size - max 4 ([] : By).length - 4 = room := by simp; omega
    by_cases h1 : rs.length ≤ room
    · rw [putB_c1 size f' bf [] rs (by simp; omega) (by rw [hmx]; exact h1)] at htot
      have hadd := fun (W : World) => radd_any [] bf false rs W hrl (by first | exact hbs | simp) hbig
      have hal := addB_length [] bf false rs
      generalize addB [] bf false rs = nb at htot hadd hal
      have HADD := Lib.hid hadd
      have HT := Lib.hid htot
      have HB := Lib.hid hbel
      clear hadd htot hbel hroom hmx
      go_wp2_with fail
      refine (HADD.out _).mono ?_
      rintro e w2 ⟨rfl, hb2⟩
      have hc2 := (hb2.cell (p := ⟨g, ol.length, none⟩) hgl).trans hcell
      have hf2 := (hb2.frozen (p := ⟨g, ol.length, none⟩) hgl).trans hfr
      have HB2 := Lib.hid hb2
      clear hb2 hcell hfr hrow
      go_wp2_with fail
      go_ret
      exact ⟨_, rfl, by rw [HT.out]; exact HSET.out w2 nb (HB2.out.block g hgl), (HB.out.trans (HB2.out.mono HB.out.size)).setCell hg _⟩
    · rw [putB_c2 size f' bf [] rs (by simp; omega) (by rw [hmx]; exact h1) (by rw [hmx]; exact hr1), hmx] at htot
      have hadd := fun (W : World) => radd_any [] bf true (rs.take room) W (by rw [List.length_take]; omega) (by first | exact hbs | simp) hbig
      have hal := addB_length [] bf true (rs.take room)
      generalize addB [] bf true (rs.take room) = nb at htot hadd hal
      have HADD := Lib.hid hadd
      have HT := Lib.hid htot
      have HB := Lib.hid hbel
      have h2 : (room : Int) ≤ (rs.length : Int) := by omega
      clear hadd htot hbel hroom hmx hal
      go_wp2_with fail
      go_region_with ((go_at_call 229
                       refine (HADD.out _).mono ?_
                       rintro e w2 ⟨rfl, hb2⟩
                       have hb2 : Below wr.heap.size wr w2 := below_drew1.trans hb2
                       have hc2 := (hb2.cell (p := ⟨g, ol.length, none⟩) hgl).trans hcell
                       have hf2 := (hb2.frozen (p := ⟨g, ol.length, none⟩) hgl).trans hfr))
      have hrw := Lib.hid (HSET.out w2 nb (hb2.block g hgl))
      have HBx := Lib.hid ((HB.out.trans (hb2.mono HB.out.size)).setCell (p := ⟨g, ol.length, none⟩) hg (.string ⟨nb.toArray⟩))
      clear hb2 hc2 hf2 hcell hfr hrow
      generalize w2.setCell ⟨g, ol.length, none⟩ (.string ⟨nb.toArray⟩) = w3 at hrw HBx ⊢
      have hgs := hrw.out
      go_wp2_with (at_builtin; go_must (refine wpList_append_own _ rfl _ _ 69 rfl w.heap.size 9 i0 (.string ByteArray.empty) 1 16 Tryz.underlying69 hi0 hz0 hz1 hz2 rfl (by decide) _ _ _ rfl (hgs.alloc _) _ 1 1 [.string ⟨([] : By).toArray⟩] rfl rfl ?d1n2 ?d2n2 ?d3n2 ?d4n2 ?d5n2 ?_))
      case d1n2 => exact news_at (cs := #[.string ⟨([] : By).toArray⟩]) (heap_alloc_new _ _)
      case d2n2 => simp [Value.oneCell']
      case d3n2 => unfold maxLen; (try simp); omega
      case d4n2 => (try simp); omega
      case d5n2 => have := HBx.out.size; simp at this ⊢; omega
      intro v6 w6 hown6 hg6 _
      have hbA := HBx.out.alloc HBx.out.size (.cells #[.string ⟨([] : By).toArray⟩] 9)
      have hb6 := hbA.grown hg6 hbA.size (fun k hk => row_own hgs hk)
      have hown7 : w6.ownsRow w.heap.size 9 1 v6 ((ol ++ [nb]) ++ [[]]).length (((ol ++ [nb]) ++ [[]]).map sv) := by
       simpa [sv] using hown6
      obtain ⟨a6, cap6, rfl, -, -⟩ := strs_of_row hown7
      have HZ := Lib.hid (show PutSt w size T w6 (ol ++ [nb]) [] (rs.drop room) true _ f' from ⟨hb6, hown7, by rw [HT.out]; simp, by first | (simp at hfu ⊢; omega) | (rw [if_neg hn] at hfu; simp; omega), by rw [List.length_drop]; omega, fun h => absurd rfl h, by simp⟩)
      clear hown6 hown7 hg6 hbA hb6 hgs
      go_wp2_with fail
      go_roundw
      case rel => exact ⟨_, _, _, _, _, rfl, rfl, HZ.out⟩
      case measure => simp; omega
  · have h44 : 4 ≤ blk.length := hbig hn
    by_cases hlen : blk.length = 4
    · obtain ⟨room, hroom⟩ : ∃ room : Nat, room = size - 8 := ⟨_, rfl⟩
      have hri : (size : Int) - 4 - 4 = (room : Int) := by omega
      have hr1 : 1 ≤ room := by omega
      have hmx : size - max 4 blk.length - 4 = room := by rw [hlen]; simp; omega
      by_cases h1 : rs.length ≤ room
      · rw [putB_c1 size f' bf blk rs (by rw [hlen]; simp; omega) (by rw [hmx]; exact h1)] at htot
        have hadd := fun (W : World) => radd_any blk bf false rs W hrl (by first | exact hbs | simp) hbig
        have hal := addB_length blk bf false rs
        generalize addB blk bf false rs = nb at htot hadd hal
        have HADD := Lib.hid hadd
        have HT := Lib.hid htot
        have HB := Lib.hid hbel
        clear hadd htot hbel hroom hmx
        go_wp2_with fail
        refine (HADD.out _).mono ?_
        rintro e w2 ⟨rfl, hb2⟩
        have hc2 := (hb2.cell (p := ⟨g, ol.length, none⟩) hgl).trans hcell
        have hf2 := (hb2.frozen (p := ⟨g, ol.length, none⟩) hgl).trans hfr
        have HB2 := Lib.hid hb2
        clear hb2 hcell hfr hrow
        go_wp2_with fail
        go_ret
        exact ⟨_, rfl, by rw [HT.out]; exact HSET.out w2 nb (HB2.out.block g hgl), (HB.out.trans (HB2.out.mono HB.out.size)).setCell hg _⟩
      · rw [putB_c2 size f' bf blk rs (by rw [hlen]; simp; omega) (by rw [hmx]; exact h1) (by rw [hmx]; exact hr1), hmx] at htot
        have hadd := fun (W : World) => radd_any blk bf true (rs.take room) W (by rw [List.length_take]; omega) (by first | exact hbs | simp) hbig
        have hal := addB_length blk bf true (rs.take room)
        generalize addB blk bf true (rs.take room) = nb at htot hadd hal
        have HADD := Lib.hid hadd
        have HT := Lib.hid htot
        have HB := Lib.hid hbel
        have h2 : (room : Int) ≤ (rs.length : Int) := by omega
        clear hadd htot hbel hroom hmx hal
        go_wp2_with fail
        go_region_with ((go_at_call 229
                         refine (HADD.out _).mono ?_
                         rintro e w2 ⟨rfl, hb2⟩
                         have hb2 : Below wr.heap.size wr w2 := below_drew1.trans hb2
                         have hc2 := (hb2.cell (p := ⟨g, ol.length, none⟩) hgl).trans hcell
                         have hf2 := (hb2.frozen (p := ⟨g, ol.length, none⟩) hgl).trans hfr))
        have hrw := Lib.hid (HSET.out w2 nb (hb2.block g hgl))
        have HBx := Lib.hid ((HB.out.trans (hb2.mono HB.out.size)).setCell (p := ⟨g, ol.length, none⟩) hg (.string ⟨nb.toArray⟩))
        clear hb2 hc2 hf2 hcell hfr hrow
        generalize w2.setCell ⟨g, ol.length, none⟩ (.string ⟨nb.toArray⟩) = w3 at hrw HBx ⊢
        have hgs := hrw.out
        go_wp2_with (at_builtin; go_must (refine wpList_append_own _ rfl _ _ 69 rfl w.heap.size 9 i0 (.string ByteArray.empty) 1 16 Tryz.underlying69 hi0 hz0 hz1 hz2 rfl (by decide) _ _ _ rfl (hgs.alloc _) _ 1 1 [.string ⟨([] : By).toArray⟩] rfl rfl ?d1n4 ?d2n4 ?d3n4 ?d4n4 ?d5n4 ?_))
        case d1n4 => exact news_at (cs := #[.string ⟨([] : By).toArray⟩]) (heap_alloc_new _ _)
        case d2n4 => simp [Value.oneCell']
        case d3n4 => unfold maxLen; (try simp); omega
        case d4n4 => (try simp); omega
        case d5n4 => have := HBx.out.size; simp at this ⊢; omega
        intro v6 w6 hown6 hg6 _
        have hbA := HBx.out.alloc HBx.out.size (.cells #[.string ⟨([] : By).toArray⟩] 9)
        have hb6 := hbA.grown hg6 hbA.size (fun k hk => row_own hgs hk)
        have hown7 : w6.ownsRow w.heap.size 9 1 v6 ((ol ++ [nb]) ++ [[]]).length (((ol ++ [nb]) ++ [[]]).map sv) := by
         simpa [sv] using hown6
        obtain ⟨a6, cap6, rfl, -, -⟩ := strs_of_row hown7
        have HZ := Lib.hid (show PutSt w size T w6 (ol ++ [nb]) [] (rs.drop room) true _ f' from ⟨hb6, hown7, by rw [HT.out]; simp, by first | (simp at hfu ⊢; omega) | (rw [if_neg hn] at hfu; simp; omega), by rw [List.length_drop]; omega, fun h => absurd rfl h, by simp⟩)
        clear hown6 hown7 hg6 hbA hb6 hgs
        go_wp2_with fail
        go_roundw
        case rel => exact ⟨_, _, _, _, _, rfl, rfl, HZ.out⟩
        case measure => simp; omega
    have h46 : 4 < blk.length := by omega
    have h45 : (4 : Int) < (blk.length : Int) := by omega
    have hmax : max 4 blk.length = blk.length := Nat.max_eq_right h44
    clear hlen
    by_cases h0 : blk.length + 4 ≤ size
    · obtain ⟨room, hroom⟩ : ∃ room : Nat, room = size - blk.length - 4 := ⟨_, rfl⟩
      have hri : (size : Int) - (blk.length : Int) - 4 = (room : Int) := by omega
      have hmx : size - max 4 blk.length - 4 = room := by rw [hmax]; omega
      by_cases h1 : rs.length ≤ room
      · rw [putB_c1 size f' bf blk rs (by rw [hmax]; exact h0) (by rw [hmx]; exact h1)] at htot
        clear h0 hmax
        have hadd := fun (W : World) => radd_any blk bf false rs W hrl (by first | exact hbs | simp) hbig
        have hal := addB_length blk bf false rs
        generalize addB blk bf false rs = nb at htot hadd hal
        have HADD := Lib.hid hadd
        have HT := Lib.hid htot
        have HB := Lib.hid hbel
        clear hadd htot hbel hroom hmx
        go_wp2_with fail
        refine (HADD.out _).mono ?_
        rintro e w2 ⟨rfl, hb2⟩
        have hc2 := (hb2.cell (p := ⟨g, ol.length, none⟩) hgl).trans hcell
        have hf2 := (hb2.frozen (p := ⟨g, ol.length, none⟩) hgl).trans hfr
        have HB2 := Lib.hid hb2
        clear hb2 hcell hfr hrow
        go_wp2_with fail
        go_ret
        exact ⟨_, rfl, by rw [HT.out]; exact HSET.out w2 nb (HB2.out.block g hgl), (HB.out.trans (HB2.out.mono HB.out.size)).setCell hg _⟩
      · by_cases hr1 : 1 ≤ room
        · rw [putB_c2 size f' bf blk rs (by rw [hmax]; exact h0) (by rw [hmx]; exact h1) (by rw [hmx]; exact hr1), hmx] at htot
          clear h0 hmax
          have hadd := fun (W : World) => radd_any blk bf true (rs.take room) W (by rw [List.length_take]; omega) (by first | exact hbs | simp) hbig
          have hal := addB_length blk bf true (rs.take room)
          generalize addB blk bf true (rs.take room) = nb at htot hadd hal
          have HADD := Lib.hid hadd
          have HT := Lib.hid htot
          have HB := Lib.hid hbel
          have h2 : (room : Int) ≤ (rs.length : Int) := by omega
          clear hadd htot hbel hroom hmx hal
          go_wp2_with fail
          go_region_with ((go_at_call 229
                           refine (HADD.out _).mono ?_
                           rintro e w2 ⟨rfl, hb2⟩
                           have hb2 : Below wr.heap.size wr w2 := below_drew1.trans hb2
                           have hc2 := (hb2.cell (p := ⟨g, ol.length, none⟩) hgl).trans hcell
                           have hf2 := (hb2.frozen (p := ⟨g, ol.length, none⟩) hgl).trans hfr))
          have hrw := Lib.hid (HSET.out w2 nb (hb2.block g hgl))
          have HBx := Lib.hid ((HB.out.trans (hb2.mono HB.out.size)).setCell (p := ⟨g, ol.length, none⟩) hg (.string ⟨nb.toArray⟩))
          clear hb2 hc2 hf2 hcell hfr hrow
          generalize w2.setCell ⟨g, ol.length, none⟩ (.string ⟨nb.toArray⟩) = w3 at hrw HBx ⊢
          have hgs := hrw.out
          go_wp2_with (at_builtin; go_must (refine wpList_append_own _ rfl _ _ 69 rfl w.heap.size 9 i0 (.string ByteArray.empty) 1 16 Tryz.underlying69 hi0 hz0 hz1 hz2 rfl (by decide) _ _ _ rfl (hgs.alloc _) _ 1 1 [.string ⟨([] : By).toArray⟩] rfl rfl ?d1n6 ?d2n6 ?d3n6 ?d4n6 ?d5n6 ?_))
          case d1n6 => exact news_at (cs := #[.string ⟨([] : By).toArray⟩]) (heap_alloc_new _ _)
          case d2n6 => simp [Value.oneCell']
          case d3n6 => unfold maxLen; (try simp); omega
          case d4n6 => (try simp); omega
          case d5n6 => have := HBx.out.size; simp at this ⊢; omega
          intro v6 w6 hown6 hg6 _
          have hbA := HBx.out.alloc HBx.out.size (.cells #[.string ⟨([] : By).toArray⟩] 9)
          have hb6 := hbA.grown hg6 hbA.size (fun k hk => row_own hgs hk)
          have hown7 : w6.ownsRow w.heap.size 9 1 v6 ((ol ++ [nb]) ++ [[]]).length (((ol ++ [nb]) ++ [[]]).map sv) := by
           simpa [sv] using hown6
          obtain ⟨a6, cap6, rfl, -, -⟩ := strs_of_row hown7
          have HZ := Lib.hid (show PutSt w size T w6 (ol ++ [nb]) [] (rs.drop room) true _ f' from ⟨hb6, hown7, by rw [HT.out]; simp, by first | (simp at hfu ⊢; omega) | (rw [if_neg hn] at hfu; simp; omega), by rw [List.length_drop]; omega, fun h => absurd rfl h, by simp⟩)
          clear hown6 hown7 hg6 hbA hb6 hgs
          go_wp2_with fail
          go_roundw
          case rel => exact ⟨_, _, _, _, _, rfl, rfl, HZ.out⟩
          case measure => simp; omega
        · rw [putB_c3 size f' bf blk rs (fun h => h1 (by rw [← hmx]; exact h.2)) (fun h => hr1 (by rw [← hmx]; exact h.2))] at htot
          have h6 : ¬ (rs.length : Int) ≤ (room : Int) := by omega
          have h7 : ¬ (1 : Int) ≤ (room : Int) := by omega
          clear h0 hmax
          have HT := Lib.hid htot
          have hrw := Lib.hid hrow
          have HBx := Lib.hid hbel
          clear htot hbel hrow
          have hgs := hrw.out
          go_wp2_with (at_builtin; go_must (refine wpList_append_own _ rfl _ _ 69 rfl w.heap.size 9 i0 (.string ByteArray.empty) 1 16 Tryz.underlying69 hi0 hz0 hz1 hz2 rfl (by decide) _ _ _ rfl (hgs.alloc _) _ 1 1 [.string ⟨([] : By).toArray⟩] rfl rfl ?d1n7 ?d2n7 ?d3n7 ?d4n7 ?d5n7 ?_))
          case d2n7 => simp [Value.oneCell']
          case d3n7 => unfold maxLen; (try simp); omega
          case d4n7 => (try simp); omega
          case d5n7 => have := HBx.out.size; simp at this ⊢; omega
          intro v6 w6 hown6 hg6 _
          have hbA := HBx.out.alloc HBx.out.size (.cells #[.string ⟨([] : By).toArray⟩] 9)
          have hb6 := hbA.grown hg6 hbA.size (fun k hk => row_own hgs hk)
          have hown7 : w6.ownsRow w.heap.size 9 1 v6 ((ol ++ [blk]) ++ [[]]).length (((ol ++ [blk]) ++ [[]]).map sv) := by
           simpa [sv] using hown6
          obtain ⟨a6, cap6, rfl, -, -⟩ := strs_of_row hown7
          have HZ := Lib.hid (show PutSt w size T w6 (ol ++ [blk]) [] rs bf _ f' from ⟨hb6, hown7, by rw [HT.out]; simp, by rw [if_neg hn] at hfu; simp; omega, hrl, fun h => absurd rfl h, by simp⟩)
          clear hown6 hown7 hg6 hbA hb6 hgs
          go_wp2_with fail
          go_roundw
          case rel => exact ⟨_, _, _, _, _, rfl, rfl, HZ.out⟩
          case measure => simp; omega
    · rw [putB_c3 size f' bf blk rs (fun h => h0 (by rw [hmax] at h; exact h.1)) (fun h => h0 (by rw [hmax] at h; exact h.1))] at htot
      have h6 : ¬ (rs.length : Int) ≤ (size : Int) - (blk.length : Int) - 4 := by omega
      have h7 : ¬ (1 : Int) ≤ (size : Int) - (blk.length : Int) - 4 := by omega
      clear hmax
      have HT := Lib.hid htot
      have hrw := Lib.hid hrow
      have HBx := Lib.hid hbel
      clear htot hbel hrow
      have hgs := hrw.out
      go_wp2_with (at_builtin; go_must (refine wpList_append_own _ rfl _ _ 69 rfl w.heap.size 9 i0 (.string ByteArray.empty) 1 16 Tryz.underlying69 hi0 hz0 hz1 hz2 rfl (by decide) _ _ _ rfl (hgs.alloc _) _ 1 1 [.string ⟨([] : By).toArray⟩] rfl rfl ?d1n8 ?d2n8 ?d3n8 ?d4n8 ?d5n8 ?_))
      case d2n8 => simp [Value.oneCell']
      case d3n8 => unfold maxLen; (try simp); omega
      case d4n8 => (try simp); omega
      case d5n8 => have := HBx.out.size; simp at this ⊢; omega
      intro v6 w6 hown6 hg6 _
      have hbA := HBx.out.alloc HBx.out.size (.cells #[.string ⟨([] : By).toArray⟩] 9)
      have hb6 := hbA.grown hg6 hbA.size (fun k hk => row_own hgs hk)
      have hown7 : w6.ownsRow w.heap.size 9 1 v6 ((ol ++ [blk]) ++ [[]]).length (((ol ++ [blk]) ++ [[]]).map sv) := by
       simpa [sv] using hown6
      obtain ⟨a6, cap6, rfl, -, -⟩ := strs_of_row hown7
      have HZ := Lib.hid (show PutSt w size T w6 (ol ++ [blk]) [] rs bf _ f' from ⟨hb6, hown7, by rw [HT.out]; simp, by rw [if_neg hn] at hfu; simp; omega, hrl, fun h => absurd rfl h, by simp⟩)
      clear hown6 hown7 hg6 hbA hb6 hgs
      go_wp2_with fail
      go_roundw
      case rel => exact ⟨_, _, _, _, _, rfl, rfl, HZ.out⟩
      case measure => simp; omega
end
section
open Go.RowKit Go.Sort
attribute [local go_sem] ByteArray.mk_append_mk strOfNums_size ext_drop ext_take
theorem stepB_new (most j : Nat) (out : List By) (r : By) (h : j % most = 0) : stepB most (j, out) r = (j + 1, out ++ [[] ++ r]) := by
 unfold stepB; simp only; rw [if_pos h]; rfl
theorem stepB_old (most j : Nat) (out : List By) (a r : By) (h : ¬ j % most = 0) : stepB most (j, out ++ [a]) r = (j + 1, out ++ [a ++ r]) := by
 unfold stepB; simp only; rw [if_neg h, putLast_snoc]
theorem own_empty (w : World) (t : TypeId) : (w.alloc (.cells #[] t)).ownsRow w.heap.size t 1 (.slice (some ⟨w.heap.size, 0, none⟩) 0 0) 0 [] :=
 ⟨by simp, Or.inr ⟨_, 0, #[], rfl, Nat.le_refl _, heap_alloc_new _ _, by simp, by decide, by simp, by simp⟩⟩
/-- What the reference's loop holds. -/
structure FbSt (w : World) (most : Nat) (l V : List By) (W : World) (j : Nat) (out : List By) (v : Value) : Prop where
 bel : Below w.heap.size w W
 own : W.ownsRow w.heap.size 9 1 v out.length (out.map sv)
 tot : V = ((l.drop j).foldl (stepB most) (j, out)).2
 ne : 0 < j → out ≠ []
 sml : ∀ x ∈ out, x.length ≤ 1000 * j
 few : out.length ≤ j
/-- All texts before the j-th are of a kind. -/
structure AllTo (p : By → Bool) (l : List By) (j : Nat) : Prop where
 all : ∀ i (h : i < l.length), i < j → p l[i] = true
theorem AllTo.zero (p : By → Bool) (l : List By) : AllTo p l 0 := ⟨fun i _ h => absurd h (by omega)⟩
theorem AllTo.succ {p : By → Bool} {l : List By} {j : Nat} (h : AllTo p l j) (hj : j < l.length) (hp : p l[j] = true) : AllTo p l (j + 1) :=
 ⟨fun i hi h2 => by
   rcases Nat.lt_or_ge i j with h3 | h3
   · exact h.all i hi h3
   · have e : i = j := by omega
     subst e; exact hp⟩
theorem AllTo.done {p : By → Bool} {l : List By} {j : Nat} (h : AllTo p l j) (hj : l.length ≤ j) : l.all p = true := by
 rw [List.all_eq_true]; intro x hx
 obtain ⟨i, hi, rfl⟩ := List.mem_iff_getElem.1 hx
 exact h.all i hi (by omega)
theorem all_bad {p : By → Bool} {l : List By} {j : Nat} (hj : j < l.length) (hp : p l[j] = false) : l.all p = false := by
 rw [List.all_eq_false]; exact ⟨l[j], List.getElem_mem hj, by rw [hp]; simp⟩
/-- What a packing gives: the blocks, or that a record is not allowed. -/
structure PackPost (w : World) (ok : Bool) (V : List By) (e : Ending) (w' : World) : Prop where
 good : ok = true → ∃ v, e = .returned (.tuple #[v, .int .i64 0]) ∧ w'.ownsRow w.heap.size 9 1 v V.length (V.map sv)
 bad : ok = false → e = .returned (.tuple #[.slice none 0 0, .int .i64 2])
 bel : Below w.heap.size w w'
theorem rfpack_any (w : World) (B : Nat) (a : Option Addr) (cap : Nat) (l : List By) (len blk : Nat) (h : Strs w B a l) (hB : B ≤ w.heap.size) (hl : l.length ≤ 40000) (hv : fixV len blk = true) :
 Calls Tryz.prog 163 #[.int .i64 len, .int .i64 blk, .slice a l.length cap] w fun e w' => PackPost w (l.all fun r => decide (r.length = len)) (fixB (blk / len) l) e w' := by
 have hbd : 1 ≤ (len : Int) ∧ (len : Int) ≤ 1000 ∧ (len : Int) ≤ blk ∧ (blk : Int) ≤ 1024 := by simp [fixV] at hv; omega
 obtain ⟨d1, d2, d3, d4⟩ := hbd
 have hm1 : 1 ≤ blk / len := (Nat.le_div_iff_mul_le (by omega)).2 (by omega)
 have hm2 : blk / len ≤ 1024 := Nat.le_trans (Nat.div_le_self _ _) (by omega)
 have hmost := fun W => rmost_any len blk W hv
 have HV := Lib.hid hv
 clear hv
 obtain ⟨i0, hi0, hz0, hz1, hz2⟩ := info_parts info9
 have hT0 : fixB (blk / len) l = ((l.drop 0).foldl (stepB (blk / len)) (0, [])).2 := rfl
 generalize fixB (blk / len) l = V at hT0 ⊢
 generalize blk / len = most at hT0 hmost hm1 hm2
 have HT0 := Lib.hid hT0
 have HM := Lib.hid hmost
 clear hT0 hmost
 go_enter Tryz.func163, Tryz.ntmps163
 go_wp2_with fail
 refine (rfix_valid _ _ _).mono ?_
 rintro e w1 ⟨rfl, rfl⟩
 rw [HV.out]
 go_wp2_with fail
 have hbz := (Below.refl w.heap.size w).alloc (Nat.le_refl _) (.cells #[] 9)
 have HS := Lib.hid (show FbSt w most l V (w.alloc (.cells #[] 9)) 0 [] (.slice (some ⟨w.heap.size, 0, none⟩) 0 0) from ⟨hbz, own_empty _ _, HT0.out, fun h => absurd h (by omega), by simp, Nat.le_refl _⟩)
 clear HT0 hbz
 go_loopw [8, 9] (fun o k wr => ∃ j out, j ≤ l.length ∧ k = .int .i64 (j : Nat) ∧ FbSt w most l V wr j out o ∧ AllTo (fun r => decide (r.length = len)) l j) (fun _ k _ => l.length - (intOf k).toNat)
 case atStart => exact ⟨0, [], by omega, rfl, HS.out, AllTo.zero _ _⟩
 case round =>
  clear HS
  obtain ⟨j, out, hj, rfl, hS, hall⟩ := hrel
  have HA := Lib.hid hall
  clear hall
  have hfew := hS.few
  have hol : out.length ≤ 40000 := by omega
  have HO := Lib.hid hS.own
  have HB := Lib.hid hS.bel
  have hsml := hS.sml
  have hne := hS.ne
  by_cases hlt : j < l.length
  · obtain ⟨b, off, rfl, hbb, hc⟩ := (h.below (hS.bel.mono hB)).get hlt
    by_cases hkk : l[j].length = len
    rotate_left
    · have HF := Lib.hid (all_bad (p := fun r => decide (r.length = len)) hlt (decide_eq_false hkk))
      generalize l[j] = r at hc hkk
      have hne1 : ((r.length : Int) == (len : Int)) = false := by simp; omega
      have hne2 : ((r.length : Int) != (len : Int)) = true := by simp; omega
      clear hkk
      go_wp2_with fail
      go_ret2
      exact ⟨fun h => (by rw [HF.out] at h; cases h), fun _ => rfl, HB.out⟩
    have HA2 := Lib.hid (HA.out.succ hlt (decide_eq_true hkk))
    have htot := hS.tot
    rw [List.drop_eq_getElem_cons hlt, List.foldl_cons] at htot
    clear hS
    generalize l[j] = r at hc hkk htot
    have hrl : r.length ≤ 1000 := by omega
    have hne1 : ((r.length : Int) == (len : Int)) = true := by rw [hkk]; simp
    have hne2 : ((r.length : Int) != (len : Int)) = false := by rw [hkk]; simp
    clear hkk
    go_wp2_with fail
    refine (HM.out _).mono ?_
    rintro e w1 ⟨rfl, rfl⟩
    clear hne1 hne2
    obtain ⟨k, hk0⟩ : ∃ k, k = j % most := ⟨_, rfl⟩
    have m1 : (j : Int).tmod (most : Int) = (k : Int) := by rw [Int.tmod_eq_emod_of_nonneg (by omega), hk0]; simp
    by_cases hz : k = 0
    · subst hz
      rw [stepB_new _ _ _ _ hk0.symm] at htot
      clear hk0
      have HT := Lib.hid htot
      clear htot
      have hown2 := HO.out
      go_wp2_with (at_builtin; go_must (refine wpList_append_own _ rfl _ _ 69 rfl w.heap.size 9 i0 (.string ByteArray.empty) 1 16 Tryz.underlying69 hi0 hz0 hz1 hz2 rfl (by decide) _ _ _ rfl (hown2.alloc _) _ 1 1 [.string ⟨([] : By).toArray⟩] rfl rfl ?e11 ?e21 ?e31 ?e41 ?e51 ?_))
      case e11 => exact news_at (cs := #[.string ⟨([] : By).toArray⟩]) (heap_alloc_new _ _)
      case e21 => simp [Value.oneCell']
      case e31 => unfold maxLen; (try simp); omega
      case e41 => (try simp); omega
      case e51 => have := HB.out.size; simp at this ⊢; omega
      intro v6 w6 hown6 hg6 _
      have hbA := HB.out.alloc HB.out.size (.cells #[.string ⟨([] : By).toArray⟩] 9)
      have hb6 := hbA.grown hg6 hbA.size (fun k hk => row_own hown2 hk)
      have hown7 : w6.ownsRow w.heap.size 9 1 v6 (out ++ [[]]).length ((out ++ [[]]).map sv) := by simpa [sv] using hown6
      have hcw := (hb6.cell (p := ⟨b, off + j, none⟩) (Nat.lt_of_lt_of_le hbb hB)).trans (((HB.out.cell (p := ⟨b, off + j, none⟩) (Nat.lt_of_lt_of_le hbb hB)).symm).trans hc)
      have HO1 := Lib.hid hown7
      have HB1 := Lib.hid hb6
      have ha1 : ([] : By).length ≤ 1000 * j := by simp
      clear hown2 hown6 hown7 hg6 hbA hb6 hc
      generalize ([] : By) = a1 at HO1 HT ha1
      have hsm2 := hsml
      have hfew2 : out.length + 1 ≤ j + 1 := by omega
      obtain ⟨g, cp, rfl, hg, hgl, hcell, hfr, hset⟩ := row_set HO1.out out.length (by simp)
      rw [List.getElem_append_right (Nat.le_refl _)] at hcell
      simp only [Nat.sub_self, List.getElem_cons_zero] at hcell
      have HSET := Lib.hid (fun (W : World) (b : By) (h : W.heap[g]? = w6.heap[g]?) => (by
       have h2 := hset W b h
       rw [set_last, show (out ++ [a1]).length = out.length + 1 by simp] at h2; exact h2 : (W.setCell ⟨g, out.length, none⟩ (.string ⟨b.toArray⟩)).ownsRow w.heap.size 9 1 (.slice (some ⟨g, 0, none⟩) (out.length + 1) cp) (out ++ [b]).length ((out ++ [b]).map sv)))
      clear hset
      rw [show (out ++ [a1]).length = out.length + 1 by simp]
      have n1 : ¬ 9223372036854775807 < a1.length + r.length := by omega
      have hHO := HO1
      clear HO1
      go_wp2_with fail
      go_region
      have hrw := own_below (HSET.out w6 (a1 ++ r) rfl) below_drew1
      have hB0 := HB1.out.setCell (p := ⟨g, out.length, none⟩) hg (.string ⟨(a1 ++ r).toArray⟩)
      have HZ := Lib.hid (show FbSt w most l V _ (j + 1) (out ++ [a1 ++ r]) _ from ⟨hB0.trans (below_drew1.mono hB0.size), hrw, HT.out, fun _ => by simp, fun x hx => by
       rcases List.mem_append.1 hx with hx | hx
       · have := hsm2 x hx; omega
       · rw [List.mem_singleton.1 hx, List.length_append]; omega, by rw [List.length_append]; exact hfew2⟩)
      clear hrw hB0
      go_wp2_with fail
      go_roundw
      case rel => exact ⟨j + 1, _, by omega, by go_num, HZ.out, HA2.out⟩
      case measure => simp [intOf]; omega
    · have hz2 : ((k : Int) == 0) = false := by simp; omega
      have hjm : ¬ j % most = 0 := by omega
      have hj0 : 0 < j := by
       rcases Nat.eq_zero_or_pos j with e | e
       · rw [e, Nat.zero_mod] at hjm; exact absurd rfl hjm
       · exact e
      obtain ⟨o1, a1, rfl⟩ : ∃ o1 a1, out = o1 ++ [a1] := ⟨_, _, (List.dropLast_concat_getLast (hne hj0)).symm⟩
      rw [stepB_old _ _ _ _ _ hjm] at htot
      have HT := Lib.hid htot
      have ha1 : a1.length ≤ 1000 * j := hsml a1 (by simp)
      have hsm2 : ∀ x ∈ o1, x.length ≤ 1000 * j := fun x hx => hsml x (by simp [hx])
      have hfew2 : o1.length + 1 ≤ j + 1 := by simp at hfew; omega
      have HO1 := HO
      have HB1 := HB
      have hcw := hc
      clear htot hk0 hsml hjm hc
      obtain ⟨g, cp, rfl, hg, hgl, hcell, hfr, hset⟩ := row_set HO1.out o1.length (by simp)
      rw [List.getElem_append_right (Nat.le_refl _)] at hcell
      simp only [Nat.sub_self, List.getElem_cons_zero] at hcell
      have HSET := Lib.hid (fun (W : World) (b : By) (h : W.heap[g]? = wr.heap[g]?) => (by
       have h2 := hset W b h
       rw [set_last, show (o1 ++ [a1]).length = o1.length + 1 by simp] at h2; exact h2 : (W.setCell ⟨g, o1.length, none⟩ (.string ⟨b.toArray⟩)).ownsRow w.heap.size 9 1 (.slice (some ⟨g, 0, none⟩) (o1.length + 1) cp) (o1 ++ [b]).length ((o1 ++ [b]).map sv)))
      clear hset
      rw [show (o1 ++ [a1]).length = o1.length + 1 by simp]
      have n1 : ¬ 9223372036854775807 < a1.length + r.length := by omega
      have hHO := HO1
      clear HO1
      go_wp2_with fail
      go_region
      have hrw := own_below (HSET.out wr (a1 ++ r) rfl) below_drew1
      have hB0 := HB1.out.setCell (p := ⟨g, o1.length, none⟩) hg (.string ⟨(a1 ++ r).toArray⟩)
      have HZ := Lib.hid (show FbSt w most l V _ (j + 1) (o1 ++ [a1 ++ r]) _ from ⟨hB0.trans (below_drew1.mono hB0.size), hrw, HT.out, fun _ => by simp, fun x hx => by
       rcases List.mem_append.1 hx with hx | hx
       · have := hsm2 x hx; omega
       · rw [List.mem_singleton.1 hx, List.length_append]; omega, by rw [List.length_append]; exact hfew2⟩)
      clear hrw hB0
      go_wp2_with fail
      go_roundw
      case rel => exact ⟨j + 1, _, by omega, by go_num, HZ.out, HA2.out⟩
      case measure => simp [intOf]; omega
  · have htot := hS.tot
    rw [List.drop_eq_nil_of_le (by omega), List.foldl_nil] at htot
    have hV : V = out := htot
    have HT := Lib.hid hV
    clear hS htot hV
    go_wp2_with fail
    go_ret2
    rw [HT.out]
    exact ⟨fun _ => ⟨_, rfl, HO.out⟩, fun h => (by rw [HA.out.done (by omega)] at h; cases h), HB.out⟩
end
section
open Go.RowKit Go.Sort
attribute [local go_sem] ByteArray.mk_append_mk strOfNums_size ext_drop ext_take
end
end

section
section
open Go.RowKit Go.Sort
variable {z : Rest}
end
section
open Go.RowKit Go.Sort
attribute [local go_sem] strOfNums_size
end
section
open Go.RowKit Go.Sort
variable {z : Rest}
end
section
open Go.RowKit Go.Sort
variable {z : Rest}
end
section
open Go.RowKit Go.Sort
variable {z : Rest}
end
section
open Go.RowKit Go.Sort
attribute [local go_sem] ByteArray.mk_append_mk strOfNums_size ext_drop ext_take
/-- The blocks of a state of the program's loop. -/
def varFin (s : List By × By) : List By := if s.2 ≠ [] then s.1 ++ [whole s.2] else s.1
theorem varA_fin (block : Nat) (l : List By) : varA block l = varFin (l.foldl (varStepA block) ([], [])) := rfl
end
end

section
section
open Go.RowKit Go.Sort
attribute [local go_sem] ByteArray.mk_append_mk strOfNums_size ext_drop ext_take
theorem restA_sml (block : Nat) (h9 : 9 ≤ block) : ∀ (f : Nat) (b : Bool) (r : By), ∀ x ∈ restA block f b r, x.length ≤ block
 | 0, _, _, x, h => by simp [restA] at h
 | f + 1, b, r, x, h => by
   unfold restA at h
   rcases List.mem_cons.1 h with h | h
   · subst h; rw [whole_length, segF_length, List.length_take]; omega
   · split at h
     · simp at h
     · exact restA_sml block h9 f true _ x h
theorem addA_sml (block : Nat) (h9 : 9 ≤ block) (last r : By) (h4 : last ≠ [] → 4 ≤ last.length) : (∀ x ∈ (addA block last r).2, x.length ≤ block) ∧ (addA block last r).1.length ≤ block := by
 unfold addA
 split
 · rename_i h
   have := h4 h.1
   refine ⟨fun x hx => ?_, by rw [whole_length, List.length_append, segF_length, List.length_take, List.length_drop]; omega⟩
   split at hx
   · simp at hx
   · exact restA_sml block h9 _ _ _ x hx
 · exact ⟨fun x hx => restA_sml block h9 _ _ _ x hx, by simp⟩
theorem addA_le (block : Nat) (h9 : 9 ≤ block) (last r : By) : (addA block last r).2.length ≤ r.length + 1 := by
 unfold addA
 split
 · simp only
   split
   · simp
   · have := restA_le block h9 (r.length + 1) true (r.drop (block - last.length - 4))
     rw [List.length_drop] at this; omega
 · exact restA_le block h9 _ _ _
theorem addA_nil (block : Nat) (r : By) : (addA block [] r).1 = [] := by simp [addA]
theorem spanStepA_sml (block : Nat) (h9 : 9 ≤ block) (out : List By) (r : By) (h : ∀ x ∈ out, 4 ≤ x.length ∧ x.length ≤ block) : ∀ x ∈ spanStepA block out r, 4 ≤ x.length ∧ x.length ≤ block := by
 intro x hx
 refine ⟨spanStepA_big block out r (fun y hy => (h y hy).1) x hx, ?_⟩
 have hb := addA_sml block h9 (out.getLastD []) r (fun hne => by
  by_cases hn : out = []
  · subst hn; exact absurd rfl hne
  · have hl : out.getLastD [] ∈ out := by
     rw [List.getLastD_eq_getLast?, List.getLast?_eq_some_getLast hn]; exact List.getLast_mem hn
    exact (h _ hl).1)
 unfold spanStepA at hx
 simp only at hx
 rcases List.mem_append.1 hx with h1 | h1
 · split at h1
   · rcases List.mem_append.1 h1 with h2 | h2
     · exact (h x (List.dropLast_subset _ h2)).2
     · rw [List.mem_singleton] at h2; subst h2; exact hb.2
   · exact (h x h1).2
 · exact hb.1 x h1
end
section
open Go.RowKit Go.Sort
attribute [local go_sem] ByteArray.mk_append_mk strOfNums_size ext_drop ext_take
end
end

end Go.Proofs.YtcefkngblddpoaaGreatDoor
