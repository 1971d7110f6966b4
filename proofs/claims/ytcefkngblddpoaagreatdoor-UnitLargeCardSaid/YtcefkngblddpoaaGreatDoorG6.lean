/-
  Walks: the sizes of intervals, by the program. Conditions: not too many records, nor too long ones. Walks: whether records fit in an interval, by the program and by the reference. Conditions: not too many records, nor too long ones.
-/
import Derived.Test.YtcefkngblddpoaaGreatDoorG5
import Derived.Test.YtcefkngblddpoaaGreatDoorG2
import Derived.Test.YtcefkngblddpoaaGreatDoorG3
import Derived.Deep.QuietTactic
import Derived.BigQuiet
import Derived.Great.Walk
import Derived.Lib.QuietBelow
namespace Go.Proofs.YtcefkngblddpoaaGreatDoor
set_option maxRecDepth 100000
set_option maxHeartbeats 4000000
section
open Go.RowKit Go.Sort
theorem ret_isSize {n : Int} {b : Bool} (h : isSizeP n = b) : Ending.returned (.bool b) = .returned (.bool (isSizeP n)) := by rw [h]
theorem risSize_any (n : Int) (w : World) : Calls Tryz.prog 167 #[.int .i64 n] w fun e w' => e = .returned (.bool (isSizeP n)) ∧ w = w' := by
 by_cases h1 : n = 128
 · subst h1
   go_enter Tryz.func167, Tryz.ntmps167
   go_wp2_with fail
   go_ret
   exact ⟨rfl, rfl⟩
 · by_cases h2 : n = 256
   · subst h2
     go_enter Tryz.func167, Tryz.ntmps167
     go_wp2_with fail
     go_ret
     exact ⟨rfl, rfl⟩
   · by_cases h3 : n = 512
     · subst h3
       go_enter Tryz.func167, Tryz.ntmps167
       go_wp2_with fail
       go_ret
       exact ⟨rfl, rfl⟩
     · have H := Lib.hid (show isSizeP n = false by simp [isSizeP, h1, h2, h3])
       have e1 : (n == 128) = false := by simpa using h1
       have e2 : (n == 256) = false := by simpa using h2
       have e3 : (n == 512) = false := by simpa using h3
       clear h1 h2 h3
       go_enter Tryz.func167, Tryz.ntmps167
       go_wp2_with fail
       go_ret
       exact ⟨ret_isSize H.out, rfl⟩
theorem allow_take (l : List By) (j : Nat) (h : j < l.length) : allowP (l.take (j + 1)) = (allowP (l.take j) && (decide (1 ≤ l[j].length) && decide (l[j].length ≤ 200))) := by
 unfold allowP; rw [List.take_succ_eq_append_getElem h, List.all_append]; simp
theorem allow_no {l : List By} {j : Nat} (h : j < l.length) (hb : (decide (1 ≤ l[j].length) && decide (l[j].length ≤ 200)) = false) : allowP l = false := by
 unfold allowP; rw [List.all_eq_false]; exact ⟨l[j], List.getElem_mem h, by rw [hb]; simp⟩
theorem headN_take' (x : Nat) : ∀ (l : List Nat) (n : Nat), n ≤ headN x l → ∀ i (h : i < l.length), i < n → l[i] = x
 | y :: l, n, hn, i, hi, hin => by
   unfold headN at hn
   split at hn
   · rename_i e
     match i with
     | 0 => exact e
     | i + 1 => exact headN_take' x l (n - 1) (by omega) i (by simpa using hi) (by omega)
   · omega
theorem headN_stop (x : Nat) : ∀ (l : List Nat) (h : headN x l < l.length), l[headN x l] ≠ x
 | y :: l, h => by
   unfold headN at h ⊢
   by_cases e : y = x
   · simp only [if_pos e] at h ⊢
     simp only [List.getElem_cons_succ]
     exact headN_stop x l (by simpa using h)
   · simp only [if_neg e, List.getElem_cons_zero]
     exact e
/-- What the loop of runs holds. -/
structure RunSt (w : World) (B g T : Nat) (W : World) (A : Option Addr) (C : Nat) (rem : List By) (s : Nat) : Prop where
 onl : Only [g] w W
 str : Strs W B A rem
 cap : rem.length ≤ C
 cel : W.heap[g]? = some (.cells #[.int .i64 (s : Int)] 3 (0, 0))
 tot : s + sizeF rem.length (rem.map List.length) = T
theorem RunSt.step {w W : World} {B g T : Nat} {A : Option Addr} {C s : Nat} {r : By} {rem : List By} (h : RunSt w B g T W A C (r :: rem) s) :
 T = (s + ((headN r.length (rem.map List.length) + 1) * r.length + 3 * min (headN r.length (rem.map List.length) + 1) 2)) + sizeF (rem.drop (headN r.length (rem.map List.length))).length ((rem.drop (headN r.length (rem.map List.length))).map List.length) := by
 rw [← h.tot, List.length_cons, List.map_cons, sizeF, List.map_drop]
 have hle := headN_le r.length (rem.map List.length)
 rw [List.length_map] at hle
 rw [sizeF_fuel rem.length (rem.drop (headN r.length (rem.map List.length))).length _ (by rw [List.length_drop, List.length_map]; omega) (by rw [List.length_drop, List.length_drop, List.length_map]; omega)]
 omega
end
section
open Go.RowKit Go.Sort
attribute [local go_sem] ByteArray.mk_append_mk
theorem fits_no1 {iv : Int} {l : List By} (h : isSizeP iv = false) : fitsP iv l = false := by unfold fitsP; rw [h]; rfl
theorem fits_no2 {iv : Int} {l : List By} (h : isSizeP iv = true) (h2 : allowP l = false) : fitsP iv l = false := by unfold fitsP; rw [h, h2]; rfl
theorem fits_dec {iv : Int} {l : List By} (h : isSizeP iv = true) (h2 : allowP l = true) : fitsP iv l = decide (((sizeP (l.map List.length) : Nat) : Int) ≤ iv) := by unfold fitsP; rw [h, h2]; rfl
theorem rallowed17_any (w : World) (B : Nat) (a : Option Addr) (cap : Nat) (l : List By) (h : Strs w B a l) (hl : l.length ≤ 1000000) :
 Calls Tryz.prog 168 #[.slice a l.length cap] w fun e w' => e = .returned (.bool (allowP l)) ∧ w = w' := by
 have HS := Lib.hid h
 clear h
 go_enter Tryz.func168, Tryz.ntmps168
 go_wp2_with fail
 go_loop [3] (fun i => ∃ j : Nat, j ≤ l.length ∧ i = .int .i64 j ∧ allowP (l.take j) = true) (fun i => l.length - (intOf i).toNat)
 case atStart => exact ⟨0, by omega, rfl, rfl⟩
 case round =>
  obtain ⟨j, hj, rfl, ha⟩ := hrel
  by_cases hlt : j < l.length
  · obtain ⟨b, off, rfl, hbb, hc⟩ := HS.out.get hlt
    have HT := Lib.hid (allow_take l j hlt)
    have HN := Lib.hid (allow_no hlt)
    rw [ha] at HT
    clear ha
    generalize l[j] = r at hc HT HN
    by_cases h1 : r.length < 1
    · have H := Lib.hid (HN.out (by simp; omega))
      have g1 : decide ((r.length : Int) < 1) = true := by simp; omega
      clear h1
      go_wp2_with fail
      go_ret
      exact ⟨by rw [H.out]; rfl, rfl⟩
    · by_cases h2 : 200 < r.length
      · have H := Lib.hid (HN.out (by simp; omega))
        have g1 : decide ((r.length : Int) < 1) = false := by simp; omega
        have g2 : decide ((200 : Int) < (r.length : Int)) = true := by simp; omega
        clear h1
        go_wp2_with fail
        go_ret
        exact ⟨by rw [H.out]; rfl, rfl⟩
      · have H := Lib.hid (show allowP (l.take (j + 1)) = true by rw [HT.out]; simp; omega)
        have g1 : decide ((r.length : Int) < 1) = false := by simp; omega
        have g2 : decide ((200 : Int) < (r.length : Int)) = false := by simp; omega
        clear h1
        go_wp2_with fail
        go_round
        case rel => exact ⟨j + 1, by omega, by go_num, H.out⟩
        case measure => simp [intOf]; omega
  · have H := Lib.hid (show allowP l = true by rw [List.take_of_length_le (by omega)] at ha; exact ha)
    clear ha
    go_wp2_with fail
    go_ret
    exact ⟨by rw [H.out]; rfl, rfl⟩
def fieldB (c n : Nat) : By := [b8 c, b8 (n % 256), b8 (n / 256 % 256)]
/-- The bytes of the fields of records with some lengths. -/
def fieldsF : Nat → List Nat → By
 | 0, _ => []
 | _ + 1, [] => []
 | f + 1, x :: l => fieldsF f (l.drop (headN x l)) ++ (if headN x l = 0 then fieldB 0 x else fieldB 8 (headN x l + 1) ++ fieldB 64 x)
theorem fieldsF_len : ∀ f l, (fieldsF f l).length = fieldF f l
 | 0, _ => rfl
 | _ + 1, [] => rfl
 | f + 1, x :: l => by
   rw [fieldsF, fieldF, List.length_append, fieldsF_len f]
   congr 1
   split
   · rename_i h; rw [h]; rfl
   · rename_i h; rw [show min (headN x l + 1) 2 = 2 by omega]; rfl
theorem conv3 (a b c : Int) (w : World) : (convert 86 9 (.slice (some ⟨w.heap.size, 0, none⟩) 3 3)).run Tryz.prog (w.alloc (.cells #[.int .u8 a, .int .u8 b, .int .u8 c] 5)) = .ok (.string (strOfNums [a, b, c])) (w.alloc (.cells #[.int .u8 a, .int .u8 b, .int .u8 c] 5)) := conv_new w [a, b, c] 3 rfl
theorem field_any (c n : Nat) (ni : Int) (hni : ni = (n : Int)) (w : World) (hc : c ≤ 255) (hn : n ≤ 1000000000) : Calls Tryz.prog 231 #[.int .i64 c, .int .i64 ni] w fun e w' => e = .returned (sv (fieldB c n)) ∧ Below w.heap.size w w' := by
 subst hni
 have hcv := fun a b d W => conv3 a b d W
 have H := Lib.hid (show strOfNums [(c : Int), (n : Int) % 256, (n : Int) / 256 % 256] = bs (fieldB c n) by
  have e1 : ((n : Int) % 256) = ((n % 256 : Nat) : Int) := by omega
  have e2 : ((n : Int) / 256 % 256) = ((n / 256 % 256 : Nat) : Int) := by omega
  rw [e1, e2]
  unfold strOfNums fieldB; simp only [List.map_cons, List.map_nil, ofN])
 have w1 : IntKind.u8.wrap (c : Int) = (c : Int) := by rw [IntKind.wrap_u8]; omega
 go_enter Tryz.func231, Tryz.ntmps231
 go_wp2_with fail
 go_ret
 exact ⟨ret_str H.out, box_below w _ _⟩
theorem rrun_any (w : World) (B : Nat) (a : Option Addr) (cap : Nat) (l : List By) (i : Nat) (h : Strs w B a l) (hl : l.length ≤ 1000000) (hi : i < l.length) :
 Calls Tryz.prog 230 #[.slice a l.length cap, .int .i64 i] w fun e w' => e = .returned (.int .i64 ((headN l[i].length ((l.drop (i + 1)).map List.length) + 1 : Nat) : Int)) ∧ ∃ d, w' = w.drewN d := by
 obtain ⟨b, off, rfl, hbb, hcc⟩ := h.cells (fun e => by rw [e] at hi; simp at hi)
 have h0 := hcc i hi
 have hNle := headN_le l[i].length ((l.drop (i + 1)).map List.length)
 rw [List.length_map, List.length_drop] at hNle
 have HTK := Lib.hid (headN_take' l[i].length ((l.drop (i + 1)).map List.length))
 have HST := Lib.hid (headN_stop l[i].length ((l.drop (i + 1)).map List.length))
 obtain ⟨N, hN⟩ : ∃ N, N = headN l[i].length ((l.drop (i + 1)).map List.length) := ⟨_, rfl⟩
 rw [← hN] at hNle HTK HST ⊢
 clear hN
 obtain ⟨r, hr⟩ : ∃ r, r = l[i] := ⟨_, rfl⟩
 rw [← hr] at h0 HTK HST
 clear hr
 have HCC := Lib.hid hcc
 clear hcc h
 go_enter Tryz.func230, Tryz.ntmps230
 go_wp2_with fail
 go_loopw [5] (fun k wi => ∃ j d : Nat, j ≤ N ∧ k = .int .i64 ((j + 1 : Nat) : Int) ∧ wi = w.drewN d) (fun k _ => N + 1 - (intOf k).toNat)
 case atStart => exact ⟨0, 0, by omega, rfl, rfl⟩
 case round =>
  obtain ⟨j, d, hj, rfl, rfl⟩ := hrel
  by_cases hjN : j < N
  · have hjr : i + (j + 1) < l.length := by omega
    have h1 : w.cell? ⟨b, off + (i + (j + 1)), none⟩ = some (.string ⟨l[i + (j + 1)].toArray⟩) := HCC.out (i + (j + 1)) hjr
    have hq : l[i + (j + 1)].length = r.length := by
     have := HTK.out N (Nat.le_refl _) j (by rw [List.length_map, List.length_drop]; omega) hjN
     simp only [List.getElem_map, List.getElem_drop] at this
     rw [← this]; congr 2; omega
    have HQ := Lib.hid hq
    clear hq
    generalize l[i + (j + 1)] = q at h1 HQ
    have hb : ((q.length : Int) == (r.length : Int)) = true := by rw [HQ.out]; simp
    have q0 : (0 : Int) ≤ (i : Int) + ((j : Int) + 1) := by omega
    have q1 : ((i : Int) + ((j : Int) + 1)).toNat = i + (j + 1) := by omega
    have q2 : (i : Int) + ((j : Int) + 1) < (l.length : Int) := by omega
    have q3 : IntKind.i64.wrap ((i : Int) + ((j : Int) + 1)) = (i : Int) + ((j : Int) + 1) := IntWalk.i64_in _ (by omega)
    go_wp2_with fail
    go_quiet (fail)
    clear q0 q1 q2 q3
    go_wp2_with fail
    go_roundw
    case rel => exact ⟨j + 1, d + nq, by omega, by go_num, rfl⟩
    case measure => simp [intOf]; omega
  · obtain rfl : j = N := by omega
    by_cases hNe : i + (j + 1) = l.length
    · have q0 : ¬ i + (j + 1) < l.length := by omega
      have q1 : ¬ (i : Int) + ((j : Int) + 1) < (l.length : Int) := by omega
      have q2 : decide ((i : Int) + ((j : Int) + 1) < (l.length : Int)) = false := by simpa using q1
      have q3 : IntKind.i64.wrap ((i : Int) + ((j : Int) + 1)) = (i : Int) + ((j : Int) + 1) := IntWalk.i64_in _ (by omega)
      have HNE := Lib.hid hNe
      clear hNe
      go_wp2_with fail
      go_quiet (fail)
      clear q0 q1 q2 q3
      go_wp2_with fail
      go_ret
      exact ⟨rfl, d + nq, by simp⟩
    · have hjr : i + (j + 1) < l.length := by omega
      have h1 : w.cell? ⟨b, off + (i + (j + 1)), none⟩ = some (.string ⟨l[i + (j + 1)].toArray⟩) := HCC.out (i + (j + 1)) hjr
      have hq : l[i + (j + 1)].length ≠ r.length := by
       have := HST.out (by rw [List.length_map, List.length_drop]; omega)
       simp only [List.getElem_map, List.getElem_drop] at this
       intro e
       apply this
       rw [← e]; congr 2; omega
      generalize l[i + (j + 1)] = q at h1 hq
      have hb : ((q.length : Int) == (r.length : Int)) = false := by simp; omega
      have q0 : (0 : Int) ≤ (i : Int) + ((j : Int) + 1) := by omega
      have q1 : ((i : Int) + ((j : Int) + 1)).toNat = i + (j + 1) := by omega
      have q2 : (i : Int) + ((j : Int) + 1) < (l.length : Int) := by omega
      have q3 : IntKind.i64.wrap ((i : Int) + ((j : Int) + 1)) = (i : Int) + ((j : Int) + 1) := IntWalk.i64_in _ (by omega)
      clear hq
      go_wp2_with fail
      go_quiet (fail)
      clear q0 q1 q2 q3 hb h1
      go_wp2_with fail
      go_ret
      exact ⟨rfl, d + nq, by simp⟩
theorem fieldsF_fuel : ∀ f g l, l.length ≤ f → l.length ≤ g → fieldsF f l = fieldsF g l
 | 0, g, l, h, _ => by
   have : l = [] := List.length_eq_zero_iff.1 (by omega)
   subst this; cases g <;> rfl
 | f + 1, 0, l, _, h => by
   have : l = [] := List.length_eq_zero_iff.1 (by omega)
   subst this; rfl
 | f + 1, g + 1, [], _, _ => rfl
 | f + 1, g + 1, x :: l, h, h2 => by
   simp only [List.length_cons] at h h2
   rw [fieldsF, fieldsF, fieldsF_fuel f g _ (by rw [List.length_drop]; omega) (by rw [List.length_drop]; omega)]
def fieldsP (l : List Nat) : By := fieldsF l.length l
theorem fieldsP_drop (l : List By) (i : Nat) (h : i < l.length) :
 fieldsP ((l.drop i).map List.length) = fieldsP ((l.drop (i + (headN l[i].length ((l.drop (i + 1)).map List.length) + 1))).map List.length) ++
  (if headN l[i].length ((l.drop (i + 1)).map List.length) = 0 then fieldB 0 l[i].length else fieldB 8 (headN l[i].length ((l.drop (i + 1)).map List.length) + 1) ++ fieldB 64 l[i].length) := by
 have hN := headN_le l[i].length ((l.drop (i + 1)).map List.length)
 rw [List.length_map, List.length_drop] at hN
 unfold fieldsP
 conv => lhs; rw [List.drop_eq_getElem_cons h, List.map_cons, List.length_cons, fieldsF]
 generalize headN l[i].length ((l.drop (i + 1)).map List.length) = N at hN ⊢
 congr 1
 rw [← List.map_drop, List.drop_drop]
 rw [show i + 1 + N = i + (N + 1) by omega]
 exact fieldsF_fuel _ _ _ (by simp; omega) (Nat.le_refl _)
theorem rfields_any (w : World) (B : Nat) (a : Option Addr) (cap : Nat) (l : List By) (h : Strs w B a l) (hB : B ≤ w.heap.size) (hl : l.length ≤ 1000000) (hk : ∀ r ∈ l, r.length ≤ 100000) :
 Calls Tryz.prog 207 #[.slice a l.length cap] w fun e w' => e = .returned (sv (fieldsP (l.map List.length))) ∧ Below w.heap.size w w' := by
 have HR := Lib.hid (fun W i (hb : Below B w W) (hi : i < l.length) => rrun_any W B a cap l i (h.below hb) hl hi)
 have HS := Lib.hid h
 have HK := Lib.hid hk
 obtain ⟨T, hT⟩ : ∃ T, T = fieldsP (l.map List.length) := ⟨_, rfl⟩
 rw [← hT]
 have HT0 := Lib.hid hT
 clear h hk hT
 go_enter Tryz.func207, Tryz.ntmps207
 go_wp2_with fail
 go_loopw [3, 4, 5] (fun o k _ wr => ∃ (i : Nat) (out : By), i ≤ l.length ∧ k = .int .i64 i ∧ o = sv out ∧ T = fieldsP ((l.drop i).map List.length) ++ out ∧ Below w.heap.size w wr ∧ out.length ≤ 6 * i) (fun _ k _ _ => l.length - (intOf k).toNat)
 case atStart => exact ⟨0, [], by omega, rfl, rfl, by rw [List.append_nil]; exact HT0.out, Below.refl _ _, by simp⟩
 case round =>
  obtain ⟨i, out, hi, rfl, rfl, hT, hb, hol⟩ := hrel
  have HB := Lib.hid hb
  clear hb
  by_cases hlt : i < l.length
  · have HST := Lib.hid (hT.trans (by rw [fieldsP_drop l i hlt, List.append_assoc]))
    obtain ⟨b, off, rfl, hbb, hc⟩ := HS.out.get hlt
    have hcr : wr.cell? ⟨b, off + i, none⟩ = some (.string ⟨l[i].toArray⟩) := ((HB.out.mono hB).cell (p := ⟨b, off + i, none⟩) hbb).trans hc
    have HRU := Lib.hid (HR.out wr i (HB.out.mono hB) hlt)
    have hNle := headN_le l[i].length ((l.drop (i + 1)).map List.length)
    rw [List.length_map, List.length_drop] at hNle
    have hr := HK.out l[i] (List.getElem_mem hlt)
    generalize headN l[i].length ((l.drop (i + 1)).map List.length) = N at HST HRU hNle
    generalize l[i] = r at hc hcr hr HST
    clear hc hT
    have HCR := Lib.hid hcr
    clear hcr
    unfold sv
    by_cases hN : N = 0
    · subst hN
      have HST2 := Lib.hid (show T = fieldsP ((l.drop (i + 1)).map List.length) ++ (fieldB 0 r.length ++ out) by have := HST.out; simpa using this)
      have HRU0 := Lib.hid (show Calls Tryz.prog 230 #[.slice (some ⟨b, off, none⟩) l.length cap, .int .i64 i] wr fun e w' => e = .returned (.int .i64 1) ∧ ∃ d, w' = wr.drewN d from HRU.out)
      clear HST HRU hNle
      go_wp2_with fail
      refine HRU0.out.mono ?_
      rintro e w2 ⟨rfl, d, rfl⟩
      have HB2 := Lib.hid (show Below w.heap.size w (wr.drewN d) from below_drewN HB.out d)
      have hcr : (wr.drewN d).cell? ⟨b, off + i, none⟩ = some (.string ⟨r.toArray⟩) := HCR.out
      generalize wr.drewN d = w2 at HB2 hcr ⊢
      go_wp2_with fail
      refine (field_any 0 r.length _ rfl w2 (by omega) (by omega)).mono ?_
      rintro e w3 ⟨rfl, hb3⟩
      have HB3 := Lib.hid (HB2.out.trans (hb3.mono HB2.out.size))
      clear hb3
      have hfb : (fieldB 0 r.length).length ≤ 3 := Nat.le_refl _
      generalize fieldB 0 r.length = fb at HST2 hfb ⊢
      unfold sv
      go_wp2_with fail
      go_roundw
      case rel => exact ⟨i + 1, fb ++ out, by omega, by go_num, by simp, HST2.out, HB3.out, by rw [List.length_append]; omega⟩
      case measure => simp [intOf]; omega
    · have HST2 := Lib.hid (show T = fieldsP ((l.drop (i + (N + 1))).map List.length) ++ (fieldB 8 (N + 1) ++ fieldB 64 r.length ++ out) by have := HST.out; rw [if_neg hN] at this; exact this)
      have hM2 : 2 ≤ N + 1 := by omega
      have hM3 : i + (N + 1) ≤ l.length := by omega
      generalize N + 1 = M at HST2 HRU hM2 hM3
      clear HST hNle hN
      go_wp2_with fail
      refine HRU.out.mono ?_
      rintro e w2 ⟨rfl, d, rfl⟩
      have HB2 := Lib.hid (show Below w.heap.size w (wr.drewN d) from below_drewN HB.out d)
      have hcr : (wr.drewN d).cell? ⟨b, off + i, none⟩ = some (.string ⟨r.toArray⟩) := HCR.out
      generalize wr.drewN d = w2 at HB2 hcr ⊢
      have T0 := fun d os => cell_regrown hcr d os
      have HF1 := Lib.hid (fun W => show Calls Tryz.prog 231 #[.int .i64 8, .int .i64 (M : Int)] W fun e w' => e = .returned (sv (fieldB 8 M)) ∧ Below W.heap.size W w' from field_any 8 M _ rfl W (by omega) (by omega))
      have HF2 := Lib.hid (fun W => show Calls Tryz.prog 231 #[.int .i64 64, .int .i64 (r.length : Int)] W fun e w' => e = .returned (sv (fieldB 64 r.length)) ∧ Below W.heap.size W w' from field_any 64 r.length _ rfl W (by omega) (by omega))
      have q0 : (1 : Int) < (M : Int) := by omega
      have hfa : (fieldB 8 M).length ≤ 3 := Nat.le_refl _
      have hfb : (fieldB 64 r.length).length ≤ 3 := Nat.le_refl _
      generalize fieldB 8 M = fa at HST2 HF1 hfa ⊢
      generalize fieldB 64 r.length = fb at HST2 HF2 hfb ⊢
      unfold sv at HF1 HF2
      go_wp2_with fail
      refine wp_region_quiet_below (by kernel_rfl) (by kernel_rfl) ?_
      repeat (go_big_quiet_step ((first | (go_at_call 231; with_reducible exact Calls.regrown_of (HF1.out _)) | (go_at_call 231; with_reducible exact Calls.regrown_of (HF2.out _)) | fail)))
      refine wpQuiet_nil ?_
      intro _ hw'
      obtain ⟨⟨dq, osq⟩, hw''⟩ := hw'
      subst hw''
      have HB3 := Lib.hid (HB2.out.trans ((below_regrown w2 dq osq).mono HB2.out.size))
      generalize grow (redrawn w2 dq) osq = w3 at HB3 ⊢
      clear T0 hcr q0
      go_wp2_with fail
      go_roundw
      case rel => exact ⟨i + M, fa ++ fb ++ out, by omega, by go_num, by simp, HST2.out, HB3.out, by rw [List.length_append, List.length_append]; omega⟩
      case measure => simp [intOf]; omega
  · obtain rfl : i = l.length := by omega
    have HT := Lib.hid (show T = out by rw [hT, List.drop_length]; rfl)
    unfold sv
    go_wp2_with fail
    go_ret
    exact ⟨by rw [HT.out]; rfl, HB.out⟩
theorem rsize_any (w : World) (B : Nat) (a : Option Addr) (cap : Nat) (l : List By) (h : Strs w B a l) (hB : B ≤ w.heap.size) (hl : l.length ≤ 1000000) (hk : ∀ r ∈ l, r.length ≤ 100000) :
 Calls Tryz.prog 169 #[.slice a l.length cap] w fun e w' => e = .returned (.int .i64 ((sizeP (l.map List.length) : Nat) : Int)) ∧ Below w.heap.size w w' := by
 have HF := Lib.hid (rfields_any w B a cap l h hB hl hk)
 have HL := Lib.hid (show (fieldsP (l.map List.length)).length = fieldF (l.map List.length).length (l.map List.length) from fieldsF_len _ _)
 have hle := fieldF_le (l.map List.length).length (l.map List.length)
 have HT := Lib.hid (show sizeP (l.map List.length) = 4 + fieldF (l.map List.length).length (l.map List.length) + (l.map List.length).sum by unfold sizeP; rw [size_field _ _ (Nat.le_refl _)]; omega)
 rw [← HL.out] at hle HT
 rw [List.length_map] at hle
 generalize fieldsP (l.map List.length) = fp at HF hle HT
 clear HL
 have HS := Lib.hid h
 have HK := Lib.hid hk
 have HSUM := Lib.hid (fun j (hj : j < l.length) => show ((l.take (j + 1)).map List.length).sum = ((l.take j).map List.length).sum + l[j].length by rw [List.take_succ_eq_append_getElem hj, List.map_append, List.sum_append]; simp)
 clear h hk
 go_enter Tryz.func169, Tryz.ntmps169
 go_wp2_with fail
 refine HF.out.mono ?_
 rintro e w1 ⟨rfl, hb⟩
 have HB := Lib.hid hb
 clear hb
 unfold sv
 go_wp2_with fail
 go_loop [3, 4] (fun s k => ∃ i t : Nat, i ≤ l.length ∧ k = .int .i64 i ∧ s = .int .i64 (t : Int) ∧ t = 4 + fp.length + ((l.take i).map List.length).sum ∧ t ≤ 10000000 + 100000 * i) (fun _ k => l.length - (intOf k).toNat)
 case atStart => exact ⟨0, 4 + fp.length, by omega, rfl, by simp, by simp, by omega⟩
 case round =>
  obtain ⟨i, t, hi, rfl, rfl, ht, hle2⟩ := hrel
  have HTT := Lib.hid ht
  clear ht
  by_cases hlt : i < l.length
  · obtain ⟨b, off, rfl, hbb, hc⟩ := HS.out.get hlt
    have hcr : w1.cell? ⟨b, off + i, none⟩ = some (.string ⟨l[i].toArray⟩) := ((HB.out.mono hB).cell (p := ⟨b, off + i, none⟩) hbb).trans hc
    have hr := HK.out l[i] (List.getElem_mem hlt)
    have HQ := Lib.hid (HSUM.out i hlt)
    generalize l[i] = r at hc hcr hr HQ
    clear hc
    go_wp2_with fail
    go_round
    case rel => exact ⟨i + 1, t + r.length, by omega, by go_num, by go_num, by rw [HQ.out, HTT.out]; omega, by omega⟩
    case measure => simp [intOf]; omega
  · obtain rfl : i = l.length := by omega
    have HT2 := Lib.hid (show sizeP (l.map List.length) = t by rw [HT.out, HTT.out, List.take_length])
    go_wp2_with fail
    go_ret
    exact ⟨by rw [HT2.out]; rfl, HB.out⟩
theorem rfits_any (iv : Int) (w : World) (B : Nat) (a : Option Addr) (cap : Nat) (l : List By) (h : Strs w B a l) (hB : B ≤ w.heap.size) (hl : l.length ≤ 1000000) (hk : ∀ r ∈ l, r.length ≤ 100000) :
 Calls Tryz.prog 134 #[.int .i64 iv, .slice a l.length cap] w fun e w' => e = .returned (.bool (fitsP iv l)) ∧ Below w.heap.size w w' := by
 have H1 := Lib.hid (fun W => risSize_any iv W)
 have H2 := Lib.hid (rallowed17_any w B a cap l h hl)
 have H3 := Lib.hid (rsize_any w B a cap l h hB hl hk)
 cases h1 : isSizeP iv with
 | false =>
   rw [fits_no1 h1]
   rw [h1] at H1
   clear h1 h hk
   go_enter Tryz.func134, Tryz.ntmps134
   go_wp2_with fail
   refine (H1.out _).mono ?_
   rintro e w1 ⟨rfl, rfl⟩
   go_wp2_with fail
   go_ret
   exact ⟨rfl, Below.refl _ _⟩
 | true =>
   cases h2 : allowP l with
   | false =>
     rw [fits_no2 h1 h2]
     rw [h1] at H1
     rw [h2] at H2
     clear h1 h2 h hk
     go_enter Tryz.func134, Tryz.ntmps134
     go_wp2_with fail
     refine (H1.out _).mono ?_
     rintro e w1 ⟨rfl, rfl⟩
     go_wp2_with fail
     refine H2.out.mono ?_
     rintro e w2 ⟨rfl, rfl⟩
     go_wp2_with fail
     go_ret
     exact ⟨rfl, Below.refl _ _⟩
   | true =>
     rw [fits_dec h1 h2]
     rw [h1] at H1
     rw [h2] at H2
     generalize sizeP (l.map List.length) = T at H3 ⊢
     clear h1 h2 h hk
     go_enter Tryz.func134, Tryz.ntmps134
     go_wp2_with fail
     refine (H1.out _).mono ?_
     rintro e w1 ⟨rfl, rfl⟩
     go_wp2_with fail
     refine H2.out.mono ?_
     rintro e w2 ⟨rfl, rfl⟩
     go_wp2_with fail
     refine H3.out.mono ?_
     rintro e w3 ⟨rfl, hb3⟩
     go_wp2_with fail
     go_ret
     exact ⟨rfl, hb3⟩
end
end Go.Proofs.YtcefkngblddpoaaGreatDoor
