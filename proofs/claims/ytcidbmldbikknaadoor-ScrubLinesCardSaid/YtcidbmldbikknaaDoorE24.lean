/-
  Walks: numbers as decimal texts, by the program and the reference. Conditions: numbers of 64 bits; the library's table lies in memory.
-/
import Derived.Test.YtcidbmldbikknaaDoorE14
import Derived.Test.YtcidbmldbikknaaDoorShelf
import Derived.Lib.AppendIntMem
import Derived.Lib.ItoaLen
namespace Go.Proofs.YtcidbmldbikknaaDoor
open Go.RowKit Go.Sort
attribute [local go_sem] ByteArray.mk_append_mk strOfNums_size

/-- The library's table of powers lies in memory, below a block. -/
def TabB (B : Nat) (w : World) : Prop := Lib.TabBelow Tryd.prog B w "internal/strconv.uint64pow10" .u64 Lib.pow10Tab
theorem TabB.on {B : Nat} {w w' : World} (h : TabB B w) (hb : Below B w w') : TabB B w' := Lib.TabBelow.on h hb
/-- A number as a decimal text. -/
abbrev dcm (n : Int) : By := Lib.itoa n
theorem itoa_any (n : Int) (h : okI n) (w : World) (B : Nat) (ht : TabB B w) : Calls Tryd.prog 19 #[.int .i64 n] w fun e w' => e = .returned (.string ⟨(dcm n).toArray⟩) ∧ Below w.heap.size w w' :=
  (Tryd.strconv_Itoa n h.1 h.2 w (Lib.TabBelow.here ht)).mono fun e w' ⟨he, k, os, hw⟩ => ⟨he, by subst hw; exact (below_drewN (Below.refl _ _) k).trans (by
    refine ⟨rfl, rfl, rfl, by simp [grow], fun q hq => ?_⟩
    have hq' : q < (w.drewN k).heap.size := hq
    exact Array.getElem?_append_left hq')⟩

theorem digits_len (n : Nat) (h : n < 18446744073709551616) : (Lib.decDigits n).length ≤ 22 := by
  by_cases h10 : n < 10
  · rw [Lib.decDigits_one h10]; simp
  · rw [Lib.decDigits, dif_neg h10, List.length_append]
    have := Lib.itoa_length_le ((n / 10 : Nat) : Int) (by omega) (by omega)
    rw [Lib.itoa_nonneg] at this
    simp; omega

set_option maxRecDepth 100000 in
set_option maxHeartbeats 1000000 in
theorem digits_any : ∀ (n : Nat) (_ : n < 18446744073709551616) (w : World), Calls Tryd.prog 36 #[.int .u64 n] w fun e w' => e = .returned (.string ⟨(Lib.decDigits n).toArray⟩) ∧ Below w.heap.size w w' := by
  intro n
  induction n using Nat.strongRecOn with
  | ind n ih =>
    intro hn w
    have hm : n % 10 < 10 := Nat.mod_lt _ (by decide)
    have m1 : (n : Int).tmod 10 = ((n % 10 : Nat) : Int) := by rw [Int.tmod_eq_emod_of_nonneg (by omega)]; rfl
    have m2 : (n : Int).tdiv 10 = ((n / 10 : Nat) : Int) := by rw [Int.tdiv_eq_ediv_of_nonneg (by omega)]; rfl
    obtain ⟨r, hr⟩ : ∃ r, n % 10 = r := ⟨_, rfl⟩
    rw [hr] at hm m1
    have w1 : IntKind.u64.wrap (48 + (r : Int)) = 48 + (r : Int) := by
      have := hm
      rcases (show r = 0 ∨ r = 1 ∨ r = 2 ∨ r = 3 ∨ r = 4 ∨ r = 5 ∨ r = 6 ∨ r = 7 ∨ r = 8 ∨ r = 9 by omega) with rfl | rfl | rfl | rfl | rfl | rfl | rfl | rfl | rfl | rfl <;> rfl
    have w2 : IntKind.u8.wrap (48 + (r : Int)) = 48 + (r : Int) := by
      have := hm
      rcases (show r = 0 ∨ r = 1 ∨ r = 2 ∨ r = 3 ∨ r = 4 ∨ r = 5 ∨ r = 6 ∨ r = 7 ∨ r = 8 ∨ r = 9 by omega) with rfl | rfl | rfl | rfl | rfl | rfl | rfl | rfl | rfl | rfl <;> rfl
    have w3 : IntKind.u64.wrap (r : Int) = (r : Int) := by
      have := hm
      rcases (show r = 0 ∨ r = 1 ∨ r = 2 ∨ r = 3 ∨ r = 4 ∨ r = 5 ∨ r = 6 ∨ r = 7 ∨ r = 8 ∨ r = 9 by omega) with rfl | rfl | rfl | rfl | rfl | rfl | rfl | rfl | rfl | rfl <;> rfl
    have hcv := conv_at (w.alloc (.cells #[.int .u8 (48 + (r : Int))] 5)) w.heap.size 1 [48 + (r : Int)] 5 (0, 0) (heap_alloc_new w _) rfl
    have hsn : strOfNums [48 + (r : Int)] = ⟨#[UInt8.ofNat (48 + r)]⟩ := by
      have := str_n (48 + r)
      rwa [show ((48 + r : Nat) : Int) = 48 + (r : Int) by omega] at this
    rw [hsn] at hcv
    obtain ⟨c, hc⟩ : ∃ c, c = UInt8.ofNat (48 + r) := ⟨_, rfl⟩
    rw [← hc] at hcv
    have HB := Lib.hid (box_below w #[.int .u8 (48 + (r : Int))] 5)
    by_cases h10 : n < 10
    · have HF := Lib.hid (show Lib.decDigits n = [c] by rw [hc, Lib.decDigits_one h10, ← hr, Nat.mod_eq_of_lt h10])
      have h10I : (n : Int) < 10 := by omega
      clear ih hr hsn hc
      generalize Lib.decDigits n = D at HF ⊢
      go_enter Tryd.func36, Tryd.ntmps36
      go_wp2_with fail
      go_ret
      rw [HF.out]
      exact ⟨rfl, HB.out⟩
    · have HF := Lib.hid (show Lib.decDigits n = Lib.decDigits (n / 10) ++ [c] by rw [hc, Lib.decDigits, dif_neg h10, hr])
      have h10I : ¬ (n : Int) < 10 := by omega
      have HC := Lib.hid (fun W => ih (n / 10) (by omega) (by omega) W)
      clear ih hr hsn hc
      generalize Lib.decDigits n = D at HF ⊢
      have hlen := digits_len (n / 10) (by omega)
      generalize Lib.decDigits (n / 10) = E at HF HC hlen
      have hle2 : ¬ 9223372036854775807 < E.length + 1 := by omega
      generalize hq : n / 10 = q at m2 HC
      have hq1 : (n : Int) / 10 = (q : Int) := by omega
      go_enter Tryd.func36, Tryd.ntmps36
      go_wp2_with fail
      refine (HC.out _).mono ?_
      rintro e w2 ⟨rfl, hb2⟩
      have HB2 := Lib.hid (HB.out.trans (hb2.mono HB.out.size))
      clear hb2
      go_wp2_with fail
      go_ret
      rw [HF.out]
      exact ⟨by simp, HB2.out⟩

theorem itoa_len (n : Int) (h : okI n) : (dcm n).length ≤ 21 := Lib.itoa_length_le n h.1 h.2

set_option maxRecDepth 100000 in
set_option maxHeartbeats 1000000 in
theorem decimal_any (n : Int) (h : okI n) (w : World) : Calls Tryd.prog 22 #[.int .i64 n] w fun e w' => e = .returned (.string ⟨(dcm n).toArray⟩) ∧ Below w.heap.size w w' := by
  obtain ⟨h1, h2⟩ := h
  by_cases hn : n < 0
  · have HF := Lib.hid (show dcm n = 45 :: Lib.decDigits n.natAbs by unfold dcm Lib.itoa; rw [if_pos hn])
    obtain ⟨k, hk⟩ : ∃ k : Nat, n.natAbs = k := ⟨_, rfl⟩
    rw [hk] at HF
    have HC := Lib.hid (fun W => digits_any k (by omega) W)
    have hlen := digits_len k (by omega)
    generalize dcm n = D at HF ⊢
    generalize Lib.decDigits k = E at HF HC hlen
    have hle2 : ¬ 9223372036854775807 < 1 + E.length := by omega
    have v1 : IntKind.i64.wrap (n + 1) = n + 1 := IntWalk.i64_in _ (by omega)
    have v2 : IntKind.i64.wrap (-(n + 1)) = -(n + 1) := IntWalk.i64_in _ (by omega)
    have v3 : IntKind.u64.wrap (-(n + 1)) = -(n + 1) := IntWalk.u64_in _ (by omega)
    have v4 : IntKind.u64.wrap (-(n + 1) + 1) = (k : Int) := by rw [show -(n + 1) + 1 = (k : Int) by omega]; exact IntWalk.u64_in _ (by omega)
    go_enter Tryd.func22, Tryd.ntmps22
    go_wp2_with fail
    refine (HC.out _).mono ?_
    rintro e w2 ⟨rfl, hb2⟩
    have HB2 := Lib.hid hb2
    clear hb2
    go_wp2_with fail
    go_ret
    rw [HF.out]
    exact ⟨by simp, HB2.out⟩
  · have HF := Lib.hid (show dcm n = Lib.decDigits n.toNat by unfold dcm Lib.itoa; rw [if_neg hn])
    obtain ⟨k, hk⟩ : ∃ k : Nat, n.toNat = k := ⟨_, rfl⟩
    rw [hk] at HF
    have HC := Lib.hid (fun W => digits_any k (by omega) W)
    generalize dcm n = D at HF ⊢
    generalize Lib.decDigits k = E at HF HC
    obtain rfl : n = (k : Int) := by omega
    have v1 : IntKind.u64.wrap (k : Int) = (k : Int) := IntWalk.u64_in _ (by omega)
    clear hk
    go_enter Tryd.func22, Tryd.ntmps22
    go_wp2_with fail
    refine (HC.out _).mono ?_
    rintro e w2 ⟨rfl, hb2⟩
    have HB2 := Lib.hid hb2
    clear hb2
    go_wp2_with fail
    go_ret
    rw [HF.out]
    exact ⟨rfl, HB2.out⟩

end Go.Proofs.YtcidbmldbikknaaDoor
