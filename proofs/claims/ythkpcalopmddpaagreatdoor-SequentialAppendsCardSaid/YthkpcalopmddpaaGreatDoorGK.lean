/-
  Walks: the number at the front of bytes.
  Walks: the reader of values. Condition: texts of at most a million bytes.
  Walks: a page of sectors.
  Walks: the blocks of a stream; whether two lists of texts are equal. Condition: a stream of at most a million bytes.
-/
import Derived.Test.YthkpcalopmddpaaGreatDoorGE
import Derived.Test.YthkpcalopmddpaaGreatDoorS11
import Derived.Test.YthkpcalopmddpaaGreatDoorGB
import Derived.Test.YthkpcalopmddpaaGreatDoorGD
import Derived.Laws.Bits64b
import Derived.Laws.Shifts
import Derived.Great.Walk
namespace Go.Proofs.YthkpcalopmddpaaGreatDoor

section
open Go.RowKit

/-- The number at the front of bytes and how many it has; 0 for none. -/
def decG : Nat → Nat → Nat → By → Nat × Nat
  | 0, _, _, _ => (0, 0)
  | _ + 1, _, _, [] => (0, 0)
  | f + 1, i, n, b :: r =>
    if i = 9 ∧ 1 < b.toNat then (0, 0)
    else if b.toNat < 128 then (if b.toNat = 0 ∧ 0 < i then (0, 0) else (n + b.toNat % 128 * 2 ^ (7 * i), i + 1))
    else decG f (i + 1) (n + b.toNat % 128 * 2 ^ (7 * i)) r
def decV (s : By) : Nat × Nat := decG 10 0 0 s

theorem or_add (n x k : Nat) (h : n < 2 ^ k) : n ||| (x * 2 ^ k) = n + x * 2 ^ k := by
  rw [Nat.or_comm, Nat.mul_comm, ← Nat.two_pow_add_eq_or_of_lt h]; omega
theorem and127 (b : UInt8) : bits .and .u8 (b.toNat : Int) 127 = ((b.toNat % 128 : Nat) : Int) := by
  have key : ∀ x : Fin 256, bits .and .u8 ((x.val : Nat) : Int) 127 = ((x.val % 128 : Nat) : Int) := by decide +kernel
  exact key ⟨b.toNat, b.toNat_lt⟩

theorem dec_or (n j : Nat) (b : UInt8) (hn : n < 2 ^ (7 * j)) (h64 : n < 18446744073709551616) (hx : b.toNat % 128 * 2 ^ (7 * j) < 18446744073709551616) :
    bits .or .u64 (n : Int) (IntKind.u64.wrap (IntKind.u64.wrap (bits .and .u8 (b.toNat : Int) 127) * 2 ^ (7 * j))) = ((n + b.toNat % 128 * 2 ^ (7 * j) : Nat) : Int) := by
  have h1 : IntKind.u64.wrap ((b.toNat % 128 : Nat) : Int) = ((b.toNat % 128 : Nat) : Int) := by rw [IntKind.wrap_u64]; omega
  have h2 : ((b.toNat % 128 : Nat) : Int) * 2 ^ (7 * j) = ((b.toNat % 128 * 2 ^ (7 * j) : Nat) : Int) := by rw [Int.natCast_mul, Int.natCast_pow]; rfl
  rw [and127, h1, h2]
  have h3 : IntKind.u64.wrap ((b.toNat % 128 * 2 ^ (7 * j) : Nat) : Int) = ((b.toNat % 128 * 2 ^ (7 * j) : Nat) : Int) := by
    generalize b.toNat % 128 * 2 ^ (7 * j) = X at hx; rw [IntKind.wrap_u64]; omega
  rw [h3, bits_or_u64_nat _ _ h64 hx, or_add _ _ _ hn]
theorem dec_bound (n j x : Nat) (hn : n < 2 ^ (7 * j)) (hx : x < 128) : n + x * 2 ^ (7 * j) < 2 ^ (7 * (j + 1)) := by
  have e : 2 ^ (7 * (j + 1)) = 128 * 2 ^ (7 * j) := by rw [show 7 * (j + 1) = 7 * j + 7 by omega, Nat.pow_add]; omega
  have h : (x + 1) * 2 ^ (7 * j) ≤ 128 * 2 ^ (7 * j) := Nat.mul_le_mul_right _ (by omega)
  rw [Nat.add_mul] at h
  omega
theorem dec_small (j : Nat) (hj : j ≤ 9) : 2 ^ (7 * j) ≤ 9223372036854775808 := by
  have h : 2 ^ (7 * j) ≤ 2 ^ 63 := Nat.pow_le_pow_right (by omega) (by omega)
  simpa using h

set_option maxRecDepth 100000 in
set_option maxHeartbeats 2000000 in
theorem decode_any (s : By) (w : World) (hs : s.length ≤ 1000000) :
    Calls Tryz.prog 76 #[.string ⟨s.toArray⟩] w fun e w' => e = .returned (.tuple #[.int .u64 (decV s).1, .int .i64 (decV s).2]) ∧ w = w' := by
  generalize hV0 : decV s = V
  have HV0 := Lib.hid (show V = decG 10 0 0 (s.drop 0) from hV0.symm)
  clear hV0
  go_enter Tryz.func76, Tryz.ntmps76
  go_wp2_with fail
  go_loop [4, 5, 6] (fun a k _ => ∃ j n : Nat, j ≤ s.length ∧ j ≤ 10 ∧ k = .int .i64 j ∧ a = .int .u64 n ∧ (j ≤ 9 → n < 2 ^ (7 * j)) ∧ n < 18446744073709551616 ∧ V = decG (10 - j) j n (s.drop j)) (fun _ k _ => 10 - (intOf k).toNat)
  case atStart => exact ⟨0, 0, by omega, by omega, rfl, rfl, by simp, by omega, HV0.out⟩
  case round =>
    obtain ⟨j, n, hj, hj10, rfl, rfl, hn, hn64, hV⟩ := hrel
    by_cases hlt : j < s.length
    · by_cases h10 : j < 10
      · rw [List.drop_eq_getElem_cons hlt, show 10 - j = (10 - (j + 1)) + 1 by omega, decG] at hV
        have hbg : (ByteArray.mk s.toArray)[j]'(by simpa [ByteArray.size] using hlt) = s[j] := rfl
        generalize s[j] = b at hV hbg
        have hb8 : b.toNat < 256 := b.toNat_lt
        have hn := hn (by omega)
        have hps := dec_small j (by omega)
        by_cases hbig : b.toNat < 128
        · by_cases h9 : j = 9
          · subst h9
            by_cases h1 : 1 < b.toNat
            · rw [if_pos ⟨rfl, h1⟩] at hV
              have HV := Lib.hid hV
              clear hV hn hps
              have h1I : (1 : Int) < (b.toNat : Int) := by omega
              go_wp2_with fail
              go_ret2
              exact ⟨by rw [HV.out]; rfl, rfl⟩
            · rw [if_neg (fun h => h1 h.2), if_pos hbig] at hV
              have h1I : ¬ (1 : Int) < (b.toNat : Int) := by omega
              have h2I : (b.toNat : Int) < 128 := by omega
              by_cases h0 : b.toNat = 0
              · rw [if_pos ⟨h0, by omega⟩] at hV
                have HV := Lib.hid hV
                have e0 : ((b.toNat : Int) == 0) = true := by rw [h0]; rfl
                clear hV hn hps h0
                go_wp2_with fail
                go_ret2
                exact ⟨by rw [HV.out]; rfl, rfl⟩
              · rw [if_neg (fun h => h0 h.1)] at hV
                have HV := Lib.hid hV
                have e0 : ((b.toNat : Int) == 0) = false := by simp; omega
                have HR := Lib.hid (dec_or n 9 b hn hn64 (by have : b.toNat = 1 := by omega
                                                             rw [this]; decide))
                clear hV hn hps h0
                go_wp2_with fail
                go_ret2
                have h := HR.out
                rw [show (2 : Int) ^ (7 * 9) = 9223372036854775808 by decide] at h
                exact ⟨by rw [h, HV.out]; rfl, rfl⟩
          · have e9 : ((j : Int) == 9) = false := by simp; omega
            rw [if_neg (fun h => h9 h.1), if_pos hbig] at hV
            have h2I : (b.toNat : Int) < 128 := by omega
            have hx : b.toNat % 128 * 2 ^ (7 * j) < 18446744073709551616 := by
              have hp : 2 ^ (7 * j) ≤ 2 ^ 56 := Nat.pow_le_pow_right (by omega) (by omega)
              have : b.toNat % 128 * 2 ^ (7 * j) ≤ 127 * 2 ^ 56 := Nat.mul_le_mul (by omega) hp
              omega
            by_cases h0 : b.toNat = 0 ∧ 0 < j
            · rw [if_pos h0] at hV
              have HV := Lib.hid hV
              have e0 : ((b.toNat : Int) == 0) = true := by rw [h0.1]; rfl
              have ej : (0 : Int) < (j : Int) := by omega
              clear hV hn hps h0 hx h9
              go_wp2_with fail
              go_ret2
              exact ⟨by rw [HV.out]; rfl, rfl⟩
            · rw [if_neg h0] at hV
              have HV := Lib.hid hV
              have HR := Lib.hid (dec_or n j b hn hn64 hx)
              by_cases hz : b.toNat = 0
              · have e0 : ((b.toNat : Int) == 0) = true := by rw [hz]; rfl
                have ej : ¬ (0 : Int) < (j : Int) := by omega
                clear hV hn hps h0 hx h9 hz
                go_wp2_with fail
                go_ret2
                exact ⟨by rw [HR.out, HV.out]; rfl, rfl⟩
              · have e0 : ((b.toNat : Int) == 0) = false := by simp; omega
                clear hV hn hps h0 hx h9 hz
                go_wp2_with fail
                go_ret2
                exact ⟨by rw [HR.out, HV.out]; rfl, rfl⟩
        · have h2I : ¬ (b.toNat : Int) < 128 := by omega
          by_cases h9 : j = 9
          · subst h9
            rw [if_pos ⟨rfl, by omega⟩] at hV
            have HV := Lib.hid hV
            have h1I : (1 : Int) < (b.toNat : Int) := by omega
            clear hV hn hps
            go_wp2_with fail
            go_ret2
            exact ⟨by rw [HV.out]; rfl, rfl⟩
          · have e9 : ((j : Int) == 9) = false := by simp; omega
            rw [if_neg (fun h => h9 h.1), if_neg hbig] at hV
            have hx : b.toNat % 128 * 2 ^ (7 * j) < 18446744073709551616 := by
              have hp : 2 ^ (7 * j) ≤ 2 ^ 56 := Nat.pow_le_pow_right (by omega) (by omega)
              have : b.toNat % 128 * 2 ^ (7 * j) ≤ 127 * 2 ^ 56 := Nat.mul_le_mul (by omega) hp
              omega
            have HBD := Lib.hid (dec_bound n j (b.toNat % 128) hn (by omega))
            have HB2 := Lib.hid (show n + b.toNat % 128 * 2 ^ (7 * j) < 18446744073709551616 by
              have h3 := dec_small (j + 1) (by omega)
              have h4 := HBD.out
              generalize n + b.toNat % 128 * 2 ^ (7 * j) = X at h4 ⊢
              omega)
            have HV := Lib.hid hV
            have HR := Lib.hid (dec_or n j b hn hn64 hx)
            clear hV hn hps hx
            go_wp2_with fail
            go_round
            case rel => exact ⟨j + 1, n + b.toNat % 128 * 2 ^ (7 * j), by omega, by omega, by go_num, by rw [HR.out], fun _ => HBD.out, HB2.out, HV.out⟩
            case measure => simp [intOf]; omega
      · obtain rfl : j = 10 := by omega
        have HV := Lib.hid (show V = (0, 0) from hV)
        clear hV hn
        go_wp2_with fail
        go_ret2
        exact ⟨by rw [HV.out]; rfl, rfl⟩
    · rw [List.drop_eq_nil_of_le (by omega)] at hV
      have HV := Lib.hid (show V = (0, 0) by rw [hV]; cases 10 - j <;> rfl)
      clear hV hn
      go_wp2_with fail
      all_goals
        go_ret2
        exact ⟨by rw [HV.out]; rfl, rfl⟩
end

section
open Go.RowKit Go.Sort
attribute [local go_sem] strOfNums_size ext_drop ext_take

theorem bodyPost_ret0 {fn : Func} {R : Ending → World → Prop} {a : Act} {w : World} (hr : fn.results = #[]) (hd : a.defers = []) (hR : R (.returned (.tuple #[])) w) : bodyPost Tryz.prog fn R .ret a w :=
  bodyPost_ret (v := .tuple #[]) (by simp [results, hr, go_sem]) hd hR
/-- A reader in memory. -/
structure RdAt (w : World) (g : Nat) (left : By) (err : Int) : Prop where
  row : w.heap[g]? = some (.cells #[.string ⟨left.toArray⟩, .int .i64 err] 97 (0, 0))
theorem RdAt.c0 {w : World} {g : Nat} {left : By} {err : Int} (h : RdAt w g left err) : w.cell? ⟨g, 0, none⟩ = some (.string ⟨left.toArray⟩) := cell_at h.row rfl
theorem RdAt.c1 {w : World} {g : Nat} {left : By} {err : Int} (h : RdAt w g left err) : w.cell? ⟨g, 1, none⟩ = some (.int .i64 err) := cell_at h.row rfl
theorem RdAt.f0 {w : World} {g : Nat} {left : By} {err : Int} (h : RdAt w g left err) (i : Nat) : w.frozen? ⟨g, i, none⟩ = false := free_at h.row i
theorem RdAt.lt {w : World} {g : Nat} {left : By} {err : Int} (h : RdAt w g left err) : g < w.heap.size := lt_of_block h.row
theorem RdAt.set0 {w : World} {g : Nat} {left : By} {err : Int} (h : RdAt w g left err) (l : By) : RdAt (w.setCell ⟨g, 0, none⟩ (.string ⟨l.toArray⟩)) g l err := ⟨cell_row_any _ _ _ _ _ _ _ h.row⟩
theorem RdAt.set1 {w : World} {g : Nat} {left : By} {err : Int} (h : RdAt w g left err) (e : Int) : RdAt (w.setCell ⟨g, 1, none⟩ (.int .i64 e)) g left e := ⟨cell_row_any _ _ _ _ _ _ _ h.row⟩
theorem RdAt.below {w w' : World} {g : Nat} {left : By} {err : Int} (h : RdAt w g left err) (hb : Below w.heap.size w w') : RdAt w' g left err := ⟨heap_below hb h.lt h.row⟩

set_option maxRecDepth 100000 in
set_option maxHeartbeats 400000 in
theorem newReader_any (s : By) (w : World) :
    Calls Tryz.prog 28 #[.string ⟨s.toArray⟩] w fun e w' => e = .returned (.pointer (some ⟨w.heap.size, 0, none⟩)) ∧ RdAt w' w.heap.size s 0 ∧ Below w.heap.size w w' := by
  go_enter Tryz.func28, Tryz.ntmps28
  go_wp2
  go_ret
  exact ⟨rfl, ⟨heap_alloc_new _ _⟩, (Below.refl _ _).alloc (Nat.le_refl _) _⟩

set_option maxRecDepth 100000 in
set_option maxHeartbeats 400000 in
theorem left_any (w : World) (g : Nat) (left : By) (err : Int) (h : RdAt w g left err) :
    Calls Tryz.prog 30 #[.pointer (some ⟨g, 0, none⟩)] w fun e w' => e = .returned (.int .i64 left.length) ∧ w = w' := by
  have c0 := h.c0
  clear h
  go_enter Tryz.func30, Tryz.ntmps30
  go_wp2
  go_ret
  exact ⟨rfl, rfl⟩
set_option maxRecDepth 100000 in
set_option maxHeartbeats 400000 in
theorem rest_any (w : World) (g : Nat) (left : By) (err : Int) (h : RdAt w g left err) :
    Calls Tryz.prog 31 #[.pointer (some ⟨g, 0, none⟩)] w fun e w' => e = .returned (.string ⟨left.toArray⟩) ∧ w = w' := by
  have c0 := h.c0
  clear h
  go_enter Tryz.func31, Tryz.ntmps31
  go_wp2
  go_ret
  exact ⟨rfl, rfl⟩

set_option maxRecDepth 100000 in
set_option maxHeartbeats 400000 in
theorem fail_any (w : World) (g : Nat) (left : By) (c : Int) (h : RdAt w g left 0) :
    Calls Tryz.prog 55 #[.pointer (some ⟨g, 0, none⟩), .int .i64 c] w fun e w' => e = .returned (.tuple #[]) ∧ RdAt w' g [] c ∧ Only [g] w w' := by
  have c0 := h.c0
  have c1 := h.c1
  have f0 := h.f0 0
  have f1 := h.f0 1
  have HE := Lib.hid ((h.set1 c).set0 [])
  have HO := Lib.hid (((Only.refl [g] w).setCell (p := ⟨g, 1, none⟩) (Or.inl (by simp)) (.int .i64 c)).setCell (p := ⟨g, 0, none⟩) (Or.inl (by simp)) (.string ⟨([] : By).toArray⟩))
  clear h
  go_enter Tryz.func55, Tryz.ntmps55
  go_wp2
  exact Go.Great.bodyPost_end0 rfl rfl ⟨rfl, HE.out, HO.out⟩

/-- What Number gives: the number, what is left, the error. -/
def numR (left : By) (err : Int) : Nat × By × Int :=
  if err = 0 then (if (decV left).2 = 0 then ((decV left).1, [], 11) else ((decV left).1, left.drop (decV left).2, 0)) else (0, left, err)

theorem decV_le (s : By) : (decV s).2 ≤ s.length := by
  have key : ∀ (f i n : Nat) (s : By), (decG f i n s).2 ≤ i + s.length := by
    intro f
    induction f with
    | zero => intro i n s; simp [decG]
    | succ f ih =>
      intro i n s
      cases s with
      | nil => simp [decG]
      | cons b r =>
        unfold decG
        split
        · simp
        · split
          · split
            · simp
            · simp only [List.length_cons]; omega
          · have := ih (i + 1) (n + b.toNat % 128 * 2 ^ (7 * i)) r
            simp only [List.length_cons]; omega
  have := key 10 0 0 s
  unfold decV; omega

set_option maxRecDepth 100000 in
set_option maxHeartbeats 400000 in
theorem numclos_any (s : By) (w : World) (c : Nat) (n0 : Int) (hs : s.length ≤ 1000000) (hc : w.heap[c]? = some (.cells #[.int .u64 n0] 98 (0, 0))) :
    Calls Tryz.prog 75 #[.string ⟨s.toArray⟩, .pointer (some ⟨c, 0, none⟩)] w fun e w' => e = .returned (.int .i64 (decV s).2) ∧ w' = w.setCell ⟨c, 0, none⟩ (.int .u64 (decV s).1) := by
  have c0 := cell_at (i := 0) hc rfl
  have f0 := free_at hc 0
  have HD := Lib.hid (decode_any s w hs)
  clear hc
  go_enter Tryz.func75, Tryz.ntmps75
  go_wp2_with fail
  refine HD.out.mono ?_
  rintro e w1 ⟨rfl, rfl⟩
  go_wp2
  go_ret
  exact ⟨rfl, rfl⟩

set_option maxRecDepth 100000 in
set_option maxHeartbeats 1000000 in
theorem take_any (w : World) (g c : Nat) (left : By) (err n0 : Int) (h : RdAt w g left err) (hl : left.length ≤ 1000000) (hc : w.heap[c]? = some (.cells #[.int .u64 n0] 98 (0, 0))) (hgc : g ≠ c) :
    Calls Tryz.prog 74 #[.pointer (some ⟨g, 0, none⟩), .func (.func 75) #[] #[.pointer (some ⟨c, 0, none⟩)]] w fun e w' =>
      e = .returned (.tuple #[]) ∧ RdAt w' g (numR left err).2.1 (numR left err).2.2 ∧ (err = 0 → w'.heap[c]? = some (.cells #[.int .u64 (numR left err).1] 98 (0, 0))) ∧ (¬ err = 0 → w = w') ∧ Only [g, c] w w' := by
  have c0 := h.c0
  have c1 := h.c1
  by_cases he : err = 0
  · subst he
    have hle := decV_le left
    have HC := Lib.hid (numclos_any left w c n0 hl hc)
    have hR : RdAt (w.setCell ⟨c, 0, none⟩ (.int .u64 (decV left).1)) g left 0 := ⟨(Below.heap_setCell _ _ _ _ hgc).trans h.row⟩
    have hC : (w.setCell ⟨c, 0, none⟩ (.int .u64 (decV left).1)).heap[c]? = some (.cells #[.int .u64 (decV left).1] 98 (0, 0)) := cell_row_any _ _ _ _ _ _ _ hc
    have hO : Only [g, c] w (w.setCell ⟨c, 0, none⟩ (.int .u64 (decV left).1)) := (Only.refl [g, c] w).setCell (p := ⟨c, 0, none⟩) (Or.inl (by simp)) _
    have hN : numR left 0 = if (decV left).2 = 0 then ((decV left).1, [], 11) else ((decV left).1, left.drop (decV left).2, 0) := by unfold numR; rw [if_pos rfl]
    generalize decV left = V at HC hR hC hO hN hle
    obtain ⟨v, k⟩ := V
    simp only at HC hR hC hO hN hle
    generalize w.setCell ⟨c, 0, none⟩ (.int .u64 v) = w1 at HC hR hC hO
    by_cases hk : k = 0
    · subst hk
      rw [if_pos rfl] at hN
      have HN := Lib.hid hN
      have HF := Lib.hid (fail_any w1 g left 11 hR)
      have HCc := Lib.hid hC
      have HO := Lib.hid hO
      clear hN h hc hR hC hO
      go_enter Tryz.func74, Tryz.ntmps74
      go_wp2_with fail
      refine HC.out.mono ?_
      rintro e _ ⟨rfl, rfl⟩
      go_wp2_with fail
      refine HF.out.mono ?_
      rintro e w2 ⟨rfl, hr2, ho2⟩
      go_wp2_with fail
      refine bodyPost_ret0 rfl rfl ⟨rfl, ?_, ?_, fun h => (by simp at h), HO.out.trans (ho2.mono (by simp))⟩
      · rw [HN.out]; exact hr2
      · intro _; rw [HN.out]; exact ho2.heap HCc.out (by simpa using hgc.symm)
    · rw [if_neg hk] at hN
      have HN := Lib.hid hN
      have e0 : ((k : Int) == 0) = false := by simp; omega
      have e1 : (k == 0) = false := by simp; omega
      have d0 := hR.c0
      have f0 := hR.f0 0
      have HS := Lib.hid (hR.set0 (left.drop k))
      have HC2 := Lib.hid ((Below.heap_setCell w1 ⟨g, 0, none⟩ (.string ⟨(left.drop k).toArray⟩) c hgc.symm).trans hC)
      have HO := Lib.hid (hO.setCell (p := ⟨g, 0, none⟩) (Or.inl (by simp)) (.string ⟨(left.drop k).toArray⟩))
      clear hN h hc hR hC hO hk
      go_enter Tryz.func74, Tryz.ntmps74
      go_wp2_with fail
      refine HC.out.mono ?_
      rintro e _ ⟨rfl, rfl⟩
      go_wp2_with fail
      refine Go.Great.bodyPost_end0 rfl rfl ⟨rfl, ?_, ?_, fun h => (by simp at h), HO.out⟩
      · rw [HN.out]; exact HS.out
      · intro _; rw [HN.out]; exact HC2.out
  · have HN := Lib.hid (show numR left err = (0, left, err) by unfold numR; rw [if_neg he])
    have HE := Lib.hid he
    have e0 : (err == 0) = false := by simp [he]
    have e1 : (err != 0) = true := by simp [he]
    have HH := Lib.hid h
    clear he h hc
    go_enter Tryz.func74, Tryz.ntmps74
    go_wp2_with fail
    refine bodyPost_ret0 rfl rfl ⟨rfl, ?_, fun h => absurd h HE.out, fun _ => rfl, Only.refl _ _⟩
    rw [HN.out]; exact HH.out

set_option maxRecDepth 100000 in
set_option maxHeartbeats 1000000 in
theorem number_read (w : World) (g : Nat) (left : By) (err : Int) (h : RdAt w g left err) (hl : left.length ≤ 1000000) :
    Calls Tryz.prog 54 #[.pointer (some ⟨g, 0, none⟩)] w fun e w' =>
      e = .returned (.int .u64 (numR left err).1) ∧ RdAt w' g (numR left err).2.1 (numR left err).2.2 ∧ Only [g] w w' := by
  have hmf : ∀ (fn : Fn) (first cap : Array Value) (w : World), (Instr.makeFunc fn first cap).run Tryz.prog w = .ok (.func fn first cap) w := fun _ _ _ _ => rfl
  have hg := h.lt
  have hR : RdAt (w.alloc (.cells #[.int .u64 0] 98)) g left err := ⟨(halloc _ _ hg).trans h.row⟩
  have HT := Lib.hid (take_any (w.alloc (.cells #[.int .u64 0] 98)) g w.heap.size left err 0 hR hl (heap_alloc_new _ _) (by omega))
  have HC := Lib.hid (heap_alloc_new w (.cells #[.int .u64 0] 98))
  have HV := Lib.hid (show ¬ err = 0 → (numR left err).1 = 0 from fun he => by unfold numR; rw [if_neg he])
  generalize numR left err = V at HT HV ⊢
  obtain ⟨v, l2, e2⟩ := V
  simp only at HT HV ⊢
  clear h hR
  go_enter Tryz.func54, Tryz.ntmps54
  go_wp2_with fail
  refine HT.out.mono ?_
  rintro e w1 ⟨rfl, hr, hc, hw, ho⟩
  have hcell : w1.cell? ⟨w.heap.size, 0, none⟩ = some (.int .u64 v) := by
    by_cases he : err = 0
    · exact cell_at (hc he) rfl
    · rw [← hw he, HV.out he]; exact cell_at HC.out rfl
  have HR := Lib.hid hr
  have HO := Lib.hid (((Only.refl [g] w).alloc (.cells #[.int .u64 0] 98)).then ho (fun i hi => by simp at hi; rcases hi with rfl | rfl; exact Or.inl (by simp); exact Or.inr (Nat.le_refl _)))
  clear hr hc hw ho
  go_wp2_with fail
  go_ret
  exact ⟨rfl, HR.out, HO.out⟩

/-- What Count gives. -/
def cntR (most : Nat) (left : By) (err : Int) : Nat × By × Int :=
  if (numR left err).2.2 = 0 then (if most < (numR left err).1 then (0, [], 8) else ((numR left err).1, (numR left err).2.1, 0)) else (0, (numR left err).2.1, (numR left err).2.2)
theorem numR_len (left : By) (err : Int) : (numR left err).2.1.length ≤ left.length := by
  unfold numR; split
  · split
    · simp
    · simp
  · exact Nat.le_refl _
theorem cntR_len (most : Nat) (left : By) (err : Int) : (cntR most left err).2.1.length ≤ left.length := by
  unfold cntR
  have := numR_len left err
  split
  · split
    · simp
    · exact this
  · exact this
theorem decV_lt (s : By) : (decV s).1 < 18446744073709551616 := by
  have key : ∀ (f i n : Nat) (s : By), i + f = 10 → n < 2 ^ (7 * i) → (i = 10 → False) ∨ f = 0 → (decG f i n s).1 < 18446744073709551616 := by
    intro f
    induction f with
    | zero => intro i n s _ _ _; simp [decG]
    | succ f ih =>
      intro i n s hi hn _
      cases s with
      | nil => simp [decG]
      | cons b r =>
        have hb8 : b.toNat < 256 := b.toNat_lt
        unfold decG
        split
        · simp
        · rename_i h9
          split
          · split
            · simp
            · simp only
              by_cases hi9 : i = 9
              · subst hi9
                have hb1 : b.toNat ≤ 1 := by
                  rcases Nat.lt_or_ge 1 b.toNat with h | h
                  · exact absurd ⟨rfl, h⟩ h9
                  · exact h
                have : 2 ^ (7 * 9) = 9223372036854775808 := by decide
                rw [this] at hn ⊢
                have : b.toNat % 128 ≤ 1 := by omega
                have := Nat.mul_le_mul_right 9223372036854775808 this
                omega
              · have h1 := dec_bound n i (b.toNat % 128) hn (by omega)
                have h2 := dec_small (i + 1) (by omega)
                omega
          · by_cases hi9 : i = 9
            · subst hi9
              exact absurd ⟨rfl, by omega⟩ h9
            · exact ih (i + 1) _ r (by omega) (dec_bound n i (b.toNat % 128) hn (by omega)) (Or.inl (by omega))
  exact key 10 0 0 s rfl (by simp) (Or.inl (by omega))
theorem numR_lt (left : By) (err : Int) : (numR left err).1 < 18446744073709551616 := by
  have := decV_lt left
  unfold numR; split
  · split <;> exact this
  · simp

set_option maxRecDepth 100000 in
set_option maxHeartbeats 1000000 in
theorem count_any (w : World) (g : Nat) (left : By) (err : Int) (h : RdAt w g left err) (hl : left.length ≤ 1000000) :
    Calls Tryz.prog 29 #[.pointer (some ⟨g, 0, none⟩), .int .i64 1099511627776] w fun e w' =>
      e = .returned (.int .i64 (cntR 1099511627776 left err).1) ∧ RdAt w' g (cntR 1099511627776 left err).2.1 (cntR 1099511627776 left err).2.2 ∧ Only [g] w w' := by
  have HN := Lib.hid (number_read w g left err h hl)
  have hlt := numR_lt left err
  have hC : cntR 1099511627776 left err = if (numR left err).2.2 = 0 then (if 1099511627776 < (numR left err).1 then (0, [], 8) else ((numR left err).1, (numR left err).2.1, 0)) else (0, (numR left err).2.1, (numR left err).2.2) := rfl
  generalize cntR 1099511627776 left err = V at hC ⊢
  generalize numR left err = R at hC HN hlt
  obtain ⟨n, l2, e2⟩ := R
  simp only at hC HN hlt
  clear h
  by_cases he : e2 = 0
  · subst he
    rw [if_pos rfl] at hC
    by_cases hn : 1099511627776 < n
    · rw [if_pos hn] at hC
      have HC := Lib.hid hC
      have hnI : (1099511627776 : Int) < (n : Int) := by omega
      clear hC hn
      go_enter Tryz.func29, Tryz.ntmps29
      go_wp2_with fail
      refine HN.out.mono ?_
      rintro e w1 ⟨rfl, hr, ho⟩
      have c1 := hr.c1
      have HF := Lib.hid (fail_any w1 g l2 8 hr)
      have HO := Lib.hid ho
      clear hr ho
      go_wp2_with fail
      refine HF.out.mono ?_
      rintro e w2 ⟨rfl, hr2, ho2⟩
      have HR2 := Lib.hid hr2
      have HO2 := Lib.hid (HO.out.trans ho2)
      clear hr2 ho2 c1
      go_wp2_with fail
      go_ret
      rw [HC.out]
      exact ⟨rfl, HR2.out, HO2.out⟩
    · rw [if_neg hn] at hC
      have HC := Lib.hid hC
      have hnI : ¬ (1099511627776 : Int) < (n : Int) := by omega
      have m1 : IntKind.i64.wrap (n : Int) = (n : Int) := IntWalk.i64_in _ (by omega)
      clear hC hn
      go_enter Tryz.func29, Tryz.ntmps29
      go_wp2_with fail
      refine HN.out.mono ?_
      rintro e w1 ⟨rfl, hr, ho⟩
      have c1 := hr.c1
      have HR := Lib.hid hr
      have HO := Lib.hid ho
      clear hr ho
      go_wp2_with fail
      go_ret
      rw [HC.out]
      exact ⟨rfl, HR.out, HO.out⟩
  · rw [if_neg he] at hC
    have HC := Lib.hid hC
    have e0 : (e2 == 0) = false := by simp [he]
    have e1 : (e2 != 0) = true := by simp [he]
    clear hC he
    go_enter Tryz.func29, Tryz.ntmps29
    go_wp2_with fail
    refine HN.out.mono ?_
    rintro e w1 ⟨rfl, hr, ho⟩
    have c1 := hr.c1
    have HR := Lib.hid hr
    have HO := Lib.hid ho
    clear hr ho
    go_wp2_with fail
    go_ret
    rw [HC.out]
    exact ⟨rfl, HR.out, HO.out⟩
end

section
open Go.RowKit Go.Sort
attribute [local go_sem] strOfNums_size

/-- A sector of a list. -/
def secV (l : List By) (n : Nat) : By × Int := match l[n]? with
  | none => ([], 2)
  | some s => (s, 0)
/-- A sector that is whole. -/
def pageV (l : List By) (n : Nat) : By × Int := match l[n]? with
  | none => ([], 2)
  | some s => if s.length = 128 then (s, 0) else ([], 11)
/-- Sectors as pages. -/
abbrev pgv (a : Option Addr) (n c : Nat) : Value := .iface 25 (.slice a n c)

set_option maxRecDepth 100000 in
set_option maxHeartbeats 400000 in
theorem spage_any (w : World) (B : Nat) (a : Option Addr) (cap : Nat) (l : List By) (n : Nat) (h : Strs w B a l) :
    Calls Tryz.prog 56 #[.slice a l.length cap, .int .i64 n] w fun e w' => e = .returned (.tuple #[.string ⟨(secV l n).1.toArray⟩, .int .i64 (secV l n).2]) ∧ w = w' := by
  by_cases hlt : n < l.length
  · obtain ⟨b, off, rfl, hbb, hc⟩ := h.get hlt
    have HV := Lib.hid (show secV l n = (l[n], 0) by unfold secV; rw [List.getElem?_eq_getElem hlt])
    have hI : ¬ (l.length : Int) ≤ (n : Int) := by omega
    generalize l[n] = s at hc HV
    go_enter Tryz.func56, Tryz.ntmps56
    go_wp2
    go_ret2
    exact ⟨by rw [HV.out]; rfl, rfl⟩
  · have HV := Lib.hid (show secV l n = ([], 2) by unfold secV; rw [List.getElem?_eq_none (by omega)])
    have hI : (l.length : Int) ≤ (n : Int) := by omega
    go_enter Tryz.func56, Tryz.ntmps56
    go_wp2
    go_ret2
    exact ⟨by rw [HV.out]; rfl, rfl⟩

theorem method_page (f : Nat) (x : Value) (W : World) : (method (f + 1) 25 x "Page").run Tryz.prog W = .ok (56, x) W := by kernel_rfl

set_option maxRecDepth 100000 in
set_option maxHeartbeats 400000 in
theorem page_any (w : World) (B : Nat) (a : Option Addr) (cap : Nat) (l : List By) (n : Nat) (h : Strs w B a l) :
    Calls Tryz.prog 27 #[pgv a l.length cap, .int .i64 n] w fun e w' => e = .returned (.tuple #[.string ⟨(pageV l n).1.toArray⟩, .int .i64 (pageV l n).2]) ∧ w = w' := by
  have hm := method_page
  have HP := Lib.hid (spage_any w B a cap l n h)
  go_enter Tryz.func27, Tryz.ntmps27
  go_wp2_with fail
  refine HP.out.mono ?_
  rintro e w1 ⟨rfl, rfl⟩
  rcases hq : l[n]? with _ | s
  · have HV := Lib.hid (show secV l n = ([], 2) by unfold secV; rw [hq])
    have HW := Lib.hid (show pageV l n = ([], 2) by unfold pageV; rw [hq])
    clear hq
    rw [HV.out]
    go_wp2
    go_ret2
    exact ⟨by rw [HW.out]; rfl, rfl⟩
  · have HV := Lib.hid (show secV l n = (s, 0) by unfold secV; rw [hq])
    by_cases hl : s.length = 128
    · have HW := Lib.hid (show pageV l n = (s, 0) by unfold pageV; rw [hq]; simp only; rw [if_pos hl])
      have e1 : ((s.length : Int) == 128) = true := by simp; omega
      have e2 : ((s.length : Int) != 128) = false := by simp; omega
      clear hq hl
      rw [HV.out]
      go_wp2
      go_ret2
      exact ⟨by rw [HW.out]; rfl, rfl⟩
    · have HW := Lib.hid (show pageV l n = ([], 11) by unfold pageV; rw [hq]; simp only; rw [if_neg hl])
      have e1 : ((s.length : Int) == 128) = false := by simp; omega
      have e2 : ((s.length : Int) != 128) = true := by simp; omega
      clear hq hl
      rw [HV.out]
      go_wp2
      go_ret2
      exact ⟨by rw [HW.out]; rfl, rfl⟩
end

section
open Go.RowKit Go.Sort
attribute [local go_sem] strOfNums_size ext_drop ext_take

/-- The blocks of a stream. -/
def cutF : Nat → By → Option (List By)
  | _, [] => some []
  | 0, _ :: _ => none
  | _ + 1, [_] => none
  | f + 1, x :: y :: r => if r.length < x.toNat + 256 * y.toNat then none else (cutF f (r.drop (x.toNat + 256 * y.toNat))).map (r.take (x.toNat + 256 * y.toNat) :: ·)
def cutP (s : By) : Option (List By) := cutF s.length s

theorem bits_or_i64 (a b : Nat) (ha : a < 4294967296) (hb : b < 4294967296) : bits .or .i64 (a : Int) (b : Int) = ((a ||| b : Nat) : Int) := by
  have hx : a ||| b < 2 ^ 32 := Nat.or_lt_two_pow (by omega) (by omega)
  have h1 : (BitVec.ofInt 64 (a : Int)).toNat = a := by
    rw [BitVec.ofInt_natCast, BitVec.toNat_ofNat]; exact Nat.mod_eq_of_lt (by omega)
  have h2 : (BitVec.ofInt 64 (b : Int)).toNat = b := by
    rw [BitVec.ofInt_natCast, BitVec.toNat_ofNat]; exact Nat.mod_eq_of_lt (by omega)
  show IntKind.i64.wrap ((BitVec.ofInt 64 (a : Int) ||| BitVec.ofInt 64 (b : Int)).toNat : Int) = _
  rw [BitVec.toNat_or, h1, h2]
  exact IntWalk.i64_in _ (by omega)
theorem or_le (x y : UInt8) : bits .or .i64 (x.toNat : Int) ((y.toNat : Int) * 256) = ((x.toNat + 256 * y.toNat : Nat) : Int) := by
  have hx := x.toNat_lt
  have hy := y.toNat_lt
  rw [show (y.toNat : Int) * 256 = ((y.toNat * 2 ^ 8 : Nat) : Int) by omega, bits_or_i64 _ _ (by omega) (by omega), or_add _ _ _ (by omega)]
  omega
theorem or_be (x y : UInt8) : bits .or .i64 ((x.toNat : Int) * 256) (y.toNat : Int) = ((256 * x.toNat + y.toNat : Nat) : Int) := by
  have hx := x.toNat_lt
  have hy := y.toNat_lt
  rw [show (x.toNat : Int) * 256 = ((x.toNat * 2 ^ 8 : Nat) : Int) by omega, bits_or_i64 _ _ (by omega) (by omega), Nat.or_comm, or_add _ _ _ (by omega)]
  omega

/-- What cut holds. -/
structure CutPt (w : World) (T : Option (List By)) (W : World) (out : List By) (rem : By) (v : Value) (f : Nat) : Prop where
  bel : Below w.heap.size w W
  own : W.ownsRow w.heap.size 9 1 v out.length (out.map sv)
  tot : T = (cutF f rem).map (out ++ ·)
  fuel : rem.length ≤ f
  few : out.length + rem.length ≤ 1000000
/-- What cut gives. -/
structure CPost (w : World) (T : Option (List By)) (e : Ending) (w' : World) : Prop where
  good : ∀ L, T = some L → ∃ v, e = .returned (.tuple #[v, .bool true]) ∧ w'.ownsRow w.heap.size 9 1 v L.length (L.map sv)
  bad : T = none → e = .returned (.tuple #[.slice none 0 0, .bool false])
  bel : Below w.heap.size w w'

set_option maxRecDepth 100000 in
set_option maxHeartbeats 2000000 in
theorem cut_any (s : By) (w : World) (hs : s.length ≤ 1000000) :
    Calls Tryz.prog 77 #[.string ⟨s.toArray⟩] w fun e w' => CPost w (cutP s) e w' := by
  obtain ⟨i0, hi0, hz0, hz1, hz2⟩ := info_parts info9
  generalize hT0 : cutP s = T
  have HS := Lib.hid (show CutPt w T w [] s (.slice none 0 0) s.length from ⟨Below.refl _ _, own_nil _ _ _ _, by rw [← hT0]; unfold cutP; cases cutF s.length s <;> rfl, Nat.le_refl _, by simpa using hs⟩)
  clear hT0
  go_enter Tryz.func77, Tryz.ntmps77
  go_wp2_with fail
  go_loopw [0, 4, 5] (fun x o _ wr => ∃ out rem f, x = .string ⟨rem.toArray⟩ ∧ CutPt w T wr out rem o f) (fun x _ _ _ => match x with | .string b => b.data.size | _ => 0)
  case atStart => exact ⟨[], s, _, rfl, HS.out⟩
  case round =>
    clear HS
    obtain ⟨out, rem, f, rfl, hS⟩ := hrel
    have hfew := hS.few
    have HO := Lib.hid hS.own
    have HB := Lib.hid hS.bel
    have htot := hS.tot
    have hfu := hS.fuel
    clear hS
    match rem, f, hfu with
    | [], f, _ =>
      have HT := Lib.hid (show T = some out by rw [htot]; cases f <;> simp [cutF])
      clear htot
      go_wp2_with fail
      go_ret2
      exact ⟨fun L hL => by rw [HT.out] at hL; obtain rfl := Option.some.inj hL; exact ⟨_, rfl, HO.out⟩, fun h => (by rw [HT.out] at h; cases h), HB.out⟩
    | [x], f + 1, _ =>
      have HT := Lib.hid (show T = none by rw [htot]; simp [cutF])
      clear htot
      go_wp2_with fail
      go_ret2
      exact ⟨fun L hL => (by rw [HT.out] at hL; cases hL), fun _ => rfl, HB.out⟩
    | x :: y :: r, f + 1, hfu =>
      rw [cutF] at htot
      have hx0 : ∀ h, (ByteArray.mk (x :: y :: r).toArray)[0]'h = x := fun _ => rfl
      have hx1 : ∀ h, (ByteArray.mk (x :: y :: r).toArray)[1]'h = y := fun _ => rfl
      have hdr : ∀ k, (x :: y :: r).drop (2 + k) = r.drop k := fun k => by rw [Nat.add_comm]; rfl
      have hxl := x.toNat_lt
      have hyl := y.toNat_lt
      have hor := or_le x y
      have hl2 : (x :: y :: r).length = r.length + 2 := rfl
      have hlen : 2 ≤ (x :: y :: r).length := by rw [hl2]; omega
      have hne : x :: y :: r ≠ [] := by simp
      generalize x.toNat + 256 * y.toNat = n at hor htot
      have hie : (!(x :: y :: r).isEmpty) = true := rfl
      have m1 : IntKind.i64.wrap (x.toNat : Int) = (x.toNat : Int) := IntWalk.i64_in _ (by omega)
      have m2 : IntKind.i64.wrap (y.toNat : Int) = (y.toNat : Int) := IntWalk.i64_in _ (by omega)
      have m3 : IntKind.i64.wrap ((y.toNat : Int) * 256) = (y.toNat : Int) * 256 := IntWalk.i64_in _ (by omega)
      have hxm : (ByteArray.mk (x :: y :: r).toArray).extract 2 (2 + n) = ⟨(r.take n).toArray⟩ := by
        apply ByteArray.ext
        rw [ByteArray.data_extract]
        apply Array.ext'
        simp [Nat.add_comm 2 n]
      have HXD := Lib.hid (show (ByteArray.mk (x :: y :: r).toArray).extract (2 + n) (r.length + 2) = ⟨(r.drop n).toArray⟩ from by
        have h := ext_drop (x :: y :: r) (2 + n)
        rw [hdr n, hl2] at h
        exact h)
      by_cases hn : r.length < n
      · rw [if_pos hn] at htot
        have HT := Lib.hid (show T = none by rw [htot]; rfl)
        clear htot
        generalize x :: y :: r = rem at *
        go_wp2_with fail
        go_region
        all_goals
          go_wp2_with fail
          go_ret2
          exact ⟨fun L hL => (by rw [HT.out] at hL; cases hL), fun _ => rfl, below_drewN HB.out 1⟩
      · rw [if_neg hn] at htot
        have htl : (r.take n).length = n := by rw [List.length_take]; omega
        have HTL := Lib.hid htl
        generalize r.take n = b at hxm htot htl HTL
        have HT := Lib.hid (show T = (cutF f (r.drop n)).map ((out ++ [b]) ++ ·) by
          rw [htot]; cases cutF f (r.drop n) <;> simp)
        clear htot htl
        have hfu2 : (r.drop n).length ≤ f := by rw [List.length_drop]; simp only [List.length_cons] at hfu; omega
        have hfw : (out ++ [b]).length + (r.drop n).length ≤ 1000000 := by rw [List.length_append, List.length_drop]; simp only [List.length_singleton]; rw [hl2] at hfew; omega
        have hfw0 : out.length ≤ 999990 ∨ out.length ≤ 1000000 := by omega
        have HFU := Lib.hid hfu2
        have HFW := Lib.hid hfw
        clear hfu2 hfw
        generalize x :: y :: r = rem at *
        go_wp2_with fail
        go_region
        all_goals
          have hown2 := own_below HO.out (below_drew1 (w := wr))
          have HB2 := Lib.hid (below_drewN HB.out 1)
          go_wp2_with (at_builtin; go_must (refine wpList_append_own _ rfl _ _ 24 rfl w.heap.size 9 i0 (.string ByteArray.empty) 1 16 Tryz.underlying24 hi0 hz0 hz1 hz2 rfl (by decide) _ _ _ rfl (hown2.alloc _) _ 1 1 [.string ⟨b.toArray⟩] rfl rfl ?e11 ?e21 ?e31 ?e41 ?e51 ?_))
          case e11 => exact news_at (cs := #[.string ⟨b.toArray⟩]) (heap_alloc_new _ _)
          case e21 => simp [Value.oneCell']
          case e31 => unfold maxLen; (try simp); omega
          case e41 => (try simp); omega
          case e51 => have := HB2.out.size; simp at this ⊢; omega
          intro v6 w6 hown6 hg6 _
          have hbA := HB2.out.alloc HB2.out.size (.cells #[.string ⟨b.toArray⟩] 9)
          have hb6 := hbA.grown hg6 hbA.size (fun k hk => row_own hown2 hk)
          have hown7 : w6.ownsRow w.heap.size 9 1 v6 (out ++ [b]).length ((out ++ [b]).map sv) := by simpa [sv] using hown6
          have HZ := Lib.hid (show CutPt w T w6 (out ++ [b]) (r.drop n) v6 f from ⟨hb6, hown7, HT.out, HFU.out, HFW.out⟩)
          clear hown2 hown6 hown7 hg6 hbA hb6
          go_wp2_with fail
          go_roundw
          case rel => exact ⟨_, _, _, by rw [HXD.out], HZ.out⟩
          case measure => simp; omega

set_option maxRecDepth 100000 in
set_option maxHeartbeats 1000000 in
theorem equals_any (w : World) (B B2 : Nat) (a b : Option Addr) (c d : Nat) (l m : List By) (ha : Strs w B a l) (hb : Strs w B2 b m) (hl : l.length ≤ 4000000000) (hm : m.length ≤ 4000000000) :
    Calls Tryz.prog 78 #[.slice a l.length c, .slice b m.length d] w fun e w' => e = .returned (.bool (decide (l = m))) ∧ Below w.heap.size w w' := by
  by_cases hlen : l.length = m.length
  · go_enter Tryz.func78, Tryz.ntmps78
    have hne : ((l.length : Int) != (m.length : Int)) = false := by rw [hlen]; simp
    have hne2 : (l.length != m.length) = false := by rw [hlen]; simp
    have HL := Lib.hid hlen
    clear hlen
    go_wp2_with fail
    go_loopw [5, 13] (fun _ k wr => ∃ j : Nat, j ≤ l.length ∧ k = .int .i64 j ∧ Below w.heap.size w wr ∧ l.take j = m.take j) (fun _ k _ => l.length - (intOf k).toNat)
    case atStart => exact ⟨0, by omega, rfl, Below.refl _ _, rfl⟩
    case round =>
      obtain ⟨j, hj, rfl, hbw, hE⟩ := hrel
      have HBW := Lib.hid hbw
      by_cases hlt : j < l.length
      · obtain ⟨b1, o1, rfl, hb1, x1⟩ := ha.get hlt
        obtain ⟨b2, o2, rfl, hb2, y1⟩ := hb.get (HL.out ▸ hlt)
        have hltm : j < m.length := HL.out ▸ hlt
        replace x1 := (hbw.cell (block_lt_of_cell x1)).trans x1
        replace y1 := (hbw.cell (block_lt_of_cell y1)).trans y1
        clear hbw
        have HE := Lib.hid hE
        clear hE
        generalize hx : l[j] = x at x1
        generalize hy : m[j] = y at y1
        have HX := Lib.hid hx
        have HY := Lib.hid hy
        clear hx hy
        by_cases h1 : x = y
        · subst h1
          have HN := Lib.hid (show l.take (j + 1) = m.take (j + 1) by rw [take_snoc' l j hlt, take_snoc' m j hltm, HE.out, HX.out, HY.out])
          go_wp2_with fail
          go_region
          go_wp2_with fail
          go_roundw
          case rel => exact ⟨j + 1, by omega, by go_num, below_drewN HBW.out 1, HN.out⟩
          case measure => simp [intOf]; omega
        · have H := Lib.hid (show decide (l = m) = false by
            rw [decide_eq_false_iff_not]; intro e; subst e
            exact h1 (HX.out.symm.trans HY.out))
          have e1 : (x == y) = false := by simpa using h1
          go_wp2_with fail
          go_region
          go_wp2_with fail
          go_ret
          exact ⟨by rw [H.out]; rfl, by first | exact HBW.out | exact below_drewN HBW.out 1⟩
      · have H := Lib.hid (show decide (l = m) = true by
          rw [decide_eq_true_iff, ← List.take_of_length_le (show l.length ≤ j by omega), hE, List.take_of_length_le (by rw [← HL.out]; omega)])
        clear hE hbw
        go_wp2_with fail
        go_ret
        exact ⟨by rw [H.out]; rfl, by first | exact HBW.out | exact below_drewN HBW.out 1⟩
  · have H := Lib.hid (show decide (l = m) = false by rw [decide_eq_false_iff_not]; intro e; exact hlen (by rw [e]))
    have hne : ((l.length : Int) != (m.length : Int)) = true := by simp; omega
    have hne2 : (l.length != m.length) = true := by simp; omega
    clear hlen
    go_enter Tryz.func78, Tryz.ntmps78
    go_wp2_with fail
    go_ret
    exact ⟨by rw [H.out]; rfl, Below.refl _ _⟩
end

end Go.Proofs.YthkpcalopmddpaaGreatDoor
