/-
  Walk: the place of a track in a list of runs, by the reference. Conditions: runs in memory as a slice; numbers of 64 bits.
-/
import Derived.Test.YtcidbmldbikknaaDoorE7
namespace Go.Proofs.YtcidbmldbikknaaDoor
open Go.RowKit Go.Sort

/-- The first place of a number. -/
def idxS : List Nat → Nat → Int → Option Nat
  | [], _, _ => none
  | x :: l, n, t => if (x : Int) = t then some n else idxS l (n + 1) t
theorem idxS_range (rest : List Nat) (t : Int) : ∀ (c f n : Nat), idxS (List.range' f c ++ rest) n t = if (f : Int) ≤ t ∧ t < ((f + c : Nat) : Int) then some (n + (t - f).toNat) else idxS rest (n + c) t
  | 0, f, n => by rw [if_neg (by omega)]; simp
  | c + 1, f, n => by
    rw [List.range'_succ, List.cons_append, idxS, idxS_range rest t c (f + 1) (n + 1)]
    by_cases h0 : (f : Int) = t
    · rw [if_pos h0, if_pos (by omega)]
      congr 1; omega
    · rw [if_neg h0]
      by_cases h1 : ((f + 1 : Nat) : Int) ≤ t ∧ t < ((f + 1 + c : Nat) : Int)
      · rw [if_pos h1, if_pos (by omega)]
        congr 1; omega
      · rw [if_neg h1, if_neg (by omega)]
        congr 1; omega
theorem idxS_P (t : Int) : ∀ (l : List Rn) (n : Nat), idxS (seqP l) n t = idxP l n t
  | [], _ => rfl
  | r :: l, n => by
    rw [seqP, idxS_range, idxP, idxS_P t l]
structure Nums (w : World) (a : Option Addr) (l : List Nat) : Prop where
  cells : l ≠ [] → ∃ b, a = some ⟨b, 0, none⟩ ∧ ∀ i (h : i < l.length), w.cell? ⟨b, i, none⟩ = some (iv l[i])
theorem nums_of_row {w : World} {base : Nat} {e : TypeId} {v : Value} {l : List Nat} (h : w.ownsRow base e 1 v l.length (l.map iv)) : ∃ a cap, v = .slice a l.length cap ∧ Nums w a l := by
  rcases h.2 with ⟨rfl, hn⟩ | ⟨g, cap, cur, rfl, hbase, hblk, q1, q2, q3, q4⟩
  · have : l = [] := List.length_eq_zero_iff.1 hn
    subst this; exact ⟨none, 0, rfl, ⟨fun h => absurd rfl h⟩⟩
  · refine ⟨_, cap, rfl, ⟨fun _ => ⟨g, rfl, fun i hi => ?_⟩⟩⟩
    rw [cell_of_row w g i cur e (0, 0) hblk]
    have hi2 : (l.map iv)[i]? = some (iv l[i]) := by simp [hi]
    rw [← q4, List.getElem?_take, if_pos (by omega)] at hi2
    simpa using hi2
theorem Nums.below {w w' : World} {a : Option Addr} {l : List Nat} (h : Nums w a l) (hb : Below w.heap.size w w') : Nums w' a l :=
  ⟨fun hl => by obtain ⟨b, h1, h2⟩ := h.cells hl; exact ⟨b, h1, fun i hi => (hb.cell (block_lt_of_cell (h2 i hi))).trans (h2 i hi)⟩⟩

set_option maxRecDepth 100000 in
set_option maxHeartbeats 2000000 in
theorem rindex_any (w : World) (B : Nat) (a : Option Addr) (cap : Nat) (l : List Rn) (t : Int) (h : Runs w B a l) (hB : B ≤ w.heap.size) (hl : l.length ≤ 100000) :
    Calls Tryd.prog 38 #[.slice a l.length cap, .int .i64 t] w fun e w' => e = .returned (idxR (idxP l 0 t)) ∧ Below w.heap.size w w' := by
  rw [← idxS_P]
  have HS := Lib.hid (rsequence_any w B a cap l h hB hl)
  have hlen := seqP_len l
  generalize seqP l = S at HS hlen ⊢
  have hT0 : idxS S 0 t = idxS (S.drop 0) 0 t := rfl
  generalize idxS S 0 t = T at hT0 ⊢
  have HT0 := Lib.hid hT0
  clear hT0 h
  go_enter Tryd.func38, Tryd.ntmps38
  go_wp2_with fail
  refine HS.out.mono ?_
  rintro e w1 ⟨v, rfl, ho, hb1⟩
  obtain ⟨sa, sc, rfl, hN⟩ := nums_of_row ho
  have HN := Lib.hid hN
  have HB1 := Lib.hid hb1
  clear ho hN hb1
  go_wp2_with fail
  go_loop [7] (fun k => ∃ j : Nat, j ≤ S.length ∧ k = .int .i64 j ∧ T = idxS (S.drop j) j t) (fun k => S.length - (intOf k).toNat)
  case atStart => exact ⟨0, by omega, rfl, HT0.out⟩
  case round =>
    clear HT0
    obtain ⟨j, hj, rfl, hT⟩ := hrel
    by_cases hlt : j < S.length
    · obtain ⟨b, rfl, hc⟩ := HN.out.cells (fun e => by rw [e] at hlt; simp at hlt)
      have hx := hc j hlt
      rw [List.drop_eq_getElem_cons hlt, idxS] at hT
      clear hc
      generalize S[j] = x at hx hT
      have hx' : w1.cell? ⟨b, j, none⟩ = some (.int .i64 (x : Int)) := hx
      clear hx
      by_cases he : (x : Int) = t
      · subst he
        have HT := Lib.hid (show T = some j by rw [hT, if_pos rfl])
        clear hT
        go_wp2_with fail
        go_ret2
        rw [HT.out]
        exact ⟨rfl, HB1.out⟩
      · have HT := Lib.hid (show T = idxS (S.drop (j + 1)) (j + 1) t by rw [hT, if_neg he])
        have e1 : ((x : Int) == t) = false := by simp [he]
        clear hT
        go_wp2_with fail
        go_round
        case rel => exact ⟨j + 1, by omega, by go_num, HT.out⟩
        case measure => simp [intOf]; omega
    · have HT := Lib.hid (show T = none by rw [hT, List.drop_eq_nil_of_le (by omega)]; rfl)
      clear hT
      go_wp2_with fail
      go_ret2
      rw [HT.out]
      exact ⟨rfl, HB1.out⟩

end Go.Proofs.YtcidbmldbikknaaDoor
