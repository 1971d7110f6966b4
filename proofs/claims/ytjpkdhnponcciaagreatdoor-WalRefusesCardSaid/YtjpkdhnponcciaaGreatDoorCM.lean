/-
  Walks: the pieces of a record, one after the other. Condition: a record of 1 to 16384 bytes.
-/
import Derived.Test.YtjpkdhnponcciaaGreatDoorCK
import Derived.Test.YtjpkdhnponcciaaGreatDoorCC
import Derived.Test.YtjpkdhnponcciaaGreatDoorCL
import Derived.Sort.CutIn
namespace Go.Proofs.YtjpkdhnponcciaaGreatDoor
open Go.RowKit Go.Sort
attribute [local go_sem] Oper.semAt_some
theorem askedIn_wide (P : Program) (o : Oper) (a : Act) (C : World → Prop) : Oper.askedIn Fence.wide P o a C = True := eq_true (fun _ _ _ _ => trivial)
attribute [local go_sem ↓] askedIn_wide
attribute [local simp ↓] askedIn_wide

/-- What the iterator yields. -/
def pcsA (number : Nat) (s : By) : List (Array Value) := (List.range (cntW s.length)).map fun i => #[.int .i64 (i : Nat), .string ⟨(pieceS number i s).toArray⟩]
/-- Where the loop over the bytes stands. -/
structure PcSt (bs bn sb number : Nat) (s : By) (J : Nat → World → Prop) (x0 : Nat) (vy : Value) (j : Nat) (W : World) : Prop where
  hj : J j W
  hp : PcsAt bs bn sb number s W
  hy : W.heap[x0]? = some (.cells #[vy] 174 (0, 0))
  hi : W.heap[x0 + 1]? = some (.cells #[.int .i64 (j : Nat)] 3 (0, 0))
  hb : ∀ i (h : i < s.length), W.cell? ⟨x0 + 2, i, none⟩ = some (.int .u8 (s[i].toNat : Int))
  hlt : x0 + 2 < W.heap.size
theorem PcSt.only {bs bn sb number : Nat} {s : By} {J : Nat → World → Prop} {x0 : Nat} {vy : Value} {j : Nat} {W W' : World} {S : List Nat} (h : PcSt bs bn sb number s J x0 vy j W) (hj : J j W') (ho : Only S W W') (hd : ∀ x ∈ S, x0 + 2 < x) (hl : bs < x0 ∧ bn < x0 ∧ sb < x0) : PcSt bs bn sb number s J x0 vy j W' := by
  have hn : ∀ x, x ≤ x0 + 2 → x ∉ S := fun x hx hm => by have := hd x hm; omega
  have hlt := h.hlt
  refine ⟨hj, h.hp.kept (ho.kept (fun x hx => hn x ?_)), ho.heap h.hy (hn x0 (by omega)), ho.heap h.hi (hn (x0 + 1) (by omega)), fun i hi => ?_, Nat.lt_of_lt_of_le h.hlt ho.size⟩
  · simp only [List.mem_cons, List.not_mem_nil, or_false] at hx
    omega
  · exact (World.cell?_of_block (w := W) (a := ⟨x0 + 2, i, none⟩) (ho.block _ h.hlt (hn (x0 + 2) (by omega)))).trans (h.hb i hi)
theorem PcSt.next {bs bn sb number : Nat} {s : By} {J : Nat → World → Prop} {x0 : Nat} {vy : Value} {j : Nat} {V W : World} (h : PcSt bs bn sb number s J x0 vy j V) (hk : Kept ([bs, bn, sb] ++ ownB x0 7) V W) (hJ : J (j + 1) (W.setCell ⟨x0 + 1, 0, none⟩ (.int .i64 ((j + 1 : Nat) : Int)))) (hl : bs < x0 ∧ bn < x0 ∧ sb < x0) (hV : x0 + 7 ≤ V.heap.size) :
    PcSt bs bn sb number s J x0 vy (j + 1) (W.setCell ⟨x0 + 1, 0, none⟩ (.int .i64 ((j + 1 : Nat) : Int))) := by
  have hmem : ∀ x, ((x = bs ∨ x = bn ∨ x = sb) ∨ (x0 ≤ x ∧ x < x0 + 7)) → x ∈ [bs, bn, sb] ++ ownB x0 7 := fun x hx => by
    rw [List.mem_append, ownB_mem]
    rcases hx with (rfl | rfl | rfl) | hx
    · simp
    · simp
    · simp
    · exact Or.inr hx
  have ho : Only [x0 + 1] W (W.setCell ⟨x0 + 1, 0, none⟩ (.int .i64 ((j + 1 : Nat) : Int))) := (Only.refl _ _).setCell (Or.inl (by simp)) _
  have hi := (hk.same (x0 + 1) (hmem _ (Or.inr (by omega))) (by omega)).trans h.hi
  have hWs := hk.size
  refine ⟨hJ, (h.hp.kept (hk.sub (fun k hm => List.mem_append_left _ hm))).kept (ho.kept (fun x hx => ?_)), ?_, ?_, fun i hi => ?_, ?_⟩
  · simp only [List.mem_cons, List.not_mem_nil, or_false] at hx ⊢
    omega
  · exact ho.heap ((hk.same x0 (hmem _ (Or.inr (by omega))) (by omega)).trans h.hy) (by simp)
  · exact cell_row_any _ _ _ _ _ _ _ hi
  · have e1 : (W.setCell ⟨x0 + 1, 0, none⟩ (.int .i64 ((j + 1 : Nat) : Int))).heap[x0 + 2]? = V.heap[x0 + 2]? :=
      (ho.block (x0 + 2) (by omega) (by simp)).trans (hk.same (x0 + 2) (hmem _ (Or.inr (by omega))) (by omega))
    exact (World.cell?_of_block (w := V) (a := ⟨x0 + 2, i, none⟩) e1).trans (h.hb i hi)
  · have := ho.size; omega
theorem conv_chunk (s : By) (j m g cap : Nat) (hm : m = min 96 (s.length - 96 * j)) (w : World) (hb : ∀ i (h : i < s.length), w.cell? ⟨g, i, none⟩ = some (.int .u8 (s[i].toNat : Int))) :
    (convert 70 9 (.slice (some ⟨g, 96 * j, none⟩) m cap)).run Tryz.prog w = .ok (.string ⟨(chunkW s j).toArray⟩) w := by
  have hl : (chunkW s j).length = m := by simp [chunkW]; omega
  have h := run_convert_bytes_arg (P := Tryz.prog) w 70 5 Tryz.underlying70 Tryz.underlying5 g (96 * j) m cap ((chunkW s j).map fun b => (b.toNat : Int)) (by simpa using hl) (fun i hi => by
    rw [hb (96 * j + i) (by omega)]
    have e : (chunkW s j)[i]'(by omega) = s[96 * j + i]'(by omega) := by simp [chunkW]
    simp [List.getD, List.getElem?_eq_getElem (show i < (chunkW s j).length by omega), e]) 9 Tryz.underlying9
  rw [h, str_bytes]
set_option maxRecDepth 100000 in
set_option maxHeartbeats 8000000 in
theorem pieces_o (s : By) (number : Nat) (hs : s.length ≤ 16384) (hs0 : 0 < s.length) (hn : number ≤ 1099511627776) (bs bn sb : Nat) (w : World) (hP : PcsAt bs bn sb number s w) :
    SeqO Tryz.prog 95 #[.pointer (some ⟨bs, 0, none⟩), .pointer (some ⟨bn, 0, none⟩), .pointer (some ⟨sb, 0, none⟩)] (pcsA number s) 7 [bs, bn, sb] w := by
  intro l J Jx W hb hJ hJx hY h0
  have hPW := hP.below hb
  have hPlt : bs < W.heap.size ∧ bn < W.heap.size ∧ sb < W.heap.size := hPW.lt
  obtain ⟨w1, hw1⟩ : ∃ w1, w1 = (W.alloc (.cells #[.func (.yield l) #[] #[]] 174)).alloc (.cells #[.int .i64 0] 3) := ⟨_, rfl⟩
  have hx : w1.heap[W.heap.size]? = some (.cells #[.func (.yield l) #[] #[]] 174 (0, 0)) := by
    rw [hw1]; exact (halloc _ _ (by simp)).trans (heap_alloc_new W _)
  have hy : w1.heap[W.heap.size + 1]? = some (.cells #[.int .i64 0] 3 (0, 0)) := by
    rw [hw1]
    have := heap_alloc_new (W.alloc (.cells #[.func (.yield l) #[] #[]] 174)) (.cells #[.int .i64 0] 3)
    rwa [World.size_alloc] at this
  have hb1 : Below W.heap.size W w1 := by rw [hw1]; exact ((Below.refl _ W).alloc (Nat.le_refl _) _).alloc (by simp) _
  have hs1 : w1.heap.size = W.heap.size + 2 := by rw [hw1]; simp
  have cs := (hPW.below hb1).cs
  obtain ⟨w2, hw2⟩ : ∃ w2, w2 = Lib.bytesWorld w1 5 ⟨s.toArray⟩ := ⟨_, rfl⟩
  obtain ⟨cap, hcap⟩ : ∃ cap, cap = grownCap w1 s.length 0 5 := ⟨_, rfl⟩
  have hcv : (convert 9 70 (.string ⟨s.toArray⟩)).run Tryz.prog w1 = .ok (.slice (some ⟨w1.heap.size, 0, none⟩) s.length cap) w2 := by
    rw [hw2, hcap]
    exact Lib.run_convert_string_bytes w1 _ _ 5 ⟨s.toArray⟩ Tryz.underlying9 Tryz.underlying70 Tryz.underlying5
  have hcap2 : s.length ≤ cap := by rw [hcap]; exact grownCap_ge _ _ _ _
  have hs2 : w2.heap.size = W.heap.size + 3 := by rw [hw2, Lib.bytesWorld_size, hs1]
  have hb2 : Below w1.heap.size w1 w2 := by rw [hw2]; exact ⟨rfl, rfl, rfl, by rw [Lib.bytesWorld_size]; omega, fun k hk => Lib.bytesWorld_at_old _ _ _ k hk⟩
  have hbc : ∀ i (h : i < s.length), w2.cell? ⟨w1.heap.size, i, none⟩ = some (.int .u8 (s[i].toNat : Int)) := fun i h => by
    rw [hw2, Lib.bytesWorld_cell w1 5 ⟨s.toArray⟩ i h]
    simp [List.getD, h]
  have HBc := Lib.hid hbc
  have HW1 := Lib.hid hw1
  have HS1 := Lib.hid hs1
  have HS2 := Lib.hid hs2
  have HB1 := Lib.hid hb1
  have HB2 := Lib.hid hb2
  have HX := Lib.hid hx
  have HY := Lib.hid hy
  have HPW := Lib.hid hPW
  have HC2 := Lib.hid hcap2
  clear hbc hw1 hs1 hs2 hb1 hb2 hx hy hPW hcap2 hcap hw2
  refine callsIn_of_wp_marks Tryz.func95 rfl trivial ?_ rfl
  simp only [Tryz.ntmps95, List.size_toArray, List.length_cons, List.length_nil, Nat.reduceAdd, Nat.reduceSub, Array.replicate_succ, Array.replicate_zero, List.push_toArray, List.append_toArray, List.nil_append, List.cons_append]
  gi_upto_region 2 with fail
  rw [← HW1.out]
  gi_wp2_with fail
  refine ⟨trivial, rfl, ?_⟩
  refine (callsIn_wide.2 (chunkB_w (some ⟨w1.heap.size, 0, none⟩) s.length cap w2)).mono ?_
  rintro e w3 ⟨rfl, hc1, hc2, hb3, hs3⟩
  have HS3 := Lib.hid hs3
  have HB3 := Lib.hid hb3
  clear hs3 hb3 cs hcv
  gi_wp2_with fail
  have hs1 := HS1.out
  have hs2 := HS2.out
  have hs3 := HS3.out
  have hBW : Below W.heap.size W w3 := (HB1.out.trans (HB2.out.mono HB1.out.size)).trans (HB3.out.mono (by omega))
  have hseq := chunkB_oa (some ⟨w1.heap.size, 0, none⟩) w1.heap.size 0 s.length cap w2.heap.size (w2.heap.size + 1) (Or.inr rfl) (by omega) HC2.out w3 hc1 hc2 ⟨by omega, by omega⟩
  have hin : ∀ i, i ∈ ownB w3.heap.size (0 + 2) → w3.heap.size ≤ i ∧ i < w3.heap.size + 2 := fun i hi => by rw [ownB_mem] at hi; exact hi
  have hto : ∀ A B, Only (ownB w3.heap.size (0 + 2)) A B → Only (ownB W.heap.size 7) A B := fun A B ho => ho.mono (fun k hk _ => by have := hin k hk; rw [ownB_mem]; omega)
  have hA : ∀ j A B, PcSt bs bn sb number s J W.heap.size (.func (.yield l) #[] #[]) j A → Only (ownB w3.heap.size (0 + 2)) A B → PcSt bs bn sb number s J W.heap.size (.func (.yield l) #[] #[]) j B :=
    fun j A B h ho => h.only (hJ _ _ _ h.hj (hto _ _ ho)) ho (fun x hx => by have := hin x hx; omega) hPlt
  have hX : ∀ (d : Code) (j : Nat) A B, (d = .ret ∧ Jx j A) → Only (ownB w3.heap.size (0 + 2)) A B → (d = .ret ∧ Jx j B) := fun d j A B h ho => ⟨h.1, hJx _ _ _ h.2 (hto _ _ ho)⟩
  have hSt : PcSt bs bn sb number s J W.heap.size (.func (.yield l) #[] #[]) 0 w3 :=
    ⟨hJ _ _ _ h0 (Only.of_below hBW), HPW.out.below hBW, heap_below (HB2.out.trans (HB3.out.mono (by omega))) (lt_of_block HX.out) HX.out, heap_below (HB2.out.trans (HB3.out.mono (by omega))) (lt_of_block HY.out) HY.out,
      fun i hi => by
        have h := (HB3.out.cell (p := ⟨w1.heap.size, i, none⟩) (by show w1.heap.size < w2.heap.size; omega)).trans (HBc.out i hi)
        rwa [hs1] at h, by omega⟩
  have hps : ∀ x ∈ chunkL w1.heap.size 0 1 96 s.length, x.size = 1 := fun x hx => by simp [chunkL] at hx; obtain ⟨_, _, rfl⟩ := hx; rfl
  refine wpIn_rangeFunc_o (gf := 160) (lb := #[.pointer (some ⟨w2.heap.size, 0, none⟩), .pointer (some ⟨w2.heap.size + 1, 0, none⟩)]) rfl (enters_of Tryz.func160 (by kernel_rfl) rfl)
    hseq (Below.refl _ _) (fun x hx => by simp at hx; omega) hps (PcSt bs bn sb number s J W.heap.size (.func (.yield l) #[] #[])) (fun d j W => d = .ret ∧ Jx j W) hA hX hSt ?round ?done ?stop
  case round =>
    intro rl j hj Wr R hR
    have hjl : 96 * j < s.length := by rw [chunkL_len] at hj; omega
    have hlj : (chunkL w1.heap.size 0 1 96 s.length)[j] = #[chunkV w1.heap.size 0 1 96 s.length j] := by simp [chunkL]
    rw [hlj]
    unfold chunkV
    obtain ⟨m, hm⟩ : ∃ m, m = min 96 (s.length - 96 * j) := ⟨_, rfl⟩
    rw [← hm, Nat.zero_add, Nat.mul_one]
    have HMm := Lib.hid hm
    have hps2 : (pcsA number s).length = cntW s.length := by simp [pcsA]
    have hjk : j < (pcsA number s).length := by rw [hps2]; unfold cntW; omega
    have hLj : (pcsA number s)[j] = #[.int .i64 (j : Nat), .string ⟨(pieceS number j s).toArray⟩] := by simp [pcsA]
    have HYj := Lib.hid (hY j hjk)
    rw [hLj] at HYj
    clear hm hseq hA hX hps hY
    gi_wp2
    rintro W2 hst hsz
    have hjle : j ≤ 171 := by omega
    have hlen1 := num_len40 number (by omega)
    have hlen2 := num_len40 j (by omega)
    have hlen3 := num_len40 s.length (by omega)
    have hlen4 := num_len40 (sumN s) (by have := sumN_lt s; omega)
    have hlen5 := chunkW_len s j
    have hlen6 : (pieceT number j s).length ≤ 122 := pieceT_len number j s hn (by omega) hs
    have hT3 : pieceT number j s = num number ++ num j ++ num s.length ++ num (sumN s) ++ textB (chunkW s j) := rfl
    have hsl := sumN_lt s
    have cn := hst.hp.cn
    have ci := cell_at (i := 0) (v := .int .i64 (j : Nat)) hst.hi rfl
    have cnq : ∀ d os, (grow (redrawn W2 d) os).cell? ⟨bn, 0, none⟩ = some (.int .i64 (number : Nat)) := fun d os => cell_regrown cn d os
    have ciq : ∀ d os, (grow (redrawn W2 d) os).cell? ⟨W.heap.size + 1, 0, none⟩ = some (.int .i64 (j : Nat)) := fun d os => cell_regrown ci d os
    have wn : IntKind.u64.wrap (number : Int) = (number : Int) := by rw [IntKind.wrap_u64]; omega
    have wj : IntKind.u64.wrap (j : Int) = (j : Int) := by rw [IntKind.wrap_u64]; omega
    have wl : IntKind.u64.wrap (s.length : Int) = (s.length : Int) := by rw [IntKind.wrap_u64]; omega
    have HA1 := Lib.hid (fun d os => show Calls Tryz.prog 97 #[.string ⟨#[]⟩, .int .u64 number] (grow (redrawn W2 d) os) fun e w' => e = .returned (.string ⟨(num number).toArray⟩) ∧ Below (grow (redrawn W2 d) os).heap.size (grow (redrawn W2 d) os) w' from append_number_any [] number _ (by simp) (by omega))
    obtain ⟨n1, hn1⟩ : ∃ n1, n1 = num number := ⟨_, rfl⟩
    rw [← hn1] at HA1 hT3 hlen1
    have HA2 := Lib.hid (fun d os => show Calls Tryz.prog 97 #[.string ⟨n1.toArray⟩, .int .u64 j] (grow (redrawn W2 d) os) fun e w' => e = .returned (.string ⟨(n1 ++ num j).toArray⟩) ∧ Below (grow (redrawn W2 d) os).heap.size (grow (redrawn W2 d) os) w' from append_number_any n1 j _ (by omega) (by omega))
    obtain ⟨n2, hn2⟩ : ∃ n2, n2 = n1 ++ num j := ⟨_, rfl⟩
    rw [← hn2] at HA2 hT3
    have hl2 : n2.length ≤ 1000 := by rw [hn2, List.length_append]; omega
    have HST := Lib.hid hst
    have HT3 := Lib.hid hT3
    clear cn ci hst hn1 hn2 hT3
    gi_upto_region 4 with fail
    refine wpIn_region_quiet_round rl rfl (by kernel_rfl) (by kernel_rfl) (by kernel_rfl) ?_
    repeat (gi_big_quiet_step (fail))
    gi_big_quiet_want
    gi_big_quiet_op
    refine ⟨.string ⟨n1.toArray⟩, fun p => ⟨rfl, CallsIn.regrown_of (callsIn_wide.2 (HA1.out p.d p.os))⟩, ?_⟩
    go_big_quiet_on
    repeat (gi_big_quiet_step (fail))
    gi_big_quiet_want
    gi_big_quiet_op
    refine ⟨.string ⟨n2.toArray⟩, fun p => ⟨rfl, CallsIn.regrown_of (callsIn_wide.2 (HA2.out p.d p.os))⟩, ?_⟩
    go_big_quiet_on
    repeat (gi_big_quiet_step (fail))
    refine wpQuietIn_nil ?_
    rintro _ ⟨⟨d1, os1⟩, rfl⟩
    dsimp only
    have hbv := below_regrown W2 d1 os1
    clear HA1 HA2 cnq ciq
    generalize grow (redrawn W2 d1) os1 = V3 at hbv ⊢
    have HST3 := Lib.hid (HST.out.only (hJ _ _ _ HST.out.hj (Only.of_below hbv)) (Only.of_below (S := []) hbv) (by simp) hPlt)
    have HBV := Lib.hid hbv
    clear hbv
    have csq : ∀ d os, (grow (redrawn V3 d) os).cell? ⟨bs, 0, none⟩ = some (.string ⟨s.toArray⟩) := fun d os => cell_regrown HST3.out.hp.cs d os
    have cuq : ∀ d os, (grow (redrawn V3 d) os).cell? ⟨sb, 0, none⟩ = some (.int .u64 (sumN s)) := fun d os => cell_regrown HST3.out.hp.cu d os
    have cvq : ∀ d os, (convert 70 9 (.slice (some ⟨W.heap.size + 2, 96 * j, none⟩) m m)).run Tryz.prog (grow (redrawn V3 d) os) = .ok (.string ⟨(chunkW s j).toArray⟩) (grow (redrawn V3 d) os) :=
      fun d os => conv_chunk s j m (W.heap.size + 2) m HMm.out _ (fun i hi => cell_regrown (HST3.out.hb i hi) d os)
    obtain ⟨S, hSS⟩ : ∃ S, S = sumN s := ⟨_, rfl⟩
    obtain ⟨ck, hck⟩ : ∃ ck, ck = chunkW s j := ⟨_, rfl⟩
    obtain ⟨T3, hTT⟩ : ∃ T3, T3 = pieceT number j s := ⟨_, rfl⟩
    have HT4 := Lib.hid (show T3 = n2 ++ num s.length ++ num S ++ textB ck by rw [hTT, hSS, hck]; exact HT3.out)
    have HPS := Lib.hid (show pieceS number j s = sectL T3 by rw [hTT]; rfl)
    rw [← hSS] at cuq hlen4
    rw [← hck] at cvq hlen5
    rw [← hTT] at hlen6
    have HA3 := Lib.hid (fun d os => show Calls Tryz.prog 97 #[.string ⟨n2.toArray⟩, .int .u64 s.length] (grow (redrawn V3 d) os) fun e w' => e = .returned (.string ⟨(n2 ++ num s.length).toArray⟩) ∧ Below (grow (redrawn V3 d) os).heap.size (grow (redrawn V3 d) os) w' from append_number_any n2 s.length _ (by omega) (by omega))
    have hl3 : (n2 ++ num s.length).length ≤ 2000 := by rw [List.length_append]; omega
    obtain ⟨n3, hn3⟩ : ∃ n3, n3 = n2 ++ num s.length := ⟨_, rfl⟩
    rw [← hn3] at HA3 HT4 hl3
    have HA4 := Lib.hid (fun d os => show Calls Tryz.prog 97 #[.string ⟨n3.toArray⟩, .int .u64 S] (grow (redrawn V3 d) os) fun e w' => e = .returned (.string ⟨(n3 ++ num S).toArray⟩) ∧ Below (grow (redrawn V3 d) os).heap.size (grow (redrawn V3 d) os) w' from append_number_any n3 S _ (by omega) (by omega))
    have hl4 : (n3 ++ num S).length ≤ 3000 := by rw [List.length_append]; omega
    obtain ⟨n4, hn4⟩ : ∃ n4, n4 = n3 ++ num S := ⟨_, rfl⟩
    rw [← hn4] at HA4 HT4 hl4
    have HA5 := Lib.hid (fun d os => show Calls Tryz.prog 98 #[.string ⟨n4.toArray⟩, .string ⟨ck.toArray⟩] (grow (redrawn V3 d) os) fun e w' => e = .returned (.string ⟨T3.toArray⟩) ∧ Below (grow (redrawn V3 d) os).heap.size (grow (redrawn V3 d) os) w' from by rw [HT4.out]; exact append_text_any n4 ck _ (by omega) (by omega))
    clear hn3 hn4 hSS hck hTT
    gi_upto_region 5 with fail
    refine wpIn_region_quiet_round rl rfl (by kernel_rfl) (by kernel_rfl) (by kernel_rfl) ?_
    repeat (gi_big_quiet_step (fail))
    gi_big_quiet_want
    gi_big_quiet_op
    refine ⟨.string ⟨n3.toArray⟩, fun p => ⟨rfl, CallsIn.regrown_of (callsIn_wide.2 (HA3.out p.d p.os))⟩, ?_⟩
    go_big_quiet_on
    repeat (gi_big_quiet_step (fail))
    gi_big_quiet_want
    gi_big_quiet_op
    refine ⟨.string ⟨n4.toArray⟩, fun p => ⟨rfl, CallsIn.regrown_of (callsIn_wide.2 (HA4.out p.d p.os))⟩, ?_⟩
    go_big_quiet_on
    repeat (gi_big_quiet_step (fail))
    gi_big_quiet_want
    gi_big_quiet_op
    refine ⟨.string ⟨T3.toArray⟩, fun p => ⟨rfl, CallsIn.regrown_of (callsIn_wide.2 (HA5.out p.d p.os))⟩, ?_⟩
    go_big_quiet_on
    repeat (gi_big_quiet_step (fail))
    refine wpQuietIn_nil ?_
    rintro _ ⟨⟨d2, os2⟩, rfl⟩
    dsimp only
    have hbv := below_regrown V3 d2 os2
    clear HA3 HA4 HA5 csq cuq cvq
    generalize grow (redrawn V3 d2) os2 = V4 at hbv ⊢
    have HST4 := Lib.hid (HST3.out.only (hJ _ _ _ HST3.out.hj (Only.of_below hbv)) (Only.of_below (S := []) hbv) (by simp) hPlt)
    have HBV4 := Lib.hid (HBV.out.trans (hbv.mono HBV.out.size))
    clear hbv
    gi_upto_region 6 with fail
    refine wpIn_region_any_round rl rfl (by kernel_rfl) (by kernel_rfl) ?_
    have HU0 := Lib.hid (show Below V4.heap.size V4 V4.drew from below_drewN (Below.refl _ _) 1)
    have HS4 := Lib.hid (fun V => seal_w T3 (by omega) V)
    refine (fun (key : ∀ V, Hid (Below V4.heap.size V4 V) → (?G : World → Prop) V) => ?main) ?key
    case main =>
      refine wpAnyIn_ready (rs := [0, 1, 2]) (by kernel_rfl) (by simp) ?_
      refine AllReadyIn.cons rfl (fun K hK => ?_) (AllReadyIn.cons rfl (fun K hK => ?_) (AllReadyIn.cons rfl (fun K hK => ?_) AllReadyIn.nil))
      · skip
        have cy := cell_at (i := 0) (v := .func (.yield l) #[] #[]) (heap_below HU0.out (lt_of_block HST4.out.hy) HST4.out.hy) rfl
        go_simp
        refine hK _ _ ?_
        clear hK K
        clear cy
        try simp only [Act.put, List.setIfInBounds_toArray, List.set_cons_zero, List.set_cons_succ]
        refine wpAnyIn_ready (rs := [1, 2]) (by kernel_rfl) (by simp) ?_
        refine AllReadyIn.cons rfl (fun K hK => ?_) (AllReadyIn.cons rfl (fun K hK => ?_) AllReadyIn.nil)
        · skip
          have ci := cell_at (i := 0) (v := .int .i64 (j : Nat)) (heap_below HU0.out (lt_of_block HST4.out.hi) HST4.out.hi) rfl
          go_simp
          refine hK _ _ ?_
          clear hK K
          clear ci
          try simp only [Act.put, List.setIfInBounds_toArray, List.set_cons_zero, List.set_cons_succ]
          refine wpAnyIn_ready (rs := [2]) (by kernel_rfl) (by simp) ?_
          refine AllReadyIn.cons rfl (fun K hK => ?_) AllReadyIn.nil
          · skip
            go_simp
            refine hK _ _ ?_
            clear hK K
            try simp only [Act.put, List.setIfInBounds_toArray, List.set_cons_zero, List.set_cons_succ]
            refine wpAnyIn_ready (rs := [3]) (by kernel_rfl) (by simp) ?_
            refine AllReadyIn.cons rfl (fun K hK => ?_) AllReadyIn.nil
            · skip
              go_simp
              refine ⟨trivial, rfl, (callsIn_wide.2 (HS4.out (V4.drew))).mono ?_⟩
              rintro e U1 ⟨rfl, hbk⟩
              have HU1 := Lib.hid (HU0.out.trans (hbk.mono HU0.out.size))
              clear hbk
              refine hK _ _ ?_
              clear hK K
              try simp only [Act.put, List.setIfInBounds_toArray, List.set_cons_zero, List.set_cons_succ]
              exact key _ HU1
        · skip
          go_simp
          refine hK _ _ ?_
          clear hK K
          try simp only [Act.put, List.setIfInBounds_toArray, List.set_cons_zero, List.set_cons_succ]
          refine wpAnyIn_ready (rs := [1, 3]) (by kernel_rfl) (by simp) ?_
          refine AllReadyIn.cons rfl (fun K hK => ?_) (AllReadyIn.cons rfl (fun K hK => ?_) AllReadyIn.nil)
          · skip
            have ci := cell_at (i := 0) (v := .int .i64 (j : Nat)) (heap_below HU0.out (lt_of_block HST4.out.hi) HST4.out.hi) rfl
            go_simp
            refine hK _ _ ?_
            clear hK K
            clear ci
            try simp only [Act.put, List.setIfInBounds_toArray, List.set_cons_zero, List.set_cons_succ]
            refine wpAnyIn_ready (rs := [3]) (by kernel_rfl) (by simp) ?_
            refine AllReadyIn.cons rfl (fun K hK => ?_) AllReadyIn.nil
            · skip
              go_simp
              refine ⟨trivial, rfl, (callsIn_wide.2 (HS4.out (V4.drew))).mono ?_⟩
              rintro e U2 ⟨rfl, hbk⟩
              have HU2 := Lib.hid (HU0.out.trans (hbk.mono HU0.out.size))
              clear hbk
              refine hK _ _ ?_
              clear hK K
              try simp only [Act.put, List.setIfInBounds_toArray, List.set_cons_zero, List.set_cons_succ]
              exact key _ HU2
          · skip
            go_simp
            refine ⟨trivial, rfl, (callsIn_wide.2 (HS4.out (V4.drew))).mono ?_⟩
            rintro e U3 ⟨rfl, hbk⟩
            have HU3 := Lib.hid (HU0.out.trans (hbk.mono HU0.out.size))
            clear hbk
            refine hK _ _ ?_
            clear hK K
            try simp only [Act.put, List.setIfInBounds_toArray, List.set_cons_zero, List.set_cons_succ]
            refine wpAnyIn_ready (rs := [1]) (by kernel_rfl) (by simp) ?_
            refine AllReadyIn.cons rfl (fun K hK => ?_) AllReadyIn.nil
            · skip
              have ci := cell_at (i := 0) (v := .int .i64 (j : Nat)) (heap_below HU3.out (lt_of_block HST4.out.hi) HST4.out.hi) rfl
              go_simp
              refine hK _ _ ?_
              clear hK K
              clear ci
              try simp only [Act.put, List.setIfInBounds_toArray, List.set_cons_zero, List.set_cons_succ]
              exact key _ HU3
      · skip
        have ci := cell_at (i := 0) (v := .int .i64 (j : Nat)) (heap_below HU0.out (lt_of_block HST4.out.hi) HST4.out.hi) rfl
        go_simp
        refine hK _ _ ?_
        clear hK K
        clear ci
        try simp only [Act.put, List.setIfInBounds_toArray, List.set_cons_zero, List.set_cons_succ]
        refine wpAnyIn_ready (rs := [0, 2]) (by kernel_rfl) (by simp) ?_
        refine AllReadyIn.cons rfl (fun K hK => ?_) (AllReadyIn.cons rfl (fun K hK => ?_) AllReadyIn.nil)
        · skip
          have cy := cell_at (i := 0) (v := .func (.yield l) #[] #[]) (heap_below HU0.out (lt_of_block HST4.out.hy) HST4.out.hy) rfl
          go_simp
          refine hK _ _ ?_
          clear hK K
          clear cy
          try simp only [Act.put, List.setIfInBounds_toArray, List.set_cons_zero, List.set_cons_succ]
          refine wpAnyIn_ready (rs := [2]) (by kernel_rfl) (by simp) ?_
          refine AllReadyIn.cons rfl (fun K hK => ?_) AllReadyIn.nil
          · skip
            go_simp
            refine hK _ _ ?_
            clear hK K
            try simp only [Act.put, List.setIfInBounds_toArray, List.set_cons_zero, List.set_cons_succ]
            refine wpAnyIn_ready (rs := [3]) (by kernel_rfl) (by simp) ?_
            refine AllReadyIn.cons rfl (fun K hK => ?_) AllReadyIn.nil
            · skip
              go_simp
              refine ⟨trivial, rfl, (callsIn_wide.2 (HS4.out (V4.drew))).mono ?_⟩
              rintro e U4 ⟨rfl, hbk⟩
              have HU4 := Lib.hid (HU0.out.trans (hbk.mono HU0.out.size))
              clear hbk
              refine hK _ _ ?_
              clear hK K
              try simp only [Act.put, List.setIfInBounds_toArray, List.set_cons_zero, List.set_cons_succ]
              exact key _ HU4
        · skip
          go_simp
          refine hK _ _ ?_
          clear hK K
          try simp only [Act.put, List.setIfInBounds_toArray, List.set_cons_zero, List.set_cons_succ]
          refine wpAnyIn_ready (rs := [0, 3]) (by kernel_rfl) (by simp) ?_
          refine AllReadyIn.cons rfl (fun K hK => ?_) (AllReadyIn.cons rfl (fun K hK => ?_) AllReadyIn.nil)
          · skip
            have cy := cell_at (i := 0) (v := .func (.yield l) #[] #[]) (heap_below HU0.out (lt_of_block HST4.out.hy) HST4.out.hy) rfl
            go_simp
            refine hK _ _ ?_
            clear hK K
            clear cy
            try simp only [Act.put, List.setIfInBounds_toArray, List.set_cons_zero, List.set_cons_succ]
            refine wpAnyIn_ready (rs := [3]) (by kernel_rfl) (by simp) ?_
            refine AllReadyIn.cons rfl (fun K hK => ?_) AllReadyIn.nil
            · skip
              go_simp
              refine ⟨trivial, rfl, (callsIn_wide.2 (HS4.out (V4.drew))).mono ?_⟩
              rintro e U5 ⟨rfl, hbk⟩
              have HU5 := Lib.hid (HU0.out.trans (hbk.mono HU0.out.size))
              clear hbk
              refine hK _ _ ?_
              clear hK K
              try simp only [Act.put, List.setIfInBounds_toArray, List.set_cons_zero, List.set_cons_succ]
              exact key _ HU5
          · skip
            go_simp
            refine ⟨trivial, rfl, (callsIn_wide.2 (HS4.out (V4.drew))).mono ?_⟩
            rintro e U6 ⟨rfl, hbk⟩
            have HU6 := Lib.hid (HU0.out.trans (hbk.mono HU0.out.size))
            clear hbk
            refine hK _ _ ?_
            clear hK K
            try simp only [Act.put, List.setIfInBounds_toArray, List.set_cons_zero, List.set_cons_succ]
            refine wpAnyIn_ready (rs := [0]) (by kernel_rfl) (by simp) ?_
            refine AllReadyIn.cons rfl (fun K hK => ?_) AllReadyIn.nil
            · skip
              have cy := cell_at (i := 0) (v := .func (.yield l) #[] #[]) (heap_below HU6.out (lt_of_block HST4.out.hy) HST4.out.hy) rfl
              go_simp
              refine hK _ _ ?_
              clear hK K
              clear cy
              try simp only [Act.put, List.setIfInBounds_toArray, List.set_cons_zero, List.set_cons_succ]
              exact key _ HU6
      · skip
        go_simp
        refine hK _ _ ?_
        clear hK K
        try simp only [Act.put, List.setIfInBounds_toArray, List.set_cons_zero, List.set_cons_succ]
        refine wpAnyIn_ready (rs := [0, 1, 3]) (by kernel_rfl) (by simp) ?_
        refine AllReadyIn.cons rfl (fun K hK => ?_) (AllReadyIn.cons rfl (fun K hK => ?_) (AllReadyIn.cons rfl (fun K hK => ?_) AllReadyIn.nil))
        · skip
          have cy := cell_at (i := 0) (v := .func (.yield l) #[] #[]) (heap_below HU0.out (lt_of_block HST4.out.hy) HST4.out.hy) rfl
          go_simp
          refine hK _ _ ?_
          clear hK K
          clear cy
          try simp only [Act.put, List.setIfInBounds_toArray, List.set_cons_zero, List.set_cons_succ]
          refine wpAnyIn_ready (rs := [1, 3]) (by kernel_rfl) (by simp) ?_
          refine AllReadyIn.cons rfl (fun K hK => ?_) (AllReadyIn.cons rfl (fun K hK => ?_) AllReadyIn.nil)
          · skip
            have ci := cell_at (i := 0) (v := .int .i64 (j : Nat)) (heap_below HU0.out (lt_of_block HST4.out.hi) HST4.out.hi) rfl
            go_simp
            refine hK _ _ ?_
            clear hK K
            clear ci
            try simp only [Act.put, List.setIfInBounds_toArray, List.set_cons_zero, List.set_cons_succ]
            refine wpAnyIn_ready (rs := [3]) (by kernel_rfl) (by simp) ?_
            refine AllReadyIn.cons rfl (fun K hK => ?_) AllReadyIn.nil
            · skip
              go_simp
              refine ⟨trivial, rfl, (callsIn_wide.2 (HS4.out (V4.drew))).mono ?_⟩
              rintro e U7 ⟨rfl, hbk⟩
              have HU7 := Lib.hid (HU0.out.trans (hbk.mono HU0.out.size))
              clear hbk
              refine hK _ _ ?_
              clear hK K
              try simp only [Act.put, List.setIfInBounds_toArray, List.set_cons_zero, List.set_cons_succ]
              exact key _ HU7
          · skip
            go_simp
            refine ⟨trivial, rfl, (callsIn_wide.2 (HS4.out (V4.drew))).mono ?_⟩
            rintro e U8 ⟨rfl, hbk⟩
            have HU8 := Lib.hid (HU0.out.trans (hbk.mono HU0.out.size))
            clear hbk
            refine hK _ _ ?_
            clear hK K
            try simp only [Act.put, List.setIfInBounds_toArray, List.set_cons_zero, List.set_cons_succ]
            refine wpAnyIn_ready (rs := [1]) (by kernel_rfl) (by simp) ?_
            refine AllReadyIn.cons rfl (fun K hK => ?_) AllReadyIn.nil
            · skip
              have ci := cell_at (i := 0) (v := .int .i64 (j : Nat)) (heap_below HU8.out (lt_of_block HST4.out.hi) HST4.out.hi) rfl
              go_simp
              refine hK _ _ ?_
              clear hK K
              clear ci
              try simp only [Act.put, List.setIfInBounds_toArray, List.set_cons_zero, List.set_cons_succ]
              exact key _ HU8
        · skip
          have ci := cell_at (i := 0) (v := .int .i64 (j : Nat)) (heap_below HU0.out (lt_of_block HST4.out.hi) HST4.out.hi) rfl
          go_simp
          refine hK _ _ ?_
          clear hK K
          clear ci
          try simp only [Act.put, List.setIfInBounds_toArray, List.set_cons_zero, List.set_cons_succ]
          refine wpAnyIn_ready (rs := [0, 3]) (by kernel_rfl) (by simp) ?_
          refine AllReadyIn.cons rfl (fun K hK => ?_) (AllReadyIn.cons rfl (fun K hK => ?_) AllReadyIn.nil)
          · skip
            have cy := cell_at (i := 0) (v := .func (.yield l) #[] #[]) (heap_below HU0.out (lt_of_block HST4.out.hy) HST4.out.hy) rfl
            go_simp
            refine hK _ _ ?_
            clear hK K
            clear cy
            try simp only [Act.put, List.setIfInBounds_toArray, List.set_cons_zero, List.set_cons_succ]
            refine wpAnyIn_ready (rs := [3]) (by kernel_rfl) (by simp) ?_
            refine AllReadyIn.cons rfl (fun K hK => ?_) AllReadyIn.nil
            · skip
              go_simp
              refine ⟨trivial, rfl, (callsIn_wide.2 (HS4.out (V4.drew))).mono ?_⟩
              rintro e U9 ⟨rfl, hbk⟩
              have HU9 := Lib.hid (HU0.out.trans (hbk.mono HU0.out.size))
              clear hbk
              refine hK _ _ ?_
              clear hK K
              try simp only [Act.put, List.setIfInBounds_toArray, List.set_cons_zero, List.set_cons_succ]
              exact key _ HU9
          · skip
            go_simp
            refine ⟨trivial, rfl, (callsIn_wide.2 (HS4.out (V4.drew))).mono ?_⟩
            rintro e U10 ⟨rfl, hbk⟩
            have HU10 := Lib.hid (HU0.out.trans (hbk.mono HU0.out.size))
            clear hbk
            refine hK _ _ ?_
            clear hK K
            try simp only [Act.put, List.setIfInBounds_toArray, List.set_cons_zero, List.set_cons_succ]
            refine wpAnyIn_ready (rs := [0]) (by kernel_rfl) (by simp) ?_
            refine AllReadyIn.cons rfl (fun K hK => ?_) AllReadyIn.nil
            · skip
              have cy := cell_at (i := 0) (v := .func (.yield l) #[] #[]) (heap_below HU10.out (lt_of_block HST4.out.hy) HST4.out.hy) rfl
              go_simp
              refine hK _ _ ?_
              clear hK K
              clear cy
              try simp only [Act.put, List.setIfInBounds_toArray, List.set_cons_zero, List.set_cons_succ]
              exact key _ HU10
        · skip
          go_simp
          refine ⟨trivial, rfl, (callsIn_wide.2 (HS4.out (V4.drew))).mono ?_⟩
          rintro e U11 ⟨rfl, hbk⟩
          have HU11 := Lib.hid (HU0.out.trans (hbk.mono HU0.out.size))
          clear hbk
          refine hK _ _ ?_
          clear hK K
          try simp only [Act.put, List.setIfInBounds_toArray, List.set_cons_zero, List.set_cons_succ]
          refine wpAnyIn_ready (rs := [0, 1]) (by kernel_rfl) (by simp) ?_
          refine AllReadyIn.cons rfl (fun K hK => ?_) (AllReadyIn.cons rfl (fun K hK => ?_) AllReadyIn.nil)
          · skip
            have cy := cell_at (i := 0) (v := .func (.yield l) #[] #[]) (heap_below HU11.out (lt_of_block HST4.out.hy) HST4.out.hy) rfl
            go_simp
            refine hK _ _ ?_
            clear hK K
            clear cy
            try simp only [Act.put, List.setIfInBounds_toArray, List.set_cons_zero, List.set_cons_succ]
            refine wpAnyIn_ready (rs := [1]) (by kernel_rfl) (by simp) ?_
            refine AllReadyIn.cons rfl (fun K hK => ?_) AllReadyIn.nil
            · skip
              have ci := cell_at (i := 0) (v := .int .i64 (j : Nat)) (heap_below HU11.out (lt_of_block HST4.out.hi) HST4.out.hi) rfl
              go_simp
              refine hK _ _ ?_
              clear hK K
              clear ci
              try simp only [Act.put, List.setIfInBounds_toArray, List.set_cons_zero, List.set_cons_succ]
              exact key _ HU11
          · skip
            have ci := cell_at (i := 0) (v := .int .i64 (j : Nat)) (heap_below HU11.out (lt_of_block HST4.out.hi) HST4.out.hi) rfl
            go_simp
            refine hK _ _ ?_
            clear hK K
            clear ci
            try simp only [Act.put, List.setIfInBounds_toArray, List.set_cons_zero, List.set_cons_succ]
            refine wpAnyIn_ready (rs := [0]) (by kernel_rfl) (by simp) ?_
            refine AllReadyIn.cons rfl (fun K hK => ?_) AllReadyIn.nil
            · skip
              have cy := cell_at (i := 0) (v := .func (.yield l) #[] #[]) (heap_below HU11.out (lt_of_block HST4.out.hy) HST4.out.hy) rfl
              go_simp
              refine hK _ _ ?_
              clear hK K
              clear cy
              try simp only [Act.put, List.setIfInBounds_toArray, List.set_cons_zero, List.set_cons_succ]
              exact key _ HU11
    case key =>
      intro V HV
      have stV := Lib.hid (HST4.out.only (hJ _ _ _ HST4.out.hj (Only.of_below HV.out)) (Only.of_below (S := []) HV.out) (by simp) hPlt)
      refine wpAnyIn_ready (rs := [4]) (by kernel_rfl) (by simp) ?_
      refine AllReadyIn.cons rfl (fun K hK => ?_) AllReadyIn.nil
      have hsz4 : W.heap.size + 7 ≤ V.heap.size := by have := HBV4.out.size; have := HV.out.size; omega
      obtain ⟨fn, tmps, assign, body, hy, hR⟩ := HYj.out V (hJ _ _ _ HST4.out.hj (Only.of_below HV.out)) hsz4
      rw [HPS.out] at hy
      go_simp
      refine ⟨rfl, hR.mono ?_⟩
      rintro e W3 (⟨rfl, hJ3, hk3⟩ | ⟨rfl, hJx3, hk3⟩)
      · have ci3 : W3.cell? ⟨W.heap.size + 1, 0, none⟩ = some (.int .i64 (j : Nat)) := cell_at (i := 0) ((hk3.same (W.heap.size + 1) (List.mem_append_right _ (by rw [ownB_mem]; omega)) (by omega)).trans stV.out.hi) rfl
        have wj1 : IntKind.i64.wrap ((j : Int) + 1) = ((j + 1 : Nat) : Int) := by rw [IntWalk.i64_in _ (by omega)]; omega
        have fz3 : W3.frozen? ⟨W.heap.size + 1, 0, none⟩ = false := free_at ((hk3.same (W.heap.size + 1) (List.mem_append_right _ (by rw [ownB_mem]; omega)) (by omega)).trans stV.out.hi) 0
        have HK3 := Lib.hid hk3
        have HJ3 := Lib.hid hJ3
        refine hK _ _ ?_
        clear hK K hy hR hJ3 hk3
        try simp only [Act.put, List.setIfInBounds_toArray, List.set_cons_zero, List.set_cons_succ]
        refine wpAnyIn_ready (rs := [5]) (by kernel_rfl) (by simp) ?_
        refine AllReadyIn.cons rfl (fun K hK => ?_) AllReadyIn.nil
        go_simp
        refine hK _ _ ?_
        clear hK K
        try simp only [Act.put, List.setIfInBounds_toArray, List.set_cons_zero, List.set_cons_succ]
        refine wpAnyIn_done (by kernel_rfl) ?_ _
        gi_wp2
        have hon : Only [W.heap.size + 1] W3 (W3.setCell ⟨W.heap.size + 1, 0, none⟩ (.int .i64 ((j + 1 : Nat) : Int))) := (Only.refl _ _).setCell (Or.inl (by simp)) _
        have hfin := stV.out.next HK3.out (hJ _ _ _ HJ3.out (hon.mono (fun k hk _ => by rw [List.mem_singleton] at hk; rw [ownB_mem]; omega))) hPlt hsz4
        have hkk : Kept ([w2.heap.size, w2.heap.size + 1] ++ ownB w3.heap.size (0 + 2)) W2 (W3.setCell ⟨W.heap.size + 1, 0, none⟩ (.int .i64 ((j + 1 : Nat) : Int))) := by
          refine (((Only.of_below (S := []) (HBV4.out.trans (HV.out.mono HBV4.out.size))).kept (fun k _ => by simp)).trans (HK3.out.sub (fun k hk => ?_))).trans (hon.kept (fun k hk => ?_))
          · rw [List.mem_append, ownB_mem] at hk
            refine List.mem_append_right _ ?_
            rw [ownB_mem]
            simp only [List.mem_cons, List.not_mem_nil, or_false] at hk
            omega
          · rw [List.mem_append, ownB_mem] at hk
            simp only [List.mem_cons, List.not_mem_nil, or_false] at hk ⊢
            omega
        exact ⟨hkk, hfin⟩
      · refine hK _ _ ?_
        clear hK K hy hR
        try simp only [Act.put, List.setIfInBounds_toArray, List.set_cons_zero, List.set_cons_succ]
        refine wpAnyIn_ready (rs := [5]) (by kernel_rfl) (by simp) ?_
        refine AllReadyIn.cons rfl (fun K hK => ?_) AllReadyIn.nil
        go_simp
        refine hK _ _ ?_
        clear hK K
        try simp only [Act.put, List.setIfInBounds_toArray, List.set_cons_zero, List.set_cons_succ]
        refine wpAnyIn_done (by kernel_rfl) ?_ _
        have HJx3 := Lib.hid hJx3
        have HK3 := Lib.hid hk3
        clear hJx3 hk3
        gi_wp2
        refine ⟨?_, rfl, HJx3.out⟩
        refine ((Only.of_below (S := []) (HBV4.out.trans (HV.out.mono HBV4.out.size))).kept (fun k _ => by simp)).trans (HK3.out.sub (fun k hk => ?_))
        rw [List.mem_append, ownB_mem] at hk
        refine List.mem_append_right _ ?_
        rw [ownB_mem]
        simp only [List.mem_cons, List.not_mem_nil, or_false] at hk
        omega
  case done =>
    rintro V hst hlt hK
    have HST := Lib.hid hst
    have HKK := Lib.hid hK
    have HTO := Lib.hid hto
    have HLn := Lib.hid (show (chunkL w1.heap.size 0 1 96 s.length).length = (pcsA number s).length by rw [chunkL_len]; simp [pcsA, cntW])
    clear hseq hA hX hps hst hK hto
    gi_wp2
    refine ⟨by simp, .inl ⟨_, _, rfl, run_takeDeferred HKK.out, ?_⟩⟩
    refine ⟨_, results_none rfl _ _ _, ⟨_, rfl⟩, .inl ?_⟩
    rw [← HLn.out]
    refine hJ _ _ _ HST.out.hj (HTO.out _ _ ((only_putObj V w3.heap.size (.deferred none)).mono (fun k hk _ => ?_)))
    rw [List.mem_singleton] at hk
    rw [ownB_mem]
    omega
  case stop =>
    rintro d j V hj ⟨rfl, hjx⟩ hK
    have HJX := Lib.hid hjx
    have HKK := Lib.hid hK
    have HTO := Lib.hid hto
    have HLn := Lib.hid (show (chunkL w1.heap.size 0 1 96 s.length).length = (pcsA number s).length by rw [chunkL_len]; simp [pcsA, cntW])
    clear hseq hA hX hps hjx hK hto
    gi_wp2
    refine ⟨by simp, .inl ⟨_, _, rfl, run_takeDeferred HKK.out, ?_⟩⟩
    refine ⟨_, results_none rfl _ _ _, ⟨_, rfl⟩, .inr ⟨j, by rw [← HLn.out]; exact hj, ?_⟩⟩
    refine hJx _ _ _ HJX.out (HTO.out _ _ ((only_putObj V w3.heap.size (.deferred none)).mono (fun k hk _ => ?_)))
    rw [List.mem_singleton] at hk
    rw [ownB_mem]
    omega
end Go.Proofs.YtjpkdhnponcciaaGreatDoor
