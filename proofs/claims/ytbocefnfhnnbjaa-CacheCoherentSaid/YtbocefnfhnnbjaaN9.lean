/-
  The pool of pages: Put, with room or without. No condition.
-/
import Derived.Test.YtbocefnfhnnbjaaN8
namespace Go.Proofs.Ytbocefnfhnnbjaa
open Go.RowKit Go.Sort

attribute [local go_sem ↓] loadPl_down storePl_down loadCt_down storeCt_down
set_option maxRecDepth 100000 in
set_option maxHeartbeats 8000000 in
/-- Without room the oldest page goes. -/
theorem put_full (w : World) (base pb mb : Nat) (oa : Option Addr) (oc : Nat) (cap h m : Int) (M : List (Pl × Ct)) (O : List Pl) (x1 x2 : Int) (d : ByteArray) (v : Int)
    (hp : PoolAt w base pb mb oa oc cap h m M O) (hl : O.length ≤ 10000) (hx : okP (x1, x2)) (hf : ¬ ((O.filter (fun y => !isAt (x1, x2) y) ++ [(x1, x2)]).length : Int) ≤ cap) :
    Calls Try.prog 40 #[.pointer (some ⟨pb, 0, none⟩), .int .i64 x1, .int .i64 x2, .string d, .int .i64 v] w fun e w' => e = .returned (.tuple #[]) ∧ ∃ (oa' : Option Addr) (oc' : Nat) (M' : List (Pl × Ct)) (O' : List Pl), PoolAt w' base pb mb oa' oc' cap h m M' O' ∧ (∀ k c, alook M' k = some c → (if (x1, x2) = k then some (d, v) else alook M k) = some c) ∧ O'.length ≤ O.length + 1 ∧ Only [pb, mb, obOf w oa] w w' ∧ (∀ q, oa' = some q → q.block = obOf w oa ∨ w.heap.size ≤ q.block) := by
  have HU := Lib.hid (use_any w base pb mb oa oc cap h m M O (x1, x2) (d, v) hp (by omega) hx)
  have hfl : (O.filter (fun y => !isAt (x1, x2) y)).length ≤ O.length := List.length_filter_le _ _
  have hl1 : (O.filter (fun y => !isAt (x1, x2) y) ++ [(x1, x2)]).length ≤ O.length + 1 := by rw [List.length_append]; simpa using hfl
  have hpos : 0 < (O.filter (fun y => !isAt (x1, x2) y) ++ [(x1, x2)]).length := by rw [List.length_append]; simp
  have hob := hp.ob
  have hpb := hp.pl
  have hmb := hp.ml
  have hplt := lt_of_block hp.blk
  have hmlt := amap_lt hp.pages
  generalize hO1 : O.filter (fun y => !isAt (x1, x2) y) ++ [(x1, x2)] = O1 at HU hf hl1 hpos
  clear hp hO1 hfl
  have hmf : ∀ (fn : Fn) (first cap : Array Value) (W : World), (Instr.makeFunc fn first cap).run Try.prog W = .ok (.func fn first cap) W := fun _ _ _ _ => rfl
  go_enter Try.func40, Try.ntmps40
  go_wp2_with fail
  refine HU.out.mono ?_
  rintro e w5 ⟨rfl, oa', oc', M', hp5, hk5, ho5, hq5⟩
  obtain ⟨g, rfl, hgb, hgl⟩ := hp5.ord.form (List.length_pos_iff.1 hpos)
  obtain ⟨cy0, cy1⟩ := hp5.ord.cells hpos
  obtain ⟨y, hy⟩ : ∃ y, y = O1[0] := ⟨_, rfl⟩
  have hoky : okP y := by rw [hy]; exact hp5.ok _ (List.getElem_mem _)
  rw [← hy] at cy0 cy1
  obtain ⟨y1, y2⟩ := y
  simp only [Nat.zero_mul, Nat.zero_add] at cy0 cy1
  have c0 := cell_at (i := 0) (v := .int .i64 cap) hp5.blk rfl
  have c2 := cell_at (i := 2) hp5.blk rfl
  have dl := loadPl_mid (w := w5.drew) cy0 cy1
  have hnc : cap < (O1.length : Int) := by omega
  obtain ⟨W1, hW1⟩ : ∃ W1, W1 = ((w5.alloc (.cells #[.int .i64 0, .int .i64 0] 104)).drew).setRow w5.heap.size #[.int .i64 y1, .int .i64 y2] := ⟨_, rfl⟩
  have hgn : ((w5.alloc (.cells #[.int .i64 0, .int .i64 0] 104)).drew).heap[w5.heap.size]? = some (.cells #[.int .i64 0, .int .i64 0] 104 (0, 0)) := heap_alloc_new w5 _
  have st1 := storePl_at (cs := #[.int .i64 y1, .int .i64 y2]) hgn rfl rfl (by simp [Value.oneCell'])
  have hg1 : W1.heap[w5.heap.size]? = some (.cells #[.int .i64 y1, .int .i64 y2] 104 (0, 0)) := by rw [hW1]; exact setRow_heap _ _ _ _ _ _ hgn
  have hb1 : Below w5.heap.size w5 W1 := by
    rw [hW1]
    have hd : Below w5.heap.size w5 (w5.alloc (.cells #[.int .i64 0, .int .i64 0] 104)).drew := ((Below.refl _ _).alloc (Nat.le_refl _) _).drew
    exact below_setRow hd (Nat.le_refl _) _
  rw [← hW1] at st1
  have hp1 := hp5.below hb1
  have hask : AsksO [mb, obOf W1 (some ⟨g, 0, none⟩)] W1 47 #[.pointer (some ⟨w5.heap.size, 0, none⟩)] (isAt (y1, y2)) :=
    ⟨fun W y hW hy => putAt_any W w5.heap.size (y1, y2) y (hW.heap hg1 (by
      simp only [List.mem_cons, List.not_mem_nil, or_false, not_or, obOf]
      have h2 := amap_lt hp5.pages
      omega)), fun _ _ => rfl⟩
  have HFG := Lib.hid (poolForget_any W1 base pb mb (some ⟨g, 0, none⟩) oc' cap h m M' O1 47 #[.pointer (some ⟨w5.heap.size, 0, none⟩)] (isAt (y1, y2)) hp1 (by omega) hask)
  have HF := Lib.hid (And.intro hk5 (And.intro (show Only [pb, mb, obOf w oa] w W1 from ho5.step_below hb1) (And.intro hq5 (show w.heap.size ≤ w5.heap.size from ho5.size))))
  have hle := List.length_filter_le (fun x => !isAt (y1, y2) x) O1
  have HL := Lib.hid hl1
  clear hp5 hk5 ho5 hq5 hp1 hask hg1 hb1 cy0 cy1 hy hoky hgn
  have HW1 := Lib.hid hW1
  clear hW1
  go_wp2_with fail
  go_region
  all_goals
    go_wp2_with fail
    refine HFG.out.mono ?_
    rintro e w7 ⟨n, M2, rfl, hp7, hs7, ho7⟩
    have HP7 := Lib.hid hp7
    have HS7 := Lib.hid hs7
    have HO7 := Lib.hid ho7
    clear hp7 hs7 ho7
    go_wp2_with fail
    go_end0
    obtain ⟨hk5, ho5, hq5, hsz⟩ := HF.out
    refine ⟨rfl, some ⟨g, 0, none⟩, oc', M2, _, HP7.out, fun k c hc => ?_, Nat.le_trans hle HL.out, ?_, hq5⟩
    · rw [HS7.out k] at hc
      split at hc
      · exact absurd hc (by simp)
      · rw [← hk5 k]; exact hc
    · refine ho5.then HO7.out (fun i hi => ?_)
      simp only [List.mem_cons, List.not_mem_nil, or_false, obOf] at hi ⊢
      rcases hi with rfl | rfl | rfl
      · exact Or.inl (Or.inl rfl)
      · exact Or.inl (Or.inr (Or.inl rfl))
      · rcases hq5 _ rfl with e | e
        · exact Or.inl (Or.inr (Or.inr e))
        · exact Or.inr e

/-- What Put makes of a pool. -/
def Puts (cap : Int) (O : List Pl) (x : Pl) (c : Ct) (M M' : List (Pl × Ct)) (O' : List Pl) : Prop :=
  (∀ k b, alook M' k = some b → (if x = k then some c else alook M k) = some b) ∧ O'.length ≤ O.length + 1 ∧
  (((O.filter (fun y => !isAt x y) ++ [x]).length : Int) ≤ cap → (∀ k, alook M' k = if x = k then some c else alook M k) ∧ O' = O.filter (fun y => !isAt x y) ++ [x])
theorem put_any (w : World) (base pb mb : Nat) (oa : Option Addr) (oc : Nat) (cap h m : Int) (M : List (Pl × Ct)) (O : List Pl) (x1 x2 : Int) (d : ByteArray) (v : Int)
    (hp : PoolAt w base pb mb oa oc cap h m M O) (hl : O.length ≤ 10000) (hx : okP (x1, x2)) :
    Calls Try.prog 40 #[.pointer (some ⟨pb, 0, none⟩), .int .i64 x1, .int .i64 x2, .string d, .int .i64 v] w fun e w' => e = .returned (.tuple #[]) ∧ ∃ (oa' : Option Addr) (oc' : Nat) (M' : List (Pl × Ct)) (O' : List Pl), PoolAt w' base pb mb oa' oc' cap h m M' O' ∧ Puts cap O (x1, x2) (d, v) M M' O' ∧ Only [pb, mb, obOf w oa] w w' ∧ (∀ q, oa' = some q → q.block = obOf w oa ∨ w.heap.size ≤ q.block) := by
  have hfl : (O.filter (fun y => !isAt (x1, x2) y)).length ≤ O.length := List.length_filter_le _ _
  by_cases hf : ((O.filter (fun y => !isAt (x1, x2) y) ++ [(x1, x2)]).length : Int) ≤ cap
  · refine (put_fit w base pb mb oa oc cap h m M O x1 x2 d v hp (by omega) hx hf).mono ?_
    rintro e w' ⟨rfl, oa', oc', M', h1, h2, h3, h4⟩
    exact ⟨rfl, oa', oc', M', _, h1, ⟨fun k b hb => by rw [← h2 k]; exact hb, by rw [List.length_append]; simpa using hfl, fun _ => ⟨h2, rfl⟩⟩, h3, h4⟩
  · refine (put_full w base pb mb oa oc cap h m M O x1 x2 d v hp hl hx hf).mono ?_
    rintro e w' ⟨rfl, oa', oc', M', O', h1, h2, h3, h4, h5⟩
    exact ⟨rfl, oa', oc', M', _, h1, ⟨h2, h3, fun hc => absurd hc hf⟩, h4, h5⟩

end Go.Proofs.Ytbocefnfhnnbjaa
