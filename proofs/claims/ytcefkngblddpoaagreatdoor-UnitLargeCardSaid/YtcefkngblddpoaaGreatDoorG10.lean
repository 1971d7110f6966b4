/-
  Walks: IndexFunc and ContainsFunc at pointers and pairs. Conditions: the elements in memory; the closure's contract. Walks: the place of a key among pairs, by the program and by the reference. Conditions: pairs in memory, not too many. Rows of pairs, cell by cell; the walk of a copy of pairs. Condition: pairs in memory, not too many.
  Walks: the validity of an archive, by the program. Conditions: pairs in memory, not too many.
-/
import Derived.Test.YtcefkngblddpoaaGreatDoorG7
import Derived.Test.YtcefkngblddpoaaGreatDoorG9
import Derived.Test.YtcefkngblddpoaaGreatDoorG2
import Derived.BigQuiet
import Derived.StillTailTactics
import Derived.Deep.MidRow
namespace Go.Proofs.YtcefkngblddpoaaGreatDoor

section
set_option maxRecDepth 100000
set_option maxHeartbeats 4000000
section
open Go.RowKit Go.Sort
/-- The index of the first element that meets p, or -1. -/
def fidx {α : Type} (p : α → Bool) (l : List α) : Int := match l.findIdx? p with
 | some i => (i : Int)
 | none => -1
theorem fidx_none {α : Type} {p : α → Bool} {l : List α} (h : ∀ x ∈ l, p x = false) : fidx p l = -1 := by
 unfold fidx
 have : l.findIdx? p = none := by rw [List.findIdx?_eq_none_iff]; exact h
 rw [this]
theorem fidx_at {α : Type} {p : α → Bool} {l : List α} {j : Nat} (hj : j < l.length) (h : ∀ x ∈ l.take j, p x = false) (hp : p l[j] = true) : fidx p l = (j : Int) := by
 unfold fidx
 have : l.findIdx? p = some j := by
  rw [List.findIdx?_eq_some_iff_getElem]
  refine ⟨hj, hp, fun i hi => ?_⟩
  have := h l[i] (List.mem_take_iff_getElem.2 ⟨i, by omega, rfl⟩)
  rw [this]; simp
 rw [this]
theorem fidx_any {α : Type} {p : α → Bool} {l : List α} (h : l.any p = true) : 0 ≤ fidx p l := by
 unfold fidx
 cases hq : l.findIdx? p with
 | some i => simp
 | none =>
   rw [List.findIdx?_eq_none_iff] at hq
   obtain ⟨x, hx, hp⟩ := List.any_eq_true.1 h
   rw [hq x hx] at hp; cases hp
/-- Pointers in memory. -/
structure Ptrs (w : World) (B : Nat) (a : Option Addr) (l : List Addr) : Prop where
 cells : l ≠ [] → ∃ b off, a = some ⟨b, off, none⟩ ∧ b < B ∧ ∀ i (h : i < l.length), w.cell? ⟨b, off + i, none⟩ = some (.pointer (some l[i]))
theorem Ptrs.get {w : World} {B a l} (h : Ptrs w B a l) {i : Nat} (hi : i < l.length) : ∃ b off, a = some ⟨b, off, none⟩ ∧ b < B ∧ w.cell? ⟨b, off + i, none⟩ = some (.pointer (some l[i])) := by
 obtain ⟨b, off, h1, h2, h3⟩ := h.cells (fun e => by rw [e] at hi; simp at hi)
 exact ⟨b, off, h1, h2, h3 i hi⟩
end
section
open Go.RowKit Go.Sort
/-- The number of pairs ahead of the first one whose key is not smaller. -/
def posL (k : By) (l : List Pr) : Nat := l.findIdx (fun p => !Op.bytesLess p.1 k)
def hasL (k : By) (l : List Pr) : Bool := match l[posL k l]? with
 | some q => q.1 == k
 | none => false
theorem posL_le (k : By) (l : List Pr) : posL k l ≤ l.length := List.findIdx_le_length
theorem posL_at {k : By} {l : List Pr} {j : Nat} (hj : j ≤ l.length) (h : ∀ x ∈ l.take j, Op.bytesLess x.1 k = true) (hn : ∀ (q : j < l.length), Op.bytesLess l[j].1 k = false) : posL k l = j := by
 unfold posL
 by_cases hlt : j < l.length
 · rw [List.findIdx_eq hlt]
   refine ⟨by rw [hn hlt]; rfl, fun i hi => ?_⟩
   have := h l[i] (List.mem_take_iff_getElem.2 ⟨i, by omega, rfl⟩)
   rw [this]; rfl
 · obtain rfl : j = l.length := by omega
   apply List.findIdx_eq_length_of_false
   intro x hx
   rw [List.take_of_length_le (by omega)] at h
   rw [h x hx]; rfl
theorem rfind_any (k : By) (w : World) (B : Nat) (a : Option Addr) (cap : Nat) (l : List Pr) (h : Prs w B a l) (hl : l.length ≤ 1000000) (_hc : l.length ≤ cap) :
 Calls Tryz.prog 72 #[.slice a l.length cap, .string ⟨k.toArray⟩] w fun e w' => e = .returned (.tuple #[.int .i64 (posL k l : Int), .bool (hasL k l)]) ∧ Below w.heap.size w w' := by
 have HS := Lib.hid h
 clear h
 go_enter Tryz.func72, Tryz.ntmps72
 go_wp2_with fail
 go_loop [6] (fun i => ∃ j : Nat, j ≤ l.length ∧ i = .int .i64 j ∧ ∀ x ∈ l.take j, Op.bytesLess x.1 k = true) (fun i => l.length - (intOf i).toNat)
 case atStart => exact ⟨0, by omega, rfl, by simp⟩
 case round =>
  obtain ⟨j, hj, rfl, hst⟩ := hrel
  by_cases hlt : j < l.length
  · obtain ⟨b, off, rfl, hbb, hc1, hc2⟩ := HS.out.get hlt
    have HN := Lib.hid (fun (hp : Op.bytesLess l[j].1 k = true) => show ∀ x ∈ l.take (j + 1), Op.bytesLess x.1 k = true by
     intro x hx
     rw [List.take_succ_eq_append_getElem hlt] at hx
     rcases List.mem_append.1 hx with hx | hx
     · exact hst x hx
     · obtain rfl := List.mem_singleton.1 hx; exact hp)
    have HY := Lib.hid (fun (hp : Op.bytesLess l[j].1 k = false) => show posL k l = j ∧ hasL k l = (l[j].1 == k) by
     have e := posL_at hj hst (fun _ => hp)
     refine ⟨e, ?_⟩
     unfold hasL
     rw [e, List.getElem?_eq_getElem hlt])
    clear hst hc2
    generalize l[j] = q at hc1 HN HY
    cases hp : Op.bytesLess q.1 k with
    | true =>
      have HR := Lib.hid (HN.out hp)
      go_wp2_with fail
      go_round
      case rel => exact ⟨j + 1, by omega, by go_num, HR.out⟩
      case measure => simp [intOf]; omega
    | false =>
      have HR := Lib.hid (HY.out hp)
      go_upto_region 4 with fail
      go_quiet (fail)
      go_wp2_with fail
      go_ret2
      exact ⟨by rw [HR.out.1, HR.out.2]; rfl, below_drewN (Below.refl _ _) _⟩
  · have hj2 : j = l.length := by omega
    subst hj2
    have HR := Lib.hid (show posL k l = l.length ∧ hasL k l = false by
     have e := posL_at (k := k) (Nat.le_refl _) hst (fun q => by omega)
     refine ⟨e, ?_⟩
     unfold hasL
     rw [e, List.getElem?_eq_none (by omega)])
    clear hst
    go_upto_region 4 with fail
    go_quiet (fail)
    go_wp2_with fail
    go_ret2
    exact ⟨by rw [HR.out.1, HR.out.2]; rfl, below_drewN (Below.refl _ _) _⟩
end
section
open Go.RowKit Go.Sort
end
end

section
open Go.RowKit Go.Sort
variable {z : Rest}
/-- Whether a pair can be in an archive. -/
def prOk (p : Pr) : Bool := decide (p.1.length ≤ 32) && decide (p.2.length ≤ 1000)
/-- The cells of a content, or of an archive. -/
abbrev conC (z : Rest) (org fmt len blk ap : Int) (A : Option Addr) (n C : Nat) : Array Value :=
 #[.int .i64 z.id, .int .i64 org, .int .i64 fmt, .int .i64 len, .int .i64 blk, .int .i64 z.kat, .int .i64 z.klen, .int .i64 z.ivl, .int .i64 z.area, .int .i64 z.fivl, .int .i64 z.fare, .int .i64 z.base, .int .i64 z.aat, .int .i64 z.alen,
   .bool z.uniq, .int .i64 z.cls, .string ⟨z.vol.toArray⟩, .string ⟨z.own.toArray⟩, .int .i64 z.cre, .int .i64 z.exp, .bool z.arch, .int .i64 ap, .slice A n C]
theorem loadDs_con {w : World} {g : Nat} {org fmt len blk ap : Int} {A : Option Addr} {n C : Nat} {t : TypeId} {fr : Nat × Nat} (hg : w.heap[g]? = some (.cells (conC z org fmt len blk ap A n C) t fr)) :
 (loadDs ⟨g, 0, none⟩).run Tryz.prog w = .ok (.agg (dsv z org fmt len blk)) w := by
 refine run_loadVar_mid (P := Tryz.prog) w g 0 45 (dsv z org fmt len blk).toList _ (fun j v hj => ?_) Tryz.underlying45 rfl (by rw [info_ds]; rfl)
 rw [Nat.zero_add, cell_of_row w g j _ t fr hg]
 have hlt : j < 21 := (List.getElem?_eq_some_iff.1 hj).1
 rw [← hj]
 match j, hlt with
 | 0, _ => rfl | 1, _ => rfl | 2, _ => rfl | 3, _ => rfl | 4, _ => rfl | 5, _ => rfl | 6, _ => rfl | 7, _ => rfl | 8, _ => rfl | 9, _ => rfl | 10, _ => rfl
 | 11, _ => rfl | 12, _ => rfl | 13, _ => rfl | 14, _ => rfl | 15, _ => rfl | 16, _ => rfl | 17, _ => rfl | 18, _ => rfl | 19, _ => rfl | 20, _ => rfl
def storeDs (p : Addr) (v : Value) : Sem Unit := storeVar 45 p v
theorem storeDs_down (p : Addr) (v : Value) : storeVar 45 p v = storeDs p v := rfl
theorem ds_one {org fmt len blk : Int} : (dsv z org fmt len blk).all (·.oneCell') = true := by simp [Value.oneCell']
theorem storeDs_at {w : World} {g : Nat} {org fmt len blk : Int} {t : TypeId} {old : Array Value} (hg : w.heap[g]? = some (.cells old t (0, 0))) (ho : old.size = 21) : (storeDs ⟨g, 0, none⟩ (.agg (dsv z org fmt len blk))).run Tryz.prog w = .ok () (w.setRow g (dsv z org fmt len blk)) :=
 run_storeVar_row (P := Tryz.prog) w g t 45 old (dsv z org fmt len blk) hg (by rw [info_ds]; rfl) ho ds_one
abbrev dsZ : Array Value := #[.int .i64 0, .int .i64 0, .int .i64 0, .int .i64 0, .int .i64 0, .int .i64 0, .int .i64 0, .int .i64 0, .int .i64 0, .int .i64 0, .int .i64 0, .int .i64 0, .int .i64 0, .int .i64 0, .bool false, .int .i64 0, .string ⟨#[]⟩, .string ⟨#[]⟩, .int .i64 0, .int .i64 0, .bool false]
/-- All numbers of an archive. -/
def numsL (z : Rest) (org fmt len blk : Int) : List Int := [z.id, org, fmt, len, blk, z.kat, z.klen, z.ivl, z.area, z.fivl, z.fare, z.base, z.aat, z.alen, z.cls, z.cre, z.exp]
def archP (z : Rest) (org fmt len blk ap : Int) (l : List Pr) : Bool :=
 (numsL z org fmt len blk ++ [ap]).all numV && (decide (z.own.length ≤ 31) && decide (z.vol.length ≤ 31) && decide (l.length ≤ 1024)) && l.all prOk
/-- A content in a block, and a copy of its description in the next one. -/
structure TwoCon (w W : World) (z : Rest) (org fmt len blk ap : Int) (A : Option Addr) (n C : Nat) (T : TypeId) : Prop where
 con : W.heap[w.heap.size]? = some (.cells (conC z org fmt len blk ap A n C) T (0, 0))
 ds : W.heap[w.heap.size + 1]? = some (.cells (dsv z org fmt len blk) 45 (0, 0))
 bel : Below w.heap.size w W
 size : W.heap.size = w.heap.size + 2
theorem two_con (w : World) (z : Rest) (org fmt len blk ap : Int) (A : Option Addr) (n C : Nat) (T : TypeId) : ∃ W, (storeDs ⟨w.heap.size + 1, 0, none⟩ (.agg (dsv z org fmt len blk))).run Tryz.prog ((w.alloc (.cells (conC z org fmt len blk ap A n C) T)).alloc (.cells dsZ 45)) = .ok () W ∧ TwoCon w W z org fmt len blk ap A n C T := by
 have hz0 := heap_alloc_new (w.alloc (.cells (conC z org fmt len blk ap A n C) T)) (.cells dsZ 45)
 rw [show (w.alloc (.cells (conC z org fmt len blk ap A n C) T)).heap.size = w.heap.size + 1 by simp] at hz0
 have hc0 := (halloc (w.alloc (.cells (conC z org fmt len blk ap A n C) T)) (.cells dsZ 45) (by simp)).trans (heap_alloc_new w (.cells (conC z org fmt len blk ap A n C) T))
 refine ⟨_, storeDs_at hz0 rfl, (heap_setRow_other' _ _ (lt_of_block hc0) (by omega)).trans hc0, setRow_heap _ _ _ _ _ _ hz0, below_setRow (((Below.refl _ _).alloc (Nat.le_refl _) _).alloc (by simp) _) (by omega) _, by simp⟩
section
attribute [local go_sem ↓] loadDs_down storeDs_down
end
end

end Go.Proofs.YtcefkngblddpoaaGreatDoor
