/-
  Maps from strings to strings: the operations; maps.Equal of two that are equal. Conditions: both in memory.
-/
import Derived.Test.YtckpepfkfjdnhaaGreatDoorNMap
import Derived.Test.YtckpepfkfjdnhaaGreatDoorNN
namespace Go.Proofs.YtckpepfkfjdnhaaGreatDoor
open Go.RowKit Go.Sort
open Go.Maps (Keyed)
open Go.ChangeMaps (setBlock heap_setBlock_same heap_setBlock_other map_eraseIdx)

abbrev kS (s : By) : Value := .string ⟨s.toArray⟩
def okS (s : By) : Prop := s.length ≤ 9223372036854775807
theorem uStr : Tryz.prog.underlying 9 = some .string := Tryz.underlying9
theorem keyStr : KeyS Tryz.prog 9 kS okS :=
  ⟨fun h => by simpa [kS] using h, Maps.string_keyed uStr, fun {k} hk => ⟨.string k, by
    have : k.length ≤ maxLen := hk
    unfold Go.keyOf
    rw [uStr]
    simp [mapKey, ByteArray.size, this]⟩⟩
theorem filter_le {α : Type} (l : List α) (p q : α → Bool) (h : ∀ x ∈ l, p x = true → q x = true) : (l.filter p).length ≤ (l.filter q).length := by
  induction l with
  | nil => simp
  | cons a l ih =>
    have i := ih (fun x hx => h x (List.mem_cons_of_mem _ hx))
    rw [List.filter_cons, List.filter_cons]
    have h0 := h a (by simp)
    by_cases hp : p a = true
    · rw [if_pos hp, if_pos (h0 hp)]; simp; exact i
    · rw [if_neg hp]
      by_cases hq : q a = true
      · rw [if_pos hq]; simp; omega
      · rw [if_neg hq]; exact i
theorem filter_lt {α : Type} {l : List α} {p q : α → Bool} (h : ∀ x ∈ l, p x = true → q x = true) {a : α} (ha : a ∈ l) (hq : q a = true) (hp : p a = false) : (l.filter p).length < (l.filter q).length := by
  induction l with
  | nil => simp at ha
  | cons b l ih =>
    rw [List.filter_cons, List.filter_cons]
    rcases List.mem_cons.1 ha with rfl | hm
    · rw [if_neg (by simp [hp]), if_pos hq]
      have := filter_le l p q (fun x hx => h x (List.mem_cons_of_mem _ hx))
      simp; omega
    · have i := ih (fun x hx => h x (List.mem_cons_of_mem _ hx)) hm
      have h0 := h b (by simp)
      by_cases hpb : p b = true
      · rw [if_pos hpb, if_pos (h0 hpb)]; simp; exact i
      · rw [if_neg hpb]
        by_cases hqb : q b = true
        · rw [if_pos hqb]; simp; omega
        · rw [if_neg hqb]; exact i
theorem left_lt {κ ν : Type} [DecidableEq κ] {m : List (κ × ν)} {S : List κ} {k : κ} {v : ν} (hm : (k, v) ∈ m) (hk : k ∉ S) :
    (m.filter (fun p => decide (p.1 ∉ k :: S))).length < (m.filter (fun p => decide (p.1 ∉ S))).length :=
  filter_lt (fun x _ hx => by simp at hx ⊢; exact hx.2) hm (by simpa using hk) (by simp)

section
variable {κ ν : Type}
variable {P : Program} {K T E : TypeId} {kv : κ → Value} {vv : ν → Value} {ok : κ → Prop} {w : World} {b : Nat} {m : List (κ × ν)}
theorem amap_clear (hT : P.underlying T = some (.map K E)) (h : amap w b kv vv ok m) (ty : TypeId) :
    ∃ w', (Builtin.clear_ #[T] ty #[.map (some b)]).run P w = .ok (.tuple #[]) w' ∧ amap w' b kv vv ok [] ∧ w.grownBy w' (some b) ∧ w'.heap.size = w.heap.size := by
  obtain ⟨es, cl, hb, _⟩ := h
  exact ⟨setBlock w b (.map #[] cl), by simp [Builtin.clear_, run_underlying hT, MapKept.run_getObj_map hb, MapKept.run_setObj_map _ hb, Result.andThen, setBlock], ⟨#[], cl, heap_setBlock_same hb _, rfl, by simp, by simp, by simp, by simp⟩, setBlock_grown hb _, setBlock_size _ _ _⟩
theorem amap_len (hT : P.underlying T = some (.map K E)) (h : amap w b kv vv ok m) (ty : TypeId) : (Builtin.len_ #[T] ty #[.map (some b)]).run P w = .ok (.int .i64 m.length) w := by
  obtain ⟨es, cl, hb, h1, _⟩ := h
  have : es.size = m.length := by
    have := congrArg List.length h1
    simpa using this
  rw [← this]
  simp [Builtin.len_, run_underlying hT, MapKept.run_getObj_map hb, goInt]
variable {ops : Array Oper} {rest : List Oper} {o : Oper} {a : Act} {Q : Exit → Act → World → Prop}
theorem wpList_aclear (hg : o.guard = none) (x : Operand) (hop : o.op = Op.call { callee := Callee.builtin Builtin.clear, args := #[x], argTypes := #[T] }) (hT : P.underlying T = some (.map K E)) (h : amap w b kv vv ok m)
    (hx : a.eval x = .map (some b))
    (hK : ∀ w', amap w' b kv vv ok [] → w.grownBy w' (some b) → w'.heap.size = w.heap.size → wpList P ops Q rest (a.put o.dst (.tuple #[])) w') : wpList P ops Q (o :: rest) a w := by
  refine wpList_plain hg fun K' hK' => ?_
  obtain ⟨w', hrun, h1, h2, h3⟩ := amap_clear hT h o.type
  unfold Oper.wp
  simp [execOp, hop, resolve, invoke, builtin, hx, hrun, Result.andThen]
  exact hK' _ _ (hK w' h1 h2 h3)
end

set_option maxRecDepth 100000 in
set_option maxHeartbeats 4000000 in
theorem mequal_any (w : World) (b1 b2 : Nat) (m1 m2 : List Pr) (h1 : amap w b1 kS kS okS m1) (h2 : amap w b2 kS kS okS m2) (hlen : m2.length = m1.length) (hall : ∀ p ∈ m1, alook m2 p.1 = some p.2) :
    Calls Tryz.prog 20 #[.map (some b1), .map (some b2)] w fun e w' => e = .returned (.bool true) ∧ Below w.heap.size w w' := by
  have l1 := fun ty => amap_len Tryz.underlying44 h1 ty
  have l2 := fun ty => amap_len Tryz.underlying44 h2 ty
  rw [hlen] at l2
  have HA := Lib.hid hall
  clear hall hlen
  go_enter Tryz.func20, Tryz.ntmps20
  go_wp2_with (at_range; refine wpList_arange rfl _ rfl Tryz.underlying44 h1 rfl ?_; intro w1 hr1 hg1 hs1)
  go_frame
  go_loopw [16] (fun _ wr => ∃ S, arange wr b1 w.heap.size kS kS okS m1 S ∧ Below w.heap.size w wr) (fun _ wr => wr.rangeLeft b1 w.heap.size)
  case atStart => exact ⟨[], hr1, (Below.refl _ _).grown hg1 (Nat.le_refl _) (fun k hk => by simp at hk)⟩
  case round =>
    clear hr1 hg1 hs1 l1 l2
    obtain ⟨S, hr, hb⟩ := hrel
    go_wp2_with (at_next; refine wpList_anext rfl _ rfl hr rfl ?_ ?_)
    · intro hdone
      have HB := Lib.hid hb
      clear hb hdone
      go_wp2
      go_ret
      exact ⟨rfl, HB.out⟩
    · intro k v w2 hm hz hk hr2 hg2 hs2 hen
      have hb2 : Below w.heap.size w w2 := hb.grown hg2 hb.size (fun k hk => by simp at hk; omega)
      have hm2 := amap_keep (w' := w2) h2 (hb2.block _ (amap_lt h2))
      have HM := Lib.hid hm
      have HZ := Lib.hid hz
      have HR := Lib.hid hr
      have HR2 := Lib.hid hr2
      have HB2 := Lib.hid hb2
      have lk := amap_lookup_ok keyStr Tryz.underlying44 hm2 hk (show (zeroValue 9).run Tryz.prog w2 = .ok (.string ⟨#[]⟩) w2 by go_simp)
      rw [HA.out _ hm] at lk
      simp only [Option.map_some, Option.getD_some, Option.isSome_some] at lk
      clear hm hz hr hr2 hb hb2 hm2 hg2 hs2
      go_wp2_with fail
      go_roundw
      case rel => exact ⟨k :: S, HR2.out, HB2.out⟩
      case measure => rw [arange_left HR.out, arange_left HR2.out]; exact left_lt HM.out HZ.out

end Go.Proofs.YtckpepfkfjdnhaaGreatDoor
