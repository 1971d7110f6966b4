/-
  The reader of a system: what lies where while it reads; its making. No condition.
-/
import Derived.Test.YtbocefnfhnnbjaaN9
namespace Go.Proofs.Ytbocefnfhnnbjaa
open Go.RowKit Go.Sort

/-- The blocks of a pool. -/
def fpO (pb mb : Nat) (oa : Option Addr) : List Nat := pb :: mb :: (oa.map (·.block)).toList
theorem fpO_mem {pb mb : Nat} {oa : Option Addr} {i : Nat} : i ∈ fpO pb mb oa ↔ i = pb ∨ i = mb ∨ ∃ q, oa = some q ∧ i = q.block := by
  unfold fpO; cases oa <;> simp
theorem only_fp {w w' : World} {pb mb : Nat} {oa : Option Addr} (h : Only [pb, mb, obOf w oa] w w') : Only (fpO pb mb oa) w w' := h.mono (fun k hk hl => by
  simp only [List.mem_cons, List.not_mem_nil, or_false] at hk
  rw [fpO_mem]
  rcases hk with rfl | rfl | rfl
  · exact Or.inl rfl
  · exact Or.inr (Or.inl rfl)
  · cases oa with
    | none => simp only [obOf] at hl; omega
    | some q => exact Or.inr (Or.inr ⟨q, rfl, rfl⟩))
theorem new_fp {w : World} {pb mb : Nat} {oa oa' : Option Addr} (h : ∀ q, oa' = some q → q.block = obOf w oa ∨ w.heap.size ≤ q.block) : ∀ i ∈ fpO pb mb oa', i ∈ fpO pb mb oa ∨ w.heap.size ≤ i := fun i hi => by
  rw [fpO_mem] at hi ⊢
  rcases hi with rfl | rfl | ⟨q, hq, rfl⟩
  · exact Or.inl (Or.inl rfl)
  · exact Or.inl (Or.inr (Or.inl rfl))
  · rcases h q hq with e | e
    · cases oa with
      | none => exact Or.inr (by rw [e]; simp only [obOf]; omega)
      | some p => exact Or.inl (Or.inr (Or.inr ⟨p, rfl, e⟩))
    · exact Or.inr e
theorem fp_lt {w : World} {base pb mb : Nat} {oa : Option Addr} {oc : Nat} {cap h m : Int} {M : List (Pl × Ct)} {O : List Pl} (hp : PoolAt w base pb mb oa oc cap h m M O) : ∀ i ∈ fpO pb mb oa, i < w.heap.size := fun i hi => by
  rw [fpO_mem] at hi
  rcases hi with rfl | rfl | ⟨q, rfl, rfl⟩
  · exact lt_of_block hp.blk
  · exact amap_lt hp.pages
  · exact pl_lt hp.ord rfl

theorem PoolAt.away {w w' : World} {base pb mb : Nat} {oa : Option Addr} {oc : Nat} {cap h m : Int} {M : List (Pl × Ct)} {O : List Pl} {S : List Nat} (hp : PoolAt w base pb mb oa oc cap h m M O) (ho : Only S w w') (hs : ∀ i ∈ fpO pb mb oa, i ∉ S) : PoolAt w' base pb mb oa oc cap h m M O :=
  hp.only ho (hs pb (fpO_mem.2 (Or.inl rfl))) (hs mb (fpO_mem.2 (Or.inr (Or.inl rfl)))) (fun q hq => hs _ (fpO_mem.2 (Or.inr (Or.inr ⟨q, hq, rfl⟩))))

/-- A reader: its pool, the directory, the disk, its five boxes. -/
structure RdAt (w : World) (b base pb mb : Nat) (oa : Option Addr) (oc : Nat) (cap h m : Int) (M : List (Pl × Ct)) (O : List Pl) (db rb cb gb : Nat) (c : Int) (R : List (Int × Int)) (C : List ((Int × Int) × Int)) (G : List ((Int × Int × Int) × Unit)) (kb nb : Nat) (fr : TypeId) (D : List ((Int × Int) × Int)) (r s id : Int) : Prop where
  pool : PoolAt w base pb mb oa oc cap h m M O
  dir : Dir w db rb cb gb c R C G
  disk : DiskAt w kb nb fr D r
  b0 : w.heap[b]? = some (.cells #[.pointer (some ⟨pb, 0, none⟩)] 53 (0, 0))
  b1 : w.heap[b + 1]? = some (.cells #[.pointer (some ⟨db, 0, none⟩)] 25 (0, 0))
  b2 : w.heap[b + 2]? = some (.cells #[.int .i64 s] 3 (0, 0))
  b3 : w.heap[b + 3]? = some (.cells #[.int .i64 id] 3 (0, 0))
  b4 : w.heap[b + 4]? = some (.cells #[.iface 64 (.agg #[.int .i64 id, .map (some kb), .pointer (some ⟨nb, 0, none⟩)])] 59 (0, 0))
  pd : ∀ i ∈ fpO pb mb oa, i ∉ [db, rb, cb, gb] ∧ i ∉ [kb, nb] ∧ (i < b ∨ b + 5 ≤ i)
  dd : ∀ i ∈ [db, rb, cb, gb], i ∉ [kb, nb] ∧ i < b
  kd : ∀ i ∈ [kb, nb], i < b
section
variable {w w' : World} {b base pb mb : Nat} {oa : Option Addr} {oc : Nat} {cap h m : Int} {M : List (Pl × Ct)} {O : List Pl} {db rb cb gb : Nat} {c : Int} {R : List (Int × Int)} {C : List ((Int × Int) × Int)} {G : List ((Int × Int × Int) × Unit)} {kb nb : Nat} {fr : TypeId} {D : List ((Int × Int) × Int)} {r s id : Int}
theorem RdAt.below (H : RdAt w b base pb mb oa oc cap h m M O db rb cb gb c R C G kb nb fr D r s id) (hb : Below w.heap.size w w') : RdAt w' b base pb mb oa oc cap h m M O db rb cb gb c R C G kb nb fr D r s id :=
  ⟨H.pool.below hb, H.dir.below hb, H.disk.below hb, heap_below hb (lt_of_block H.b0) H.b0, heap_below hb (lt_of_block H.b1) H.b1, heap_below hb (lt_of_block H.b2) H.b2, heap_below hb (lt_of_block H.b3) H.b3, heap_below hb (lt_of_block H.b4) H.b4, H.pd, H.dd, H.kd⟩
theorem RdAt.poolStep (H : RdAt w b base pb mb oa oc cap h m M O db rb cb gb c R C G kb nb fr D r s id) {oa' : Option Addr} {oc' : Nat} {cap' h' m' : Int} {M' : List (Pl × Ct)} {O' : List Pl} (hp : PoolAt w' base pb mb oa' oc' cap' h' m' M' O') (ho : Only (fpO pb mb oa) w w') (hn : ∀ i ∈ fpO pb mb oa', i ∈ fpO pb mb oa ∨ w.heap.size ≤ i) :
    RdAt w' b base pb mb oa' oc' cap' h' m' M' O' db rb cb gb c R C G kb nb fr D r s id := by
  have hb4 := lt_of_block H.b4
  have hx : ∀ j, j < 5 → b + j ∉ fpO pb mb oa := fun j hj hm => by have := (H.pd _ hm).2.2; omega
  have hD : ∀ i, i ∈ [db, rb, cb, gb] → i ∉ fpO pb mb oa := fun i hi hm => (H.pd _ hm).1 hi
  have hK : ∀ i, i ∈ [kb, nb] → i ∉ fpO pb mb oa := fun i hi hm => (H.pd _ hm).2.1 hi
  refine ⟨hp, H.dir.only ho (hD _ (by simp)) (hD _ (by simp)) (hD _ (by simp)) (hD _ (by simp)), H.disk.only ho (hK _ (by simp)) (hK _ (by simp)), ho.heap H.b0 (hx 0 (by omega)), ho.heap H.b1 (hx 1 (by omega)), ho.heap H.b2 (hx 2 (by omega)), ho.heap H.b3 (hx 3 (by omega)), ho.heap H.b4 (hx 4 (by omega)), fun i hi => ?_, H.dd, H.kd⟩
  rcases hn i hi with e | e
  · exact H.pd i e
  · exact ⟨fun hm => by have := (H.dd i hm).2; omega, fun hm => by have := H.kd i hm; omega, by omega⟩
theorem RdAt.dirStep (H : RdAt w b base pb mb oa oc cap h m M O db rb cb gb c R C G kb nb fr D r s id) {c' : Int} {R' C' G'} (hd : Dir w' db rb cb gb c' R' C' G') (ho : Only [db, rb, cb, gb] w w') :
    RdAt w' b base pb mb oa oc cap h m M O db rb cb gb c' R' C' G' kb nb fr D r s id := by
  have hx : ∀ j, b + j ∉ [db, rb, cb, gb] := fun j hm => by have := (H.dd _ hm).2; omega
  exact ⟨H.pool.away ho (fun i hi => (H.pd i hi).1), hd, H.disk.only ho (fun hm => (H.dd _ hm).1 (by simp)) (fun hm => (H.dd _ hm).1 (by simp)), ho.heap H.b0 (hx 0), ho.heap H.b1 (hx 1), ho.heap H.b2 (hx 2), ho.heap H.b3 (hx 3), ho.heap H.b4 (hx 4), H.pd, H.dd, H.kd⟩
theorem RdAt.diskStep (H : RdAt w b base pb mb oa oc cap h m M O db rb cb gb c R C G kb nb fr D r s id) {D' : List ((Int × Int) × Int)} {r' : Int} (hd : DiskAt w' kb nb fr D' r') (ho : Only [kb, nb] w w') :
    RdAt w' b base pb mb oa oc cap h m M O db rb cb gb c R C G kb nb fr D' r' s id := by
  have hx : ∀ j, b + j ∉ [kb, nb] := fun j hm => by have := H.kd _ hm; omega
  have hD : ∀ i, i ∈ [db, rb, cb, gb] → i ∉ [kb, nb] := fun i hi => (H.dd i hi).1
  exact ⟨H.pool.away ho (fun i hi => (H.pd i hi).2.1), H.dir.only ho (hD _ (by simp)) (hD _ (by simp)) (hD _ (by simp)) (hD _ (by simp)), hd, ho.heap H.b0 (hx 0), ho.heap H.b1 (hx 1), ho.heap H.b2 (hx 2), ho.heap H.b3 (hx 3), ho.heap H.b4 (hx 4), H.pd, H.dd, H.kd⟩
end

theorem five (w : World) (o0 o1 o2 o3 o4 : Obj) : let v := ((((w.alloc o0).alloc o1).alloc o2).alloc o3).alloc o4
    v.heap[w.heap.size]? = some o0 ∧ v.heap[w.heap.size + 1]? = some o1 ∧ v.heap[w.heap.size + 2]? = some o2 ∧ v.heap[w.heap.size + 3]? = some o3 ∧ v.heap[w.heap.size + 4]? = some o4 ∧ Below w.heap.size w v := by
  have s1 : (w.alloc o0).heap.size = w.heap.size + 1 := by simp
  have s2 : ((w.alloc o0).alloc o1).heap.size = w.heap.size + 2 := by simp
  have s3 : (((w.alloc o0).alloc o1).alloc o2).heap.size = w.heap.size + 3 := by simp
  have s4 : ((((w.alloc o0).alloc o1).alloc o2).alloc o3).heap.size = w.heap.size + 4 := by simp
  have h0 := heap_alloc_new w o0
  have h1 := heap_alloc_new (w.alloc o0) o1
  have h2 := heap_alloc_new ((w.alloc o0).alloc o1) o2
  have h3 := heap_alloc_new (((w.alloc o0).alloc o1).alloc o2) o3
  have h4 := heap_alloc_new ((((w.alloc o0).alloc o1).alloc o2).alloc o3) o4
  rw [s1] at h1
  rw [s2] at h2
  rw [s3] at h3
  rw [s4] at h4
  have e3 : ∀ i, i < w.heap.size + 4 → (((((w.alloc o0).alloc o1).alloc o2).alloc o3).alloc o4).heap[i]? = ((((w.alloc o0).alloc o1).alloc o2).alloc o3).heap[i]? := fun i hi => halloc _ _ (by rw [s4]; exact hi)
  have e2 : ∀ i, i < w.heap.size + 3 → ((((w.alloc o0).alloc o1).alloc o2).alloc o3).heap[i]? = (((w.alloc o0).alloc o1).alloc o2).heap[i]? := fun i hi => halloc _ _ (by rw [s3]; exact hi)
  have e1 : ∀ i, i < w.heap.size + 2 → (((w.alloc o0).alloc o1).alloc o2).heap[i]? = ((w.alloc o0).alloc o1).heap[i]? := fun i hi => halloc _ _ (by rw [s2]; exact hi)
  have e0 : ∀ i, i < w.heap.size + 1 → ((w.alloc o0).alloc o1).heap[i]? = (w.alloc o0).heap[i]? := fun i hi => halloc _ _ (by rw [s1]; exact hi)
  refine ⟨?_, ?_, ?_, ?_, h4, ?_⟩
  · rw [e3 _ (by omega), e2 _ (by omega), e1 _ (by omega), e0 _ (by omega)]; exact h0
  · rw [e3 _ (by omega), e2 _ (by omega), e1 _ (by omega)]; exact h1
  · rw [e3 _ (by omega), e2 _ (by omega)]; exact h2
  · rw [e3 _ (by omega)]; exact h3
  · exact ((((((Below.refl _ _).alloc (Nat.le_refl _) _).alloc (by omega) _).alloc (by omega) _).alloc (by omega) _).alloc (by omega) _)
/-- The interface value that Reader hands back. -/
def rdV (b : Nat) : Value := .iface 94 (.func (.func 38) #[] #[.pointer (some ⟨b, 0, none⟩), .pointer (some ⟨b + 3, 0, none⟩), .pointer (some ⟨b + 1, 0, none⟩), .pointer (some ⟨b + 2, 0, none⟩), .pointer (some ⟨b + 4, 0, none⟩)])

set_option maxRecDepth 100000 in
set_option maxHeartbeats 2000000 in
theorem reader_any (w : World) (base pb mb : Nat) (oa : Option Addr) (oc : Nat) (cap h m : Int) (M : List (Pl × Ct)) (O : List Pl) (db rb cb gb : Nat) (c : Int) (R : List (Int × Int)) (C : List ((Int × Int) × Int)) (G : List ((Int × Int × Int) × Unit)) (kb nb : Nat) (fr : TypeId) (D : List ((Int × Int) × Int)) (r s id : Int)
    (hp : PoolAt w base pb mb oa oc cap h m M O) (hd : Dir w db rb cb gb c R C G) (hk : DiskAt w kb nb fr D r) (pd : ∀ i ∈ fpO pb mb oa, i ∉ [db, rb, cb, gb] ∧ i ∉ [kb, nb]) (dd : ∀ i ∈ [db, rb, cb, gb], i ∉ [kb, nb]) :
    Calls Try.prog 26 #[.pointer (some ⟨pb, 0, none⟩), .pointer (some ⟨db, 0, none⟩), .int .i64 s, .int .i64 id, .iface 64 (.agg #[.int .i64 id, .map (some kb), .pointer (some ⟨nb, 0, none⟩)])] w fun e w' =>
      e = .returned (rdV w.heap.size) ∧ RdAt w' w.heap.size base pb mb oa oc cap h m M O db rb cb gb c R C G kb nb fr D r s id ∧ Below w.heap.size w w' := by
  have hmf : ∀ (fn : Fn) (first cap : Array Value) (W : World), (Instr.makeFunc fn first cap).run Try.prog W = .ok (.func fn first cap) W := fun _ _ _ _ => rfl
  have l1 := fp_lt hp
  have l2 : ∀ i ∈ [db, rb, cb, gb], i < w.heap.size := fun i hi => by
    simp only [List.mem_cons, List.not_mem_nil, or_false] at hi
    rcases hi with rfl | rfl | rfl | rfl
    · exact lt_of_block hd.blk
    · exact amap_lt hd.ren
    · exact amap_lt hd.cha
    · exact amap_lt hd.reg
  have l3 : ∀ i ∈ [kb, nb], i < w.heap.size := fun i hi => by
    simp only [List.mem_cons, List.not_mem_nil, or_false] at hi
    rcases hi with rfl | rfl
    · exact amap_lt hk.data
    · exact lt_of_block hk.reads
  unfold rdV
  go_enter Try.func26, Try.ntmps26
  go_wp2_with fail
  go_ret
  obtain ⟨f0, f1, f2, f3, f4, hb⟩ := five w (.cells #[.pointer (some ⟨pb, 0, none⟩)] 53) (.cells #[.pointer (some ⟨db, 0, none⟩)] 25) (.cells #[.int .i64 s] 3) (.cells #[.int .i64 id] 3) (.cells #[.iface 64 (.agg #[.int .i64 id, .map (some kb), .pointer (some ⟨nb, 0, none⟩)])] 59)
  refine ⟨by first | rfl | simp, ?_, hb⟩
  exact ⟨hp.below hb, hd.below hb, hk.below hb, f0, f1, f2, f3, f4, fun i hi => ⟨(pd i hi).1, (pd i hi).2, Or.inl (l1 i hi)⟩, fun i hi => ⟨dd i hi, l2 i hi⟩, l3⟩

end Go.Proofs.Ytbocefnfhnnbjaa
