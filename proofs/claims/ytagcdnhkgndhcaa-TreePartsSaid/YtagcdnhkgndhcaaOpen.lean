/- Arguments that are read, and read again behind a call that leaves the old memory as it was. -/
import Derived.Test.YtagcdnhkgndhcaaTreeG
import Derived.Test.YtagcdnhkgndhcaaPost
import Derived.ReadAgain
import Derived.ChangeBears
import Derived.ChangeSlices
set_option linter.unusedVariables false
set_option linter.unusedSimpArgs false
namespace Go.Proofs.Ytagcdnhkgndhcaa
open Go.ChangeShapes Go.WideShapes Go.RowKit

theorem kidsAll : Kids Try.prog (· < Try.prog.types.size) := kids_rows (by kernel_rfl) (by kernel_rfl)
theorem fullAll : ∀ t e, t < Try.prog.types.size → Try.prog.underlying t = some (.slice e) → 0 < Try.prog.cellsOf e := slices_full_of Try.prog (by kernel_rfl)
theorem trodAll_carry {H : Type} {enc : TypeId × Value → H} {W W' : World} {base : Nat} {spare : Nat → Bool} {held : Bool} : ∀ {ts : List TypeId} {vs : List Value} {ds : List (DataW H)} {ps : List MemPlace}, DataW.TrodAll enc Try.prog W base spare held ts vs ds ps → (∀ p ∈ ps, W.sameAt W' p) → DataW.TrodAll enc Try.prog W' base spare held ts vs ds ps
  | [], [], [], _, h, _ => h
  | _ :: _, _ :: _, _ :: _, _, ⟨p, q, ⟨n, h1⟩, h2, e⟩, hs => ⟨p, q, ⟨n, DataW.trod_carry n _ _ _ h1 (fun x hx => hs x (by rw [e]; exact List.mem_append_left _ hx))⟩, trodAll_carry h2 (fun x hx => hs x (by rw [e]; exact List.mem_append_right _ hx)), e⟩
theorem args_again {H : Type} {enc : TypeId × Value → H} {W W' : World} {ts : List TypeId} {vs : List Value} {ds : List (DataW H)} {ps : List MemPlace} (hA : DataW.TrodAll enc Try.prog W 0 (fun _ => true) true ts vs ds ps) (hT : ∀ t ∈ ts, t < Try.prog.types.size)
    (hb : Below W.heap.size W W') (hlt : ∀ q ∈ ps, q.block < W.heap.size) (sp : Nat → Bool) (hs : ∀ q ∈ ps, sp q.block = true) : DataW.TrodAll enc Try.prog W' 0 sp true ts vs ds ps :=
  DataW.TrodAll.respare kidsAll fullAll hT (trodAll_carry hA (fun p hp => hb.same (hlt p hp))) hs
theorem cells5 : Try.prog.cellsOf 5 = 1 := by kernel_rfl
theorem spot_of_cell {w : World} {a : Addr} {x : Value} (h : w.cell? (a.add 0) = some x) : a.spot = none := by
  have h1 := World.cell?_spot h
  simpa [Addr.add] using h1
/-- A slice of bytes that came in. -/
theorem bytes_open {H : Type} {enc : TypeId × Value → H} {W : World} {v : Value} {d : DataW H} {ps : List MemPlace} (hv : ∃ a n c, v = .slice a n c) (h : DataW.Trod enc Try.prog W 0 (fun _ => true) true 22 v d ps) (hlt : ∀ q ∈ ps, q.block < W.heap.size) :
    ∃ ys, BytesV W W.heap.size v ys := by
  obtain ⟨a0, n0, c0, rfl⟩ := hv
  obtain ⟨fuel, hf⟩ := h
  rcases open_ints Try.underlying22 Try.underlying5 cells5 hf with ⟨hcs, _⟩ | ⟨a, len, cap, zs, hcs, _, hl, hm, hz, hx, hcell, hwz⟩
  · simp [Value.cells] at hcs
    obtain ⟨rfl, rfl, rfl⟩ := hcs
    exact ⟨[], none, 0, 0, 0, rfl, by simp, by simp, by simp, by simp, by simp [nth]⟩
  · simp [Value.cells] at hcs
    obtain ⟨rfl, rfl, rfl⟩ := hcs
    simp only [if_true] at hz
    simp only [Prod.mk.injEq] at hx
    obtain ⟨_, rfl⟩ := hx
    have hk1 : IntKind.u8.min = 0 := rfl
    have hk2 : IntKind.u8.max = 255 := rfl
    have hlen : (zs.take n0).length = n0 := by rw [List.length_take]; omega
    have hnth : ∀ j, j < n0 → nth (zs.take n0) j = zs.getD j 0 := fun j hj => by
      simp [nth, List.getD_eq_getElem?_getD, List.getElem?_take, hj]
    refine ⟨zs.take n0, some a, a.block, a.off, c0, by rw [hlen], ?_, fun h => ?_, fun h => ?_, fun j hj => ?_, fun j => ?_⟩
    · rw [hlen]
      unfold maxLen at hm
      omega
    · have hs := spot_of_cell (hcell 0 (by rw [hlen] at h; omega))
      cases a
      simp_all
    · exact hlt (.cell a.block a.off) (MemPlace.mem_row.2 ⟨0, by rw [hlen] at h; omega, rfl⟩)
    · rw [hlen] at hj
      have hc := hcell j (by omega)
      have hs := spot_of_cell (hcell 0 (by omega))
      rw [hnth j hj, ← hc]
      congr 1
      cases a
      simp only at hs
      subst hs
      exact (add_mk _ _ _).symm
    · by_cases hj : j < n0
      · rw [hnth j hj]
        have hmem : zs.getD j 0 ∈ zs := by
          rw [List.getD_eq_getElem?_getD, List.getElem?_eq_getElem (by omega)]
          exact List.getElem_mem _
        have := hwz _ hmem
        simp only [Lit.wf, Bool.and_eq_true, decide_eq_true_eq] at this
        omega
      · have : nth (zs.take n0) j = 0 := by
          unfold nth
          rw [List.getD_eq_getElem?_getD, List.getElem?_eq_none (by rw [hlen]; omega)]
          rfl
        omega
end Go.Proofs.Ytagcdnhkgndhcaa
