/- What 'known' asks of maps: look-ups and stores in a map of no entry or of one. -/
import Derived.Test.YtdjaphcelpchaaaGreatDoorLawParse
namespace Go.Proofs.YtdjaphcelpchaaaGreatDoor
open Go Go.RowKit Go.Proofs

theorem look_empty (w : World) (M : Nat) (k : ByteArray) (h : w.heap[M]? = some (.map #[] 0)) : (Instr.lookup 102 (.map (some M)) (.string k) false).run Tryz.prog w = .ok (.pointer none) w := by
  have hg : (getObj M).run Tryz.prog w = .ok (.map #[] 0) w := by simp [getObj, Sem.run, h]
  have hu : (underlying 102).run Tryz.prog w = .ok (.map 9 112) w := by kernel_rfl
  unfold Instr.lookup
  rw [Sem.run_bind, hu]
  simp only [Result.andThen_ok, Sem.run_bind, hg]
  show (_ : Result Value) = _
  first | kernel_rfl | rfl
theorem look_one (w : World) (M : Nat) (v : Value) (h : w.heap[M]? = some (.map #[{ key := .string ⟨#[97, 46, 98]⟩, val := v, born := 0 }] 1)) : (Instr.lookup 102 (.map (some M)) (.string ⟨#[97, 46, 98]⟩) false).run Tryz.prog w = .ok v w := by
  have hg : (getObj M).run Tryz.prog w = .ok (.map #[{ key := .string ⟨#[97, 46, 98]⟩, val := v, born := 0 }] 1) w := by simp [getObj, Sem.run, h]
  have hu : (underlying 102).run Tryz.prog w = .ok (.map 9 112) w := by kernel_rfl
  unfold Instr.lookup
  rw [Sem.run_bind, hu]
  simp only [Result.andThen_ok, Sem.run_bind, hg]
  show (_ : Result Value) = _
  first | kernel_rfl | rfl

theorem put_empty (w : World) (M : Nat) (k v : Value) (hk : k = .string ⟨#[97, 46, 98]⟩) (h : w.heap[M]? = some (.map #[] 0)) : (Instr.mapUpdate 102 (.map (some M)) k v).run Tryz.prog w = (setObj M (.map #[{ key := k, val := v, born := 0 }] 1)).run Tryz.prog w := by
  subst hk
  have hg : (getObj M).run Tryz.prog w = .ok (.map #[] 0) w := by simp [getObj, Sem.run, h]
  have hu : (underlying 102).run Tryz.prog w = .ok (.map 9 112) w := by kernel_rfl
  unfold Instr.mapUpdate
  rw [Sem.run_bind, hu]
  simp only [Result.andThen_ok, Sem.run_bind, hg]
  show (_ : Result Unit) = _
  kernel_rfl
theorem put_id_empty (w : World) (M : Nat) (v : Value) (h : w.heap[M]? = some (.map #[] 0)) : (Instr.mapUpdate 113 (.map (some M)) (.agg (encId zeroId).toArray) v).run Tryz.prog w = (setObj M (.map #[{ key := .agg (encId zeroId).toArray, val := v, born := 0 }] 1)).run Tryz.prog w := by
  have hg : (getObj M).run Tryz.prog w = .ok (.map #[] 0) w := by simp [getObj, Sem.run, h]
  have hu : (underlying 113).run Tryz.prog w = .ok (.map 23 3) w := by kernel_rfl
  unfold Instr.mapUpdate
  rw [Sem.run_bind, hu]
  simp only [Result.andThen_ok, Sem.run_bind, hg]
  show (_ : Result Unit) = _
  kernel_rfl

end Go.Proofs.YtdjaphcelpchaaaGreatDoor
