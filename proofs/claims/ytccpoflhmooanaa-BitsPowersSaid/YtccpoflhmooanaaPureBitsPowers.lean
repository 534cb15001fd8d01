/- BitsPowers: IsPower, Log, Count and Ceil of every number, for every width, are the document's own: no condition. -/
import Derived.Test.YtccpoflhmooanaaNumF
namespace Go.Proofs.Ytccpoflhmooanaa.Pure2
open Go.RowKit Go.Proofs.Ytccpoflhmooanaa.R Go.Proofs.Ytccpoflhmooanaa.NumF
theorem BitsPowers : croftlaw1_BitsPowers.Pure := by
  intro a0 w0
  have b0 := bounds_u64 w0
  obtain ⟨x, rfl⟩ := Int.eq_ofNat_of_zero_le b0.1
  refine ⟨1000, ?_⟩
  have hx : x < 18446744073709551616 := by omega
  unfold croftlaw1_BitsPowers.f
  rw [pow_uint8 1000 x hx (by omega), pow_uint16 1000 x hx (by omega), pow_uint32 1000 x hx (by omega), pow_uint64 1000 x hx (by omega), pow_small 1000 x hx (by omega), pow_wide 1000 x hx (by omega)]
  simp
end Go.Proofs.Ytccpoflhmooanaa.Pure2
