/- Contracts of functions of the seat, proved in a logic on data over the model (part P11). -/
import Derived.Test.YtlmnablagocfiaaP8
import Derived.Test.YtlmnablagocfiaaP10
namespace Go.Proofs.Ytlmnablagocfiaa
open Go.VL Go.RowKit

set_option maxRecDepth 4000 in
set_option maxHeartbeats 8000000 in
theorem back_spec (e : Ent) (nb : Bool) (b : List UInt8) (ht : e.txn ≤ 9223372036854775807) (hb : nb = true → b = []) (hl : b.length ≤ 140737488355328) : Con Try.prog 4 [.agg e.cells, .c (.sl nb (b.map u8c))] [.c (.v (.bool true))] := by
  refine spec_of Try.func4 rfl (by kernel_rfl) (by simp [Try.f4]) (fun w0 K0 => vc_ok _ _ _ (by kernel_rfl) ?_)
  simp only [Try.f4]
  simp -dsimp [Ent.cells]
  refine VC.mk _ awake_spec ?_
  simp -dsimp
  by_cases h : ck e = 0
  · refine VC.mk _ (encode_ok e ht h) ?_
    simp -dsimp
    obtain ⟨ny, hy⟩ := dec_enc e ht h
    have hl13 := (ck_ok h).2.2.2.2.2.2.2.2.2.2.2.2
    have hle : (enc e).length ≤ 140737488355328 := by
      unfold enc; split <;> (simp [len_putB]; try omega)
    have hd := decode_spec false (enc e) (by simp) hle
    rw [hy] at hd
    refine VC.mk _ hd ?_
    simp -dsimp [Ent.cells]
    refine VL.draw (by kernel_rfl) [(0, true), (1, true), (3, true), (7, true), (15, true), (31, true), (63, false), (127, false), (63, false), (511, true), (1023, true), (2047, true), (4095, true), (8191, true), (16383, true), (32767, true), (65535, true), (131071, true), (262143, true), (524287, true), (1048575, true), (2097151, true)] (by kernel_rfl) ?_
    simp -dsimp
    refine VG.mk _ _ (fun _ => plain_spec ⟨e.kind, e.txn, e.page, e.slot, e.stamp, ny, e.data⟩) rfl ?_
    simp -dsimp
    refine VG.mk _ _ (fun _ => plain_spec e) rfl ?_
    simp -dsimp [Ent.rcells]
    have hd2 := decode_spec nb b hb hl
    by_cases h2 : (dec b).2 = 0
    · obtain ⟨c1, c2, c3⟩ := enc_dec b h2
      generalize dec b = d at hd2 h2 c1 c2 c3
      obtain ⟨z, c⟩ := d
      simp only at h2 c1 c2 c3
      subst h2
      have h3 := encode_ok z c2 c1
      rw [c3] at h3
      refine VC.mk _ hd2 ?_
      simp -dsimp [Ent.cells]
      refine VC.mk _ h3 ?_
      simp -dsimp
    · have hz := dec_bad b h2
      generalize dec b = d at hd2 h2 hz
      obtain ⟨z, c⟩ := d
      simp only at h2 hz
      subst hz
      have hc : (c != 0) = true := by simp [h2]
      refine VC.mk _ hd2 ?_
      simp -dsimp [Ent.cells, zeroE, hc]
      refine VC.mk _ (plain_spec zeroE) ?_
      simp -dsimp [Ent.rcells, zeroE]
  · refine VC.mk _ (encode_bad e h) ?_
    simp -dsimp
    refine VC.mk _ (decode_nil true) ?_
    simp -dsimp [Ent.cells, zeroE]
    refine VL.draw (by kernel_rfl) [(0, true), (1, true), (3, true), (7, true), (15, true), (31, true), (63, false), (127, false), (63, false), (511, true), (1023, true), (2047, true), (4095, true), (8191, true), (16383, true), (32767, true), (65535, true), (131071, true), (262143, true), (524287, true), (1048575, true), (2097151, true)] (by kernel_rfl) ?_
    simp -dsimp
    refine VG.mk [.ag zeroE.rcells] _ (fun hh => by cases hh) rfl ?_
    simp -dsimp
    refine VG.mk [.ag zeroE.rcells] _ (fun hh => by cases hh) rfl ?_
    simp -dsimp [Ent.rcells, zeroE]
    refine VIf.mk (fun hh => absurd (by simpa using hh) h) (fun _ => ?_)
    simp -dsimp
    have hd2 := decode_spec nb b hb hl
    by_cases h2 : (dec b).2 = 0
    · obtain ⟨c1, c2, c3⟩ := enc_dec b h2
      generalize dec b = d at hd2 h2 c1 c2 c3
      obtain ⟨z, c⟩ := d
      simp only at h2 c1 c2 c3
      subst h2
      have h3 := encode_ok z c2 c1
      rw [c3] at h3
      refine VC.mk _ hd2 ?_
      simp -dsimp [Ent.cells]
      refine VC.mk _ h3 ?_
      simp -dsimp
    · have hz := dec_bad b h2
      generalize dec b = d at hd2 h2 hz
      obtain ⟨z, c⟩ := d
      simp only at h2 hz
      subst hz
      have hc : (c != 0) = true := by simp [h2]
      refine VC.mk _ hd2 ?_
      simp -dsimp [Ent.cells, zeroE, hc]
      refine VC.mk _ (plain_spec zeroE) ?_
      simp -dsimp [Ent.rcells, zeroE]
end Go.Proofs.Ytlmnablagocfiaa
