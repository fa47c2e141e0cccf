/- Contracts of functions of the seat, proved in a logic on data over the model (part P8). -/
import Derived.Test.YtlmnablagocfiaaP6
import Derived.Test.YtlmnablagocfiaaP7
import Derived.Test.YtlmnablagocfiaaV22
namespace Go.Proofs.Ytlmnablagocfiaa
open Go.VL Go.RowKit

@[simp] theorem eqT32 : eqT Try.prog 32 = some [.i, .i, .i, .i, .i, .s] := by kernel_rfl
@[simp] theorem bytesOf_nil : bytesOf [] = some [] := rfl
theorem decode_spec (nil : Bool) (b : List UInt8) (hb : nil = true → b = []) (hl : b.length ≤ 140737488355328) : Con Try.prog 9 [.c (.sl nil (b.map u8c))] [.ag (dec b).1.cells, .c (i64 (dec b).2)] := by
  cases b with
  | nil => exact decode_nil nil
  | cons k r =>
    cases nil with
    | true => simp at hb
    | false => exact decode_cons k r hl
theorem rdecode_spec (b : List UInt8) : Con Try.prog 10 [.c (str b)] [.ag (dec b).1.rcells, .c (i64 (dec b).2)] := by
  cases b with
  | nil => exact rdecode_nil
  | cons k r => exact rdecode_cons k r

set_option maxRecDepth 4000 in
set_option maxHeartbeats 4000000 in
theorem writes_spec (e : Ent) (nb : Bool) (b : List UInt8) (ht : e.txn ≤ 9223372036854775807) (hb : nb = true → b = []) (hl : b.length ≤ 140737488355328) : Con Try.prog 3 [.agg e.cells, .c (.sl nb (b.map u8c))] [.c (.v (.bool true))] := by
  refine spec_of Try.func3 rfl (by kernel_rfl) (by simp [Try.f3]) (fun w0 K0 => vc_ok _ _ _ (by kernel_rfl) ?_)
  simp only [Try.f3]
  simp -dsimp [Ent.cells]
  refine VC.mk _ awake_spec ?_
  simp -dsimp
  by_cases h : ck e = 0
  · refine VC.mk _ (encode_ok e ht h) ?_
    simp -dsimp
    refine VC.mk _ (plain_spec e) ?_
    simp -dsimp
    refine VC.mk _ (rencode_ok e ht h) ?_
    simp -dsimp
    have hd := decode_spec nb b hb hl
    have hr := rdecode_spec b
    generalize dec b = d at hd hr
    obtain ⟨y, c⟩ := d
    refine VC.mk _ hd ?_
    simp -dsimp [Ent.cells]
    refine VC.mk _ hr ?_
    simp -dsimp [Ent.rcells]
    refine VL.draw (by kernel_rfl) [(0, false), (1, false), (0, false), (7, true), (15, true), (31, false), (31, false), (127, true), (255, true), (511, true), (1023, false), (2047, false), (1023, false), (8191, true), (16383, true), (32767, true), (65535, false), (131071, false), (65535, false), (524287, true), (1048575, true), (2097151, true), (4194303, false), (4194303, false), (16777215, true), (33554431, true), (67108863, true)] (by kernel_rfl) ?_
    simp -dsimp
    refine VG.mk _ _ (fun _ => check_spec e) rfl ?_
    simp -dsimp
    refine VG.mk _ _ (fun _ => plain_spec y) rfl ?_
    simp -dsimp [Ent.rcells, h]
  · refine VC.mk _ (encode_bad e h) ?_
    simp -dsimp
    refine VC.mk _ (plain_spec e) ?_
    simp -dsimp
    refine VC.mk _ (rencode_bad e h) ?_
    simp -dsimp
    have hd := decode_spec nb b hb hl
    have hr := rdecode_spec b
    generalize dec b = d at hd hr
    obtain ⟨y, c⟩ := d
    refine VC.mk _ hd ?_
    simp -dsimp [Ent.cells]
    refine VC.mk _ hr ?_
    simp -dsimp [Ent.rcells]
    refine VL.draw (by kernel_rfl) [(0, false), (1, false), (0, false), (7, true), (15, true), (31, false), (31, false), (127, true), (255, true), (511, true), (1023, false), (2047, false), (1023, false), (8191, true), (16383, true), (32767, true), (65535, false), (131071, false), (65535, false), (524287, true), (1048575, true), (2097151, true), (4194303, false), (4194303, false), (16777215, true), (33554431, true), (67108863, true)] (by kernel_rfl) ?_
    simp -dsimp
    refine VG.mk _ _ (fun _ => check_spec e) rfl ?_
    simp -dsimp
    refine VG.mk _ _ (fun _ => plain_spec y) rfl ?_
    simp -dsimp [Ent.rcells]
end Go.Proofs.Ytlmnablagocfiaa
