/- law 16: the example of awake, in plain words. -/
import Derived.Test.YtlgjhacmhkbkdaaFew
import Derived.Test.YtlgjhacmhkbkdaaRef15a
namespace Go.Proofs.Ytlgjhacmhkbkdaa
open Go.RowKit

def awH : Hdr := ⟨0, 0, 0, 0, 0, false, false, ⟨#[97, 98, 99, 100]⟩, ⟨#[101, 102, 103, 104]⟩, ⟨#[]⟩⟩
def awY : ByteArray := ⟨#[48, 49, 50, 51, 52, 53, 54, 55, 56, 57, 97, 98, 99, 100, 101, 102]⟩
def awP : ByteArray := ⟨#[69, 0, 0, 36, 0, 0, 0, 0, 0, 0, 41, 70, 97, 98, 99, 100, 101, 102, 103, 104, 48, 49, 50, 51, 52, 53, 54, 55, 56, 57, 97, 98, 99, 100, 101, 102]⟩
def awA : ByteArray := ⟨#[69, 0, 0, 28, 0, 0, 32, 0, 0, 0, 9, 78, 97, 98, 99, 100, 101, 102, 103, 104, 48, 49, 50, 51, 52, 53, 54, 55]⟩
def awB : ByteArray := ⟨#[69, 0, 0, 28, 0, 0, 0, 1, 0, 0, 41, 77, 97, 98, 99, 100, 101, 102, 103, 104, 56, 57, 97, 98, 99, 100, 101, 102]⟩
def awXA : Pc := ⟨{ awH with mf := true }, ⟨#[48, 49, 50, 51, 52, 53, 54, 55]⟩⟩
def awXB : Pc := ⟨{ awH with off := 1 }, ⟨#[56, 57, 97, 98, 99, 100, 101, 102]⟩⟩

theorem aw_put : ip4put awH awY = (awP, 0) := by kernel_rfl
theorem aw_getA : ip4get awA = (awXA.h, awXA.s, 0) := by kernel_rfl
theorem aw_getB : ip4get awB = (awXB.h, awXB.s, 0) := by kernel_rfl
theorem aw_cut : cutR awP 28 = ([awA, awB], 0) := by kernel_rfl
def awK : Key := keyH awH
theorem aw_add1 : addP 64 1048576 [] awB = ([⟨awK, [awXB], false, 0⟩], ⟨#[]⟩, 10) := by kernel_rfl
theorem aw_add2 : addP 64 1048576 [⟨awK, [awXB], false, 0⟩] awA = ([⟨awK, [], true, 0⟩], awP, 0) := by kernel_rfl
theorem aw_add3 : addP 64 1048576 [⟨awK, [], true, 0⟩] awA = ([⟨awK, [], true, 0⟩], ⟨#[]⟩, 12) := by kernel_rfl
end Go.Proofs.Ytlgjhacmhkbkdaa
