/- The program of chapter 24's runs: the table, and what stands in for some of the library's functions. -/
import Derived.Test.YtakgcpmemalmaaaGreatDoorP24Code
import Derived.Test.YtakgcpmemalmaaaGreatDoorVmZzd
namespace Go.Proofs.YtakgcpmemalmaaaGreatDoor
open Go.Vm
set_option maxRecDepth 1000000
theorem ovD : ∀ args h r h',ovl args h=some (r,h')→CSim Tryz.prog 94 args h r h' :=
 ovl_some (fn:=Tryz.f94) (tS:=51) (tR:=4) (e:=69) Tryz.func94 (by kernel_rfl) (by kernel_rfl) (by kernel_rfl) (by kernel_rfl) (by kernel_rfl) (by kernel_rfl)
theorem ovI : ∀ args h r h',ovl args h=some (r,h')→CSim Tryz.prog 191 args h r h' :=
 ovl_some (fn:=Tryz.f191) (tS:=33) (tR:=4) (e:=3) Tryz.func191 (by kernel_rfl) (by kernel_rfl) (by kernel_rfl) (by kernel_rfl) (by kernel_rfl) (by kernel_rfl)
theorem ovB : ∀ args h r h',ovl args h=some (r,h')→CSim Tryz.prog 369 args h r h' :=
 ovl_some (fn:=Tryz.f369) (tS:=125) (tR:=4) (e:=5) Tryz.func369 (by kernel_rfl) (by kernel_rfl) (by kernel_rfl) (by kernel_rfl) (by kernel_rfl) (by kernel_rfl)
theorem ibF : ∀ args h r h',ibs args h=some (r,h')→CSim Tryz.prog 173 args h r h':=ibs_ok (fn:=Tryz.f173) Tryz.func173 (by kernel_rfl) (by kernel_rfl) (by kernel_rfl) (by kernel_rfl)
def Ta : Vm.Prog:=withEnv (withEnv (withEnv (withEnv ⟨table,fun _ => none⟩ 173 ibs) 94 ovl) 191 ovl) 369 ovl
theorem Ta_ok : TabOk Tryz.prog Ta:=withEnv_ok (withEnv_ok (withEnv_ok (withEnv_ok (bare_ok table_ok) ibF) ovD) ovI) ovB
def Tb : Vm.Prog:=withEnv Ta 142 (insV fun a h => arun Ta 1000 142 a h)
theorem Tb_ok : TabOk Tryz.prog Tb:=withEnv_ok Ta_ok (insV_ok (z := .int .i64 0) (bytes:=8) (gv:=191) (gr:=192) Ta_ok rfl rfl rfl (by decide))
def Tc : Vm.Prog:=withEnv Tb 351 (insV fun a h => arun Tb 1000 351 a h)
theorem Tc_ok : TabOk Tryz.prog Tc:=withEnv_ok Tb_ok (insV_ok (z := .int .u8 0) (bytes:=1) (gv:=369) (gr:=370) Tb_ok rfl rfl rfl (by decide))
def Td : Vm.Prog:=withEnv Tc 283 (eqV .u64)
theorem Td_ok : TabOk Tryz.prog Td:=withEnv_ok Tc_ok (eqV_ok Tc_ok (g:=283) rfl rfl .u64)
def T1 : Vm.Prog:=withEnv Td 63 (rK Td 1000 rf63)
theorem T1_ok : TabOk Tryz.prog T1:=withEnv_ok Td_ok (rK_ok Td_ok 1000 (fn:=Tryz.f63) Tryz.func63 kr63)
structure Fits (T : Vm.Prog) : Prop where
 func : T.func=table
 env : ∀ n,n∈[12,44,46,47,86,87,116,124,125,131,176,437,438,441]→T.env n=none
theorem Fits.at {T : Vm.Prog} (k : Fits T) {n : Nat} {fn : AFunc} (h : table n=some fn) : T.func n=some fn:=by rw [k.func]; exact h
theorem fitsA1 : Fits T1:=⟨rfl,fun n h => by
 simp only [List.mem_cons,List.not_mem_nil,or_false] at h
 rcases h with h | h | h | h | h | h | h | h | h | h | h | h | h | h <;> subst h <;> rfl⟩
end Go.Proofs.YtakgcpmemalmaaaGreatDoor
