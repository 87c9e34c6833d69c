/- A part of the proof. -/
import Derived.Test.YtinfbclgkghgaaaGreatProg
import Derived.Test.YtinfbclgkghgaaaGreatSnapE
/- The program's types,as the abstract layer wants them. -/
namespace Go.Proofs.YtinfbclgkghgaaaGreat.AL
open Go Go.Proofs
def u0j:V7:=fun t=>match t with
 |1=>some ⟨.func,1,8,[.nilFunc]⟩
 |2=>some ⟨.int .i64,1,8,[(.int .i64 0)]⟩
 |3=>some ⟨.int .i64,1,8,[(.int .i64 0)]⟩
 |4=>some ⟨.bool,1,1,[(.bool false)]⟩
 |5=>some ⟨.int .u8,1,1,[(.int .u8 0)]⟩
 |9=>some ⟨.string,1,16,[(.string ⟨#[]⟩)]⟩
 |12=>some ⟨.int .u64,1,8,[(.int .u64 0)]⟩
 |17=>some ⟨.ptr 255,1,8,[(.pointer none)]⟩
 |21=>some ⟨.int .i32,1,4,[(.int .i32 0)]⟩
 |22=>some ⟨.struct [(0,3),(1,3),(2,3),(3,3)],4,32,[(.int .i64 0),(.int .i64 0),(.int .i64 0),(.int .i64 0)]⟩
 |23=>some ⟨.struct [(0,3),(1,3),(2,3),(3,3)],4,32,[(.int .i64 0),(.int .i64 0),(.int .i64 0),(.int .i64 0)]⟩
 |24=>some ⟨.slice 5,1,24,[(.slice none 0 0)]⟩
 |25=>some ⟨.func,1,8,[.nilFunc]⟩
 |26=>some ⟨.func,1,8,[.nilFunc]⟩
 |27=>some ⟨.int .i64,1,8,[(.int .i64 0)]⟩
 |29=>some ⟨.func,1,8,[.nilFunc]⟩
 |_=>none
def u0k:V7:=fun t=>match t with
 |30=>some ⟨.slice 35,1,24,[(.slice none 0 0)]⟩
 |32=>some ⟨.func,1,8,[.nilFunc]⟩
 |33=>some ⟨.func,1,8,[.nilFunc]⟩
 |34=>some ⟨.struct [(0,3),(1,24)],2,32,[(.int .i64 0),(.slice none 0 0)]⟩
 |35=>some ⟨.struct [(0,3),(1,24)],2,32,[(.int .i64 0),(.slice none 0 0)]⟩
 |36=>some ⟨.func,1,8,[.nilFunc]⟩
 |37=>some ⟨.slice 24,1,24,[(.slice none 0 0)]⟩
 |39=>some ⟨.func,1,8,[.nilFunc]⟩
 |40=>some ⟨.func,1,8,[.nilFunc]⟩
 |41=>some ⟨.func,1,8,[.nilFunc]⟩
 |42=>some ⟨.slice 4,1,24,[(.slice none 0 0)]⟩
 |43=>some ⟨.array 4 5,4,4,[(.int .u8 0),(.int .u8 0),(.int .u8 0),(.int .u8 0)]⟩
 |44=>some ⟨.struct [(0,3),(1,3),(2,3),(3,3),(4,3),(5,43)],9,48,[(.int .i64 0),(.int .i64 0),(.int .i64 0),(.int .i64 0),(.int .i64 0),(.int .u8 0),(.int .u8 0),(.int .u8 0),(.int .u8 0)]⟩
 |45=>some ⟨.struct [(0,3),(1,3),(2,3),(3,3),(4,3),(5,43)],9,48,[(.int .i64 0),(.int .i64 0),(.int .i64 0),(.int .i64 0),(.int .i64 0),(.int .u8 0),(.int .u8 0),(.int .u8 0),(.int .u8 0)]⟩
 |46=>some ⟨.ptr 116,1,8,[(.pointer none)]⟩
 |47=>some ⟨.func,1,8,[.nilFunc]⟩
 |_=>none
def u0m:V7:=fun t=>match t with
 |48=>some ⟨.func,1,8,[.nilFunc]⟩
 |49=>some ⟨.func,1,8,[.nilFunc]⟩
 |51=>some ⟨.func,1,8,[.nilFunc]⟩
 |52=>some ⟨.func,1,8,[.nilFunc]⟩
 |53=>some ⟨.slice 3,1,24,[(.slice none 0 0)]⟩
 |54=>some ⟨.func,1,8,[.nilFunc]⟩
 |55=>some ⟨.func,1,8,[.nilFunc]⟩
 |56=>some ⟨.func,1,8,[.nilFunc]⟩
 |57=>some ⟨.func,1,8,[.nilFunc]⟩
 |58=>some ⟨.func,1,8,[.nilFunc]⟩
 |59=>some ⟨.func,1,8,[.nilFunc]⟩
 |60=>some ⟨.struct [(0,3),(1,3),(2,3),(3,3),(4,3),(5,3),(6,24)],7,72,[(.int .i64 0),(.int .i64 0),(.int .i64 0),(.int .i64 0),(.int .i64 0),(.int .i64 0),(.slice none 0 0)]⟩
 |61=>some ⟨.struct [(0,3),(1,3),(2,3),(3,3),(4,3),(5,3),(6,24)],7,72,[(.int .i64 0),(.int .i64 0),(.int .i64 0),(.int .i64 0),(.int .i64 0),(.int .i64 0),(.slice none 0 0)]⟩
 |62=>some ⟨.func,1,8,[.nilFunc]⟩
 |64=>some ⟨.func,1,8,[.nilFunc]⟩
 |65=>some ⟨.func,1,8,[.nilFunc]⟩
 |_=>none
def u0n:V7:=fun t=>match t with
 |66=>some ⟨.func,1,8,[.nilFunc]⟩
 |67=>some ⟨.func,1,8,[.nilFunc]⟩
 |68=>some ⟨.func,1,8,[.nilFunc]⟩
 |69=>some ⟨.struct [(0,37),(1,3),(2,3),(3,3)],4,48,[(.slice none 0 0),(.int .i64 0),(.int .i64 0),(.int .i64 0)]⟩
 |70=>some ⟨.struct [(0,37),(1,3),(2,3),(3,3)],4,48,[(.slice none 0 0),(.int .i64 0),(.int .i64 0),(.int .i64 0)]⟩
 |72=>some ⟨.func,1,8,[.nilFunc]⟩
 |73=>some ⟨.func,1,8,[.nilFunc]⟩
 |74=>some ⟨.func,1,8,[.nilFunc]⟩
 |75=>some ⟨.ptr 148,1,8,[(.pointer none)]⟩
 |77=>some ⟨.func,1,8,[.nilFunc]⟩
 |79=>some ⟨.func,1,8,[.nilFunc]⟩
 |81=>some ⟨.func,1,8,[.nilFunc]⟩
 |82=>some ⟨.func,1,8,[.nilFunc]⟩
 |83=>some ⟨.func,1,8,[.nilFunc]⟩
 |84=>some ⟨.func,1,8,[.nilFunc]⟩
 |85=>some ⟨.func,1,8,[.nilFunc]⟩
 |_=>none
def u0p:V7:=fun t=>match t with
 |86=>some ⟨.func,1,8,[.nilFunc]⟩
 |87=>some ⟨.func,1,8,[.nilFunc]⟩
 |89=>some ⟨.func,1,8,[.nilFunc]⟩
 |90=>some ⟨.func,1,8,[.nilFunc]⟩
 |91=>some ⟨.slice 37,1,24,[(.slice none 0 0)]⟩
 |92=>some ⟨.func,1,8,[.nilFunc]⟩
 |93=>some ⟨.func,1,8,[.nilFunc]⟩
 |94=>some ⟨.func,1,8,[.nilFunc]⟩
 |95=>some ⟨.func,1,8,[.nilFunc]⟩
 |96=>some ⟨.func,1,8,[.nilFunc]⟩
 |97=>some ⟨.func,1,8,[.nilFunc]⟩
 |98=>some ⟨.func,1,8,[.nilFunc]⟩
 |99=>some ⟨.func,1,8,[.nilFunc]⟩
 |100=>some ⟨.func,1,8,[.nilFunc]⟩
 |101=>some ⟨.struct [(0,3),(1,3),(2,3),(3,3),(4,3),(5,24)],6,64,[(.int .i64 0),(.int .i64 0),(.int .i64 0),(.int .i64 0),(.int .i64 0),(.slice none 0 0)]⟩
 |102=>some ⟨.struct [(0,3),(1,3),(2,3),(3,3),(4,3),(5,24)],6,64,[(.int .i64 0),(.int .i64 0),(.int .i64 0),(.int .i64 0),(.int .i64 0),(.slice none 0 0)]⟩
 |_=>none
def u0q:V7:=fun t=>match t with
 |103=>some ⟨.func,1,8,[.nilFunc]⟩
 |105=>some ⟨.func,1,8,[.nilFunc]⟩
 |106=>some ⟨.func,1,8,[.nilFunc]⟩
 |107=>some ⟨.func,1,8,[.nilFunc]⟩
 |108=>some ⟨.func,1,8,[.nilFunc]⟩
 |109=>some ⟨.func,1,8,[.nilFunc]⟩
 |110=>some ⟨.func,1,8,[.nilFunc]⟩
 |111=>some ⟨.map 3 109,1,8,[(.map none)]⟩
 |112=>some ⟨.func,1,8,[.nilFunc]⟩
 |113=>some ⟨.slice 152,1,24,[(.slice none 0 0)]⟩
 |114=>some ⟨.slice 174,1,24,[(.slice none 0 0)]⟩
 |115=>some ⟨.struct [(0,113),(1,114),(2,4),(3,4),(4,3),(5,3)],6,72,[(.slice none 0 0),(.slice none 0 0),(.bool false),(.bool false),(.int .i64 0),(.int .i64 0)]⟩
 |116=>some ⟨.struct [(0,113),(1,114),(2,4),(3,4),(4,3),(5,3)],6,72,[(.slice none 0 0),(.slice none 0 0),(.bool false),(.bool false),(.int .i64 0),(.int .i64 0)]⟩
 |117=>some ⟨.struct [(0,24)],1,24,[(.slice none 0 0)]⟩
 |118=>some ⟨.struct [(0,24)],1,24,[(.slice none 0 0)]⟩
 |119=>some ⟨.func,1,8,[.nilFunc]⟩
 |_=>none
def u0r:V7:=fun t=>match t with
 |120=>some ⟨.func,1,8,[.nilFunc]⟩
 |121=>some ⟨.func,1,8,[.nilFunc]⟩
 |122=>some ⟨.func,1,8,[.nilFunc]⟩
 |123=>some ⟨.func,1,8,[.nilFunc]⟩
 |124=>some ⟨.ptr 188,1,8,[(.pointer none)]⟩
 |125=>some ⟨.func,1,8,[.nilFunc]⟩
 |126=>some ⟨.ptr 3,1,8,[(.pointer none)]⟩
 |127=>some ⟨.slice 126,1,24,[(.slice none 0 0)]⟩
 |128=>some ⟨.func,1,8,[.nilFunc]⟩
 |129=>some ⟨.func,1,8,[.nilFunc]⟩
 |131=>some ⟨.func,1,8,[.nilFunc]⟩
 |133=>some ⟨.func,1,8,[.nilFunc]⟩
 |134=>some ⟨.ptr 137,1,8,[(.pointer none)]⟩
 |135=>some ⟨.array 2 37,2,48,[(.slice none 0 0),(.slice none 0 0)]⟩
 |136=>some ⟨.struct [(0,3),(1,23),(5,135),(7,61),(14,4),(15,3),(16,4)],17,184,[(.int .i64 0),(.int .i64 0),(.int .i64 0),(.int .i64 0),(.int .i64 0),(.slice none 0 0),(.slice none 0 0),(.int .i64 0),(.int .i64 0),(.int .i64 0),(.int .i64 0),(.int .i64 0),(.int .i64 0),(.slice none 0 0),(.bool false),(.int .i64 0),(.bool false)]⟩
 |137=>some ⟨.struct [(0,3),(1,23),(5,135),(7,61),(14,4),(15,3),(16,4)],17,184,[(.int .i64 0),(.int .i64 0),(.int .i64 0),(.int .i64 0),(.int .i64 0),(.slice none 0 0),(.slice none 0 0),(.int .i64 0),(.int .i64 0),(.int .i64 0),(.int .i64 0),(.int .i64 0),(.int .i64 0),(.slice none 0 0),(.bool false),(.int .i64 0),(.bool false)]⟩
 |_=>none
def u0s:V7:=fun t=>match t with
 |138=>some ⟨.func,1,8,[.nilFunc]⟩
 |139=>some ⟨.func,1,8,[.nilFunc]⟩
 |140=>some ⟨.func,1,8,[.nilFunc]⟩
 |141=>some ⟨.slice 61,1,24,[(.slice none 0 0)]⟩
 |142=>some ⟨.func,1,8,[.nilFunc]⟩
 |143=>some ⟨.func,1,8,[.nilFunc]⟩
 |144=>some ⟨.func,1,8,[.nilFunc]⟩
 |145=>some ⟨.func,1,8,[.nilFunc]⟩
 |146=>some ⟨.func,1,8,[.nilFunc]⟩
 |147=>some ⟨.struct [(0,146),(1,3),(2,23),(6,3),(7,3),(8,3),(9,3),(10,3)],11,88,[.nilFunc,(.int .i64 0),(.int .i64 0),(.int .i64 0),(.int .i64 0),(.int .i64 0),(.int .i64 0),(.int .i64 0),(.int .i64 0),(.int .i64 0),(.int .i64 0)]⟩
 |148=>some ⟨.struct [(0,146),(1,3),(2,23),(6,3),(7,3),(8,3),(9,3),(10,3)],11,88,[.nilFunc,(.int .i64 0),(.int .i64 0),(.int .i64 0),(.int .i64 0),(.int .i64 0),(.int .i64 0),(.int .i64 0),(.int .i64 0),(.int .i64 0),(.int .i64 0)]⟩
 |149=>some ⟨.func,1,8,[.nilFunc]⟩
 |150=>some ⟨.func,1,8,[.nilFunc]⟩
 |151=>some ⟨.struct [(0,24),(1,4),(2,3),(3,53)],4,64,[(.slice none 0 0),(.bool false),(.int .i64 0),(.slice none 0 0)]⟩
 |152=>some ⟨.struct [(0,24),(1,4),(2,3),(3,53)],4,64,[(.slice none 0 0),(.bool false),(.int .i64 0),(.slice none 0 0)]⟩
 |153=>some ⟨.func,1,8,[.nilFunc]⟩
 |_=>none
def u0t:V7:=fun t=>match t with
 |154=>some ⟨.func,1,8,[.nilFunc]⟩
 |155=>some ⟨.func,1,8,[.nilFunc]⟩
 |156=>some ⟨.func,1,8,[.nilFunc]⟩
 |157=>some ⟨.func,1,8,[.nilFunc]⟩
 |158=>some ⟨.func,1,8,[.nilFunc]⟩
 |159=>some ⟨.func,1,8,[.nilFunc]⟩
 |160=>some ⟨.func,1,8,[.nilFunc]⟩
 |161=>some ⟨.func,1,8,[.nilFunc]⟩
 |162=>some ⟨.func,1,8,[.nilFunc]⟩
 |163=>some ⟨.func,1,8,[.nilFunc]⟩
 |164=>some ⟨.func,1,8,[.nilFunc]⟩
 |165=>some ⟨.func,1,8,[.nilFunc]⟩
 |166=>some ⟨.ptr 168,1,8,[(.pointer none)]⟩
 |167=>some ⟨.struct [(0,37),(1,37),(2,3)],3,56,[(.slice none 0 0),(.slice none 0 0),(.int .i64 0)]⟩
 |168=>some ⟨.struct [(0,37),(1,37),(2,3)],3,56,[(.slice none 0 0),(.slice none 0 0),(.int .i64 0)]⟩
 |169=>some ⟨.func,1,8,[.nilFunc]⟩
 |_=>none
def u0u:V7:=fun t=>match t with
 |170=>some ⟨.func,1,8,[.nilFunc]⟩
 |171=>some ⟨.func,1,8,[.nilFunc]⟩
 |172=>some ⟨.ptr 152,1,8,[(.pointer none)]⟩
 |173=>some ⟨.struct [(0,3),(1,24)],2,32,[(.int .i64 0),(.slice none 0 0)]⟩
 |174=>some ⟨.struct [(0,3),(1,24)],2,32,[(.int .i64 0),(.slice none 0 0)]⟩
 |175=>some ⟨.func,1,8,[.nilFunc]⟩
 |176=>some ⟨.func,1,8,[.nilFunc]⟩
 |177=>some ⟨.ptr 179,1,8,[(.pointer none)]⟩
 |178=>some ⟨.struct [(0,46),(1,3)],2,16,[(.pointer none),(.int .i64 0)]⟩
 |179=>some ⟨.struct [(0,46),(1,3)],2,16,[(.pointer none),(.int .i64 0)]⟩
 |180=>some ⟨.func,1,8,[.nilFunc]⟩
 |181=>some ⟨.func,1,8,[.nilFunc]⟩
 |182=>some ⟨.func,1,8,[.nilFunc]⟩
 |183=>some ⟨.func,1,8,[.nilFunc]⟩
 |184=>some ⟨.func,1,8,[.nilFunc]⟩
 |185=>some ⟨.ptr 118,1,8,[(.pointer none)]⟩
 |_=>none
def v3p:V7:=fun t=>match t with
 |186=>some ⟨.func,1,8,[.nilFunc]⟩
 |187=>some ⟨.int .u64,1,8,[(.int .u64 0)]⟩
 |188=>some ⟨.struct [(0,24)],1,24,[(.slice none 0 0)]⟩
 |190=>some ⟨.func,1,8,[.nilFunc]⟩
 |191=>some ⟨.func,1,8,[.nilFunc]⟩
 |193=>some ⟨.func,1,8,[.nilFunc]⟩
 |194=>some ⟨.func,1,8,[.nilFunc]⟩
 |195=>some ⟨.func,1,8,[.nilFunc]⟩
 |196=>some ⟨.func,1,8,[.nilFunc]⟩
 |197=>some ⟨.func,1,8,[.nilFunc]⟩
 |198=>some ⟨.func,1,8,[.nilFunc]⟩
 |199=>some ⟨.ptr 228,1,8,[(.pointer none)]⟩
 |200=>some ⟨.func,1,8,[.nilFunc]⟩
 |201=>some ⟨.func,1,8,[.nilFunc]⟩
 |202=>some ⟨.func,1,8,[.nilFunc]⟩
 |203=>some ⟨.func,1,8,[.nilFunc]⟩
 |_=>none
def v3q:V7:=fun t=>match t with
 |204=>some ⟨.int .u64,1,8,[(.int .u64 0)]⟩
 |205=>some ⟨.func,1,8,[.nilFunc]⟩
 |206=>some ⟨.func,1,8,[.nilFunc]⟩
 |207=>some ⟨.func,1,8,[.nilFunc]⟩
 |209=>some ⟨.func,1,8,[.nilFunc]⟩
 |210=>some ⟨.func,1,8,[.nilFunc]⟩
 |211=>some ⟨.func,1,8,[.nilFunc]⟩
 |213=>some ⟨.func,1,8,[.nilFunc]⟩
 |214=>some ⟨.func,1,8,[.nilFunc]⟩
 |215=>some ⟨.func,1,8,[.nilFunc]⟩
 |216=>some ⟨.func,1,8,[.nilFunc]⟩
 |217=>some ⟨.func,1,8,[.nilFunc]⟩
 |218=>some ⟨.func,1,8,[.nilFunc]⟩
 |219=>some ⟨.func,1,8,[.nilFunc]⟩
 |221=>some ⟨.func,1,8,[.nilFunc]⟩
 |222=>some ⟨.func,1,8,[.nilFunc]⟩
 |_=>none
def v3r:V7:=fun t=>match t with
 |223=>some ⟨.func,1,8,[.nilFunc]⟩
 |224=>some ⟨.func,1,8,[.nilFunc]⟩
 |225=>some ⟨.array 510 5,510,510,(List.replicate 510 (.int .u8 0))⟩
 |226=>some ⟨.array 256 3,256,2048,(List.replicate 256 (.int .i64 0))⟩
 |227=>some ⟨.struct [(0,225),(510,226),(766,4)],767,2568,(List.replicate 510 (.int .u8 0)++List.replicate 256 (.int .i64 0)++[(.bool false)])⟩
 |228=>some ⟨.struct [(0,225),(510,226),(766,4)],767,2568,(List.replicate 510 (.int .u8 0)++List.replicate 256 (.int .i64 0)++[(.bool false)])⟩
 |229=>some ⟨.func,1,8,[.nilFunc]⟩
 |230=>some ⟨.func,1,8,[.nilFunc]⟩
 |231=>some ⟨.func,1,8,[.nilFunc]⟩
 |232=>some ⟨.func,1,8,[.nilFunc]⟩
 |233=>some ⟨.func,1,8,[.nilFunc]⟩
 |234=>some ⟨.func,1,8,[.nilFunc]⟩
 |235=>some ⟨.ptr 241,1,8,[(.pointer none)]⟩
 |236=>some ⟨.func,1,8,[.nilFunc]⟩
 |237=>some ⟨.int .u32,1,4,[(.int .u32 0)]⟩
 |238=>some ⟨.func,1,8,[.nilFunc]⟩
 |_=>none
def v3s:V7:=fun t=>match t with
 |239=>some ⟨.func,1,8,[.nilFunc]⟩
 |240=>some ⟨.array 256 237,256,1024,(List.replicate 256 (.int .u32 0))⟩
 |241=>some ⟨.array 256 237,256,1024,(List.replicate 256 (.int .u32 0))⟩
 |242=>some ⟨.func,1,8,[.nilFunc]⟩
 |250=>some ⟨.func,1,8,[.nilFunc]⟩
 |251=>some ⟨.ptr 5,1,8,[(.pointer none)]⟩
 |254=>some ⟨.struct [(0,12),(1,12),(2,237),(3,248),(4,5),(5,5),(6,249),(7,250),(8,251),(9,252),(10,253)],11,48,[(.int .u64 0),(.int .u64 0),(.int .u32 0),(.int .u8 0),(.int .u8 0),(.int .u8 0),(.int .u8 0),.nilFunc,(.pointer none),(.int .i32 0),(.int .i32 0)]⟩
 |256=>some ⟨.func,1,8,[.nilFunc]⟩
 |_=>none
def tab:V7:=fun t=>cond (Nat.ble t 137) (cond (Nat.ble t 65) (cond (Nat.ble t 29) (u0j t) (cond (Nat.ble t 47) (u0k t) (u0m t))) (cond (Nat.ble t 102) (cond (Nat.ble t 85) (u0n t) (u0p t)) (cond (Nat.ble t 119) (u0q t) (u0r t)))) (cond (Nat.ble t 185) (cond (Nat.ble t 153) (u0s t) (cond (Nat.ble t 169) (u0t t) (u0u t))) (cond (Nat.ble t 222) (cond (Nat.ble t 203) (v3p t) (v3q t)) (cond (Nat.ble t 238) (v3r t) (v3s t))))
theorem q0j {α:Type}{b:Bool}{x y:Option α}{i:α}(h:cond b x y=some i):x=some i∨y=some i:=by cases b;exact .inr h;exact .inl h
theorem ti1:Q2 Tryz.prog 1=some ⟨.func,1,8,[.nilFunc]⟩:=by kernel_rfl
theorem ti2:Q2 Tryz.prog 2=some ⟨.int .i64,1,8,[(.int .i64 0)]⟩:=by kernel_rfl
theorem ti3:Q2 Tryz.prog 3=some ⟨.int .i64,1,8,[(.int .i64 0)]⟩:=by kernel_rfl
theorem ti4:Q2 Tryz.prog 4=some ⟨.bool,1,1,[(.bool false)]⟩:=by kernel_rfl
theorem ti5:Q2 Tryz.prog 5=some ⟨.int .u8,1,1,[(.int .u8 0)]⟩:=by kernel_rfl
theorem ti9:Q2 Tryz.prog 9=some ⟨.string,1,16,[(.string ⟨#[]⟩)]⟩:=by kernel_rfl
theorem u8t:Q2 Tryz.prog 12=some ⟨.int .u64,1,8,[(.int .u64 0)]⟩:=by kernel_rfl
theorem u8u:Q2 Tryz.prog 17=some ⟨.ptr 255,1,8,[(.pointer none)]⟩:=by kernel_rfl
theorem u8v:Q2 Tryz.prog 21=some ⟨.int .i32,1,4,[(.int .i32 0)]⟩:=by kernel_rfl
theorem u8w:Q2 Tryz.prog 22=some ⟨.struct [(0,3),(1,3),(2,3),(3,3)],4,32,[(.int .i64 0),(.int .i64 0),(.int .i64 0),(.int .i64 0)]⟩:=by kernel_rfl
theorem u8x:Q2 Tryz.prog 23=some ⟨.struct [(0,3),(1,3),(2,3),(3,3)],4,32,[(.int .i64 0),(.int .i64 0),(.int .i64 0),(.int .i64 0)]⟩:=by kernel_rfl
theorem u8y:Q2 Tryz.prog 24=some ⟨.slice 5,1,24,[(.slice none 0 0)]⟩:=by kernel_rfl
theorem u9a:Q2 Tryz.prog 25=some ⟨.func,1,8,[.nilFunc]⟩:=by kernel_rfl
theorem u9b:Q2 Tryz.prog 26=some ⟨.func,1,8,[.nilFunc]⟩:=by kernel_rfl
theorem u9c:Q2 Tryz.prog 27=some ⟨.int .i64,1,8,[(.int .i64 0)]⟩:=by kernel_rfl
theorem u9d:Q2 Tryz.prog 29=some ⟨.func,1,8,[.nilFunc]⟩:=by kernel_rfl
theorem u9e:Q2 Tryz.prog 30=some ⟨.slice 35,1,24,[(.slice none 0 0)]⟩:=by kernel_rfl
theorem u9f:Q2 Tryz.prog 32=some ⟨.func,1,8,[.nilFunc]⟩:=by kernel_rfl
theorem u9g:Q2 Tryz.prog 33=some ⟨.func,1,8,[.nilFunc]⟩:=by kernel_rfl
theorem u9h:Q2 Tryz.prog 34=some ⟨.struct [(0,3),(1,24)],2,32,[(.int .i64 0),(.slice none 0 0)]⟩:=by kernel_rfl
theorem u9i:Q2 Tryz.prog 35=some ⟨.struct [(0,3),(1,24)],2,32,[(.int .i64 0),(.slice none 0 0)]⟩:=by kernel_rfl
theorem u9j:Q2 Tryz.prog 36=some ⟨.func,1,8,[.nilFunc]⟩:=by kernel_rfl
theorem u9k:Q2 Tryz.prog 37=some ⟨.slice 24,1,24,[(.slice none 0 0)]⟩:=by kernel_rfl
theorem u9m:Q2 Tryz.prog 39=some ⟨.func,1,8,[.nilFunc]⟩:=by kernel_rfl
theorem u9n:Q2 Tryz.prog 40=some ⟨.func,1,8,[.nilFunc]⟩:=by kernel_rfl
theorem u9p:Q2 Tryz.prog 41=some ⟨.func,1,8,[.nilFunc]⟩:=by kernel_rfl
theorem u9q:Q2 Tryz.prog 42=some ⟨.slice 4,1,24,[(.slice none 0 0)]⟩:=by kernel_rfl
theorem u9r:Q2 Tryz.prog 43=some ⟨.array 4 5,4,4,[(.int .u8 0),(.int .u8 0),(.int .u8 0),(.int .u8 0)]⟩:=by kernel_rfl
theorem u9s:Q2 Tryz.prog 44=some ⟨.struct [(0,3),(1,3),(2,3),(3,3),(4,3),(5,43)],9,48,[(.int .i64 0),(.int .i64 0),(.int .i64 0),(.int .i64 0),(.int .i64 0),(.int .u8 0),(.int .u8 0),(.int .u8 0),(.int .u8 0)]⟩:=by kernel_rfl
theorem u9t:Q2 Tryz.prog 45=some ⟨.struct [(0,3),(1,3),(2,3),(3,3),(4,3),(5,43)],9,48,[(.int .i64 0),(.int .i64 0),(.int .i64 0),(.int .i64 0),(.int .i64 0),(.int .u8 0),(.int .u8 0),(.int .u8 0),(.int .u8 0)]⟩:=by kernel_rfl
theorem u9u:Q2 Tryz.prog 46=some ⟨.ptr 116,1,8,[(.pointer none)]⟩:=by kernel_rfl
theorem u9v:Q2 Tryz.prog 47=some ⟨.func,1,8,[.nilFunc]⟩:=by kernel_rfl
theorem u9w:Q2 Tryz.prog 48=some ⟨.func,1,8,[.nilFunc]⟩:=by kernel_rfl
theorem u9x:Q2 Tryz.prog 49=some ⟨.func,1,8,[.nilFunc]⟩:=by kernel_rfl
theorem u9y:Q2 Tryz.prog 51=some ⟨.func,1,8,[.nilFunc]⟩:=by kernel_rfl
theorem u9z:Q2 Tryz.prog 52=some ⟨.func,1,8,[.nilFunc]⟩:=by kernel_rfl
theorem Q0a:Q2 Tryz.prog 53=some ⟨.slice 3,1,24,[(.slice none 0 0)]⟩:=by kernel_rfl
theorem Q0b:Q2 Tryz.prog 54=some ⟨.func,1,8,[.nilFunc]⟩:=by kernel_rfl
theorem Q0c:Q2 Tryz.prog 55=some ⟨.func,1,8,[.nilFunc]⟩:=by kernel_rfl
theorem Q0d:Q2 Tryz.prog 56=some ⟨.func,1,8,[.nilFunc]⟩:=by kernel_rfl
theorem Q0e:Q2 Tryz.prog 57=some ⟨.func,1,8,[.nilFunc]⟩:=by kernel_rfl
theorem Q0f:Q2 Tryz.prog 58=some ⟨.func,1,8,[.nilFunc]⟩:=by kernel_rfl
theorem Q0g:Q2 Tryz.prog 59=some ⟨.func,1,8,[.nilFunc]⟩:=by kernel_rfl
theorem Q0h:Q2 Tryz.prog 60=some ⟨.struct [(0,3),(1,3),(2,3),(3,3),(4,3),(5,3),(6,24)],7,72,[(.int .i64 0),(.int .i64 0),(.int .i64 0),(.int .i64 0),(.int .i64 0),(.int .i64 0),(.slice none 0 0)]⟩:=by kernel_rfl
theorem Q0i:Q2 Tryz.prog 61=some ⟨.struct [(0,3),(1,3),(2,3),(3,3),(4,3),(5,3),(6,24)],7,72,[(.int .i64 0),(.int .i64 0),(.int .i64 0),(.int .i64 0),(.int .i64 0),(.int .i64 0),(.slice none 0 0)]⟩:=by kernel_rfl
theorem Q0j:Q2 Tryz.prog 62=some ⟨.func,1,8,[.nilFunc]⟩:=by kernel_rfl
theorem Q0k:Q2 Tryz.prog 64=some ⟨.func,1,8,[.nilFunc]⟩:=by kernel_rfl
theorem Q0m:Q2 Tryz.prog 65=some ⟨.func,1,8,[.nilFunc]⟩:=by kernel_rfl
theorem Q0n:Q2 Tryz.prog 66=some ⟨.func,1,8,[.nilFunc]⟩:=by kernel_rfl
theorem Q0p:Q2 Tryz.prog 67=some ⟨.func,1,8,[.nilFunc]⟩:=by kernel_rfl
theorem Q0q:Q2 Tryz.prog 68=some ⟨.func,1,8,[.nilFunc]⟩:=by kernel_rfl
theorem Q0r:Q2 Tryz.prog 69=some ⟨.struct [(0,37),(1,3),(2,3),(3,3)],4,48,[(.slice none 0 0),(.int .i64 0),(.int .i64 0),(.int .i64 0)]⟩:=by kernel_rfl
theorem Q0s:Q2 Tryz.prog 70=some ⟨.struct [(0,37),(1,3),(2,3),(3,3)],4,48,[(.slice none 0 0),(.int .i64 0),(.int .i64 0),(.int .i64 0)]⟩:=by kernel_rfl
theorem Q0t:Q2 Tryz.prog 72=some ⟨.func,1,8,[.nilFunc]⟩:=by kernel_rfl
theorem Q0u:Q2 Tryz.prog 73=some ⟨.func,1,8,[.nilFunc]⟩:=by kernel_rfl
theorem Q0v:Q2 Tryz.prog 74=some ⟨.func,1,8,[.nilFunc]⟩:=by kernel_rfl
theorem Q0w:Q2 Tryz.prog 75=some ⟨.ptr 148,1,8,[(.pointer none)]⟩:=by kernel_rfl
theorem Q0x:Q2 Tryz.prog 77=some ⟨.func,1,8,[.nilFunc]⟩:=by kernel_rfl
theorem Q0y:Q2 Tryz.prog 79=some ⟨.func,1,8,[.nilFunc]⟩:=by kernel_rfl
theorem Q0z:Q2 Tryz.prog 81=some ⟨.func,1,8,[.nilFunc]⟩:=by kernel_rfl
theorem Q1a:Q2 Tryz.prog 82=some ⟨.func,1,8,[.nilFunc]⟩:=by kernel_rfl
theorem Q1b:Q2 Tryz.prog 83=some ⟨.func,1,8,[.nilFunc]⟩:=by kernel_rfl
theorem Q1c:Q2 Tryz.prog 84=some ⟨.func,1,8,[.nilFunc]⟩:=by kernel_rfl
theorem Q1d:Q2 Tryz.prog 85=some ⟨.func,1,8,[.nilFunc]⟩:=by kernel_rfl
theorem Q1e:Q2 Tryz.prog 86=some ⟨.func,1,8,[.nilFunc]⟩:=by kernel_rfl
theorem Q1f:Q2 Tryz.prog 87=some ⟨.func,1,8,[.nilFunc]⟩:=by kernel_rfl
theorem Q1g:Q2 Tryz.prog 89=some ⟨.func,1,8,[.nilFunc]⟩:=by kernel_rfl
theorem Q1h:Q2 Tryz.prog 90=some ⟨.func,1,8,[.nilFunc]⟩:=by kernel_rfl
theorem Q1i:Q2 Tryz.prog 91=some ⟨.slice 37,1,24,[(.slice none 0 0)]⟩:=by kernel_rfl
theorem Q1j:Q2 Tryz.prog 92=some ⟨.func,1,8,[.nilFunc]⟩:=by kernel_rfl
theorem Q1k:Q2 Tryz.prog 93=some ⟨.func,1,8,[.nilFunc]⟩:=by kernel_rfl
theorem Q1m:Q2 Tryz.prog 94=some ⟨.func,1,8,[.nilFunc]⟩:=by kernel_rfl
theorem Q1n:Q2 Tryz.prog 95=some ⟨.func,1,8,[.nilFunc]⟩:=by kernel_rfl
theorem Q1p:Q2 Tryz.prog 96=some ⟨.func,1,8,[.nilFunc]⟩:=by kernel_rfl
theorem Q1q:Q2 Tryz.prog 97=some ⟨.func,1,8,[.nilFunc]⟩:=by kernel_rfl
theorem Q1r:Q2 Tryz.prog 98=some ⟨.func,1,8,[.nilFunc]⟩:=by kernel_rfl
theorem Q1s:Q2 Tryz.prog 99=some ⟨.func,1,8,[.nilFunc]⟩:=by kernel_rfl
theorem u1w:Q2 Tryz.prog 100=some ⟨.func,1,8,[.nilFunc]⟩:=by kernel_rfl
theorem u1x:Q2 Tryz.prog 101=some ⟨.struct [(0,3),(1,3),(2,3),(3,3),(4,3),(5,24)],6,64,[(.int .i64 0),(.int .i64 0),(.int .i64 0),(.int .i64 0),(.int .i64 0),(.slice none 0 0)]⟩:=by kernel_rfl
theorem u1y:Q2 Tryz.prog 102=some ⟨.struct [(0,3),(1,3),(2,3),(3,3),(4,3),(5,24)],6,64,[(.int .i64 0),(.int .i64 0),(.int .i64 0),(.int .i64 0),(.int .i64 0),(.slice none 0 0)]⟩:=by kernel_rfl
theorem u1z:Q2 Tryz.prog 103=some ⟨.func,1,8,[.nilFunc]⟩:=by kernel_rfl
theorem u2a:Q2 Tryz.prog 105=some ⟨.func,1,8,[.nilFunc]⟩:=by kernel_rfl
theorem u2b:Q2 Tryz.prog 106=some ⟨.func,1,8,[.nilFunc]⟩:=by kernel_rfl
theorem u2c:Q2 Tryz.prog 107=some ⟨.func,1,8,[.nilFunc]⟩:=by kernel_rfl
theorem u2d:Q2 Tryz.prog 108=some ⟨.func,1,8,[.nilFunc]⟩:=by kernel_rfl
theorem u2e:Q2 Tryz.prog 109=some ⟨.func,1,8,[.nilFunc]⟩:=by kernel_rfl
theorem u2f:Q2 Tryz.prog 110=some ⟨.func,1,8,[.nilFunc]⟩:=by kernel_rfl
theorem u2g:Q2 Tryz.prog 111=some ⟨.map 3 109,1,8,[(.map none)]⟩:=by kernel_rfl
theorem u2h:Q2 Tryz.prog 112=some ⟨.func,1,8,[.nilFunc]⟩:=by kernel_rfl
theorem u2i:Q2 Tryz.prog 113=some ⟨.slice 152,1,24,[(.slice none 0 0)]⟩:=by kernel_rfl
theorem u2j:Q2 Tryz.prog 114=some ⟨.slice 174,1,24,[(.slice none 0 0)]⟩:=by kernel_rfl
theorem u2k:Q2 Tryz.prog 115=some ⟨.struct [(0,113),(1,114),(2,4),(3,4),(4,3),(5,3)],6,72,[(.slice none 0 0),(.slice none 0 0),(.bool false),(.bool false),(.int .i64 0),(.int .i64 0)]⟩:=by kernel_rfl
theorem u2m:Q2 Tryz.prog 116=some ⟨.struct [(0,113),(1,114),(2,4),(3,4),(4,3),(5,3)],6,72,[(.slice none 0 0),(.slice none 0 0),(.bool false),(.bool false),(.int .i64 0),(.int .i64 0)]⟩:=by kernel_rfl
theorem u2n:Q2 Tryz.prog 117=some ⟨.struct [(0,24)],1,24,[(.slice none 0 0)]⟩:=by kernel_rfl
theorem u2p:Q2 Tryz.prog 118=some ⟨.struct [(0,24)],1,24,[(.slice none 0 0)]⟩:=by kernel_rfl
theorem u2q:Q2 Tryz.prog 119=some ⟨.func,1,8,[.nilFunc]⟩:=by kernel_rfl
theorem u2r:Q2 Tryz.prog 120=some ⟨.func,1,8,[.nilFunc]⟩:=by kernel_rfl
theorem u2s:Q2 Tryz.prog 121=some ⟨.func,1,8,[.nilFunc]⟩:=by kernel_rfl
theorem u2t:Q2 Tryz.prog 122=some ⟨.func,1,8,[.nilFunc]⟩:=by kernel_rfl
theorem u2u:Q2 Tryz.prog 123=some ⟨.func,1,8,[.nilFunc]⟩:=by kernel_rfl
theorem u2v:Q2 Tryz.prog 124=some ⟨.ptr 188,1,8,[(.pointer none)]⟩:=by kernel_rfl
theorem u2w:Q2 Tryz.prog 125=some ⟨.func,1,8,[.nilFunc]⟩:=by kernel_rfl
theorem u2x:Q2 Tryz.prog 126=some ⟨.ptr 3,1,8,[(.pointer none)]⟩:=by kernel_rfl
theorem u2y:Q2 Tryz.prog 127=some ⟨.slice 126,1,24,[(.slice none 0 0)]⟩:=by kernel_rfl
theorem u2z:Q2 Tryz.prog 128=some ⟨.func,1,8,[.nilFunc]⟩:=by kernel_rfl
theorem u3a:Q2 Tryz.prog 129=some ⟨.func,1,8,[.nilFunc]⟩:=by kernel_rfl
theorem u3b:Q2 Tryz.prog 131=some ⟨.func,1,8,[.nilFunc]⟩:=by kernel_rfl
theorem u3c:Q2 Tryz.prog 133=some ⟨.func,1,8,[.nilFunc]⟩:=by kernel_rfl
theorem u3d:Q2 Tryz.prog 134=some ⟨.ptr 137,1,8,[(.pointer none)]⟩:=by kernel_rfl
theorem u3e:Q2 Tryz.prog 135=some ⟨.array 2 37,2,48,[(.slice none 0 0),(.slice none 0 0)]⟩:=by kernel_rfl
theorem u3f:Q2 Tryz.prog 136=some ⟨.struct [(0,3),(1,23),(5,135),(7,61),(14,4),(15,3),(16,4)],17,184,[(.int .i64 0),(.int .i64 0),(.int .i64 0),(.int .i64 0),(.int .i64 0),(.slice none 0 0),(.slice none 0 0),(.int .i64 0),(.int .i64 0),(.int .i64 0),(.int .i64 0),(.int .i64 0),(.int .i64 0),(.slice none 0 0),(.bool false),(.int .i64 0),(.bool false)]⟩:=by kernel_rfl
theorem u3g:Q2 Tryz.prog 137=some ⟨.struct [(0,3),(1,23),(5,135),(7,61),(14,4),(15,3),(16,4)],17,184,[(.int .i64 0),(.int .i64 0),(.int .i64 0),(.int .i64 0),(.int .i64 0),(.slice none 0 0),(.slice none 0 0),(.int .i64 0),(.int .i64 0),(.int .i64 0),(.int .i64 0),(.int .i64 0),(.int .i64 0),(.slice none 0 0),(.bool false),(.int .i64 0),(.bool false)]⟩:=by kernel_rfl
theorem u3h:Q2 Tryz.prog 138=some ⟨.func,1,8,[.nilFunc]⟩:=by kernel_rfl
theorem u3i:Q2 Tryz.prog 139=some ⟨.func,1,8,[.nilFunc]⟩:=by kernel_rfl
theorem u3j:Q2 Tryz.prog 140=some ⟨.func,1,8,[.nilFunc]⟩:=by kernel_rfl
theorem u3k:Q2 Tryz.prog 141=some ⟨.slice 61,1,24,[(.slice none 0 0)]⟩:=by kernel_rfl
theorem u3m:Q2 Tryz.prog 142=some ⟨.func,1,8,[.nilFunc]⟩:=by kernel_rfl
theorem u3n:Q2 Tryz.prog 143=some ⟨.func,1,8,[.nilFunc]⟩:=by kernel_rfl
theorem u3p:Q2 Tryz.prog 144=some ⟨.func,1,8,[.nilFunc]⟩:=by kernel_rfl
theorem u3q:Q2 Tryz.prog 145=some ⟨.func,1,8,[.nilFunc]⟩:=by kernel_rfl
theorem u3r:Q2 Tryz.prog 146=some ⟨.func,1,8,[.nilFunc]⟩:=by kernel_rfl
theorem u3s:Q2 Tryz.prog 147=some ⟨.struct [(0,146),(1,3),(2,23),(6,3),(7,3),(8,3),(9,3),(10,3)],11,88,[.nilFunc,(.int .i64 0),(.int .i64 0),(.int .i64 0),(.int .i64 0),(.int .i64 0),(.int .i64 0),(.int .i64 0),(.int .i64 0),(.int .i64 0),(.int .i64 0)]⟩:=by kernel_rfl
theorem u3t:Q2 Tryz.prog 148=some ⟨.struct [(0,146),(1,3),(2,23),(6,3),(7,3),(8,3),(9,3),(10,3)],11,88,[.nilFunc,(.int .i64 0),(.int .i64 0),(.int .i64 0),(.int .i64 0),(.int .i64 0),(.int .i64 0),(.int .i64 0),(.int .i64 0),(.int .i64 0),(.int .i64 0)]⟩:=by kernel_rfl
theorem u3u:Q2 Tryz.prog 149=some ⟨.func,1,8,[.nilFunc]⟩:=by kernel_rfl
theorem u3v:Q2 Tryz.prog 150=some ⟨.func,1,8,[.nilFunc]⟩:=by kernel_rfl
theorem u3w:Q2 Tryz.prog 151=some ⟨.struct [(0,24),(1,4),(2,3),(3,53)],4,64,[(.slice none 0 0),(.bool false),(.int .i64 0),(.slice none 0 0)]⟩:=by kernel_rfl
theorem u3x:Q2 Tryz.prog 152=some ⟨.struct [(0,24),(1,4),(2,3),(3,53)],4,64,[(.slice none 0 0),(.bool false),(.int .i64 0),(.slice none 0 0)]⟩:=by kernel_rfl
theorem u3y:Q2 Tryz.prog 153=some ⟨.func,1,8,[.nilFunc]⟩:=by kernel_rfl
theorem u3z:Q2 Tryz.prog 154=some ⟨.func,1,8,[.nilFunc]⟩:=by kernel_rfl
theorem u4a:Q2 Tryz.prog 155=some ⟨.func,1,8,[.nilFunc]⟩:=by kernel_rfl
theorem u4b:Q2 Tryz.prog 156=some ⟨.func,1,8,[.nilFunc]⟩:=by kernel_rfl
theorem u4c:Q2 Tryz.prog 157=some ⟨.func,1,8,[.nilFunc]⟩:=by kernel_rfl
theorem u4d:Q2 Tryz.prog 158=some ⟨.func,1,8,[.nilFunc]⟩:=by kernel_rfl
theorem u4e:Q2 Tryz.prog 159=some ⟨.func,1,8,[.nilFunc]⟩:=by kernel_rfl
theorem u4f:Q2 Tryz.prog 160=some ⟨.func,1,8,[.nilFunc]⟩:=by kernel_rfl
theorem u4g:Q2 Tryz.prog 161=some ⟨.func,1,8,[.nilFunc]⟩:=by kernel_rfl
theorem u4h:Q2 Tryz.prog 162=some ⟨.func,1,8,[.nilFunc]⟩:=by kernel_rfl
theorem u4i:Q2 Tryz.prog 163=some ⟨.func,1,8,[.nilFunc]⟩:=by kernel_rfl
theorem u4j:Q2 Tryz.prog 164=some ⟨.func,1,8,[.nilFunc]⟩:=by kernel_rfl
theorem u4k:Q2 Tryz.prog 165=some ⟨.func,1,8,[.nilFunc]⟩:=by kernel_rfl
theorem u4m:Q2 Tryz.prog 166=some ⟨.ptr 168,1,8,[(.pointer none)]⟩:=by kernel_rfl
theorem u4n:Q2 Tryz.prog 167=some ⟨.struct [(0,37),(1,37),(2,3)],3,56,[(.slice none 0 0),(.slice none 0 0),(.int .i64 0)]⟩:=by kernel_rfl
theorem u4p:Q2 Tryz.prog 168=some ⟨.struct [(0,37),(1,37),(2,3)],3,56,[(.slice none 0 0),(.slice none 0 0),(.int .i64 0)]⟩:=by kernel_rfl
theorem u4q:Q2 Tryz.prog 169=some ⟨.func,1,8,[.nilFunc]⟩:=by kernel_rfl
theorem u4r:Q2 Tryz.prog 170=some ⟨.func,1,8,[.nilFunc]⟩:=by kernel_rfl
theorem u4s:Q2 Tryz.prog 171=some ⟨.func,1,8,[.nilFunc]⟩:=by kernel_rfl
theorem u4t:Q2 Tryz.prog 172=some ⟨.ptr 152,1,8,[(.pointer none)]⟩:=by kernel_rfl
theorem u4u:Q2 Tryz.prog 173=some ⟨.struct [(0,3),(1,24)],2,32,[(.int .i64 0),(.slice none 0 0)]⟩:=by kernel_rfl
theorem u4v:Q2 Tryz.prog 174=some ⟨.struct [(0,3),(1,24)],2,32,[(.int .i64 0),(.slice none 0 0)]⟩:=by kernel_rfl
theorem u4w:Q2 Tryz.prog 175=some ⟨.func,1,8,[.nilFunc]⟩:=by kernel_rfl
theorem u4x:Q2 Tryz.prog 176=some ⟨.func,1,8,[.nilFunc]⟩:=by kernel_rfl
theorem u4y:Q2 Tryz.prog 177=some ⟨.ptr 179,1,8,[(.pointer none)]⟩:=by kernel_rfl
theorem u4z:Q2 Tryz.prog 178=some ⟨.struct [(0,46),(1,3)],2,16,[(.pointer none),(.int .i64 0)]⟩:=by kernel_rfl
theorem u5a:Q2 Tryz.prog 179=some ⟨.struct [(0,46),(1,3)],2,16,[(.pointer none),(.int .i64 0)]⟩:=by kernel_rfl
theorem u5b:Q2 Tryz.prog 180=some ⟨.func,1,8,[.nilFunc]⟩:=by kernel_rfl
theorem u5c:Q2 Tryz.prog 181=some ⟨.func,1,8,[.nilFunc]⟩:=by kernel_rfl
theorem u5d:Q2 Tryz.prog 182=some ⟨.func,1,8,[.nilFunc]⟩:=by kernel_rfl
theorem u5e:Q2 Tryz.prog 183=some ⟨.func,1,8,[.nilFunc]⟩:=by kernel_rfl
theorem u5f:Q2 Tryz.prog 184=some ⟨.func,1,8,[.nilFunc]⟩:=by kernel_rfl
theorem u5g:Q2 Tryz.prog 185=some ⟨.ptr 118,1,8,[(.pointer none)]⟩:=by kernel_rfl
theorem u5h:Q2 Tryz.prog 186=some ⟨.func,1,8,[.nilFunc]⟩:=by kernel_rfl
theorem u5i:Q2 Tryz.prog 187=some ⟨.int .u64,1,8,[(.int .u64 0)]⟩:=by kernel_rfl
theorem u5j:Q2 Tryz.prog 188=some ⟨.struct [(0,24)],1,24,[(.slice none 0 0)]⟩:=by kernel_rfl
theorem u5k:Q2 Tryz.prog 190=some ⟨.func,1,8,[.nilFunc]⟩:=by kernel_rfl
theorem u5m:Q2 Tryz.prog 191=some ⟨.func,1,8,[.nilFunc]⟩:=by kernel_rfl
theorem u5n:Q2 Tryz.prog 193=some ⟨.func,1,8,[.nilFunc]⟩:=by kernel_rfl
theorem u5p:Q2 Tryz.prog 194=some ⟨.func,1,8,[.nilFunc]⟩:=by kernel_rfl
theorem u5q:Q2 Tryz.prog 195=some ⟨.func,1,8,[.nilFunc]⟩:=by kernel_rfl
theorem u5r:Q2 Tryz.prog 196=some ⟨.func,1,8,[.nilFunc]⟩:=by kernel_rfl
theorem u5s:Q2 Tryz.prog 197=some ⟨.func,1,8,[.nilFunc]⟩:=by kernel_rfl
theorem u5t:Q2 Tryz.prog 198=some ⟨.func,1,8,[.nilFunc]⟩:=by kernel_rfl
theorem u5u:Q2 Tryz.prog 199=some ⟨.ptr 228,1,8,[(.pointer none)]⟩:=by kernel_rfl
theorem u5v:Q2 Tryz.prog 200=some ⟨.func,1,8,[.nilFunc]⟩:=by kernel_rfl
theorem u5w:Q2 Tryz.prog 201=some ⟨.func,1,8,[.nilFunc]⟩:=by kernel_rfl
theorem u5x:Q2 Tryz.prog 202=some ⟨.func,1,8,[.nilFunc]⟩:=by kernel_rfl
theorem u5y:Q2 Tryz.prog 203=some ⟨.func,1,8,[.nilFunc]⟩:=by kernel_rfl
theorem u5z:Q2 Tryz.prog 204=some ⟨.int .u64,1,8,[(.int .u64 0)]⟩:=by kernel_rfl
theorem u6a:Q2 Tryz.prog 205=some ⟨.func,1,8,[.nilFunc]⟩:=by kernel_rfl
theorem u6b:Q2 Tryz.prog 206=some ⟨.func,1,8,[.nilFunc]⟩:=by kernel_rfl
theorem u6c:Q2 Tryz.prog 207=some ⟨.func,1,8,[.nilFunc]⟩:=by kernel_rfl
theorem u6d:Q2 Tryz.prog 209=some ⟨.func,1,8,[.nilFunc]⟩:=by kernel_rfl
theorem u6e:Q2 Tryz.prog 210=some ⟨.func,1,8,[.nilFunc]⟩:=by kernel_rfl
theorem u6f:Q2 Tryz.prog 211=some ⟨.func,1,8,[.nilFunc]⟩:=by kernel_rfl
theorem u6g:Q2 Tryz.prog 213=some ⟨.func,1,8,[.nilFunc]⟩:=by kernel_rfl
theorem u6h:Q2 Tryz.prog 214=some ⟨.func,1,8,[.nilFunc]⟩:=by kernel_rfl
theorem u6i:Q2 Tryz.prog 215=some ⟨.func,1,8,[.nilFunc]⟩:=by kernel_rfl
theorem u6j:Q2 Tryz.prog 216=some ⟨.func,1,8,[.nilFunc]⟩:=by kernel_rfl
theorem u6k:Q2 Tryz.prog 217=some ⟨.func,1,8,[.nilFunc]⟩:=by kernel_rfl
theorem u6m:Q2 Tryz.prog 218=some ⟨.func,1,8,[.nilFunc]⟩:=by kernel_rfl
theorem u6n:Q2 Tryz.prog 219=some ⟨.func,1,8,[.nilFunc]⟩:=by kernel_rfl
theorem u6p:Q2 Tryz.prog 221=some ⟨.func,1,8,[.nilFunc]⟩:=by kernel_rfl
theorem u6q:Q2 Tryz.prog 222=some ⟨.func,1,8,[.nilFunc]⟩:=by kernel_rfl
theorem u6r:Q2 Tryz.prog 223=some ⟨.func,1,8,[.nilFunc]⟩:=by kernel_rfl
theorem u6s:Q2 Tryz.prog 224=some ⟨.func,1,8,[.nilFunc]⟩:=by kernel_rfl
theorem u6t:Q2 Tryz.prog 225=some ⟨.array 510 5,510,510,(List.replicate 510 (.int .u8 0))⟩:=by kernel_rfl
theorem u6u:Q2 Tryz.prog 226=some ⟨.array 256 3,256,2048,(List.replicate 256 (.int .i64 0))⟩:=by kernel_rfl
theorem u6v:Q2 Tryz.prog 227=some ⟨.struct [(0,225),(510,226),(766,4)],767,2568,(List.replicate 510 (.int .u8 0)++List.replicate 256 (.int .i64 0)++[(.bool false)])⟩:=by kernel_rfl
theorem u6w:Q2 Tryz.prog 228=some ⟨.struct [(0,225),(510,226),(766,4)],767,2568,(List.replicate 510 (.int .u8 0)++List.replicate 256 (.int .i64 0)++[(.bool false)])⟩:=by kernel_rfl
theorem u6x:Q2 Tryz.prog 229=some ⟨.func,1,8,[.nilFunc]⟩:=by kernel_rfl
theorem u6y:Q2 Tryz.prog 230=some ⟨.func,1,8,[.nilFunc]⟩:=by kernel_rfl
theorem u6z:Q2 Tryz.prog 231=some ⟨.func,1,8,[.nilFunc]⟩:=by kernel_rfl
theorem u7a:Q2 Tryz.prog 232=some ⟨.func,1,8,[.nilFunc]⟩:=by kernel_rfl
theorem u7b:Q2 Tryz.prog 233=some ⟨.func,1,8,[.nilFunc]⟩:=by kernel_rfl
theorem u7c:Q2 Tryz.prog 234=some ⟨.func,1,8,[.nilFunc]⟩:=by kernel_rfl
theorem u7d:Q2 Tryz.prog 235=some ⟨.ptr 241,1,8,[(.pointer none)]⟩:=by kernel_rfl
theorem u7e:Q2 Tryz.prog 236=some ⟨.func,1,8,[.nilFunc]⟩:=by kernel_rfl
theorem u7f:Q2 Tryz.prog 237=some ⟨.int .u32,1,4,[(.int .u32 0)]⟩:=by kernel_rfl
theorem u7g:Q2 Tryz.prog 238=some ⟨.func,1,8,[.nilFunc]⟩:=by kernel_rfl
theorem u7h:Q2 Tryz.prog 239=some ⟨.func,1,8,[.nilFunc]⟩:=by kernel_rfl
theorem u7i:Q2 Tryz.prog 240=some ⟨.array 256 237,256,1024,(List.replicate 256 (.int .u32 0))⟩:=by kernel_rfl
theorem u7j:Q2 Tryz.prog 241=some ⟨.array 256 237,256,1024,(List.replicate 256 (.int .u32 0))⟩:=by kernel_rfl
theorem u7k:Q2 Tryz.prog 242=some ⟨.func,1,8,[.nilFunc]⟩:=by kernel_rfl
theorem u7m:Q2 Tryz.prog 250=some ⟨.func,1,8,[.nilFunc]⟩:=by kernel_rfl
theorem u7n:Q2 Tryz.prog 251=some ⟨.ptr 5,1,8,[(.pointer none)]⟩:=by kernel_rfl
theorem u7p:Q2 Tryz.prog 254=some ⟨.struct [(0,12),(1,12),(2,237),(3,248),(4,5),(5,5),(6,249),(7,250),(8,251),(9,252),(10,253)],11,48,[(.int .u64 0),(.int .u64 0),(.int .u32 0),(.int .u8 0),(.int .u8 0),(.int .u8 0),(.int .u8 0),.nilFunc,(.pointer none),(.int .i32 0),(.int .i32 0)]⟩:=by kernel_rfl
theorem u7q:Q2 Tryz.prog 256=some ⟨.func,1,8,[.nilFunc]⟩:=by kernel_rfl
theorem hT0:∀ t i,u0j t=some i→Q2 Tryz.prog t=some i:=by
 intro t i h
 unfold u0j at h
 split at h
 ·obtain rfl:=Option.some.inj h;exact ti1
 ·obtain rfl:=Option.some.inj h;exact ti2
 ·obtain rfl:=Option.some.inj h;exact ti3
 ·obtain rfl:=Option.some.inj h;exact ti4
 ·obtain rfl:=Option.some.inj h;exact ti5
 ·obtain rfl:=Option.some.inj h;exact ti9
 ·obtain rfl:=Option.some.inj h;exact u8t
 ·obtain rfl:=Option.some.inj h;exact u8u
 ·obtain rfl:=Option.some.inj h;exact u8v
 ·obtain rfl:=Option.some.inj h;exact u8w
 ·obtain rfl:=Option.some.inj h;exact u8x
 ·obtain rfl:=Option.some.inj h;exact u8y
 ·obtain rfl:=Option.some.inj h;exact u9a
 ·obtain rfl:=Option.some.inj h;exact u9b
 ·obtain rfl:=Option.some.inj h;exact u9c
 ·obtain rfl:=Option.some.inj h;exact u9d
 ·exact absurd h (by simp)
theorem hT1:∀ t i,u0k t=some i→Q2 Tryz.prog t=some i:=by
 intro t i h
 unfold u0k at h
 split at h
 ·obtain rfl:=Option.some.inj h;exact u9e
 ·obtain rfl:=Option.some.inj h;exact u9f
 ·obtain rfl:=Option.some.inj h;exact u9g
 ·obtain rfl:=Option.some.inj h;exact u9h
 ·obtain rfl:=Option.some.inj h;exact u9i
 ·obtain rfl:=Option.some.inj h;exact u9j
 ·obtain rfl:=Option.some.inj h;exact u9k
 ·obtain rfl:=Option.some.inj h;exact u9m
 ·obtain rfl:=Option.some.inj h;exact u9n
 ·obtain rfl:=Option.some.inj h;exact u9p
 ·obtain rfl:=Option.some.inj h;exact u9q
 ·obtain rfl:=Option.some.inj h;exact u9r
 ·obtain rfl:=Option.some.inj h;exact u9s
 ·obtain rfl:=Option.some.inj h;exact u9t
 ·obtain rfl:=Option.some.inj h;exact u9u
 ·obtain rfl:=Option.some.inj h;exact u9v
 ·exact absurd h (by simp)
theorem hT2:∀ t i,u0m t=some i→Q2 Tryz.prog t=some i:=by
 intro t i h
 unfold u0m at h
 split at h
 ·obtain rfl:=Option.some.inj h;exact u9w
 ·obtain rfl:=Option.some.inj h;exact u9x
 ·obtain rfl:=Option.some.inj h;exact u9y
 ·obtain rfl:=Option.some.inj h;exact u9z
 ·obtain rfl:=Option.some.inj h;exact Q0a
 ·obtain rfl:=Option.some.inj h;exact Q0b
 ·obtain rfl:=Option.some.inj h;exact Q0c
 ·obtain rfl:=Option.some.inj h;exact Q0d
 ·obtain rfl:=Option.some.inj h;exact Q0e
 ·obtain rfl:=Option.some.inj h;exact Q0f
 ·obtain rfl:=Option.some.inj h;exact Q0g
 ·obtain rfl:=Option.some.inj h;exact Q0h
 ·obtain rfl:=Option.some.inj h;exact Q0i
 ·obtain rfl:=Option.some.inj h;exact Q0j
 ·obtain rfl:=Option.some.inj h;exact Q0k
 ·obtain rfl:=Option.some.inj h;exact Q0m
 ·exact absurd h (by simp)
theorem hT3:∀ t i,u0n t=some i→Q2 Tryz.prog t=some i:=by
 intro t i h
 unfold u0n at h
 split at h
 ·obtain rfl:=Option.some.inj h;exact Q0n
 ·obtain rfl:=Option.some.inj h;exact Q0p
 ·obtain rfl:=Option.some.inj h;exact Q0q
 ·obtain rfl:=Option.some.inj h;exact Q0r
 ·obtain rfl:=Option.some.inj h;exact Q0s
 ·obtain rfl:=Option.some.inj h;exact Q0t
 ·obtain rfl:=Option.some.inj h;exact Q0u
 ·obtain rfl:=Option.some.inj h;exact Q0v
 ·obtain rfl:=Option.some.inj h;exact Q0w
 ·obtain rfl:=Option.some.inj h;exact Q0x
 ·obtain rfl:=Option.some.inj h;exact Q0y
 ·obtain rfl:=Option.some.inj h;exact Q0z
 ·obtain rfl:=Option.some.inj h;exact Q1a
 ·obtain rfl:=Option.some.inj h;exact Q1b
 ·obtain rfl:=Option.some.inj h;exact Q1c
 ·obtain rfl:=Option.some.inj h;exact Q1d
 ·exact absurd h (by simp)
theorem hT4:∀ t i,u0p t=some i→Q2 Tryz.prog t=some i:=by
 intro t i h
 unfold u0p at h
 split at h
 ·obtain rfl:=Option.some.inj h;exact Q1e
 ·obtain rfl:=Option.some.inj h;exact Q1f
 ·obtain rfl:=Option.some.inj h;exact Q1g
 ·obtain rfl:=Option.some.inj h;exact Q1h
 ·obtain rfl:=Option.some.inj h;exact Q1i
 ·obtain rfl:=Option.some.inj h;exact Q1j
 ·obtain rfl:=Option.some.inj h;exact Q1k
 ·obtain rfl:=Option.some.inj h;exact Q1m
 ·obtain rfl:=Option.some.inj h;exact Q1n
 ·obtain rfl:=Option.some.inj h;exact Q1p
 ·obtain rfl:=Option.some.inj h;exact Q1q
 ·obtain rfl:=Option.some.inj h;exact Q1r
 ·obtain rfl:=Option.some.inj h;exact Q1s
 ·obtain rfl:=Option.some.inj h;exact u1w
 ·obtain rfl:=Option.some.inj h;exact u1x
 ·obtain rfl:=Option.some.inj h;exact u1y
 ·exact absurd h (by simp)
theorem hT5:∀ t i,u0q t=some i→Q2 Tryz.prog t=some i:=by
 intro t i h
 unfold u0q at h
 split at h
 ·obtain rfl:=Option.some.inj h;exact u1z
 ·obtain rfl:=Option.some.inj h;exact u2a
 ·obtain rfl:=Option.some.inj h;exact u2b
 ·obtain rfl:=Option.some.inj h;exact u2c
 ·obtain rfl:=Option.some.inj h;exact u2d
 ·obtain rfl:=Option.some.inj h;exact u2e
 ·obtain rfl:=Option.some.inj h;exact u2f
 ·obtain rfl:=Option.some.inj h;exact u2g
 ·obtain rfl:=Option.some.inj h;exact u2h
 ·obtain rfl:=Option.some.inj h;exact u2i
 ·obtain rfl:=Option.some.inj h;exact u2j
 ·obtain rfl:=Option.some.inj h;exact u2k
 ·obtain rfl:=Option.some.inj h;exact u2m
 ·obtain rfl:=Option.some.inj h;exact u2n
 ·obtain rfl:=Option.some.inj h;exact u2p
 ·obtain rfl:=Option.some.inj h;exact u2q
 ·exact absurd h (by simp)
theorem hT6:∀ t i,u0r t=some i→Q2 Tryz.prog t=some i:=by
 intro t i h
 unfold u0r at h
 split at h
 ·obtain rfl:=Option.some.inj h;exact u2r
 ·obtain rfl:=Option.some.inj h;exact u2s
 ·obtain rfl:=Option.some.inj h;exact u2t
 ·obtain rfl:=Option.some.inj h;exact u2u
 ·obtain rfl:=Option.some.inj h;exact u2v
 ·obtain rfl:=Option.some.inj h;exact u2w
 ·obtain rfl:=Option.some.inj h;exact u2x
 ·obtain rfl:=Option.some.inj h;exact u2y
 ·obtain rfl:=Option.some.inj h;exact u2z
 ·obtain rfl:=Option.some.inj h;exact u3a
 ·obtain rfl:=Option.some.inj h;exact u3b
 ·obtain rfl:=Option.some.inj h;exact u3c
 ·obtain rfl:=Option.some.inj h;exact u3d
 ·obtain rfl:=Option.some.inj h;exact u3e
 ·obtain rfl:=Option.some.inj h;exact u3f
 ·obtain rfl:=Option.some.inj h;exact u3g
 ·exact absurd h (by simp)
theorem hT7:∀ t i,u0s t=some i→Q2 Tryz.prog t=some i:=by
 intro t i h
 unfold u0s at h
 split at h
 ·obtain rfl:=Option.some.inj h;exact u3h
 ·obtain rfl:=Option.some.inj h;exact u3i
 ·obtain rfl:=Option.some.inj h;exact u3j
 ·obtain rfl:=Option.some.inj h;exact u3k
 ·obtain rfl:=Option.some.inj h;exact u3m
 ·obtain rfl:=Option.some.inj h;exact u3n
 ·obtain rfl:=Option.some.inj h;exact u3p
 ·obtain rfl:=Option.some.inj h;exact u3q
 ·obtain rfl:=Option.some.inj h;exact u3r
 ·obtain rfl:=Option.some.inj h;exact u3s
 ·obtain rfl:=Option.some.inj h;exact u3t
 ·obtain rfl:=Option.some.inj h;exact u3u
 ·obtain rfl:=Option.some.inj h;exact u3v
 ·obtain rfl:=Option.some.inj h;exact u3w
 ·obtain rfl:=Option.some.inj h;exact u3x
 ·obtain rfl:=Option.some.inj h;exact u3y
 ·exact absurd h (by simp)
theorem hT8:∀ t i,u0t t=some i→Q2 Tryz.prog t=some i:=by
 intro t i h
 unfold u0t at h
 split at h
 ·obtain rfl:=Option.some.inj h;exact u3z
 ·obtain rfl:=Option.some.inj h;exact u4a
 ·obtain rfl:=Option.some.inj h;exact u4b
 ·obtain rfl:=Option.some.inj h;exact u4c
 ·obtain rfl:=Option.some.inj h;exact u4d
 ·obtain rfl:=Option.some.inj h;exact u4e
 ·obtain rfl:=Option.some.inj h;exact u4f
 ·obtain rfl:=Option.some.inj h;exact u4g
 ·obtain rfl:=Option.some.inj h;exact u4h
 ·obtain rfl:=Option.some.inj h;exact u4i
 ·obtain rfl:=Option.some.inj h;exact u4j
 ·obtain rfl:=Option.some.inj h;exact u4k
 ·obtain rfl:=Option.some.inj h;exact u4m
 ·obtain rfl:=Option.some.inj h;exact u4n
 ·obtain rfl:=Option.some.inj h;exact u4p
 ·obtain rfl:=Option.some.inj h;exact u4q
 ·exact absurd h (by simp)
theorem hT9:∀ t i,u0u t=some i→Q2 Tryz.prog t=some i:=by
 intro t i h
 unfold u0u at h
 split at h
 ·obtain rfl:=Option.some.inj h;exact u4r
 ·obtain rfl:=Option.some.inj h;exact u4s
 ·obtain rfl:=Option.some.inj h;exact u4t
 ·obtain rfl:=Option.some.inj h;exact u4u
 ·obtain rfl:=Option.some.inj h;exact u4v
 ·obtain rfl:=Option.some.inj h;exact u4w
 ·obtain rfl:=Option.some.inj h;exact u4x
 ·obtain rfl:=Option.some.inj h;exact u4y
 ·obtain rfl:=Option.some.inj h;exact u4z
 ·obtain rfl:=Option.some.inj h;exact u5a
 ·obtain rfl:=Option.some.inj h;exact u5b
 ·obtain rfl:=Option.some.inj h;exact u5c
 ·obtain rfl:=Option.some.inj h;exact u5d
 ·obtain rfl:=Option.some.inj h;exact u5e
 ·obtain rfl:=Option.some.inj h;exact u5f
 ·obtain rfl:=Option.some.inj h;exact u5g
 ·exact absurd h (by simp)
theorem Q1t:∀ t i,v3p t=some i→Q2 Tryz.prog t=some i:=by
 intro t i h
 unfold v3p at h
 split at h
 ·obtain rfl:=Option.some.inj h;exact u5h
 ·obtain rfl:=Option.some.inj h;exact u5i
 ·obtain rfl:=Option.some.inj h;exact u5j
 ·obtain rfl:=Option.some.inj h;exact u5k
 ·obtain rfl:=Option.some.inj h;exact u5m
 ·obtain rfl:=Option.some.inj h;exact u5n
 ·obtain rfl:=Option.some.inj h;exact u5p
 ·obtain rfl:=Option.some.inj h;exact u5q
 ·obtain rfl:=Option.some.inj h;exact u5r
 ·obtain rfl:=Option.some.inj h;exact u5s
 ·obtain rfl:=Option.some.inj h;exact u5t
 ·obtain rfl:=Option.some.inj h;exact u5u
 ·obtain rfl:=Option.some.inj h;exact u5v
 ·obtain rfl:=Option.some.inj h;exact u5w
 ·obtain rfl:=Option.some.inj h;exact u5x
 ·obtain rfl:=Option.some.inj h;exact u5y
 ·exact absurd h (by simp)
theorem Q1u:∀ t i,v3q t=some i→Q2 Tryz.prog t=some i:=by
 intro t i h
 unfold v3q at h
 split at h
 ·obtain rfl:=Option.some.inj h;exact u5z
 ·obtain rfl:=Option.some.inj h;exact u6a
 ·obtain rfl:=Option.some.inj h;exact u6b
 ·obtain rfl:=Option.some.inj h;exact u6c
 ·obtain rfl:=Option.some.inj h;exact u6d
 ·obtain rfl:=Option.some.inj h;exact u6e
 ·obtain rfl:=Option.some.inj h;exact u6f
 ·obtain rfl:=Option.some.inj h;exact u6g
 ·obtain rfl:=Option.some.inj h;exact u6h
 ·obtain rfl:=Option.some.inj h;exact u6i
 ·obtain rfl:=Option.some.inj h;exact u6j
 ·obtain rfl:=Option.some.inj h;exact u6k
 ·obtain rfl:=Option.some.inj h;exact u6m
 ·obtain rfl:=Option.some.inj h;exact u6n
 ·obtain rfl:=Option.some.inj h;exact u6p
 ·obtain rfl:=Option.some.inj h;exact u6q
 ·exact absurd h (by simp)
theorem Q1v:∀ t i,v3r t=some i→Q2 Tryz.prog t=some i:=by
 intro t i h
 unfold v3r at h
 split at h
 ·obtain rfl:=Option.some.inj h;exact u6r
 ·obtain rfl:=Option.some.inj h;exact u6s
 ·obtain rfl:=Option.some.inj h;exact u6t
 ·obtain rfl:=Option.some.inj h;exact u6u
 ·obtain rfl:=Option.some.inj h;exact u6v
 ·obtain rfl:=Option.some.inj h;exact u6w
 ·obtain rfl:=Option.some.inj h;exact u6x
 ·obtain rfl:=Option.some.inj h;exact u6y
 ·obtain rfl:=Option.some.inj h;exact u6z
 ·obtain rfl:=Option.some.inj h;exact u7a
 ·obtain rfl:=Option.some.inj h;exact u7b
 ·obtain rfl:=Option.some.inj h;exact u7c
 ·obtain rfl:=Option.some.inj h;exact u7d
 ·obtain rfl:=Option.some.inj h;exact u7e
 ·obtain rfl:=Option.some.inj h;exact u7f
 ·obtain rfl:=Option.some.inj h;exact u7g
 ·exact absurd h (by simp)
theorem Q1w:∀ t i,v3s t=some i→Q2 Tryz.prog t=some i:=by
 intro t i h
 unfold v3s at h
 split at h
 ·obtain rfl:=Option.some.inj h;exact u7h
 ·obtain rfl:=Option.some.inj h;exact u7i
 ·obtain rfl:=Option.some.inj h;exact u7j
 ·obtain rfl:=Option.some.inj h;exact u7k
 ·obtain rfl:=Option.some.inj h;exact u7m
 ·obtain rfl:=Option.some.inj h;exact u7n
 ·obtain rfl:=Option.some.inj h;exact u7p
 ·obtain rfl:=Option.some.inj h;exact u7q
 ·exact absurd h (by simp)
theorem hT:TOk Tryz.prog tab:=by
 intro t i h
 unfold tab at h
 rcases q0j h with h|h
 ·rcases q0j h with h|h
  ·rcases q0j h with h|h
   ·exact hT0 t i h
   ·rcases q0j h with h|h
    ·exact hT1 t i h
    ·exact hT2 t i h
  ·rcases q0j h with h|h
   ·rcases q0j h with h|h
    ·exact hT3 t i h
    ·exact hT4 t i h
   ·rcases q0j h with h|h
    ·exact hT5 t i h
    ·exact hT6 t i h
 ·rcases q0j h with h|h
  ·rcases q0j h with h|h
   ·exact hT7 t i h
   ·rcases q0j h with h|h
    ·exact hT8 t i h
    ·exact hT9 t i h
  ·rcases q0j h with h|h
   ·rcases q0j h with h|h
    ·exact Q1t t i h
    ·exact Q1u t i h
   ·rcases q0j h with h|h
    ·exact Q1v t i h
    ·exact Q1w t i h
theorem z8:Tryz.prog.follows .mixedOrders=true:=by kernel_rfl
abbrev z8y:FuncId:=5
theorem z8z:type_of% Tryz.func5:=Tryz.func5
theorem z9a:type_of% Tryz.ntmps5:=Tryz.ntmps5
abbrev z5y:FuncId:=6
theorem z5z:type_of% Tryz.func6:=Tryz.func6
theorem z6a:type_of% Tryz.ntmps6:=Tryz.ntmps6
abbrev z9b:FuncId:=7
theorem z9c:type_of% Tryz.func7:=Tryz.func7
theorem z9d:type_of% Tryz.ntmps7:=Tryz.ntmps7
abbrev y1k:FuncId:=8
theorem y1m:type_of% Tryz.func8:=Tryz.func8
theorem y1n:type_of% Tryz.ntmps8:=Tryz.ntmps8
abbrev y8j:FuncId:=17
theorem y8k:type_of% Tryz.func17:=Tryz.func17
theorem y8m:type_of% Tryz.ntmps17:=Tryz.ntmps17
abbrev y8n:FuncId:=18
theorem y8p:type_of% Tryz.func18:=Tryz.func18
theorem y8q:type_of% Tryz.ntmps18:=Tryz.ntmps18
abbrev x3x:FuncId:=19
theorem x3y:type_of% Tryz.func19:=Tryz.func19
theorem x3z:type_of% Tryz.ntmps19:=Tryz.ntmps19
abbrev y8r:FuncId:=20
theorem y8s:type_of% Tryz.func20:=Tryz.func20
theorem y8t:type_of% Tryz.ntmps20:=Tryz.ntmps20
abbrev x7j:FuncId:=21
theorem x7k:type_of% Tryz.func21:=Tryz.func21
theorem x7m:type_of% Tryz.ntmps21:=Tryz.ntmps21
abbrev x4a:FuncId:=23
theorem x4b:type_of% Tryz.func23:=Tryz.func23
theorem x4c:type_of% Tryz.ntmps23:=Tryz.ntmps23
abbrev y8u:FuncId:=24
theorem y8v:type_of% Tryz.func24:=Tryz.func24
theorem y8w:type_of% Tryz.ntmps24:=Tryz.ntmps24
abbrev z4f:FuncId:=27
theorem z4g:type_of% Tryz.func27:=Tryz.func27
theorem z4h:type_of% Tryz.ntmps27:=Tryz.ntmps27
abbrev z6b:FuncId:=28
theorem x4d:type_of% Tryz.func28:=Tryz.func28
theorem x4e:type_of% Tryz.ntmps28:=Tryz.ntmps28
abbrev q7s:FuncId:=29
theorem z6c:type_of% Tryz.func29:=Tryz.func29
theorem z6d:type_of% Tryz.ntmps29:=Tryz.ntmps29
abbrev y0y:FuncId:=30
theorem y0z:type_of% Tryz.func30:=Tryz.func30
theorem y1a:type_of% Tryz.ntmps30:=Tryz.ntmps30
abbrev x7n:FuncId:=31
theorem x7p:type_of% Tryz.func31:=Tryz.func31
theorem x7q:type_of% Tryz.ntmps31:=Tryz.ntmps31
abbrev y4v:FuncId:=32
theorem y4w:type_of% Tryz.func32:=Tryz.func32
theorem y4x:type_of% Tryz.ntmps32:=Tryz.ntmps32
abbrev y1p:FuncId:=33
theorem y1q:type_of% Tryz.func33:=Tryz.func33
theorem y1r:type_of% Tryz.ntmps33:=Tryz.ntmps33
abbrev y1s:FuncId:=34
theorem y1t:type_of% Tryz.func34:=Tryz.func34
theorem y1u:type_of% Tryz.ntmps34:=Tryz.ntmps34
abbrev z6e:FuncId:=35
theorem z6f:type_of% Tryz.func35:=Tryz.func35
theorem z6g:type_of% Tryz.ntmps35:=Tryz.ntmps35
abbrev w2p:FuncId:=57
theorem w2q:type_of% Tryz.func57:=Tryz.func57
theorem w2r:type_of% Tryz.ntmps57:=Tryz.ntmps57
abbrev w7x:FuncId:=58
theorem w7y:type_of% Tryz.func58:=Tryz.func58
theorem w7z:type_of% Tryz.ntmps58:=Tryz.ntmps58
abbrev y8x:FuncId:=59
theorem y8y:type_of% Tryz.func59:=Tryz.func59
theorem y8z:type_of% Tryz.ntmps59:=Tryz.ntmps59
abbrev x7r:FuncId:=60
theorem x7s:type_of% Tryz.func60:=Tryz.func60
theorem x7t:type_of% Tryz.ntmps60:=Tryz.ntmps60
abbrev w2s:FuncId:=61
theorem w2t:type_of% Tryz.func61:=Tryz.func61
theorem w2u:type_of% Tryz.ntmps61:=Tryz.ntmps61
abbrev y9a:FuncId:=62
theorem y9b:type_of% Tryz.func62:=Tryz.func62
theorem y9c:type_of% Tryz.ntmps62:=Tryz.ntmps62
abbrev x7u:FuncId:=63
theorem x7v:type_of% Tryz.func63:=Tryz.func63
theorem x7w:type_of% Tryz.ntmps63:=Tryz.ntmps63
abbrev z6h:FuncId:=64
theorem q9x:type_of% Tryz.func64:=Tryz.func64
theorem q9y:type_of% Tryz.ntmps64:=Tryz.ntmps64
abbrev z6i:FuncId:=67
theorem q9z:type_of% Tryz.func67:=Tryz.func67
theorem z0a:type_of% Tryz.ntmps67:=Tryz.ntmps67
abbrev x4f:FuncId:=68
theorem x4g:type_of% Tryz.func68:=Tryz.func68
theorem x4h:type_of% Tryz.ntmps68:=Tryz.ntmps68
abbrev x7x:FuncId:=69
theorem x7y:type_of% Tryz.func69:=Tryz.func69
theorem x7z:type_of% Tryz.ntmps69:=Tryz.ntmps69
abbrev q7t:FuncId:=72
theorem z6j:type_of% Tryz.func72:=Tryz.func72
theorem z6k:type_of% Tryz.ntmps72:=Tryz.ntmps72
abbrev z6m:FuncId:=73
theorem z6n:type_of% Tryz.func73:=Tryz.func73
theorem z6p:type_of% Tryz.ntmps73:=Tryz.ntmps73
abbrev w2v:FuncId:=74
theorem w2w:type_of% Tryz.func74:=Tryz.func74
theorem w2x:type_of% Tryz.ntmps74:=Tryz.ntmps74
abbrev y1v:FuncId:=75
theorem y1w:type_of% Tryz.func75:=Tryz.func75
theorem y1x:type_of% Tryz.ntmps75:=Tryz.ntmps75
abbrev y1y:FuncId:=76
theorem y1z:type_of% Tryz.func76:=Tryz.func76
theorem y2a:type_of% Tryz.ntmps76:=Tryz.ntmps76
abbrev z6q:FuncId:=77
theorem z6r:type_of% Tryz.func77:=Tryz.func77
theorem z6s:type_of% Tryz.ntmps77:=Tryz.ntmps77
abbrev z9e:FuncId:=78
theorem z9f:type_of% Tryz.func78:=Tryz.func78
theorem z9g:type_of% Tryz.ntmps78:=Tryz.ntmps78
abbrev z9h:FuncId:=79
theorem z9i:type_of% Tryz.func79:=Tryz.func79
theorem z9j:type_of% Tryz.ntmps79:=Tryz.ntmps79
abbrev z9k:FuncId:=80
theorem z9m:type_of% Tryz.func80:=Tryz.func80
theorem z9n:type_of% Tryz.ntmps80:=Tryz.ntmps80
abbrev q8t:FuncId:=81
theorem q8u:type_of% Tryz.func81:=Tryz.func81
theorem q8v:type_of% Tryz.ntmps81:=Tryz.ntmps81
abbrev q8w:FuncId:=82
theorem z9p:type_of% Tryz.func82:=Tryz.func82
theorem z9q:type_of% Tryz.ntmps82:=Tryz.ntmps82
abbrev z6t:FuncId:=83
theorem z6u:type_of% Tryz.func83:=Tryz.func83
theorem z6v:type_of% Tryz.ntmps83:=Tryz.ntmps83
abbrev y9d:FuncId:=95
theorem y9e:type_of% Tryz.func95:=Tryz.func95
theorem y9f:type_of% Tryz.ntmps95:=Tryz.ntmps95
abbrev x8a:FuncId:=101
theorem x8b:type_of% Tryz.func101:=Tryz.func101
theorem x8c:type_of% Tryz.ntmps101:=Tryz.ntmps101
abbrev v3t:FuncId:=106
theorem v3u:type_of% Tryz.func106:=Tryz.func106
theorem v3v:type_of% Tryz.ntmps106:=Tryz.ntmps106
abbrev y9g:FuncId:=107
theorem y9h:type_of% Tryz.func107:=Tryz.func107
theorem y9i:type_of% Tryz.ntmps107:=Tryz.ntmps107
abbrev x4i:FuncId:=108
theorem x4j:type_of% Tryz.func108:=Tryz.func108
theorem x4k:type_of% Tryz.ntmps108:=Tryz.ntmps108
abbrev w8a:FuncId:=109
theorem w8b:type_of% Tryz.func109:=Tryz.func109
theorem w8c:type_of% Tryz.ntmps109:=Tryz.ntmps109
abbrev z6w:FuncId:=112
theorem z6x:type_of% Tryz.func112:=Tryz.func112
theorem z6y:type_of% Tryz.ntmps112:=Tryz.ntmps112
abbrev y4y:FuncId:=113
theorem y4z:type_of% Tryz.func113:=Tryz.func113
theorem y5a:type_of% Tryz.ntmps113:=Tryz.ntmps113
abbrev q1q:FuncId:=114
theorem y2b:type_of% Tryz.func114:=Tryz.func114
theorem y2c:type_of% Tryz.ntmps114:=Tryz.ntmps114
abbrev x8d:FuncId:=115
theorem x8e:type_of% Tryz.func115:=Tryz.func115
theorem x8f:type_of% Tryz.ntmps115:=Tryz.ntmps115
abbrev z6z:FuncId:=116
theorem x4m:type_of% Tryz.func116:=Tryz.func116
theorem x4n:type_of% Tryz.ntmps116:=Tryz.ntmps116
abbrev q5y:FuncId:=117
theorem y2d:type_of% Tryz.func117:=Tryz.func117
theorem y2e:type_of% Tryz.ntmps117:=Tryz.ntmps117
abbrev w8d:FuncId:=118
theorem w8e:type_of% Tryz.func118:=Tryz.func118
theorem w8f:type_of% Tryz.ntmps118:=Tryz.ntmps118
abbrev w8g:FuncId:=119
theorem w8h:type_of% Tryz.func119:=Tryz.func119
theorem w8i:type_of% Tryz.ntmps119:=Tryz.ntmps119
abbrev J7:FuncId:=120
theorem q3i:type_of% Tryz.func120:=Tryz.func120
theorem q3j:type_of% Tryz.ntmps120:=Tryz.ntmps120
abbrev y2f:FuncId:=121
theorem y2g:type_of% Tryz.func121:=Tryz.func121
theorem y2h:type_of% Tryz.ntmps121:=Tryz.ntmps121
abbrev x8g:FuncId:=122
theorem x8h:type_of% Tryz.func122:=Tryz.func122
theorem x8i:type_of% Tryz.ntmps122:=Tryz.ntmps122
abbrev w2y:FuncId:=123
theorem w2z:type_of% Tryz.func123:=Tryz.func123
theorem w3a:type_of% Tryz.ntmps123:=Tryz.ntmps123
abbrev y2i:FuncId:=127
theorem y2j:type_of% Tryz.func127:=Tryz.func127
theorem y2k:type_of% Tryz.ntmps127:=Tryz.ntmps127
abbrev z0b:FuncId:=128
theorem x4p:type_of% Tryz.func128:=Tryz.func128
theorem x4q:type_of% Tryz.ntmps128:=Tryz.ntmps128
abbrev z7a:FuncId:=129
theorem x4r:type_of% Tryz.func129:=Tryz.func129
theorem x4s:type_of% Tryz.ntmps129:=Tryz.ntmps129
abbrev y5b:FuncId:=130
theorem y5c:type_of% Tryz.func130:=Tryz.func130
theorem y5d:type_of% Tryz.ntmps130:=Tryz.ntmps130
abbrev x8j:FuncId:=131
theorem x8k:type_of% Tryz.func131:=Tryz.func131
theorem x8m:type_of% Tryz.ntmps131:=Tryz.ntmps131
abbrev q8j:FuncId:=132
theorem y9j:type_of% Tryz.func132:=Tryz.func132
theorem y9k:type_of% Tryz.ntmps132:=Tryz.ntmps132
abbrev x4t:FuncId:=133
theorem x4u:type_of% Tryz.func133:=Tryz.func133
theorem x4v:type_of% Tryz.ntmps133:=Tryz.ntmps133
abbrev x8n:FuncId:=134
theorem x8p:type_of% Tryz.func134:=Tryz.func134
theorem x8q:type_of% Tryz.ntmps134:=Tryz.ntmps134
abbrev z4i:FuncId:=135
theorem y9m:type_of% Tryz.func135:=Tryz.func135
theorem y9n:type_of% Tryz.ntmps135:=Tryz.ntmps135
abbrev q0w:FuncId:=136
theorem q6e:type_of% Tryz.func136:=Tryz.func136
theorem q6f:type_of% Tryz.ntmps136:=Tryz.ntmps136
abbrev q8x:FuncId:=137
theorem z3c:type_of% Tryz.func137:=Tryz.func137
theorem z3d:type_of% Tryz.ntmps137:=Tryz.ntmps137
abbrev y2m:FuncId:=140
theorem y2n:type_of% Tryz.func140:=Tryz.func140
theorem y2p:type_of% Tryz.ntmps140:=Tryz.ntmps140
abbrev z7b:FuncId:=141
theorem z7c:type_of% Tryz.func141:=Tryz.func141
theorem z7d:type_of% Tryz.ntmps141:=Tryz.ntmps141
abbrev x8r:FuncId:=142
theorem x8s:type_of% Tryz.func142:=Tryz.func142
theorem x8t:type_of% Tryz.ntmps142:=Tryz.ntmps142
abbrev z0x:FuncId:=143
theorem y2q:type_of% Tryz.func143:=Tryz.func143
theorem y2r:type_of% Tryz.ntmps143:=Tryz.ntmps143
abbrev z4t:FuncId:=144
theorem z4u:type_of% Tryz.func144:=Tryz.func144
theorem z4v:type_of% Tryz.ntmps144:=Tryz.ntmps144
abbrev q6w:FuncId:=145
theorem z4w:type_of% Tryz.func145:=Tryz.func145
theorem z4x:type_of% Tryz.ntmps145:=Tryz.ntmps145
abbrev q5z:FuncId:=146
theorem q6a:type_of% Tryz.func146:=Tryz.func146
theorem q6b:type_of% Tryz.ntmps146:=Tryz.ntmps146
abbrev z9r:FuncId:=147
theorem z9s:type_of% Tryz.func147:=Tryz.func147
theorem z9t:type_of% Tryz.ntmps147:=Tryz.ntmps147
abbrev x0v:FuncId:=158
theorem w8j:type_of% Tryz.func158:=Tryz.func158
theorem w8k:type_of% Tryz.ntmps158:=Tryz.ntmps158
abbrev q4a:FuncId:=159
theorem y5e:type_of% Tryz.func159:=Tryz.func159
theorem y5f:type_of% Tryz.ntmps159:=Tryz.ntmps159
abbrev z1r:FuncId:=160
theorem y5g:type_of% Tryz.func160:=Tryz.func160
theorem y5h:type_of% Tryz.ntmps160:=Tryz.ntmps160
abbrev q2h:FuncId:=161
theorem z3e:type_of% Tryz.func161:=Tryz.func161
theorem z3f:type_of% Tryz.ntmps161:=Tryz.ntmps161
abbrev q4b:FuncId:=162
theorem z0c:type_of% Tryz.func162:=Tryz.func162
theorem z0d:type_of% Tryz.ntmps162:=Tryz.ntmps162
abbrev w3b:FuncId:=163
theorem w3c:type_of% Tryz.func163:=Tryz.func163
theorem w3d:type_of% Tryz.ntmps163:=Tryz.ntmps163
abbrev v3w:FuncId:=164
theorem v3x:type_of% Tryz.func164:=Tryz.func164
theorem v3y:type_of% Tryz.ntmps164:=Tryz.ntmps164
abbrev q1h:FuncId:=165
theorem q1i:type_of% Tryz.func165:=Tryz.func165
theorem q1j:type_of% Tryz.ntmps165:=Tryz.ntmps165
abbrev q0p:FuncId:=166
theorem x8u:type_of% Tryz.func166:=Tryz.func166
theorem x8v:type_of% Tryz.ntmps166:=Tryz.ntmps166
abbrev x0w:FuncId:=167
theorem x0x:type_of% Tryz.func167:=Tryz.func167
theorem x0y:type_of% Tryz.ntmps167:=Tryz.ntmps167
abbrev y9p:FuncId:=168
theorem y9q:type_of% Tryz.func168:=Tryz.func168
theorem y9r:type_of% Tryz.ntmps168:=Tryz.ntmps168
abbrev q5i:FuncId:=169
theorem z1s:type_of% Tryz.func169:=Tryz.func169
theorem z1t:type_of% Tryz.ntmps169:=Tryz.ntmps169
abbrev y5i:FuncId:=170
theorem w3e:type_of% Tryz.func170:=Tryz.func170
theorem w3f:type_of% Tryz.ntmps170:=Tryz.ntmps170
abbrev q6g:FuncId:=175
theorem z3w:type_of% Tryz.func175:=Tryz.func175
theorem z3x:type_of% Tryz.ntmps175:=Tryz.ntmps175
abbrev q7u:FuncId:=176
theorem q7v:type_of% Tryz.func176:=Tryz.func176
theorem q7w:type_of% Tryz.ntmps176:=Tryz.ntmps176
abbrev y5j:FuncId:=177
theorem y5k:type_of% Tryz.func177:=Tryz.func177
theorem y5m:type_of% Tryz.ntmps177:=Tryz.ntmps177
abbrev x8w:FuncId:=178
theorem x8x:type_of% Tryz.func178:=Tryz.func178
theorem x8y:type_of% Tryz.ntmps178:=Tryz.ntmps178
abbrev y2s:FuncId:=180
theorem y2t:type_of% Tryz.func180:=Tryz.func180
theorem y2u:type_of% Tryz.ntmps180:=Tryz.ntmps180
abbrev z9u:FuncId:=181
theorem z9v:type_of% Tryz.func181:=Tryz.func181
theorem z9w:type_of% Tryz.ntmps181:=Tryz.ntmps181
abbrev q4t:FuncId:=182
theorem q4u:type_of% Tryz.func182:=Tryz.func182
theorem q4v:type_of% Tryz.ntmps182:=Tryz.ntmps182
abbrev q1z:FuncId:=183
theorem z1u:type_of% Tryz.func183:=Tryz.func183
theorem z1v:type_of% Tryz.ntmps183:=Tryz.ntmps183
abbrev q1a:FuncId:=184
theorem q4w:type_of% Tryz.func184:=Tryz.func184
theorem q4x:type_of% Tryz.ntmps184:=Tryz.ntmps184
abbrev w3g:FuncId:=189
theorem w3h:type_of% Tryz.func189:=Tryz.func189
theorem w3i:type_of% Tryz.ntmps189:=Tryz.ntmps189
abbrev q5j:FuncId:=190
theorem x8z:type_of% Tryz.func190:=Tryz.func190
theorem x9a:type_of% Tryz.ntmps190:=Tryz.ntmps190
abbrev q4c:FuncId:=191
theorem y5n:type_of% Tryz.func191:=Tryz.func191
theorem y5p:type_of% Tryz.ntmps191:=Tryz.ntmps191
abbrev y5q:FuncId:=192
theorem y5r:type_of% Tryz.func192:=Tryz.func192
theorem y5s:type_of% Tryz.ntmps192:=Tryz.ntmps192
abbrev x9b:FuncId:=193
theorem x9c:type_of% Tryz.func193:=Tryz.func193
theorem x9d:type_of% Tryz.ntmps193:=Tryz.ntmps193
abbrev z4y:FuncId:=194
theorem w3j:type_of% Tryz.func194:=Tryz.func194
theorem w3k:type_of% Tryz.ntmps194:=Tryz.ntmps194
abbrev y5t:FuncId:=195
theorem y5u:type_of% Tryz.func195:=Tryz.func195
theorem y5v:type_of% Tryz.ntmps195:=Tryz.ntmps195
abbrev z4z:FuncId:=196
theorem z5a:type_of% Tryz.func196:=Tryz.func196
theorem z5b:type_of% Tryz.ntmps196:=Tryz.ntmps196
abbrev y5w:FuncId:=200
theorem y5x:type_of% Tryz.func200:=Tryz.func200
theorem y5y:type_of% Tryz.ntmps200:=Tryz.ntmps200
abbrev y2v:FuncId:=201
theorem y2w:type_of% Tryz.func201:=Tryz.func201
theorem y2x:type_of% Tryz.ntmps201:=Tryz.ntmps201
abbrev q5k:FuncId:=202
theorem q5m:type_of% Tryz.func202:=Tryz.func202
theorem q5n:type_of% Tryz.ntmps202:=Tryz.ntmps202
abbrev w3m:FuncId:=205
theorem w3n:type_of% Tryz.func205:=Tryz.func205
theorem w3p:type_of% Tryz.ntmps205:=Tryz.ntmps205
abbrev z7e:FuncId:=206
theorem z7f:type_of% Tryz.func206:=Tryz.func206
theorem z7g:type_of% Tryz.ntmps206:=Tryz.ntmps206
abbrev q0m:TypeId:=3
abbrev z4:TypeId:=5
abbrev z5:TypeId:=24
abbrev q0q:TypeId:=27
abbrev q0r:TypeId:=30
abbrev q8y:TypeId:=35
abbrev x4w:TypeId:=43
abbrev q0h:TypeId:=46
abbrev q1e:TypeId:=102
abbrev q6x:TypeId:=114
abbrev z1w:TypeId:=116
abbrev Z9:TypeId:=152
abbrev v3z:TypeId:=168
abbrev Z1:TypeId:=174
abbrev x9e:TypeId:=179
abbrev q6y:TypeId:=228
abbrev q1f:TypeId:=241
end Go.Proofs.YtinfbclgkghgaaaGreat.AL
/- The layer 06 (disk): a device as a plain value;its small functions walked. -/
namespace Go.Proofs.YtinfbclgkghgaaaGreat.AL
open Go Go.Proofs
abbrev u8 (b:UInt8):PV:=.raw (.int .u8 (b.toNat:Int))
abbrev y7:=List UInt8
def bx (l:y7):List (List PV):=l.map fun b=>[u8 b]
abbrev bP (l:y7):PV:=.sl 1 (bx l)
abbrev bA (l:y7):AV:=.p (bP l)
def ix (l:List Int):List (List PV):=l.map fun n=>[.raw (.int .i64 n)]
abbrev iP (l:List Int):PV:=.sl 1 (ix l)
structure Cell where
 s:y7
 lost:Bool
 drop:Int
 miss:List Int
 deriving Inhabited,DecidableEq
def Cell.pv (c:Cell):List PV:=[bP c.s,.raw (.bool c.lost),.raw (.int .i64 c.drop),iP c.miss]
structure Wr where
 at_:Int
 s:y7
 deriving Inhabited,DecidableEq
def Wr.pv (x:Wr):List PV:=[.raw (.int .i64 x.at_),bP x.s]
structure Dev where
 cells:List Cell
 waits:List Wr
 armed:Bool
 dead:Bool
 left:Int
 ops:Int
 deriving DecidableEq
def cx (l:List Cell):List (List PV):=l.map Cell.pv
def wx (l:List Wr):List (List PV):=l.map Wr.pv
abbrev q3r (D:Dev)(b c:Nat):ABlk:=.cells z1w [.msl b 4 0 D.cells.length,.msl c 2 0 D.waits.length,bl D.armed,bl D.dead,i64 D.left,i64 D.ops]
abbrev Z5 (D:Dev):List ABlk:=[q3r D 1 2,.row Z9 4 (cx D.cells),.row Z1 2 (wx D.waits)]
theorem v4a (D:Dev):AFm Tryz.prog 3 y2s [.ref 0 0] (Z5 D) (Q0 (i64 D.cells.length) (Z5 D)):=by
 refine Q9 3 hT y2t rfl rfl y2u rfl rfl ?_
 refine q8 (q7 hT ?_)
 refine q8 (q8 (q7 hT ?_))
 refine z6 ?_
 refine z9 ?_
 refine q8 (q7 hT ?_)
 refine x6 ?_
 exact y9 [0,1,2] ⟨rfl,rfl⟩ rfl
theorem z3g (D:Dev):AFm Tryz.prog 3 q8t [.ref 0 0] (Z5 D) (Q0 (bl D.dead) (Z5 D)):=by
 refine Q9 3 hT q8u rfl rfl q8v rfl rfl ?_
 refine q8 (q7 hT ?_)
 refine q8 (q7 hT ?_)
 refine x6 ?_
 exact y9 [0,1,2] ⟨rfl,rfl⟩ rfl
def Dev.has (D:Dev)(a:Int):Bool:=decide (a≥0)&&decide (a<(D.cells.length:Int))
theorem z7h (D:Dev)(a:Int):AFm Tryz.prog 3 y2m [.ref 0 0,i64 a] (Z5 D) (Q0 (bl (D.has a)) (Z5 D)):=by
 refine Q9 3 hT y2n rfl rfl y2p rfl rfl ?_
 refine q8 (q7 hT ?_)
 unfold Dev.has
 refine q8 (q7 hT ?_)
 refine x7 (fun h=>?_) (fun h=>?_)
 ·refine x8 (Q1 [0,1,2] (v4a D) rfl rfl rfl) ?_
  refine x6 ?_
  refine y9 [0,1,2] ⟨?_,rfl⟩ rfl
  rw[h];rfl
 ·refine x6 ?_
  refine y9 [0,1,2] ⟨?_,rfl⟩ rfl
  rw[h];rfl
def Dev.arm (D:Dev)(n:Int):Dev:={ D with armed:=decide (n≥0),left:=n }
theorem v4b (D:Dev)(n:Int):AFm Tryz.prog 3 y1s [.ref 0 0,i64 n] (Z5 D) (Q0 (.tup []) (Z5 (D.arm n))):=by
 refine Q9 3 hT y1t rfl rfl y1u rfl rfl ?_
 refine q8 (q7 hT ?_)
 refine z6 ?_
 refine q7 hT ?_
 exact y9 [0,1,2] ⟨rfl,rfl⟩ rfl
def Dev.lives (D:Dev):Dev:={ D with dead:=D.dead||(D.armed&&D.left==0),left:=IntKind.i64.wrap (D.left - 1) }
theorem y5z (D:Dev):AFm Tryz.prog 3 z7b [.ref 0 0] (Z5 D) (Q0 (bl (!D.lives.dead)) (Z5 D.lives)):=by
 refine Q9 3 hT z7c rfl rfl z7d rfl rfl ?_
 refine q8 (q7 hT ?_)
 refine y8 ⟨⟨29,[(0,.ref 0 0)]⟩,Z5 { D with dead:=D.dead||(D.armed&&D.left==0) }⟩ True (q8 (q7 hT ?_)) (fun _=>?_)
 ·refine x7 (fun h=>?_) (fun h=>?_)
  ·refine z6 (x7 (fun h2=>?_) (fun h2=>?_))
   ·refine q7 hT ?_
    refine⟨?_,trivial⟩
    have h2:(D.left==0)=true:=h2
    rw[h,h2,Bool.true_and,Bool.or_true]
    exact q9 [0,1,2] [0] rfl
   ·refine z9 ⟨?_,trivial⟩
    have h2:(D.left==0)=false:=h2
    rw[h,h2,Bool.true_and,Bool.or_false]
    exact q9 [0,1,2] [0] rfl
  ·refine z6 ?_
   refine z9 ⟨?_,trivial⟩
   rw[h,Bool.false_and,Bool.or_false]
   exact q9 [0,1,2] [0] rfl
 ·refine q8 (q7 hT ?_)
  refine q8 (q7 hT ?_)
  refine x6 ?_
  exact y9 [0,1,2] ⟨rfl,rfl⟩ rfl
end Go.Proofs.YtinfbclgkghgaaaGreat.AL
namespace Go.Proofs.YtinfbclgkghgaaaGreat.AL
open Go Go.Proofs
theorem u6 (l:y7):(bx l).length=l.length:=by simp[bx]
theorem z9x (l:List Int):(ix l).length=l.length:=by simp[ix]
theorem x4x (l:List Cell):(cx l).length=l.length:=by simp[cx]
theorem z9y (l:List Wr):(wx l).length=l.length:=by simp[wx]
theorem z7i (l:y7)(hl:l.length≤1000000):AF Tryz.prog q0w [bA l] [] (Q0 (bA l) []):=by
 have hb:=u6 l
 generalize hx:bx l=xs at hb
 show AF Tryz.prog q0w [.p (.sl 1 (bx l))] [] (Q0 (.p (.sl 1 (bx l))) [])
 rw[hx]
 refine z8x (t:=z4) (n:=xs.length) ?_ rfl
 refine u9 hT q6e rfl rfl q6f rfl ?_
 refine q8 (q7 hT ?_)
 refine q8 (q8 (q7 hT ?_))
 intro b hn
 refine z6 (x7 (fun h=>?_) (fun h=>?_))
 ·refine q8 (q7 hT ?_)
  refine x6 ?_
  rw[hn h]
  exact x3w z4 1 ⟨rfl,rfl⟩
 ·refine z9 ?_
  refine q8 (q7 hT ?_)
  refine⟨rfl,⟨?_,?_⟩,?_⟩
  ·show (0+xs.length)*1≤_;omega
  ·show 0+xs.length≤_;omega
  refine x6 ?_
  exact y9 [1] ⟨rfl,rfl⟩ rfl
theorem w8m (l:List Int)(hl:l.length≤1000000):AF Tryz.prog q6w [.p (iP l)] [] (Q0 (.msl 0 1 0 l.length) [.row q0m 1 (ix l)]):=by
 have hb:=z9x l
 rw[← hb]
 show AF Tryz.prog q6w [.p (.sl 1 (ix l))] [] (Q0 (.msl 0 1 0 (ix l).length) [.row q0m 1 (ix l)])
 generalize ix l=xs at hb
 refine u9 hT z4w rfl rfl z4x rfl ?_
 refine q8 (q7 hT ?_)
 refine q8 (q8 (q7 hT ?_))
 intro b hn
 refine z6 (x7 (fun h=>?_) (fun h=>?_))
 ·refine q8 (q7 hT ?_)
  refine x6 ?_
  rw[hn h]
  exact x3w q0m 1 ⟨rfl,rfl⟩
 ·refine z9 ?_
  refine q8 (q7 hT ?_)
  refine⟨rfl,⟨?_,?_⟩,?_⟩
  ·show (0+xs.length)*8≤_;omega
  ·show 0+xs.length≤_;omega
  refine x6 ?_
  exact y9 [1] ⟨rfl,rfl⟩ rfl
def q1b (l:List Cell)(x:Wr):List Cell:=match l[x.at_.toNat]? with
 |some c=>l.set x.at_.toNat { c with s:=x.s,lost:=false }
 |none=>l
def Dev.done (D:Dev)(x:Wr):Dev:={ D with cells:=q1b D.cells x }
theorem q8z (l:List Cell)(x:Wr):(q1b l x).length=l.length:=by unfold q1b;split <;> simp
theorem y6a {l:List Cell}{i:Nat}{c:Cell}(h:l[i]?=some c):(cx l)[i]?=some c.pv:=by rw[cx,List.getElem?_map,h];rfl
theorem w3q (l:List Cell)(i:Nat)(c:Cell):cx (l.set i c)=(cx l).set i c.pv:=by simp[cx,List.map_set]
theorem y6b {l:List Wr}{i:Nat}{c:Wr}(h:l[i]?=some c):(wx l)[i]?=some c.pv:=by rw[wx,List.getElem?_map,h];rfl
theorem q6z {l:List Cell}{x:Wr}{c:Cell}(h:l[x.at_.toNat]?=some c):q1b l x=l.set x.at_.toNat { c with s:=x.s,lost:=false }:=by
 unfold q1b;rw[h]
theorem x0z (D:Dev)(x:Wr)(h0:0≤x.at_)(h1:x.at_.toNat<D.cells.length):AFm Tryz.prog 3 z9r [.ref 0 0,.agg [i64 x.at_,bA x.s]] (Z5 D) (Q0 (.tup []) (Z5 (D.done x))):=by
 have hc:=List.getElem?_eq_getElem h1
 generalize D.cells[x.at_.toNat]=c at hc
 have e:(D.done x).cells=D.cells.set x.at_.toNat { c with s:=x.s,lost:=false }:=q6z hc
 have el:(D.done x).cells.length=D.cells.length:=q8z _ _
 have hlt:x.at_<(D.cells.length:Int):=by omega
 have g1:(cx D.cells)[0+x.at_.toNat]?=some c.pv:=by rw[Nat.zero_add];exact y6a hc
 have g2:∀ e,((cx D.cells).set (0+x.at_.toNat) e)[0+x.at_.toNat]?=some e:=fun e=>by
  rw[Nat.zero_add];exact List.getElem?_set_self (by rw[x4x];exact h1)
 refine Q9 3 hT z9s rfl rfl z9t rfl rfl ?_
 refine q8 (q7 hT ?_)
 refine Q8 (Q6 3 [.raw (.int .i64 x.at_),bP x.s] rfl rfl) ?_
 refine w9 [16,19] [] hT z8 (by rfl) ?_
 refine⟨⟨h0,hlt⟩,?_⟩
 refine u7 g1 ?_
 refine⟨⟨h0,hlt⟩,?_⟩
 refine u7 (g2 _) ?_
 refine⟨rfl,?_⟩
 refine y9 [0,1,2] ⟨rfl,?_⟩ rfl
 have el':((D.done x).cells.length:Int)=D.cells.length:=by rw[el]
 show [q3r D 1 2,.row Z9 4 (((cx D.cells).set (0+x.at_.toNat) _).set (0+x.at_.toNat) _),.row Z1 2 (wx D.waits)]=[q3r (D.done x) 1 2,.row Z9 4 (cx (D.done x).cells),.row Z1 2 (wx D.waits)]
 rw[show q3r (D.done x) 1 2=q3r D 1 2 by unfold q3r;rw[el];rfl,e,w3q,List.set_set,Nat.zero_add]
 rfl
end Go.Proofs.YtinfbclgkghgaaaGreat.AL
namespace Go.Proofs.YtinfbclgkghgaaaGreat.AL
open Go Go.Proofs
def kx (l:List Bool):List (List PV):=l.map fun b=>[.raw (.bool b)]
theorem y6c (l:List Bool):(kx l).length=l.length:=by simp[kx]
def kept (keep:List Bool)(i:Nat):Bool:=decide (0<keep.length)&&keep.getD (i % keep.length) false
def q1k (W:List Wr)(keep:List Bool):Nat→List Cell→List Cell
 |0,cs=>cs
 |i+1,cs=>match kept keep i with
  |true=>q1b (q1k W keep i cs) (W.getD i ⟨0,[]⟩)
  |false=>q1k W keep i cs
theorem q4y (W:List Wr)(keep:List Bool)(cs:List Cell):∀ i,(q1k W keep i cs).length=cs.length
 |0=>rfl
 |i+1=>by
  unfold q1k;split
  ·rw[q8z,q4y W keep cs i]
  ·exact q4y W keep cs i
def Dev.drain (D:Dev)(keep:List Bool):Dev:={ D with cells:=q1k D.waits keep D.waits.length D.cells,waits:=[] }
def Dev.waitsIn (D:Dev):Prop:=∀ x∈D.waits,0≤x.at_∧x.at_<(D.cells.length:Int)
theorem x9 (n:Int)(h0 : -9223372036854775808≤n)(h:n≤9223372036854775807):IntKind.i64.wrap n=n:=by
 rw[IntKind.wrap_i64];omega
theorem y6d (D:Dev)(keep:List Bool)(hw:D.waitsIn)(hn:D.waits.length≤1000000):AFm Tryz.prog 1 z6t [.ref 0 0,.p (.sl 1 (kx keep))] (Z5 D) (Q0 (.tup []) (Z5 (D.drain keep))):=by
 refine Q9 1 hT z6u rfl rfl z6v rfl rfl ?_
 refine q8 (q8 (q7 hT ?_))
 refine z7 ?_
 refine w7 (fun n s=>∃ (i:Nat) (j:Int) (C:List Cell),n+i=D.waits.length∧j=i∧C=q1k D.waits keep i D.cells∧s=⟨⟨35,[(0,.ref 0 0),(1,.p (.sl 1 (kx keep))),(9,.msl 2 2 0 D.waits.length),(10,i64 D.waits.length),(11,i64 j)]⟩,Z5 { D with cells:=C }⟩) D.waits.length ⟨⟨35,_⟩,[_,_,_]⟩ (q9 [0,1,2] [0,1,9,10,11] rfl) ⟨0,_,_,by omega,rfl,rfl,rfl⟩ ?_
 rintro n s ⟨i,j,C,hni,rfl,hC,rfl⟩
 refine q8 (q7 hT ?_)
 refine q8 (z6 (x7 (fun h=>?_) (fun h=>?_)))
 ·have hi:i<D.waits.length:=by
   have:=of_decide_eq_true (show decide ((i:Int)<(D.waits.length:Int))=true from h)
   omega
  have hx:=List.getElem?_eq_getElem hi
  have hin:=hw _ (List.getElem_mem hi)
  generalize D.waits[i]=x at hx hin
  have hCl:C.length=D.cells.length:=by rw[hC,q4y]
  refine z9 ?_
  refine q8 (z7 (q8 (q7 hT ?_)))
  refine⟨⟨Int.natCast_nonneg _,of_decide_eq_true h⟩,?_⟩
  refine u7 (show (wx D.waits)[0+((i:Nat):Int).toNat]?=some x.pv by rw[Nat.zero_add,Int.toNat_natCast];exact y6b hx) ?_
  refine q8 (q7 hT ?_)
  have out:∀ b,kept keep i=b→(match b with|true=>q1b C x|false=>C)=q1k D.waits keep (i+1) D.cells:=fun b hb=>by
   have hxd:D.waits.getD i ⟨0,[]⟩=x:=by rw[List.getD_eq_getElem?_getD,hx];rfl
   unfold q1k;rw[hb,hxd,← hC]
  refine x7 (fun h1=>?_) (fun h1=>?_)
  ·have h1':0<keep.length:=by
    have:((kx keep).length:Int) > 0:=of_decide_eq_true h1
    rw[y6c]at this;omega
   have e1:((i:Int).tmod ((kx keep).length:Int))=((i % keep.length:Nat):Int):=by
    rw[y6c,Int.tmod_eq_emod_of_nonneg (Int.natCast_nonneg _)];exact(Int.natCast_emod i keep.length).symm
   have hlt:i % keep.length<keep.length:=Nat.mod_lt _ h1'
   have hk:=List.getElem?_eq_getElem hlt
   generalize keep[i % keep.length]=b at hk
   have hkept:kept keep i=b:=by
    unfold kept;rw[List.getD_eq_getElem?_getD,hk,decide_eq_true h1'];rfl
   refine y3v (b:=decide (((kx keep).length:Int)≠0)) (decide_eq_true (by rw[y6c];omega)) ?_
   refine⟨by rw[e1];omega,u7 (show (kx keep)[((i:Int).tmod ((kx keep).length:Int)).toNat]?=some [.raw (.bool b)] by
    rw[e1,Int.toNat_natCast,kx,List.getElem?_map,hk];rfl) ?_⟩
   refine z6 (x7 (fun hb=>?_) (fun hb=>?_))
   ·refine q7 hT ?_
    refine x8 (Q1 [0,1,2] (x0z { D with cells:=C } x hin.1 (by show x.at_.toNat<C.length;omega)) rfl rfl rfl) ?_
    refine q7 hT ?_
    refine⟨n - 1,by omega,_,q9 [0,1,2] [0,1,9,10,11] rfl,i+1,_,q1b C x,by omega,?_,?_,rfl⟩
    ·rw[x9 _ (by omega) (by omega)];rfl
    ·exact(out _ (hkept.trans hb))
   ·refine z9 ?_
    refine q7 hT ?_
    refine⟨n - 1,by omega,_,q9 [0,1,2] [0,1,9,10,11] rfl,i+1,_,C,by omega,?_,?_,rfl⟩
    ·rw[x9 _ (by omega) (by omega)];rfl
    ·exact(out _ (hkept.trans hb))
  ·have hk:kept keep i=false:=by
    have:¬ ((kx keep).length:Int) > 0:=of_decide_eq_false h1
    rw[y6c]at this
    unfold kept;rw[decide_eq_false (by omega)];rfl
   refine z6 ?_
   refine z9 ?_
   refine q7 hT ?_
   refine⟨n - 1,by omega,_,q9 [0,1,2] [0,1,9,10,11] rfl,i+1,_,C,by omega,?_,?_,rfl⟩
   ·rw[x9 _ (by omega) (by omega)];rfl
   ·exact(out _ hk)
 ·refine u0 ?_
  refine q7 hT ?_
  have hi:i=D.waits.length:=by
   have:¬ ((i:Int)<(D.waits.length:Int)):=of_decide_eq_false h
   omega
  refine⟨_,_,Wk.trans (J9 Z1 2) (Wk.trans (q0z 0 [.msl 1 4 0 C.length,.msl 3 2 0 0,bl D.armed,bl D.dead,i64 D.left,i64 D.ops] rfl ⟨.inl rfl,.inr (.inr (.inl ⟨3,2,0,rfl,rfl⟩)),.inl rfl,.inl rfl,.inl rfl,.inl rfl,trivial⟩) (q9 [0,1,3] [0] rfl)),rfl,?_⟩
  rw[hC,hi]
  rfl
end Go.Proofs.YtinfbclgkghgaaaGreat.AL
namespace Go.Proofs.YtinfbclgkghgaaaGreat.AL
open Go Go.Proofs
def Dev.flush (D:Dev):Int × Dev:=match D.dead with
 |true=>(21,D)
 |false=>match D.lives.dead with
  |true=>(21,D.lives)
  |false=>(0,D.lives.drain [true])
theorem not_not {b c:Bool}(h:(!(!b))=c):b=c:=by rw[Bool.not_not]at h;exact h
theorem y6e (D:Dev)(hw:D.waitsIn)(hn:D.waits.length≤1000000):AFm Tryz.prog 1 z6m [.ref 0 0] (Z5 D) (Q0 (i64 D.flush.1) (Z5 D.flush.2)):=by
 refine Q9 1 hT z6n rfl rfl z6p rfl rfl ?_
 refine q8 (q7 hT ?_)
 refine q8 (q8 (q7 hT ?_))
 refine x8 (Q1 [0,1,2] (z3g D) rfl rfl rfl) ?_
 refine x7 (fun h=>?_) (fun h=>?_)
 ·refine z6 ?_
  refine q8 (q7 hT ?_)
  refine x6 ?_
  have e:D.flush=(21,D):=by unfold Dev.flush;rw[h]
  rw[e]
  exact y9 [0,1,2] ⟨rfl,rfl⟩ rfl
 ·refine x8 (Q1 [0,1,2] (y5z D) rfl rfl rfl) ?_
  refine z6 (x7 (fun h1=>?_) (fun h1=>?_))
  ·have e:D.flush=(21,D.lives):=by unfold Dev.flush;rw[h,not_not h1]
   refine q8 (q7 hT ?_)
   refine x6 ?_
   rw[e]
   exact y9 [0,1,2] ⟨rfl,rfl⟩ rfl
  ·have e:D.flush=(0,D.lives.drain [true]):=by unfold Dev.flush;rw[h,not_not h1]
   refine z9 ?_
   refine q8 (X6 (fun k=>Nat.beq 1 k) hT ?_)
   refine⟨⟨rfl,rfl⟩,?_⟩
   refine x8 (Q1 [0,1,2] (y6d D.lives [true] hw hn) rfl rfl rfl) ?_
   refine q8 (q7 hT ?_)
   refine x6 ?_
   rw[e]
   exact y9 [0,3,4] ⟨rfl,rfl⟩ rfl
def Dev.crashed (D:Dev)(keep:List Bool):Dev:={ D.drain keep with dead:=false,armed:=false }
theorem w3r (D:Dev)(keep:List Bool)(hw:D.waitsIn)(hn:D.waits.length≤1000000):AFm Tryz.prog 1 z6e [.ref 0 0,.p (.sl 1 (kx keep))] (Z5 D) (Q0 (.tup []) (Z5 (D.crashed keep))):=by
 refine Q9 1 hT z6f rfl rfl z6g rfl rfl ?_
 refine q8 (q7 hT ?_)
 refine z6 ?_
 refine q8 (q7 hT ?_)
 refine x8 (Q1 [0,1,2] (y6d D keep hw hn) rfl rfl rfl) ?_
 refine q7 hT ?_
 refine y9 [0,3,4] ⟨rfl,rfl⟩ rfl
theorem y6f (D:Dev)(i:Nat)(c:Cell):Z5 { D with cells:=D.cells.set i c }=[q3r D 1 2,.row Z9 4 ((cx D.cells).set (0+i) c.pv),.row Z1 2 (wx D.waits)]:=by
 unfold Z5 q3r;rw[Nat.zero_add,← w3q,List.length_set]
theorem u0v (l:List Wr)(x:Wr):wx (l++[x])=wx l++[x.pv]:=by simp[wx]
theorem v4c (D:Dev)(x:Wr):Z5 { D with waits:=D.waits++[x] }=[.cells z1w [.msl 1 4 0 D.cells.length,.msl 2 2 0 (wx D.waits++[x.pv]).length,bl D.armed,bl D.dead,i64 D.left,i64 D.ops],.row Z9 4 (cx D.cells),.row Z1 2 (wx D.waits++[x.pv])]:=by
 unfold Z5 q3r;rw[← u0v,z9y]
def Dev.put (D:Dev)(a:Int)(s:y7):Dev:=match D.cells[a.toNat]? with
 |none=>D
 |some c=>match decide (c.drop > 0) with
  |true=>{ D with cells:=D.cells.set a.toNat { c with drop:=IntKind.i64.wrap (c.drop - 1) } }
  |false=>match c.miss with
   |[]=>{ D with waits:=D.waits++[⟨a,s⟩] }
   |t :: r=>{ D with cells:=D.cells.set a.toNat { c with miss:=r },waits:=D.waits++[⟨t,s⟩] }
def Dev.count (D:Dev):Dev:={ D with ops:=IntKind.i64.wrap (D.ops+1) }
def Dev.write (D:Dev)(a:Int)(s:y7):Int × Dev:=match D.dead with
 |true=>(21,D)
 |false=>match D.has a with
  |false=>(3,D)
  |true=>match ((s.length:Int) != 256) with
   |true=>(1,D)
   |false=>match D.lives.dead with
    |true=>(21,D.lives)
    |false=>(0,D.lives.count.put a s)
theorem x9f {D:Dev}{a:Int}{s c1:y7}{c2:Bool}{c3:Int}{c4:List Int}(hc:D.cells[a.toNat]?=some ⟨c1,c2,c3,c4⟩)(h:decide (c3 > 0)=true) :
 D.put a s = { D with cells:=D.cells.set a.toNat ⟨c1,c2,IntKind.i64.wrap (c3 - 1),c4⟩ }:=by
 unfold Dev.put;rw[hc];simp only[h]
theorem x9g {D:Dev}{a:Int}{s c1:y7}{c2:Bool}{c3 t:Int}{r:List Int}(hc:D.cells[a.toNat]?=some ⟨c1,c2,c3,t :: r⟩)(h:decide (c3 > 0)=false) :
 D.put a s = { D with cells:=D.cells.set a.toNat ⟨c1,c2,c3,r⟩,waits:=D.waits++[⟨t,s⟩] }:=by
 unfold Dev.put;rw[hc];simp only[h]
theorem x1a {D:Dev}{a:Int}{s c1:y7}{c2:Bool}{c3:Int}(hc:D.cells[a.toNat]?=some ⟨c1,c2,c3,[]⟩)(h:decide (c3 > 0)=false) :
 D.put a s = { D with waits:=D.waits++[⟨a,s⟩] }:=by
 unfold Dev.put;rw[hc];simp only[h]
theorem y6g (D:Dev)(a:Int)(s:y7)(hn:D.waits.length≤1000000):AFm Tryz.prog 1 q7t [.ref 0 0,i64 a,bA s] (Z5 D) (Q0 (i64 (D.write a s).1) (Z5 (D.write a s).2)):=by
 refine Q9 1 hT z6j rfl rfl z6k rfl rfl ?_
 refine q8 (q7 hT ?_)
 refine y8 ⟨⟨84,[(0,.ref 0 0),(1,i64 a),(2,bA s)]⟩,Z5 D.lives⟩ (D.dead=false∧D.has a=true∧s.length=256∧D.lives.dead=false) (z7 (q8 (q7 hT ?_))) ?_
 ·refine x8 (Q1 [0,1,2] (z3g D) rfl rfl rfl) ?_
  refine z6 (x7 (fun h=>?_) (fun h=>?_))
  ·have e:D.write a s=(21,D):=by unfold Dev.write;rw[h]
   refine q8 (q7 hT ?_)
   refine x6 ?_
   rw[e]
   exact y9 [0,1,2] ⟨rfl,rfl⟩ rfl
  refine q8 (q7 hT ?_)
  refine x8 (Q1 [0,1,2] (z7h D a) rfl rfl rfl) ?_
  refine z6 (x7 (fun h1=>?_) (fun h1=>?_))
  ·have h1:(!(D.has a))=true:=h1
   have e:D.write a s=(3,D):=by unfold Dev.write;rw[h,(Bool.not_eq_true' _).mp h1]
   refine q8 (q7 hT ?_)
   refine x6 ?_
   rw[e]
   exact y9 [0,1,2] ⟨rfl,rfl⟩ rfl
  have h1:D.has a=true:=(Bool.not_eq_false' _).mp h1
  refine q8 (q7 hT ?_)
  refine z6 (x7 (fun h2=>?_) (fun h2=>?_))
  ·have e:D.write a s=(1,D):=by
    have h2:(((bx s).length:Int) != 256)=true:=h2
    rw[u6]at h2
    unfold Dev.write;rw[h,h1,h2]
   refine q8 (q7 hT ?_)
   refine x6 ?_
   rw[e]
   exact y9 [0,1,2] ⟨rfl,rfl⟩ rfl
  have h2:((s.length:Int) != 256)=false:=by
   have h2:(((bx s).length:Int) != 256)=false:=h2
   rw[u6]at h2;exact h2
  refine q8 (q7 hT ?_)
  refine x8 (Q1 [0,1,2] (y5z D) rfl rfl rfl) ?_
  refine z6 (x7 (fun h3=>?_) (fun h3=>?_))
  ·have e:D.write a s=(21,D.lives):=by unfold Dev.write;rw[h,h1,h2,not_not h3]
   refine q8 (q7 hT ?_)
   refine x6 ?_
   rw[e]
   exact y9 [0,1,2] ⟨rfl,rfl⟩ rfl
  refine z9 ⟨q9 [0,1,2] [0,1,2] rfl,h,h1,?_,not_not h3⟩
  have:(s.length:Int)=256:=by simpa using h2
  omega
 ·rintro⟨h,h1,h2,h3⟩
  have e:D.write a s=(0,D.lives.count.put a s):=by
   unfold Dev.write;rw[h,h1,show ((s.length:Int) != 256)=false by rw[h2];rfl,h3]
  rw[e]
  have hlt:a.toNat<D.cells.length∧0≤a∧a<(D.cells.length:Int):=by
   have h1:(decide (a≥0)&&decide (a<(D.cells.length:Int)))=true:=h1
   rw[Bool.and_eq_true,decide_eq_true_eq,decide_eq_true_eq]at h1
   omega
  have hc:=List.getElem?_eq_getElem hlt.1
  generalize D.cells[a.toNat]=c at hc
  obtain⟨c1,c2,c3,c4⟩:=c
  have g1:(cx D.cells)[0+a.toNat]?=some (Cell.pv ⟨c1,c2,c3,c4⟩):=by rw[Nat.zero_add];exact y6a hc
  have g2:∀ e,((cx D.cells).set (0+a.toNat) e)[0+a.toNat]?=some e:=fun e=>by
   rw[Nat.zero_add];exact List.getElem?_set_self (by rw[x4x];exact hlt.1)
  refine q8 (q7 hT ?_)
  refine q8 (q7 hT ?_)
  refine⟨⟨hlt.2.1,hlt.2.2⟩,?_⟩
  refine w6 (fun s1=>∃ C b,s1=⟨⟨84,[(0,.ref 0 0),(1,i64 b),(2,bA s)]⟩,Z5 { D.lives.count with cells:=C }⟩∧D.lives.count.put a s = { D.lives.count with cells:=C,waits:=D.waits++[⟨b,s⟩] }) (z7 (q8 (q7 hT ?_))) ?_
  ·refine u7 g1 ?_
   refine z6 (x7 (fun h4=>?_) (fun h4=>?_))
   ·have h4:decide (c3 > 0)=true:=h4
    have ep:D.lives.count.put a s = { D.lives.count with cells:=D.cells.set a.toNat ⟨c1,c2,IntKind.i64.wrap (c3 - 1),c4⟩ }:=x9f (D:=D.lives.count) hc h4
    refine q8 (q7 hT ?_)
    refine u7 g1 ?_
    refine u7 g1 ?_
    refine q8 (q7 hT ?_)
    refine x6 ?_
    rw[ep]
    exact y9 [0,1,2] ⟨rfl,(y6f D.lives.count a.toNat ⟨c1,c2,IntKind.i64.wrap (c3 - 1),c4⟩).symm⟩ rfl
   ·have h4:decide (c3 > 0)=false:=h4
    refine q8 (q7 hT ?_)
    refine u7 g1 ?_
    refine z6 (x7 (fun h5=>?_) (fun h5=>?_))
    ·cases c4 with
     |nil=>cases h5
     |cons t r=>
      have ep:D.lives.count.put a s = { D.lives.count with cells:=D.cells.set a.toNat ⟨c1,c2,c3,r⟩,waits:=D.waits++[⟨t,s⟩] }:=x9g (D:=D.lives.count) hc h4
      refine w9 [15] [] hT z8 (by rfl) ?_
      refine u7 g1 ?_
      refine⟨Int.le_refl _,u7 rfl ?_⟩
      refine u7 g1 ?_
      refine⟨⟨by omega,by rw[z9x];simp;omega,Int.le_refl _⟩,?_⟩
      refine u7 g1 ?_
      refine⟨_,q9 [0,1,2] [0,1,2] rfl,D.cells.set a.toNat ⟨c1,c2,c3,r⟩,t,?_,ep⟩
      refine congrArg (St.mk _) ?_
      refine Eq.trans ?_ (y6f D.lives.count a.toNat ⟨c1,c2,c3,r⟩).symm
      show [_,ABlk.row Z9 4 ((cx D.cells).set (0+a.toNat) [bP c1,.raw (.bool c2),.raw (.int .i64 c3),.sl 1 ((ix r).take (ix r).length)]),_]=_
      rw[List.take_length]
      rfl
    ·have h5:¬ ((ix c4).length:Int) > 0:=of_decide_eq_false h5
     have hc4:c4=[]:=by cases c4 with|nil=>rfl|cons t r=>exact absurd (show ((ix (t :: r)).length:Int) > 0 by rw[z9x];simp) h5
     subst hc4
     refine z9 ⟨_,q9 [0,1,2] [0,1,2] rfl,D.cells,a,rfl,x1a (D:=D.lives.count) hc h4⟩
  ·rintro _ ⟨C,b,rfl,ep⟩
   rw[ep]
   refine q8 ?_
   refine w9 [9,10,13] [] hT z8 (by rfl) ?_
   refine⟨_,u5 (z7i s (by omega)) _ rfl rfl,?_⟩
   refine⟨z9y _,⟨?_,?_⟩,?_⟩
   ·show ((wx D.waits).length+1)*32≤140737488355328
    rw[z9y];omega
   ·show (wx D.waits).length+1≤140737488355328
    rw[z9y];omega
   refine⟨rfl,?_⟩
   refine q8 (q7 hT ?_)
   refine x6 ?_
   exact y9 [0,1,4] ⟨rfl,(v4c { D.lives.count with cells:=C } ⟨b,s⟩).symm⟩ rfl
end Go.Proofs.YtinfbclgkghgaaaGreat.AL
namespace Go.Proofs.YtinfbclgkghgaaaGreat.AL
open Go Go.Proofs
def z4j:y7:=List.replicate 256 0
abbrev cell0:Cell:=⟨[],false,0,[]⟩
abbrev cell1:Cell:=⟨z4j,false,0,[]⟩
def Dev.new (n:Nat):Dev:=⟨List.replicate n cell1,[],false,false,0,0⟩
def z5c (n i:Nat):List Cell:=List.replicate i cell1++List.replicate (n - i) cell0
theorem v4d {n i:Nat}(h:i≤n):(z5c n i).length=n:=by simp[z5c];omega
theorem v4e {n i:Nat}(h:i<n):(z5c n i)[i]?=some cell0:=by
 unfold z5c;rw[List.getElem?_append_right (by simp)]
 rw[List.length_replicate,Nat.sub_self,show n - i=(n - i - 1)+1 by omega];rfl
theorem v4f {n i:Nat}(h:i<n):(z5c n i).set i cell1=z5c n (i+1):=by
 unfold z5c
 rw[List.set_append_right _ _ (by simp),List.length_replicate,Nat.sub_self,show n - i=(n - (i+1))+1 by omega,List.replicate_succ,List.replicate_succ']
 simp
theorem v4g (n:Nat)(h1:1≤n)(h2:n≤4096):AF Tryz.prog w2p [i64 n] [] (Q0 (.tup [.ref 0 0,i64 0]) (Z5 (Dev.new n))):=by
 refine u9 hT w2q rfl rfl w2r rfl ?_
 refine q8 (q7 hT ?_)
 refine q8 (q8 (q7 hT ?_))
 refine x7 (fun h1=>?_) (fun h1=>?_)
 ·have:=of_decide_eq_true h1
  omega
 refine z6 (x7 (fun h2=>?_) (fun h2=>?_))
 ·have h2:decide ((n:Int) > 4096)=true:=h2
  have:=of_decide_eq_true h2
  omega
 refine z9 ?_
 refine q8 (q7 hT ?_)
 refine⟨⟨rfl,by omega,(show ((n:Nat):Int)*64≤140737488355328 by omega),by omega⟩,?_⟩
 refine Q8 (Wk.trans (v3g 0 (cx (z5c n 0)) rfl ?_ ?_) (Wk.trans (J9 Z1 2) (Wk.trans (q0z 1 [.msl 0 4 0 n,.msl 2 2 0 0,bl false,bl false,i64 0,i64 0] rfl ⟨.inl rfl,.inr (.inr (.inl ⟨2,2,0,rfl,rfl⟩)),.inl rfl,.inl rfl,.inl rfl,.inl rfl,trivial⟩) (q9 [1,0,2] [4] rfl)))) ?_
 ·show (cx (z5c n 0)).length=(List.replicate ((n:Int).toNat) _).length
  rw[x4x,v4d (Nat.zero_le n),List.length_replicate];omega
 ·intro j e2 hj
  have hx:cx (z5c n 0)=List.replicate n cell0.pv:=by simp[cx,z5c]
  rw[hx]at hj
  have hjn:j<n:=by have:=(List.getElem?_eq_some_iff.1 hj).1;simpa using this
  have:e2=cell0.pv:=by
   rw[List.getElem?_replicate,if_pos hjn]at hj
   exact(Option.some.inj hj).symm
  subst this
  refine⟨[.raw (.slice none 0 0),.raw (.bool false),.raw (.int .i64 0),.raw (.slice none 0 0)],?_,rfl,?_⟩
  ·show (List.replicate ((n:Int).toNat) _)[j]?=_
   rw[List.getElem?_replicate,if_pos (by omega)];rfl
  ·intro i u2 hu
   match i,hu with
   |0,hu=>exact⟨_,rfl,.inr ⟨1,rfl,(Option.some.inj hu).symm⟩⟩
   |1,hu=>exact⟨_,rfl,.inl (Option.some.inj hu).symm⟩
   |2,hu=>exact⟨_,rfl,.inl (Option.some.inj hu).symm⟩
   |3,hu=>exact⟨_,rfl,.inr ⟨1,rfl,(Option.some.inj hu).symm⟩⟩
 refine q8 (q8 (q7 hT ?_))
 refine z7 ?_
 refine w7 (fun r s=>∃ (i:Nat) (j:Int) (C:List Cell),r+i=n∧j=i∧C=z5c n i∧s=⟨⟨34,[(4,.ref 0 0),(20,i64 (n:Nat)),(21,i64 j)]⟩,[.cells z1w [.msl 1 4 0 n,.msl 2 2 0 0,bl false,bl false,i64 0,i64 0],.row Z9 4 (cx C),.row Z1 2 []]⟩) n ⟨⟨34,_⟩,[_,_,_]⟩ (q9 [0,1,2] [4,20,21] rfl) ⟨0,_,_,rfl,rfl,rfl,rfl⟩ ?_
 rintro r s ⟨i,j,C,hr,rfl,hC,rfl⟩
 refine q8 (q7 hT ?_)
 refine q8 (z6 (x7 (fun h=>?_) (fun h=>?_)))
 ·refine z9 ?_
  have hi:i<n:=by simpa using h
  refine q8 (z7 (q8 (q7 hT ?_)))
  refine w9 [5,8] [5] hT z8 (by rfl) ?_
  have hg:(cx C)[0+((i:Nat):Int).toNat]?=some cell0.pv:=by
   rw[hC,Int.toNat_natCast,Nat.zero_add];exact y6a (v4e hi)
  refine⟨⟨rfl,by omega,by decide,by omega⟩,?_⟩
  refine⟨⟨rfl,List.length_replicate.symm⟩,?_⟩
  refine⟨⟨Int.natCast_nonneg _,by omega⟩,?_⟩
  refine u7 hg ?_
  refine y3v rfl (u7 rfl ?_)
  refine⟨rfl,?_⟩
  refine q7 hT ?_
  refine⟨n - (i+1),by omega,_,q9 [0,1,2] [4,20,21] rfl,i+1,IntKind.i64.wrap ((i:Int)+1),z5c n (i+1),by omega,?_,rfl,?_⟩
  ·rw[x9 _ (by omega) (by omega)];rfl
  ·refine congrArg (St.mk _) ?_
   have e:cx (z5c n (i+1))=(cx C).set (0+((i:Nat):Int).toNat) cell1.pv:=by
    rw[← v4f hi,← hC,w3q,Int.toNat_natCast,Nat.zero_add]
   rw[e]
   refine congrArg (fun z=>[_,ABlk.row Z9 4 ((cx C).set (0+((i:Nat):Int).toNat) [.sl 1 z,_,_,_]),_]) ?_
   show List.replicate 256 [PV.raw (.int .u8 0)]=bx (List.replicate 256 0)
   rw[bx,List.map_replicate];rfl
 ·refine u0 ?_
  refine q8 (q7 hT ?_)
  refine x6 ?_
  have hi:i=n:=by
   have:¬ i<n:=by simpa using h
   omega
  have hx:C=List.replicate n cell1:=by rw[hC,hi];simp[z5c]
  refine y9 [0,1,2] ⟨rfl,?_⟩ rfl
  rw[hx]
  unfold Z5 q3r Dev.new
  rw[List.length_replicate]
  rfl
end Go.Proofs.YtinfbclgkghgaaaGreat.AL
